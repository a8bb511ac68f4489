/- Structs stored cell by cell; results that lie in memory; texts cut at a byte; acts' cells. -/
import Derived.Test.YtdncojofilnhnaaGreatDoorCmd3
import Derived.Test.YtdncojofilnhnaaGreatDoorNum
import Derived.Test.YtdncojofilnhnaaGreatDoorHexS
import Derived.Test.YtdncojofilnhnaaGreatDoorBrD
import Derived.Test.YtdncojofilnhnaaGreatDoorScrLaw2
import Derived.Deep.MidRow
namespace Go.Proofs.YtdncojofilnhnaaGreatDoor
open Go.RowKit Go.Lib

theorem Blk.putsAt {b T : Nat} (post : List Value) : ∀ (cs l pre : List Value) (w : World), Blk w b (pre ++ (l ++ post)) T → l.length = cs.length → Blk (w.setCells b pre.length cs) b (pre ++ (cs ++ post)) T
  | [], [], pre, w, h, _ => h
  | a :: r, x :: l, pre, w, h, hl => by
    have h1 := h.set pre.length a
    have e : (pre ++ (x :: l ++ post)).set pre.length a = (pre ++ [a]) ++ (l ++ post) := by simp
    rw [e] at h1
    have := Blk.putsAt post r l (pre ++ [a]) _ h1 (by simpa using hl)
    simpa [World.setCells] using this

theorem keeps_puts {F : Nat → Prop} {w0 : World} {b : Nat} (hb : F b) : ∀ (cs : List Value) (o : Nat) {w : World}, Keeps F w0 w → Keeps F w0 (w.setCells b o cs)
  | [], _, _, h => h
  | a :: r, o, w, h => keeps_puts hb r (o + 1) (h.setCell (p := ⟨b, o, none⟩) (fun _ => hb) a)

theorem Blk.there {w : World} {b T : Nat} {l : List Value} (h : Blk w b l T) (o n : Nat) (hn : o + n ≤ l.length) : w.there b o n := fun j hj => by
  refine ⟨?_, h.frozen _⟩
  rw [h.cell, List.getElem?_eq_getElem (by omega)]
  rfl

/-- A struct stored into the middle of a block. -/
theorem wpList_putM {P : Program} {w : World} {ops : Array Oper} {rest : List Oper} {op : Oper} {a : Act} {Q : Exit → Act → World → Prop} (hgd : op.guard = none) (ty : TypeId) (x y : Operand) (ho : op.op = .store ty x y)
    (b o : Nat) (cells : List Value) (hx : a.eval x = .pointer (some ⟨b, o, none⟩)) (hy : a.eval y = .agg cells.toArray) (T : Nat) (pre l post : List Value) (hg : Blk w b (pre ++ (l ++ post)) T) (hpre : pre.length = o)
    (hi : (P.info? ty).map (·.size) = some cells.length) (hl : l.length = cells.length) (h1 : ∀ v ∈ cells, v.oneCell' = true)
    (h : ∀ w', Blk w' b (pre ++ (cells ++ post)) T → Keeps (fun k => k = b) w w' → wpList P ops Q rest (a.put op.dst undef) w') : wpList P ops Q (op :: rest) a w := by
  subst hpre
  refine wpList_store_mid hgd ty x y ho b pre.length cells.toArray hx hy (hg.there _ _ (by simp; omega)) (by simpa using hi) (all_oneCell_toArray h1) ?_
  exact h _ (Blk.putsAt post cells l pre w hg hl) (keeps_puts (F := fun k => k = b) rfl cells _ (Keeps.refl _ _))

/-- A struct stored over a whole block. -/
theorem wpList_putB {P : Program} {w : World} {ops : Array Oper} {rest : List Oper} {op : Oper} {a : Act} {Q : Exit → Act → World → Prop} (hgd : op.guard = none) (ty : TypeId) (x y : Operand) (ho : op.op = .store ty x y)
    (b : Nat) (cells : List Value) (hx : a.eval x = .pointer (some ⟨b, 0, none⟩)) (hy : a.eval y = .agg cells.toArray) (T : Nat) (l : List Value) (hg : Blk w b l T)
    (hi : (P.info? ty).map (·.size) = some cells.length) (hl : l.length = cells.length) (h1 : ∀ v ∈ cells, v.oneCell' = true)
    (h : ∀ w', Blk w' b cells T → Keeps (fun k => k = b) w w' → wpList P ops Q rest (a.put op.dst undef) w') : wpList P ops Q (op :: rest) a w :=
  wpList_putM hgd ty x y ho b 0 cells hx hy T [] l [] (by simpa using hg) rfl hi hl h1 (fun w' hb hk => h w' (by simpa using hb) hk)

/-- A struct read out of the middle of a block. -/
theorem wpList_getM {P : Program} {w : World} {ops : Array Oper} {rest : List Oper} {op : Oper} {a : Act} {Q : Exit → Act → World → Prop} (hgd : op.guard = none) (ty : TypeId) (x : Operand) (ho : op.op = .load ty x)
    (b o : Nat) (hx : a.eval x = .pointer (some ⟨b, o, none⟩)) (cells l : List Value) (T : Nat) (hg : Blk w b l T) (hr : (l.drop o).take cells.length = cells) (d : TypeDesc)
    (hu : P.underlying ty = some d) (hd : d.isRow = true) (hi : (P.info? ty).map (·.size) = some cells.length)
    (h : wpList P ops Q rest (a.put op.dst (.agg cells.toArray)) w) : wpList P ops Q (op :: rest) a w := by
  refine wpList_load_mid hgd ty x ho b o hx cells d (fun j v hv => ?_) hu hd hi h
  rw [hg.cell]
  have hj : j < cells.length := (List.getElem?_eq_some_iff.1 hv).1
  rw [← hr, List.getElem?_take, if_pos hj, List.getElem?_drop] at hv
  exact hv

theorem results_cellT {T0 n : Nat} {fs : Array Field} (hu : Tryz.prog.underlying T0 = some (.struct fs)) (hi : (Tryz.prog.info? T0).map (·.size) = some n) {fn : Func} {p u : Tmp} (h : fn.results = #[.cell p T0, .tmp u]) (tmps : Array Value) (w : World) (g : Nat) (cs : List Value) (T : TypeId) (hp : tmps.getD p undef = .pointer (some ⟨g, 0, none⟩)) (hB : Blk w g cs T) (h4 : cs.length = n) :
    (results fn tmps).run Tryz.prog w = .ok (.tuple #[.agg cs.toArray, tmps.getD u undef]) w := by
  rw [results_cell_tmp h, hp]
  have hl := run_loadVar_row (P := Tryz.prog) w g T T0 cs.toArray (0, 0) _ hB hu rfl (by rw [List.size_toArray, h4]; exact hi)
  simp [asAddr, hl]

theorem size73 : (Tryz.prog.info? 73).map (·.size) = some 12 := by kernel_rfl
theorem size61 : (Tryz.prog.info? 61).map (·.size) = some 18 := by kernel_rfl
theorem size64 : (Tryz.prog.info? 64).map (·.size) = some 19 := by kernel_rfl

/-- An error as it is told. -/
def ErrE (w : World) (v : Value) : ErrD → Prop
  | (none, k) => v = .iface 33 (.int .i64 k)
  | (some n, k) => WrErr w v (some (n, k))

theorem ErrE.same {w w' : World} {v : Value} {e : ErrD} (h : ErrE w v e) (hk : Keeps Nothing w w') : ErrE w' v e := by
  obtain ⟨n, k⟩ := e
  cases n with
  | none => exact h
  | some n =>
    have h' : WrErr w v (some (n, k)) := h
    exact h'.same hk

theorem cut_p (c : UInt8) : ∀ l : Str, Lib.cut l [c] = cutP c l
  | [] => by simp [Lib.cut, cutP, index, Lib.index]
  | x :: r => by
    have ih := cut_p c r
    by_cases h : x = c
    · subst h
      have : Lib.index (x :: r) [x] = 0 := by simp [Lib.index]
      simp [Lib.cut, this, cutP]
    · have hi := index_cons_ne r h
      unfold Lib.cut at ih ⊢
      rw [hi]
      unfold cutP
      rw [if_neg h]
      by_cases h1 : Lib.index r [c] = -1
      · rw [if_pos h1]
        rw [h1] at ih
        simp at ih
        simp [← ih]
      · rw [if_neg h1]
        have hge := Lib.index_ge r [c]
        have h2 : 0 ≤ Lib.index r [c] := by omega
        rw [if_pos h2] at ih
        rw [if_pos (by omega), ← ih]
        have e : (Lib.index r [c] + 1).toNat = (Lib.index r [c]).toNat + 1 := by omega
        simp [e]

theorem cut_ok (l : Str) (c : UInt8) (hl : l.length < 4294967281) {w : World} (hg : Gl w) :
    Calls Tryz.prog 84 #[strV l, strV [c]] w fun ev w' => ev = .returned (.tuple #[strV (cutP c l).1, strV (cutP c l).2.1, .bool (cutP c l).2.2]) ∧ Keeps Nothing w w' := by
  obtain ⟨m, hm⟩ := hg.ml
  refine (Tryz.strings_Cut ⟨l.toArray⟩ ⟨[c].toArray⟩ m w (by rw [str_size]; exact hl) hm).mono ?_
  rintro ev w' ⟨rfl, n, rfl⟩
  refine ⟨?_, (Keeps.refl _ _).drewN n⟩
  have e : Lib.cut (ByteArray.mk l.toArray).data.toList (ByteArray.mk [c].toArray).data.toList = cutP c l := by simpa using cut_p c l
  rw [e]

theorem cut_len (c : UInt8) : ∀ l : Str, (cutP c l).1.length ≤ l.length ∧ (cutP c l).2.1.length ≤ l.length
  | [] => by simp [cutP]
  | x :: r => by
    have := cut_len c r
    unfold cutP
    split <;> simp <;> omega

/-- An act's cells. -/
def actC (a : Ac) (bv cv : Value) : List Value := [.int .i64 a.kind, .int .i64 a.port, bv, .int .i64 a.nanos] ++ cmdCells a.cmd cv

def act0 : List Value := actC ⟨0, 0, [], 0, cm0⟩ (.slice none 0 0) (.slice none 0 0)

end Go.Proofs.YtdncojofilnhnaaGreatDoor
