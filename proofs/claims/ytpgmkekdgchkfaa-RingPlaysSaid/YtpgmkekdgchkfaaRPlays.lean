/- RingPlays: the walk. -/
import Derived.Test.YtpgmkekdgchkfaaMirror2
import Derived.Deep.DeepCutAuto
import Derived.Deep.CutBlock
import Derived.BigQuiet
namespace Go.Proofs.Ytpgmkekdgchkfaa
open Go.RowKit

structure RAct where
  kind : Int
  cls : Int
  id : Int

/-- Acts that came in, in a row of three cells each. -/
def RActs (w : World) (A : Option Addr) (acts : List RAct) (c : Nat) : Prop :=
  acts = [] ∨ ∃ b o, A = some ⟨b, o, none⟩ ∧ acts.length ≤ c ∧ ∀ (j : Nat) (a : RAct), acts[j]? = some a → w.cell? ⟨b, o + j * 3, none⟩ = some (.int .i64 a.kind) ∧ w.cell? ⟨b, o + j * 3 + 1, none⟩ = some (.int .i64 a.cls) ∧ w.cell? ⟨b, o + j * 3 + 2, none⟩ = some (.int .i64 a.id)

def RPInv (w : World) (p pb pr pl n : Nat) (bs : List Int) (F : Nat → Prop) (k : Nat) (i : Value) (wr : World) : Prop :=
  ∃ (j : Nat) (H : Nat → Nat → Prop) (rs : List RSt) (vs : List Value), j + k = n ∧ i = .int .i64 (j : Nat) ∧ Mirror w wr p pb pr pl bs F H rs rs vs ∧ (∀ (l : Nat) (r : RSt), rs[l]? = some r → r.lost ≤ j ∧ r.q.length ≤ j) ∧ (∀ (l : Nat) (r : RSt) (b : Int), rs[l]? = some r → bs[l]? = some b → r.n = bnd b)

theorem RingAt.fits {w : World} {p : Nat} {F : Nat → Prop} {rs : List RSt} (h : RingAt w p F rs) {c : Nat} {r : RSt} (hr : rs[c]? = some r) : r.q.length ≤ r.n := by
  obtain ⟨_, _, _, _, h⟩ := h
  exact (h.rows c r hr).fits

theorem Mirror.row_at {w0 w : World} {p pb pr pl : Nat} {bs : List Int} {F : Nat → Prop} {H : Nat → Nat → Prop} {rs ms : List RSt} {vs : List Value} (h : Mirror w0 w p pb pr pl bs F H rs ms vs) {c : Nat} (hc : c < 8) :
    ∃ r A cp, ms[c]? = some r ∧ vs[c]? = some (.slice A r.q.length cp) ∧ OwnQ w (H c) (.slice A r.q.length cp) r.q := by
  obtain ⟨r, hr⟩ : ∃ r, ms[c]? = some r := ⟨_, List.getElem?_eq_getElem (by rw [h.meight]; exact hc)⟩
  obtain ⟨v, hv, hq⟩ := h.each c r hr
  obtain ⟨A, cp, rfl⟩ := hq.len
  exact ⟨r, A, cp, hr, hv, hq⟩

theorem icells_get {l : List Int} {c : Nat} {x : Int} (h : l[c]? = some x) : (icells l)[c]? = some (.int .i64 x) := by simp [icells, h]

theorem lit_cell (w : World) (n : Nat) (x : Int) : ((w.drewN n).alloc (.cells #[.int .i64 x] 3)).cell? ⟨w.heap.size, 0, none⟩ = some (.int .i64 x) := by
  have := (Blk.new (w.drewN n) [Value.int .i64 x] 3).cell 0
  simpa using this

theorem Mirror.rows_at {w0 w w' : World} {p pb pr pl : Nat} {bs : List Int} {F : Nat → Prop} {H : Nat → Nat → Prop} {rs ms : List RSt} {vs : List Value} (h : Mirror w0 w p pb pr pl bs F H rs ms vs) {c : Nat} {v : Value} {q : List Int} (hq : OwnQ w (H c) v q) (hk : Keeps (fun k => v.ownBlock = some k) w w') : Blk w' pr vs 48 :=
  h.rows.keeps hk (fun e => (h.own c _ (hq.own e)).2.2.2.2.1 rfl)

theorem eight_list (L : List Value) (h : L.length = 8) : ∃ x0 x1 x2 x3 x4 x5 x6 x7, L = [x0, x1, x2, x3, x4, x5, x6, x7] := by
  match L, h with
  | [_, _, _, _, _, _, _, _], _ => exact ⟨_, _, _, _, _, _, _, _, rfl⟩

theorem OwnF.slI {w : World} {F : Nat → Prop} {v : Value} {xs : List Int} (h : OwnF w F 3 v (icells xs)) : SlI w v xs := by
  rcases h.blk with ⟨rfl, hx⟩ | ⟨g, cap, cur, rfl, -, hb, hc, -, hl, ht⟩
  · have : xs = [] := by cases xs; rfl; cases hx
    subst this
    exact ⟨none, 0, rfl, .inl rfl⟩
  · have hlx : (icells xs).length = xs.length := by simp [icells]
    refine ⟨_, _, by rw [hlx], .inr ⟨g, 0, rfl, by omega, fun j x hj => ?_⟩⟩
    rw [Nat.zero_add, hb.cell, ← icells_get hj, ← ht, List.getElem?_take, if_pos]
    have := (List.getElem?_eq_some_iff.1 hj).1
    omega

/-- What a reader wants of a slice of numbers that it can read. -/
theorem SlI.at_ {w : World} {A : Option Addr} {n c : Nat} {xs : List Int} (h : SlI w (.slice A n c) xs) {j : Nat} (hj : j < xs.length) : ∃ b o x, A = some ⟨b, o, none⟩ ∧ xs[j]? = some x ∧ w.cell? ⟨b, o + j, none⟩ = some (.int .i64 x) := by
  obtain ⟨A', c', he, hi⟩ := h
  injection he with h1 h2 h3
  subst h1
  rcases hi with h | ⟨b, o, h1, h2, h3⟩
  · rw [h] at hj; simp at hj
  · exact ⟨b, o, _, h1, List.getElem?_eq_getElem hj, h3 j _ (List.getElem?_eq_getElem hj)⟩

def WantInv (w : World) (rs : List RSt) (k : Nat) (v i : Value) (wr : World) : Prop := ∃ j : Nat, j + k = 8 ∧ i = .int .i64 (j : Nat) ∧ OwnS wr (fun k => w.heap.size ≤ k) 3 1 v (allTo rs j).length (icells (allTo rs j)) ∧ (∃ A n c, v = .slice A n c) ∧ Keeps Nothing w wr

theorem wpList_store_row {ops : Array Oper} {rest : List Oper} {o : Oper} {a : Act} {w : World} {Q : Exit → Act → World → Prop} (hgd : o.guard = none) (ty : TypeId) (x y : Operand) (ho : o.op = .store ty x y)
    (g : Nat) (cells : Array Value) (hx : a.eval x = .pointer (some ⟨g, 0, none⟩)) (hy : a.eval y = .agg cells)
    (t : TypeId) (old : List Value) (hg : Blk w g old t) (hi : (Try.prog.info? ty).map (·.size) = some cells.size)
    (hold : old.length = cells.size) (h1 : cells.all (·.oneCell') = true)
    (h : wpList Try.prog ops Q rest (a.put o.dst undef) (w.setRow g cells)) : wpList Try.prog ops Q (o :: rest) a w :=
  wpList_plain hgd fun _ hK => wp_store_row ty x y ho g cells hx hy t old.toArray hg hi (by simpa using hold) h1 (hK _ _ h)

theorem Blk.setRow {w : World} {g T : Nat} {xs : List Value} (h : Blk w g xs T) (ys : List Value) : Blk (w.setRow g ys.toArray) g ys T := setRow_heap w g _ _ T _ h

theorem Keeps.setRow {F : Nat → Prop} {a w : World} (h : Keeps F a w) {g : Nat} (hg : F g) (cs : Array Value) : Keeps F a (w.setRow g cs) :=
  h.trans (G := fun k => k = g) ⟨rfl, rfl, rfl, by simp [World.setRow], fun k _ hn => setRow_other w g k cs hn⟩ (fun x hx _ => hx ▸ hg)

set_option maxRecDepth 100000 in
theorem rplays_long (v : Value) (A : Option Addr) (n c : Nat) (w : World) (hn : 150 < n) (hm : n ≤ 9223372036854775807) (b0 b1 b2 b3 b4 b5 b6 b7 : Int) (hv : v = .agg #[.int .i64 b0, .int .i64 b1, .int .i64 b2, .int .i64 b3, .int .i64 b4, .int .i64 b5, .int .i64 b6, .int .i64 b7]) : Calls Try.prog 7 #[v, .slice A n c] w (TrueKept w) := by
  subst hv
  go_enter Try.func7, Try.ntmps7
  go_wp2_with (go_at_call 23; refine (keeps7 _).mono ?_; rintro e w1 ⟨rfl, hk1⟩)
  go_ret
  exact ⟨rfl, ((Keeps.refl _ _).alloc _).same hk1⟩

def RPMid (w : World) (p pb pr pl : Nat) (bs : List Int) (F : Nat → Prop) (j : Nat) (wr : World) : Prop :=
  ∃ (H : Nat → Nat → Prop) (rs : List RSt) (vs : List Value), Mirror w wr p pb pr pl bs F H rs rs vs ∧ (∀ (l : Nat) (r : RSt), rs[l]? = some r → r.lost ≤ j ∧ r.q.length ≤ j) ∧ (∀ (l : Nat) (r : RSt) (b : Int), rs[l]? = some r → bs[l]? = some b → r.n = bnd b)

theorem RPMid.of_set {w wr : World} {p pb pr pl : Nat} {bs : List Int} {F : Nat → Prop} {j c : Nat} {H : Nat → Nat → Prop} {rs : List RSt} {vs : List Value} {r r' : RSt} (hr : rs[c]? = some r)
    (hM : Mirror w wr p pb pr pl bs F H (rs.set c r') (rs.set c r') vs) (hcnt : ∀ (l : Nat) (r : RSt), rs[l]? = some r → r.lost ≤ j ∧ r.q.length ≤ j) (hbd : ∀ (l : Nat) (r : RSt) (b : Int), rs[l]? = some r → bs[l]? = some b → r.n = bnd b)
    (hn : r'.n = r.n) (h1 : r'.lost ≤ j + 1) (h2 : r'.q.length ≤ j + 1) : RPMid w p pb pr pl bs F (j + 1) wr := by
  have hl := (List.getElem?_eq_some_iff.1 hr).1
  refine ⟨H, _, vs, hM, fun l r2 h => ?_, fun l r2 b h hb => ?_⟩
  · by_cases e : c = l
    · subst e
      rw [List.getElem?_set_self hl] at h
      injection h with h
      subst h
      exact ⟨h1, h2⟩
    · rw [List.getElem?_set_ne e] at h
      have := hcnt l r2 h
      omega
  · by_cases e : c = l
    · subst e
      rw [List.getElem?_set_self hl] at h
      injection h with h
      subst h
      rw [hn]
      exact hbd c r b hr hb
    · rw [List.getElem?_set_ne e] at h
      exact hbd l r2 b h hb

theorem RPMid.emptied_ {w wr : World} {p pb pr pl : Nat} {bs : List Int} {F : Nat → Prop} {j : Nat} {H : Nat → Nat → Prop} {rs : List RSt} {vs : List Value}
    (hM : Mirror w wr p pb pr pl bs F H (rs.map emptied) (rs.map emptied) vs) (hcnt : ∀ (l : Nat) (r : RSt), rs[l]? = some r → r.lost ≤ j ∧ r.q.length ≤ j) (hbd : ∀ (l : Nat) (r : RSt) (b : Int), rs[l]? = some r → bs[l]? = some b → r.n = bnd b) : RPMid w p pb pr pl bs F (j + 1) wr := by
  refine ⟨H, _, vs, hM, fun l r2 h => ?_, fun l r2 b h hb => ?_⟩
  · simp at h
    obtain ⟨r, hr, rfl⟩ := h
    have := (hcnt l r hr).1
    exact ⟨by show r.lost ≤ j + 1; omega, by simp [emptied]⟩
  · simp at h
    obtain ⟨r, hr, rfl⟩ := h
    exact hbd l r b hr hb

theorem rp_start {w w1 w2 : World} {p : Nat} {F : Nat → Prop} {n : Nat} (bs : List Int) (h8 : bs.length = 8) (hk1 : Keeps Nothing (w.alloc (.cells (icells bs).toArray 43)) w1) (hB : Blk w1 w.heap.size (icells bs) 43)
    (hP : RingAt w2 p F (bs.map fun b => ⟨bnd b, [], 0⟩)) (hF : ∀ x, F x → w1.heap.size ≤ x) (hk2 : Keeps Nothing w1 w2) :
    RPInv w p w.heap.size w2.heap.size (w2.heap.size + 1) n bs F n (.int .i64 0) ((w2.alloc (.cells #[.slice none 0 0, .slice none 0 0, .slice none 0 0, .slice none 0 0, .slice none 0 0, .slice none 0 0, .slice none 0 0, .slice none 0 0] 48)).alloc (.cells #[.int .i64 0, .int .i64 0, .int .i64 0, .int .i64 0, .int .i64 0, .int .i64 0, .int .i64 0, .int .i64 0] 43)) := by
  have s1 := hk1.size
  have s2 := hk2.size
  simp at s1
  have k3 : ∀ u v, Keeps Nothing w2 ((w2.alloc u).alloc v) := fun u v => ((Keeps.refl _ _).alloc _).alloc _
  have k4 : ∀ u v, Keeps Nothing w ((w2.alloc u).alloc v) := fun u v => ((((Keeps.refl _ w).alloc _).same hk1).same hk2).same (k3 u v)
  have hl : lostOf (bs.map fun b => (⟨bnd b, [], 0⟩ : RSt)) = [.int .i64 0, .int .i64 0, .int .i64 0, .int .i64 0, .int .i64 0, .int .i64 0, .int .i64 0, .int .i64 0] := by
    match bs, h8 with
    | [_, _, _, _, _, _, _, _], _ => rfl
  refine ⟨0, fun _ _ => False, bs.map fun b => ⟨bnd b, [], 0⟩, List.replicate 8 (.slice none 0 0), by omega, rfl, ⟨k4 _ _, hP.same (k3 _ _), fun k hk => by have := hF k hk; omega, Nat.le_refl _, by omega, by omega, (hB.keeps hk2 (fun h => h)).keeps (k3 _ _) (fun h => h), ?_, ?_, by omega, fun h => by have := hF _ h; omega, fun h => by have := hP.lt _ h; omega, fun h => by have := hP.lt _ h; omega, ?_, fun _ _ h => h.elim, fun _ _ _ h => h.elim, by simp, by simp [h8]⟩, ?_, ?_⟩
  · exact (Blk.new w2 (List.replicate 8 (.slice none 0 0)) 48).alloc _
  · rw [hl]
    have := Blk.new (w2.alloc (.cells #[.slice none 0 0, .slice none 0 0, .slice none 0 0, .slice none 0 0, .slice none 0 0, .slice none 0 0, .slice none 0 0, .slice none 0 0] 48)) [.int .i64 0, .int .i64 0, .int .i64 0, .int .i64 0, .int .i64 0, .int .i64 0, .int .i64 0, .int .i64 0] 43
    simpa using this
  · intro l r hr
    simp at hr
    obtain ⟨b, hb, rfl⟩ := hr
    have := (List.getElem?_eq_some_iff.1 hb).1
    exact ⟨.slice none 0 0, by rw [List.getElem?_replicate, if_pos (by omega)], OwnQ.nil _ _⟩
  · intro l r hr
    simp at hr
    obtain ⟨b, hb, rfl⟩ := hr
    exact ⟨by simp, by simp⟩
  · intro l r b hr hb
    simp at hr
    obtain ⟨b', hb', rfl⟩ := hr
    rw [hb] at hb'
    injection hb' with hb'
    rw [hb']

set_option maxRecDepth 100000 in
set_option maxHeartbeats 8000000 in
theorem rplays_in (A : Option Addr) (c : Nat) (acts : List RAct) (w : World) (hn : acts.length ≤ 150) (ha : RActs w A acts c) (b0 b1 b2 b3 b4 b5 b6 b7 : Int) :
    Calls Try.prog 7 #[.agg #[.int .i64 b0, .int .i64 b1, .int .i64 b2, .int .i64 b3, .int .i64 b4, .int .i64 b5, .int .i64 b6, .int .i64 b7], .slice A acts.length c] w (TrueKept w) := by
  have HA := Lib.hid ha
  clear ha
  go_enter Try.func7, Try.ntmps7
  go_wp2_with (first | (go_at_call 23; refine (keeps7 _).mono ?_; rintro e w1 ⟨rfl, hk1⟩; have hB : Blk w1 w.heap.size [.int .i64 b0, .int .i64 b1, .int .i64 b2, .int .i64 b3, .int .i64 b4, .int .i64 b5, .int .i64 b6, .int .i64 b7] 43 := (Blk.new w [.int .i64 b0, .int .i64 b1, .int .i64 b2, .int .i64 b3, .int .i64 b4, .int .i64 b5, .int .i64 b6, .int .i64 b7] 43).keeps hk1 (fun h => h); have d0 : w1.cell? ⟨w.heap.size, 0, none⟩ = some (.int .i64 b0) := hB.cell 0; have d1 : w1.cell? ⟨w.heap.size, 1, none⟩ = some (.int .i64 b1) := hB.cell 1; have d2 : w1.cell? ⟨w.heap.size, 2, none⟩ = some (.int .i64 b2) := hB.cell 2; have d3 : w1.cell? ⟨w.heap.size, 3, none⟩ = some (.int .i64 b3) := hB.cell 3; have d4 : w1.cell? ⟨w.heap.size, 4, none⟩ = some (.int .i64 b4) := hB.cell 4; have d5 : w1.cell? ⟨w.heap.size, 5, none⟩ = some (.int .i64 b5) := hB.cell 5; have d6 : w1.cell? ⟨w.heap.size, 6, none⟩ = some (.int .i64 b6) := hB.cell 6; have d7 : w1.cell? ⟨w.heap.size, 7, none⟩ = some (.int .i64 b7) := hB.cell 7) | (go_at_call 24; refine (new_ring b0 b1 b2 b3 b4 b5 b6 b7 _).mono ?_; rintro e w2 ⟨p, F, rfl, hP, hF, hk2⟩))
  have HM := Lib.hid (rp_start (n := acts.length) [b0, b1, b2, b3, b4, b5, b6, b7] rfl hk1 hB hP hF hk2)
  clear hk1 hB hP hF hk2 d0 d1 d2 d3 d4 d5 d6 d7
  generalize ((w2.alloc (.cells #[.slice none 0 0, .slice none 0 0, .slice none 0 0, .slice none 0 0, .slice none 0 0, .slice none 0 0, .slice none 0 0, .slice none 0 0] 48)).alloc (.cells #[.int .i64 0, .int .i64 0, .int .i64 0, .int .i64 0, .int .i64 0, .int .i64 0, .int .i64 0, .int .i64 0] 43)) = w3 at *
  go_loopg [29] acts.length (fun k i wr => RPInv w p w.heap.size w2.heap.size (w2.heap.size + 1) acts.length [b0, b1, b2, b3, b4, b5, b6, b7] F k i wr)
  case atStart => exact HM.out
  case round =>
    obtain ⟨j, H, rs, vs, hj, rfl, hM, hcnt, hbd⟩ := hrel
    have HM2 := Lib.hid hM
    have HC := Lib.hid hcnt
    have HD := Lib.hid hbd
    clear hM hcnt hbd HM
    by_cases hlt : j < acts.length
    · obtain ⟨a, hat⟩ : ∃ a, acts[j]? = some a := ⟨_, List.getElem?_eq_getElem hlt⟩
      obtain ⟨ab, ao, hA, hcells⟩ : ∃ b o, A = some ⟨b, o, none⟩ ∧ (w.cell? ⟨b, o + j * 3, none⟩ = some (.int .i64 a.kind) ∧ w.cell? ⟨b, o + j * 3 + 1, none⟩ = some (.int .i64 a.cls) ∧ w.cell? ⟨b, o + j * 3 + 2, none⟩ = some (.int .i64 a.id)) := by
        rcases HA.out with h | ⟨b, o, h1, h2, h3⟩
        · subst h; simp at hlt
        · exact ⟨b, o, h1, h3 j a hat⟩
      subst hA
      obtain ⟨c0, c1, c2⟩ := hcells
      obtain ⟨kind, cls, id⟩ := a
      simp only at c0 c1 c2
      have d0 := (HM2.out.keeps.cell (World.block_lt_of_cell? w _ c0) (fun h => h)).trans c0
      have d1 := (HM2.out.keeps.cell (World.block_lt_of_cell? w _ c1) (fun h => h)).trans c1
      have d2 := (HM2.out.keeps.cell (World.block_lt_of_cell? w _ c2) (fun h => h)).trans c2
      clear c0 c1 c2 hat
      go_upto_region 12 with fail
      go_cut [11] from 35 to 40 (fun v wx => v = .bool (decide (0 ≤ cls ∧ cls < 8)) ∧ wx = wr.alloc (.cells #[.int .i64 kind, .int .i64 cls, .int .i64 id] 50))
      case first =>
        have hck : cls < 0 ∨ 8 ≤ cls ∨ (0 ≤ cls ∧ cls < 8) := by omega
        rcases hck with h | h | ⟨h1, h2⟩
        · have hd : decide (0 ≤ cls) = false := by simpa using h
          go_wp2_with fail
          go_meet
          case rel => exact ⟨congrArg Value.bool (decide_eq_false (p := 0 ≤ cls ∧ cls < 8) (by omega)).symm, rfl⟩
        · have hd : decide (cls < 8) = false := by simpa using h
          have h2 : 0 ≤ cls := by omega
          go_wp2_with fail
          go_meet
          case rel => exact ⟨congrArg Value.bool (decide_eq_false (p := 0 ≤ cls ∧ cls < 8) (by omega)).symm, rfl⟩
        · go_wp2_with fail
          go_meet
          case rel => exact ⟨congrArg Value.bool (decide_eq_true (p := 0 ≤ cls ∧ cls < 8) (by omega)).symm, rfl⟩
      case rest =>
        obtain ⟨rfl, rfl⟩ := hcut
        have hM3 := Lib.hid (HM2.out.same ((Keeps.refl _ _).alloc (.cells #[.int .i64 kind, .int .i64 cls, .int .i64 id] 50)))
        have e0 : (wr.alloc (.cells #[.int .i64 kind, .int .i64 cls, .int .i64 id] 50)).cell? ⟨wr.heap.size, 0, none⟩ = some (.int .i64 kind) := (Blk.new wr [.int .i64 kind, .int .i64 cls, .int .i64 id] 50).cell 0
        have e2 : (wr.alloc (.cells #[.int .i64 kind, .int .i64 cls, .int .i64 id] 50)).cell? ⟨wr.heap.size, 2, none⟩ = some (.int .i64 id) := (Blk.new wr [.int .i64 kind, .int .i64 cls, .int .i64 id] 50).cell 2
        clear d0 d1 d2
        generalize hwb : wr.heap.size = ab2 at *
        generalize wr.alloc (.cells #[.int .i64 kind, .int .i64 cls, .int .i64 id] 50) = wa at *
        generalize hbi : decide (0 ≤ cls ∧ cls < 8) = bi
        go_upto_block 2 with fail
        go_cut [12, 13, 14, 15, 17, 18, 19] from 30 to 181 (fun _ _ _ _ _ _ _ wx => RPMid w p w.heap.size w2.heap.size (w2.heap.size + 1) [b0, b1, b2, b3, b4, b5, b6, b7] F (j + 1) wx)
        case first =>
          have hck : kind = 0 ∨ kind = 1 ∨ kind = 2 ∨ kind = 3 ∨ (kind ≠ 0 ∧ kind ≠ 1 ∧ kind ≠ 2 ∧ kind ≠ 3) := by omega
          rcases hck with rfl | rfl | rfl | rfl | ⟨k0, k1, k2, k3⟩
          · cases bi
            · have hout : cls < 0 ∨ 8 ≤ cls := by have := of_decide_eq_false hbi; omega
              as_aux_lemma =>
                go_wp2_with (go_at_call 25; refine (push_out cls id hout).mono ?_; rintro e w' ⟨rfl, rfl⟩)
                go_meet
                case rel => exact ⟨H, rs, vs, hM3.out, fun l r hr => by have := HC.out l r hr; omega, HD.out⟩
            · have hci := of_decide_eq_true hbi
              obtain ⟨cc, rfl⟩ : ∃ cc : Nat, cls = cc := ⟨cls.toNat, by omega⟩
              have hc8 : (cc : Int) < 8 := hci.2
              have hc0 : (0 : Int) ≤ cc := hci.1
              obtain ⟨r, A, cp, hr, hv, hq⟩ := hM3.out.row_at (c := cc) (by omega)
              obtain ⟨bb, hb⟩ : ∃ b, [b0, b1, b2, b3, b4, b5, b6, b7][cc]? = some b := ⟨_, List.getElem?_eq_getElem (by simp; omega)⟩
              have hn := HD.out cc r bb hr hb
              have hfit := hM3.out.ring.fits hr
              have hcn := HC.out cc r hr
              have HV := Lib.hid hv
              have HQ := Lib.hid hq
              have HB := Lib.hid hb
              have HR := Lib.hid hr
              by_cases hfull : r.q.length = r.n
              · have C := push_full hM3.out.ring cc id r hr hfull (by omega)
                have hbn : bnd bb = (min (max bb 0) 1024).toNat := rfl
                have hlen : min (max bb 0) 1024 ≤ (r.q.length : Int) := by omega
                clear hv hq hb hr hfit hfull hn hbn hci hbi
                as_aux_lemma =>
                  go_upto_region 22 with (go_at_call 25; refine C.mono ?_; rintro e w5 ⟨rfl, hR, hk⟩; have hM5 := Lib.hid (hM3.out.turn hk hR); have x1 : w5.cell? ⟨w2.heap.size, cc, none⟩ = some (.slice A r.q.length cp) := (hM5.out.rows.cell cc).trans HV.out; have x2 : w5.cell? ⟨w.heap.size, cc, none⟩ = some (.int .i64 bb) := (hM5.out.bnds.cell cc).trans (icells_get HB.out); have x3 : w5.cell? ⟨w2.heap.size + 1, cc, none⟩ = some (.int .i64 (r.lost : Nat)) := (hM5.out.lost.cell cc).trans (lostOf_get HR.out); have x4 := hM5.out.lost.frozen cc; clear C hR hk)
                  go_quiet (fail)
                  go_wp2_with fail
                  all_goals go_meet
                  all_goals exact RPMid.of_set HR.out ((hM5.out.same ((Keeps.refl _ _).drewN nq)).count cc r { r with lost := r.lost + 1 } HR.out rfl) HC.out HD.out rfl (by simp; omega) (by simp; omega)
              · have C := push_ok hM3.out.ring cc id r hr (by omega)
                have hbn : bnd bb = (min (max bb 0) 1024).toNat := rfl
                have hab : ¬ F ab2 := fun h => by have := HM2.out.ring.lt _ h; omega
                have hlen : (r.q.length : Int) < min (max bb 0) 1024 := by omega
                clear hv hq hb hr hfit hfull hn hbn hci hbi
                as_aux_lemma =>
                  go_upto_region 22 with (go_at_call 25; refine C.mono ?_; rintro e w5 ⟨rfl, hR, hk⟩; have hM5 := Lib.hid (hM3.out.turn hk hR); have x1 : w5.cell? ⟨w2.heap.size, cc, none⟩ = some (.slice A r.q.length cp) := (hM5.out.rows.cell cc).trans HV.out; have x2 : w5.cell? ⟨w.heap.size, cc, none⟩ = some (.int .i64 bb) := (hM5.out.bnds.cell cc).trans (icells_get HB.out); have x4 := hM5.out.rows.frozen cc; have x3 : w5.cell? ⟨ab2, 2, none⟩ = some (.int .i64 id) := (hk.cell (World.block_lt_of_cell? _ _ e2) hab).trans e2; have z1 : ∀ n o, ((w5.drewN n).alloc o).cell? ⟨w2.heap.size, cc, none⟩ = some (.slice A r.q.length cp) := fun n o => ((hM5.out.same (((Keeps.refl _ _).drewN n).alloc o)).rows.cell cc).trans HV.out; have HQ5 : ∀ wz, Keeps Nothing w5 wz → OwnQ wz (H cc) (.slice A r.q.length cp) r.q := fun wz hz => (HQ.out.keeps hk (fun k hH => (hM3.out.own cc k hH).2.2.1)).keeps hz (fun _ _ h => h); clear C hR hk)
                  go_quiet (fail)
                  go_upto_region 16 with fail
                  go_region_law (refine step_appQ rfl (.tmp 53) (.tmp 56) rfl rfl (H cc) (.slice A r.q.length cp) r.q (by simp [Act.eval, Act.put]) (HQ5 _ (((Keeps.refl _ _).drewN _).alloc _)) ⟨w5.heap.size, 0, none⟩ 1 id (by simp [Act.eval, Act.put]) (lit_cell w5 _ id) (by omega) ?_; intro g off cap w7 hq7 hk7; have y0 := (hM5.out.same (((Keeps.refl _ _).drewN _).alloc _)).rows_at (HQ5 _ (((Keeps.refl _ _).drewN _).alloc _)) hk7; have y1 := y0.frozen cc; have y2 : w7.cell? ⟨w2.heap.size, cc, none⟩ = some (.slice A r.q.length cp) := (y0.cell cc).trans HV.out; clear HQ5 y0)
                  go_wp2_with fail
                  all_goals go_meet
                  all_goals
                    obtain ⟨H', hM7⟩ := (hM5.out.same (((Keeps.refl _ _).drewN _).alloc _)).row cc r { r with q := r.q ++ [id] } _ _ HR.out HV.out rfl hk7 hq7
                    exact RPMid.of_set HR.out hM7 HC.out HD.out rfl (by simp; omega) (by simp; omega)
          · cases bi
            · have hout : cls < 0 ∨ 8 ≤ cls := by have := of_decide_eq_false hbi; omega
              as_aux_lemma =>
                go_wp2_with (first | (go_at_call 26; refine (head_out cls hout).mono ?_; rintro e w' ⟨rfl, rfl⟩) | (go_at_call 27; refine (pop_out cls hout).mono ?_; rintro e w' ⟨rfl, rfl⟩))
                go_meet
                case rel => exact ⟨H, rs, vs, hM3.out, fun l r hr => by have := HC.out l r hr; omega, HD.out⟩
            · have hci := of_decide_eq_true hbi
              obtain ⟨cc, rfl⟩ : ∃ cc : Nat, cls = cc := ⟨cls.toNat, by omega⟩
              have hc8 : (cc : Int) < 8 := hci.2
              have hc0 : (0 : Int) ≤ cc := hci.1
              obtain ⟨r, A, cp, hr, hv, hq⟩ := hM3.out.row_at (c := cc) (by omega)
              have hcn := HC.out cc r hr
              have HR := Lib.hid hr
              have hab : ¬ F ab2 := fun h => by have := HM2.out.ring.lt _ h; omega
              clear hbi hci
              rcases hrq : r.q with _ | ⟨x, q⟩
              · have C1 := head_none hM3.out.ring cc r hr hrq
                have C2 := pop_none hM3.out.ring cc r hr hrq
                rw [hrq] at hv
                have x1 : wa.cell? ⟨w2.heap.size, cc, none⟩ = some (.slice A 0 cp) := (hM3.out.rows.cell cc).trans hv
                clear hr hv hq hrq
                as_aux_lemma =>
                  go_wp2_with (first | (go_at_call 26; refine C1.mono ?_; rintro e w' ⟨rfl, rfl⟩) | (go_at_call 27; refine C2.mono ?_; rintro e w' ⟨rfl, rfl⟩))
                  go_meet
                  case rel => exact ⟨H, rs, vs, hM3.out, fun l r hr => by have := HC.out l r hr; omega, HD.out⟩
              · rw [hrq] at hq hv
                obtain ⟨g, off, cap, hA, hcap, hcx, hq2⟩ := hq.tail
                rw [hA] at hv
                have HV := Lib.hid hv
                have HQ := Lib.hid hq2
                have hgo : H cc g := hq.own (by rw [hA]; rfl)
                have hgF : ¬ F g := (hM3.out.own cc g hgo).2.2.1
                have HRQ := Lib.hid hrq
                have C1 := head_some hM3.out.ring cc x q r hr hrq
                have hlq : q.length + 1 ≤ j := by have := hcn.2; rw [hrq] at this; simpa using this
                have hcap63 : cap ≤ 9223372036854775807 := by
                  rcases hq with ⟨h, -⟩ | ⟨g', o', c', cur, h, -, -, -, h4, -⟩
                  · cases h
                  · rw [hA] at h; injection h; unfold maxLen at h4; omega
                clear hr hv hq hq2 hrq hA hgo
                as_aux_lemma =>
                  go_wp2_with (first | (go_at_call 26; refine C1.mono ?_; rintro e w4 ⟨rfl, hk4⟩; have C2 := pop_some (hM3.out.ring.same hk4) cc x q r HR.out HRQ.out; have e04 := (hk4.cell (World.block_lt_of_cell? _ _ e0) (fun h => h)).trans e0; clear C1) | (go_at_call 27; refine C2.mono ?_; rintro e w5 ⟨rfl, hR, hk⟩; have hk5 : Keeps F wa w5 := (hk4.mono (fun _ h _ => h.elim)).trans hk (fun _ h _ => h); have hM5 := Lib.hid (hM3.out.turn hk5 hR); have x1 : w5.cell? ⟨w2.heap.size, cc, none⟩ = some (.slice (some ⟨g, off, none⟩) (q.length + 1) cap) := (hM5.out.rows.cell cc).trans HV.out; have x2 : w5.cell? ⟨g, off, none⟩ = some (.int .i64 x) := (hk5.cell (World.block_lt_of_cell? _ _ hcx) hgF).trans hcx; have x3 := hM5.out.rows.frozen cc; have x5 : w5.cell? ⟨ab2, 0, none⟩ = some (.int .i64 1) := (hk5.cell (World.block_lt_of_cell? _ _ e0) hab).trans e0; clear C2))
                  all_goals go_meet
                  all_goals
                    obtain ⟨H', hM7⟩ := hM5.out.row cc r { r with q := q } _ _ HR.out HV.out rfl (Keeps.refl _ _) ((HQ.out.keeps hk5 (fun k hH => (hM3.out.own cc k hH).2.2.1)).mono (fun _ h => .inl h))
                    have hl1 : r.lost ≤ j + 1 := by omega
                    have hl2 : q.length ≤ j + 1 := by omega
                    by_cases hc1 : cap = 1
                    · have hs : sliced (some ⟨g, off, none⟩) 1 (q.length + 1) cap 1 = .slice (some ⟨g, off, none⟩) q.length 0 := by simp [sliced, hc1]
                      rw [hs] at hM7
                      first | exact RPMid.of_set HR.out hM7 HC.out HD.out rfl hl1 hl2 | (exfalso; omega)
                    · have hs : sliced (some ⟨g, off, none⟩) 1 (q.length + 1) cap 1 = .slice (some ⟨g, off + 1, none⟩) q.length (cap - 1) := by simp [sliced, hc1, Addr.add_lit]
                      rw [hs] at hM7
                      first | exact RPMid.of_set HR.out hM7 HC.out HD.out rfl hl1 hl2 | (exfalso; omega)
          · cases bi
            · have hout : cls < 0 ∨ 8 ≤ cls := by have := of_decide_eq_false hbi; omega
              as_aux_lemma =>
                go_wp2_with (go_at_call 26; refine (head_out cls hout).mono ?_; rintro e w' ⟨rfl, rfl⟩)
                go_meet
                case rel => exact ⟨H, rs, vs, hM3.out, fun l r hr => by have := HC.out l r hr; omega, HD.out⟩
            · have hci := of_decide_eq_true hbi
              obtain ⟨cc, rfl⟩ : ∃ cc : Nat, cls = cc := ⟨cls.toNat, by omega⟩
              have hc8 : (cc : Int) < 8 := hci.2
              have hc0 : (0 : Int) ≤ cc := hci.1
              obtain ⟨r, A, cp, hr, hv, hq⟩ := hM3.out.row_at (c := cc) (by omega)
              have hcn := HC.out cc r hr
              have HR := Lib.hid hr
              have hab : ¬ F ab2 := fun h => by have := HM2.out.ring.lt _ h; omega
              clear hbi hci
              rcases hrq : r.q with _ | ⟨x, q⟩
              · have C1 := head_none hM3.out.ring cc r hr hrq
                have C2 := pop_none hM3.out.ring cc r hr hrq
                rw [hrq] at hv
                have x1 : wa.cell? ⟨w2.heap.size, cc, none⟩ = some (.slice A 0 cp) := (hM3.out.rows.cell cc).trans hv
                clear hr hv hq hrq
                as_aux_lemma =>
                  go_wp2_with (go_at_call 26; refine C1.mono ?_; rintro e w' ⟨rfl, rfl⟩)
                  go_meet
                  case rel => exact ⟨H, rs, vs, hM3.out, fun l r hr => by have := HC.out l r hr; omega, HD.out⟩
              · rw [hrq] at hq hv
                obtain ⟨g, off, cap, hA, hcap, hcx, hq2⟩ := hq.tail
                rw [hA] at hv
                have HV := Lib.hid hv
                have HQ := Lib.hid hq2
                have hgo : H cc g := hq.own (by rw [hA]; rfl)
                have hgF : ¬ F g := (hM3.out.own cc g hgo).2.2.1
                have HRQ := Lib.hid hrq
                have C1 := head_some hM3.out.ring cc x q r hr hrq
                have hlq : q.length + 1 ≤ j := by have := hcn.2; rw [hrq] at this; simpa using this
                have hcap63 : cap ≤ 9223372036854775807 := by
                  rcases hq with ⟨h, -⟩ | ⟨g', o', c', cur, h, -, -, -, h4, -⟩
                  · cases h
                  · rw [hA] at h; injection h; unfold maxLen at h4; omega
                clear hr hv hq hq2 hrq hA hgo
                as_aux_lemma =>
                  go_wp2_with (go_at_call 26; refine C1.mono ?_; rintro e w4 ⟨rfl, hk4⟩; have hM5 := Lib.hid (hM3.out.same hk4); have x1 : w4.cell? ⟨w2.heap.size, cc, none⟩ = some (.slice (some ⟨g, off, none⟩) (q.length + 1) cap) := (hM5.out.rows.cell cc).trans HV.out; have x2 : w4.cell? ⟨g, off, none⟩ = some (.int .i64 x) := (hk4.cell (World.block_lt_of_cell? _ _ hcx) (fun h => h)).trans hcx; have x3 := hM5.out.rows.frozen cc; have x5 : w4.cell? ⟨ab2, 0, none⟩ = some (.int .i64 2) := (hk4.cell (World.block_lt_of_cell? _ _ e0) (fun h => h)).trans e0; clear C1)
                  go_meet
                  case rel => exact ⟨H, rs, vs, hM5.out, fun l r hr => by have := HC.out l r hr; omega, HD.out⟩
          · obtain ⟨i0, hi0, hz0, hz1, hz2⟩ := info_parts Try.info3
            obtain ⟨x0, x1, x2, x3, x4, x5, x6, x7, hvs⟩ := eight_list vs hM3.out.eight
            have hrow := hM3.out.rows
            rw [hvs] at hrow
            have cx0 : wa.cell? ⟨w2.heap.size, 0, none⟩ = some x0 := hrow.cell 0; have cx1 : wa.cell? ⟨w2.heap.size, 1, none⟩ = some x1 := hrow.cell 1; have cx2 : wa.cell? ⟨w2.heap.size, 2, none⟩ = some x2 := hrow.cell 2; have cx3 : wa.cell? ⟨w2.heap.size, 3, none⟩ = some x3 := hrow.cell 3; have cx4 : wa.cell? ⟨w2.heap.size, 4, none⟩ = some x4 := hrow.cell 4; have cx5 : wa.cell? ⟨w2.heap.size, 5, none⟩ = some x5 := hrow.cell 5; have cx6 : wa.cell? ⟨w2.heap.size, 6, none⟩ = some x6 := hrow.cell 6; have cx7 : wa.cell? ⟨w2.heap.size, 7, none⟩ = some x7 := hrow.cell 7
            have HVS := Lib.hid hvs
            have HX := Lib.hid hrow
            have h8 := hM3.out.meight
            have htot := hM3.out.ring.total_le
            clear hvs hrow hbi
            obtain ⟨wm, rfl⟩ : ∃ wm : World, wm = wr := ⟨_, rfl⟩
            obtain ⟨gq, rfl⟩ : ∃ gq : Nat, gq = gk := ⟨_, rfl⟩
            as_aux_lemma =>
              go_wp2_with fail
              clear cx0 cx1 cx2 cx3 cx4 cx5 cx6 cx7
              go_loopg [15, 146] 8 (fun k v i wr => WantInv wa rs k v i wr)
              case atStart => exact ⟨0, by omega, rfl, OwnS.nil _ _ _ _, ⟨_, _, _, rfl⟩, Keeps.refl _ _⟩
              case round =>
                obtain ⟨jj, hjj, rfl, hO, ⟨A0, n0, c0, rfl⟩, hk⟩ := hrel
                have HK := Lib.hid hk
                have HO := Lib.hid hO
                clear hk hO
                by_cases hj8 : jj < 8
                · obtain ⟨r, A, cp, hr, hv, hq⟩ := hM3.out.row_at hj8
                  have hix : ∀ w, (Instr.index 48 (.agg #[x0, x1, x2, x3, x4, x5, x6, x7]) (.int .i64 (jj : Nat))).run Try.prog w = .ok (.slice A r.q.length cp) w := fun w => by
                    refine run_index_arr w Try.underlying48 (by kernel_rfl) (by kernel_rfl) hj8 ?_ (by omega)
                    rw [HVS.out] at hv
                    rw [← hv]
                    simp
                  have hj8' : (jj : Int) < 8 := by omega
                  have HAS := Lib.hid (allTo_succ hr)
                  have hlen := allTo_length rs (jj + 1)
                  have htk := totalOf_take_le rs (jj + 1)
                  rw [HAS.out, List.length_append] at hlen
                  have hbound : (allTo rs jj).length + r.q.length ≤ 8192 := by omega
                  clear hlen htk hr hv
                  by_cases hq0 : 0 < r.q.length
                  · obtain ⟨g, off, rfl, hcells⟩ : ∃ g off, A = some ⟨g, off, none⟩ ∧ ∀ (j : Nat) (u : Value), (icells r.q)[j]? = some u → wa.cell? ((⟨g, off, none⟩ : Addr).add j) = some u := by
                      rcases hq with ⟨h, he⟩ | ⟨g, off, cap, cur, h1, h2, h3, h4, h5, h6, h7⟩
                      · rw [he] at hq0; simp at hq0
                      · injection h1 with h1 _ _
                        refine ⟨g, off, h1, fun j u hj => ?_⟩
                        simp [icells] at hj
                        obtain ⟨y, hy, rfl⟩ := hj
                        rw [Addr.add_lit, h3.cell]
                        exact h7 j y hy
                    have hnews := Lib.hid (news_keeps hcells HK.out)
                    have hnb : Hid ((icells r.q).length = r.q.length * 1) := by show _ = _; simp
                    have h1c := Lib.hid (icells_one r.q)
                    clear hcells hq
                    go_wp2_with (at_builtin; refine wpList_app rfl (.tmp 149) (.tmp 150) 47 rfl 3 i0 (.int .i64 0) 1 8 Try.underlying47 hi0 hz0 hz1 hz2 rfl (by decide) (fun k => wa.heap.size ≤ k) (.slice A0 n0 c0) _ _ rfl HO.out ⟨g, off, none⟩ r.q.length cp (icells r.q) rfl hnb.out hnews.out h1c.out hq0 ?h63 ?hby ?_)
                    case h63 => omega
                    case hby => omega
                    intro g2 cap2 w3 ho3 hk3
                    have HO3 := Lib.hid ho3
                    clear ho3
                    go_wp2_with fail
                    go_roundg (gk - 1)
                    case measure => omega
                    case rel =>
                      refine ⟨jj + 1, by omega, by go_num, ?_, ⟨_, _, _, rfl⟩, HK.out.trans hk3 (fun k hk hl => by have := HO.out.2 k hk; simp only at this; omega)⟩
                      rw [HAS.out, icells_append, List.length_append]
                      have hle := HK.out.size
                      exact HO3.out.mono (fun k hk => by omega)
                  · have hqe : r.q = [] := List.eq_nil_of_length_eq_zero (by omega)
                    rw [hqe] at hix
                    have HQE := Lib.hid hqe
                    clear hqe hq
                    go_wp2_with (at_builtin; refine wpList_app0 rfl (.tmp 149) (.tmp 150) 47 rfl 3 i0 1 Try.underlying47 hi0 (.slice A0 n0 c0) _ _ rfl HO.out.1 A cp rfl ?_)
                    go_wp2_with fail
                    go_roundg (gk - 1)
                    case measure => omega
                    case rel =>
                      refine ⟨jj + 1, by omega, by go_num, ?_, ⟨_, _, _, rfl⟩, HK.out⟩
                      rw [HAS.out, HQE.out, List.append_nil]
                      exact HO.out
                · obtain rfl : jj = 8 := by omega
                  have hsw := HO.out.toF.slI
                  obtain ⟨A1, c1, he, -⟩ := hsw
                  injection he with he1 he2 he3
                  subst he2
                  clear he1 he3
                  have hM4 := hM3.out.same HK.out
                  have C := flush_any hM4.ring
                  go_wp2_with (go_at_call 28; refine C.mono ?_; rintro e w5 ⟨v5, rfl, hG, hR5, hk5⟩; obtain ⟨A5, c5, rfl⟩ := hG.lenG; clear C)
                  have hM5 := Lib.hid (hM4.turn hk5 hR5)
                  have hS5 := hG.slI
                  have hlen5 : (icells (allTo rs 8)).length = (allTo rs 8).length := by simp [icells]
                  rw [hlen5] at hS5
                  have hS0 := (HO.out.toF.keeps hk5 (fun k hk hF => by have := hM3.out.ring.lt k hF; omega)).slI
                  have HS5 := Lib.hid hS5
                  have HS0 := Lib.hid hS0
                  clear hG hR5 hk5 hM4 hlen5 hS5 hS0 HO
                  have hfin : (allTo rs 8).length ≤ 8192 := by
                    have h1 := allTo_length rs 8
                    have h2 := totalOf_take_le rs 8
                    omega
                  generalize allTo rs 8 = ws at *
                  obtain ⟨wn, rfl⟩ : ∃ wn : World, wn = wr := ⟨_, rfl⟩
                  obtain ⟨gp, rfl⟩ : ∃ gp : Nat, gp = gk := ⟨_, rfl⟩
                  go_loopg [162] ws.length (fun k i wr => EachInv ws.length w5 k i wr)
                  case atStart => exact ⟨0, by omega, rfl, Keeps.refl _ _⟩
                  case round =>
                    obtain ⟨i, hi, rfl, hk⟩ := hrel
                    by_cases hil : i < ws.length
                    · obtain ⟨ba, oa, xa, rfl, hxa, e1⟩ := (HS5.out.same hk).at_ hil
                      obtain ⟨bw, ow, xw, rfl, hxw, e4⟩ := (HS0.out.same hk).at_ hil
                      have hxx : xw = xa := Option.some.inj (hxw.symm.trans hxa)
                      subst hxx
                      clear hxa hxw
                      go_upto_region 54 with fail
                      go_quiet (fail)
                      go_wp2
                      go_roundg (gk - 1)
                      case measure => omega
                      case rel => exact ⟨i + 1, by omega, by go_num, hk.drewN _⟩
                    · have hM6 := Lib.hid (hM5.out.same hk)
                      have hrow := hM6.out.rows
                      rw [HVS.out] at hrow
                      have HW2 := Lib.hid hrow
                      clear hrow hk
                      go_upto_region 57 with fail
                      go_wp2_with (refine wpList_store_row rfl 48 (.tmp 6) (.tmp 175) rfl w2.heap.size #[.slice none 0 0, .slice none 0 0, .slice none 0 0, .slice none 0 0, .slice none 0 0, .slice none 0 0, .slice none 0 0, .slice none 0 0] rfl rfl 48 [x0, x1, x2, x3, x4, x5, x6, x7] HW2.out (by kernel_rfl) rfl (by kernel_rfl) ?_)
                      go_meet
                      case rel => exact RPMid.emptied_ (hM6.out.reset ((Keeps.refl (fun k => k = w2.heap.size) wr).setRow (g := w2.heap.size) rfl _) (HW2.out.setRow [.slice none 0 0, .slice none 0 0, .slice none 0 0, .slice none 0 0, .slice none 0 0, .slice none 0 0, .slice none 0 0, .slice none 0 0])) HC.out HD.out
          · as_aux_lemma =>
              go_wp2_with fail
              go_meet
              case rel => exact ⟨H, rs, vs, hM3.out, fun l r hr => by have := HC.out l r hr; omega, HD.out⟩
        case rest =>
          obtain ⟨H2, rs2, vs2, hM4, hcnt4, hbd4⟩ := hcut
          have hl8 : (lostOf rs2).length = 8 := by simp [lostOf, hM4.meight]
          have v0 : 0 < vs2.length := (by rw [hM4.eight]; omega); have v1 : 1 < vs2.length := (by rw [hM4.eight]; omega); have v2 : 2 < vs2.length := (by rw [hM4.eight]; omega); have v3 : 3 < vs2.length := (by rw [hM4.eight]; omega); have v4 : 4 < vs2.length := (by rw [hM4.eight]; omega); have v5 : 5 < vs2.length := (by rw [hM4.eight]; omega); have v6 : 6 < vs2.length := (by rw [hM4.eight]; omega); have v7 : 7 < vs2.length := (by rw [hM4.eight]; omega)
          have m0 : 0 < (lostOf rs2).length := (by rw [hl8]; omega); have m1 : 1 < (lostOf rs2).length := (by rw [hl8]; omega); have m2 : 2 < (lostOf rs2).length := (by rw [hl8]; omega); have m3 : 3 < (lostOf rs2).length := (by rw [hl8]; omega); have m4 : 4 < (lostOf rs2).length := (by rw [hl8]; omega); have m5 : 5 < (lostOf rs2).length := (by rw [hl8]; omega); have m6 : 6 < (lostOf rs2).length := (by rw [hl8]; omega); have m7 : 7 < (lostOf rs2).length := (by rw [hl8]; omega)
          have cv0 : wc.cell? ⟨w2.heap.size, 0, none⟩ = some vs2[0] := (hM4.rows.cell 0).trans (List.getElem?_eq_getElem v0); have cv1 : wc.cell? ⟨w2.heap.size, 1, none⟩ = some vs2[1] := (hM4.rows.cell 1).trans (List.getElem?_eq_getElem v1); have cv2 : wc.cell? ⟨w2.heap.size, 2, none⟩ = some vs2[2] := (hM4.rows.cell 2).trans (List.getElem?_eq_getElem v2); have cv3 : wc.cell? ⟨w2.heap.size, 3, none⟩ = some vs2[3] := (hM4.rows.cell 3).trans (List.getElem?_eq_getElem v3); have cv4 : wc.cell? ⟨w2.heap.size, 4, none⟩ = some vs2[4] := (hM4.rows.cell 4).trans (List.getElem?_eq_getElem v4); have cv5 : wc.cell? ⟨w2.heap.size, 5, none⟩ = some vs2[5] := (hM4.rows.cell 5).trans (List.getElem?_eq_getElem v5); have cv6 : wc.cell? ⟨w2.heap.size, 6, none⟩ = some vs2[6] := (hM4.rows.cell 6).trans (List.getElem?_eq_getElem v6); have cv7 : wc.cell? ⟨w2.heap.size, 7, none⟩ = some vs2[7] := (hM4.rows.cell 7).trans (List.getElem?_eq_getElem v7)
          have cm0 : wc.cell? ⟨w2.heap.size + 1, 0, none⟩ = some (lostOf rs2)[0] := (hM4.lost.cell 0).trans (List.getElem?_eq_getElem m0); have cm1 : wc.cell? ⟨w2.heap.size + 1, 1, none⟩ = some (lostOf rs2)[1] := (hM4.lost.cell 1).trans (List.getElem?_eq_getElem m1); have cm2 : wc.cell? ⟨w2.heap.size + 1, 2, none⟩ = some (lostOf rs2)[2] := (hM4.lost.cell 2).trans (List.getElem?_eq_getElem m2); have cm3 : wc.cell? ⟨w2.heap.size + 1, 3, none⟩ = some (lostOf rs2)[3] := (hM4.lost.cell 3).trans (List.getElem?_eq_getElem m3); have cm4 : wc.cell? ⟨w2.heap.size + 1, 4, none⟩ = some (lostOf rs2)[4] := (hM4.lost.cell 4).trans (List.getElem?_eq_getElem m4); have cm5 : wc.cell? ⟨w2.heap.size + 1, 5, none⟩ = some (lostOf rs2)[5] := (hM4.lost.cell 5).trans (List.getElem?_eq_getElem m5); have cm6 : wc.cell? ⟨w2.heap.size + 1, 6, none⟩ = some (lostOf rs2)[6] := (hM4.lost.cell 6).trans (List.getElem?_eq_getElem m6); have cm7 : wc.cell? ⟨w2.heap.size + 1, 7, none⟩ = some (lostOf rs2)[7] := (hM4.lost.cell 7).trans (List.getElem?_eq_getElem m7)
          have C := hM4.look (lostOf rs2) rfl v0 v1 v2 v3 v4 v5 v6 v7 m0 m1 m2 m3 m4 m5 m6 m7
          go_wp2_with (go_at_call 29; refine C.mono ?_; rintro e w9 ⟨rfl, hk9⟩; clear C)
          go_roundg (gk - 1)
          case measure => omega
          case rel => exact ⟨j + 1, H2, rs2, vs2, by omega, by go_num, hM4.same hk9, hcnt4, hbd4⟩
    · obtain rfl : j = acts.length := by omega
      have hM4 := HM2.out
      have hl8 : (lostOf rs).length = 8 := by simp [lostOf, hM4.meight]
      have v0 : 0 < vs.length := (by rw [hM4.eight]; omega); have v1 : 1 < vs.length := (by rw [hM4.eight]; omega); have v2 : 2 < vs.length := (by rw [hM4.eight]; omega); have v3 : 3 < vs.length := (by rw [hM4.eight]; omega); have v4 : 4 < vs.length := (by rw [hM4.eight]; omega); have v5 : 5 < vs.length := (by rw [hM4.eight]; omega); have v6 : 6 < vs.length := (by rw [hM4.eight]; omega); have v7 : 7 < vs.length := (by rw [hM4.eight]; omega)
      have m0 : 0 < (lostOf rs).length := (by rw [hl8]; omega); have m1 : 1 < (lostOf rs).length := (by rw [hl8]; omega); have m2 : 2 < (lostOf rs).length := (by rw [hl8]; omega); have m3 : 3 < (lostOf rs).length := (by rw [hl8]; omega); have m4 : 4 < (lostOf rs).length := (by rw [hl8]; omega); have m5 : 5 < (lostOf rs).length := (by rw [hl8]; omega); have m6 : 6 < (lostOf rs).length := (by rw [hl8]; omega); have m7 : 7 < (lostOf rs).length := (by rw [hl8]; omega)
      have cv0 : wr.cell? ⟨w2.heap.size, 0, none⟩ = some vs[0] := (hM4.rows.cell 0).trans (List.getElem?_eq_getElem v0); have cv1 : wr.cell? ⟨w2.heap.size, 1, none⟩ = some vs[1] := (hM4.rows.cell 1).trans (List.getElem?_eq_getElem v1); have cv2 : wr.cell? ⟨w2.heap.size, 2, none⟩ = some vs[2] := (hM4.rows.cell 2).trans (List.getElem?_eq_getElem v2); have cv3 : wr.cell? ⟨w2.heap.size, 3, none⟩ = some vs[3] := (hM4.rows.cell 3).trans (List.getElem?_eq_getElem v3); have cv4 : wr.cell? ⟨w2.heap.size, 4, none⟩ = some vs[4] := (hM4.rows.cell 4).trans (List.getElem?_eq_getElem v4); have cv5 : wr.cell? ⟨w2.heap.size, 5, none⟩ = some vs[5] := (hM4.rows.cell 5).trans (List.getElem?_eq_getElem v5); have cv6 : wr.cell? ⟨w2.heap.size, 6, none⟩ = some vs[6] := (hM4.rows.cell 6).trans (List.getElem?_eq_getElem v6); have cv7 : wr.cell? ⟨w2.heap.size, 7, none⟩ = some vs[7] := (hM4.rows.cell 7).trans (List.getElem?_eq_getElem v7)
      have cm0 : wr.cell? ⟨w2.heap.size + 1, 0, none⟩ = some (lostOf rs)[0] := (hM4.lost.cell 0).trans (List.getElem?_eq_getElem m0); have cm1 : wr.cell? ⟨w2.heap.size + 1, 1, none⟩ = some (lostOf rs)[1] := (hM4.lost.cell 1).trans (List.getElem?_eq_getElem m1); have cm2 : wr.cell? ⟨w2.heap.size + 1, 2, none⟩ = some (lostOf rs)[2] := (hM4.lost.cell 2).trans (List.getElem?_eq_getElem m2); have cm3 : wr.cell? ⟨w2.heap.size + 1, 3, none⟩ = some (lostOf rs)[3] := (hM4.lost.cell 3).trans (List.getElem?_eq_getElem m3); have cm4 : wr.cell? ⟨w2.heap.size + 1, 4, none⟩ = some (lostOf rs)[4] := (hM4.lost.cell 4).trans (List.getElem?_eq_getElem m4); have cm5 : wr.cell? ⟨w2.heap.size + 1, 5, none⟩ = some (lostOf rs)[5] := (hM4.lost.cell 5).trans (List.getElem?_eq_getElem m5); have cm6 : wr.cell? ⟨w2.heap.size + 1, 6, none⟩ = some (lostOf rs)[6] := (hM4.lost.cell 6).trans (List.getElem?_eq_getElem m6); have cm7 : wr.cell? ⟨w2.heap.size + 1, 7, none⟩ = some (lostOf rs)[7] := (hM4.lost.cell 7).trans (List.getElem?_eq_getElem m7)
      have C := hM4.look (lostOf rs) rfl v0 v1 v2 v3 v4 v5 v6 v7 m0 m1 m2 m3 m4 m5 m6 m7
      go_wp2_with (first | (go_at_call 29; refine C.mono ?_; rintro e w9 ⟨rfl, hk9⟩; clear C) | (go_at_call 30; refine (len_out _ (by omega)).mono ?_; rintro e w8 ⟨rfl, rfl⟩) | (go_at_call 31; refine (lost_out _ (by omega)).mono ?_; rintro e w8 ⟨rfl, rfl⟩) | (go_at_call 32; refine (list_out _ (by omega)).mono ?_; rintro e w8 ⟨rfl, rfl⟩))
      go_ret
      exact ⟨rfl, HM2.out.keeps.same hk9⟩

end Go.Proofs.Ytpgmkekdgchkfaa
