/- Rows of frames behind each other, in a row of their own: slices.Concat, and slices.Grow that it calls. -/
import Derived.Test.YtmmeloklnkfjjaaCap2
import Derived.Lib.AppendZerosOnto
import Derived.Lib.SliceRun
namespace Go.Proofs.Ytmmeloklnkfjjaa
open Go.RowKit

theorem info27 : (Try.prog.info? 27).map (fun i => (i.zero, i.size, i.bytes)) = some (some (.agg #[.int .i64 0, .int .i64 0, .int .i64 0, .int .i64 0, .slice none 0 0]), 5, 56) := by kernel_rfl

def GrowRes (w : World) (e : Ending) (w' : World) : Prop :=
  ∃ v, e = .returned v ∧ OwnS w' (fun k => w.heap.size ≤ k) 27 5 v 0 [] ∧ Keeps Nothing w w'

set_option maxRecDepth 100000 in
set_option maxHeartbeats 4000000 in
theorem grow_ok {w : World} (n : Nat) (hn : n ≤ 1000000) : Calls Try.prog 34 #[.slice none 0 0, .int .i64 (n : Nat)] w (GrowRes w) := by
  obtain ⟨i0, hi0, hz0, hz1, hz2⟩ := info_parts info27
  have h1 : ¬ ((n : Int) < 0) := by omega
  by_cases h0 : n = 0
  · subst h0
    go_enter Try.func34, Try.ntmps34
    go_wp2_with fail
    go_ret
    exact ⟨_, rfl, OwnS.nil _ _ _ _, Keeps.refl _ _⟩
  · have hold : (Builtin.firstCells i0.size 0 (.slice none 0 0)).run Try.prog w.drew = .ok ([] : List Value).toArray w.drew := run_firstCells_none w.drew i0.size 0 0 0
    have hrz : ∀ ty, (Builtin.append_ #[22, 3] ty #[.slice none 0 0, .int .i64 (n : Nat)]).run Try.prog w =
        .ok (.slice (some ⟨w.heap.size, 0, none⟩) n (grownCap w n 0 27)) (w.drew.alloc (.cells (([] : List Value).toArray ++ Builtin.zeroCells (Value.cells (.agg #[.int .i64 0, .int .i64 0, .int .i64 0, .int .i64 0, .slice none 0 0])) n ++ Builtin.zeroCells (Value.cells (.agg #[.int .i64 0, .int .i64 0, .int .i64 0, .int .i64 0, .slice none 0 0])) (grownCap w n 0 27 - n)) 27)) := fun ty => by
      have h := Lib.run_append_grow_zeros w 22 3 ty 27 i0 _ .i64 .i64 Try.underlying22 Try.underlying3 hi0 hz0 none 0 0 [] hold n (by omega) (by omega) (by omega) (by omega) (by rw [hz2]; omega) (by rw [Nat.zero_add, hz2]; exact growslice_fits (by omega) (by omega))
      rw [Nat.zero_add] at h
      exact h
    have hge := grownCap_ge w n 0 27
    have hle := grownCap_le_maxLen w n 0 27 (by unfold maxLen; omega)
    have hle2 : grownCap w n 0 27 ≤ 9223372036854775807 := hle
    generalize grownCap w n 0 27 = G at *
    have hzl : ∀ m, (Builtin.zeroCells (Value.cells (.agg #[.int .i64 0, .int .i64 0, .int .i64 0, .int .i64 0, .slice none 0 0])) m).size = m * 5 := fun m => by simp [Builtin.zeroCells, Value.cells]
    have hsz : (([] : List Value).toArray ++ Builtin.zeroCells (Value.cells (.agg #[.int .i64 0, .int .i64 0, .int .i64 0, .int .i64 0, .slice none 0 0])) n ++ Builtin.zeroCells (Value.cells (.agg #[.int .i64 0, .int .i64 0, .int .i64 0, .int .i64 0, .slice none 0 0])) (G - n)).size = G * 5 := by
      rw [Array.size_append, Array.size_append, hzl, hzl]
      simp
      omega
    generalize (([] : List Value).toArray ++ Builtin.zeroCells (Value.cells (.agg #[.int .i64 0, .int .i64 0, .int .i64 0, .int .i64 0, .slice none 0 0])) n ++ Builtin.zeroCells (Value.cells (.agg #[.int .i64 0, .int .i64 0, .int .i64 0, .int .i64 0, .slice none 0 0])) (G - n)) = cs at *
    have HR := Lib.hid hrz
    have HSZ := Lib.hid hsz
    have hpos : (0 : Int) < n := by omega
    clear hrz hsz hold hzl
    go_enter Try.func34, Try.ntmps34
    go_wp2_with (at_builtin; refine Lib.wpList_append_run _ rfl _ _ _ _ rfl _ _ rfl rfl _ _ (HR.out _) ?_)
    go_ret
    refine ⟨_, rfl, ⟨⟨by simp, .inr ⟨w.heap.size, G, cs, rfl, Nat.zero_le _, heap_alloc_new _ _, Nat.zero_le _, hle, HSZ.out, by simp⟩⟩, fun g hg => by simp [Value.ownBlock] at hg; omega⟩, ((Keeps.refl _ _).drew).alloc _⟩

theorem FrsR.news {w : World} {A : Option Addr} {c : Nat} {l : List Fr} (h : FrsR w A c l) (h0 : 0 < l.length) : ∃ ad, A = some ad ∧ ∀ j u, (fcells l)[j]? = some u → w.cell? (ad.add j) = some u := by
  rcases h.1 with h1 | ⟨b, o, h1, h2, h3⟩
  · rw [h1] at h0; simp at h0
  · refine ⟨_, h1, fun j u hj => ?_⟩
    have hl := (List.getElem?_eq_some_iff.1 hj).1
    rw [fcells_len] at hl
    obtain ⟨f, hf⟩ : ∃ f, l[j / 5]? = some f := ⟨_, List.getElem?_eq_getElem (by omega)⟩
    obtain ⟨x, hx⟩ : ∃ x, f.cells[j % 5]? = some x := ⟨_, List.getElem?_eq_getElem (by simp [Fr.cells]; omega)⟩
    have hg := fcells_get l (j / 5) f hf (j % 5) x hx
    have e : j / 5 * 5 + j % 5 = j := by omega
    rw [e, hj] at hg
    injection hg with hg
    subst hg
    have := h3 (j / 5) f hf (j % 5) u hx
    rw [Addr.add_lit]
    rw [Nat.add_assoc, e] at this
    exact this

/-- 'append(s, x...)' on an own row of frames. -/
theorem wpList_appF {w : World} {ops : Array Oper} {rest : List Oper} {o : Oper} {a : Act} {Q : Exit → Act → World → Prop} (hgd : o.guard = none) (s x : Operand)
    (ho : o.op = .call { callee := .builtin .append, args := #[s, x], argTypes := #[22, 22] })
    (F : Nat → Prop) (v : Value) (xs : List Fr) (hs : a.eval s = v) (hown : OwnS w F 27 5 v xs.length (fcells xs))
    (A : Option Addr) (c : Nat) (l : List Fr) (hx : a.eval x = .slice A l.length c) (hr : FrsR w A c l)
    (hb : xs.length + l.length ≤ 1000000)
    (h : ∀ v' w', OwnS w' (fun k => F k ∨ w.heap.size ≤ k) 27 5 v' (xs ++ l).length (fcells (xs ++ l)) → Keeps (fun k => v.ownBlock = some k) w w' → wpList Try.prog ops Q rest (a.put o.dst v') w') : wpList Try.prog ops Q (o :: rest) a w := by
  obtain ⟨i0, hi0, hz0, hz1, hz2⟩ := info_parts info27
  by_cases h0 : l.length = 0
  · have : l = [] := List.eq_nil_of_length_eq_zero h0
    subst this
    refine wpList_app0 hgd s x 22 ho 27 i0 5 Try.underlying22 hi0 v xs.length (fcells xs) hs hown.1 A c hx (h v w ?_ (Keeps.refl _ _))
    rw [List.append_nil]
    exact hown.mono (fun k hk => .inl hk)
  · obtain ⟨ad, rfl, hn⟩ := hr.news (by omega)
    refine wpList_app hgd s x 22 ho 27 i0 _ 5 56 Try.underlying22 hi0 hz0 hz1 hz2 rfl (by decide) F v xs.length (fcells xs) hs hown ad l.length c (fcells l) hx (fcells_len l) hn (fcells_one l) (by omega) (by omega) (by omega) ?_
    intro g cap w' ho' hk'
    refine h _ w' ?_ hk'
    rw [fcells_app, List.length_append]
    exact ho'

structure Pt where
  A : Option Addr
  c : Nat
  l : List Fr

def catF (ps : List Pt) : List Fr := (ps.map (·.l)).flatten

theorem catF_snoc (l : List Pt) (p : Pt) : catF (l ++ [p]) = catF l ++ p.l := by simp [catF]

theorem catF_take (l : List Pt) (j : Nat) : (catF (l.take j)).length ≤ (catF l).length := by
  have : catF l = catF (l.take j) ++ catF (l.drop j) := by
    unfold catF
    rw [← List.flatten_append, ← List.map_append, List.take_append_drop]
  rw [this, List.length_append]
  omega

def CatRes (w : World) (out : List Fr) (e : Ending) (w' : World) : Prop :=
  ∃ v, e = .returned v ∧ OwnS w' (fun k => w.heap.size ≤ k) 27 5 v out.length (fcells out) ∧ Keeps Nothing w w'

def CatInv (w : World) (ps : List Pt) (k : Nat) (v i : Value) (wr : World) : Prop :=
  ∃ j : Nat, j + k = ps.length ∧ i = .int .i64 (j : Nat) ∧ OwnS wr (fun k => w.heap.size ≤ k) 27 5 v (catF (ps.take j)).length (fcells (catF (ps.take j))) ∧ Keeps Nothing w wr

def SzInv (w : World) (ps : List Pt) (k : Nat) (v i : Value) (wr : World) : Prop :=
  ∃ j : Nat, j + k = ps.length ∧ i = .int .i64 (j : Nat) ∧ v = .int .i64 ((catF (ps.take j)).length : Nat) ∧ w = wr

set_option maxRecDepth 100000 in
set_option maxHeartbeats 4000000 in
theorem concat_ok {w : World} {g : Nat} {ps : List Pt} (hc : ∀ (j : Nat) (p : Pt), ps[j]? = some p → w.cell? ⟨g, j, none⟩ = some (.slice p.A p.l.length p.c) ∧ FrsR w p.A p.c p.l) (hl : ps.length ≤ 1000) (hb : (catF ps).length ≤ 1000000) :
    Calls Try.prog 29 #[.slice (some ⟨g, 0, none⟩) ps.length ps.length] w (CatRes w (catF ps)) := by
  have HC := Lib.hid hc
  clear hc
  have G := fun v => grow_ok (w := v) (catF ps).length hb
  go_enter Try.func29, Try.ntmps29
  go_wp2_with fail
  go_loopg [3, 11] ps.length (fun k v i wr => SzInv w ps k v i wr)
  case atStart => exact ⟨0, by omega, rfl, rfl, rfl⟩
  case round =>
    obtain ⟨j, hj, rfl, rfl, rfl⟩ := hrel
    by_cases hlt : j < ps.length
    · obtain ⟨⟨A, c, l⟩, hp⟩ : ∃ p, ps[j]? = some p := ⟨_, List.getElem?_eq_getElem hlt⟩
      obtain ⟨c0, -⟩ := HC.out j _ hp
      simp only at c0
      have hjs : (catF (ps.take (j + 1))).length = (catF (ps.take j)).length + l.length := by rw [take_snoc' hp, catF_snoc, List.length_append]
      have hln := catF_take ps (j + 1)
      rw [hjs] at hln
      have hlz : (catF (ps.take j)).length + l.length ≤ 1000000 := by omega
      have HJ := Lib.hid hjs
      clear hjs hln hp
      have hnn : ¬ ((((catF (ps.take j)).length : Nat) : Int) + (l.length : Int) < 0) := by omega
      go_wp2_with fail
      go_roundg (gk - 1)
      case measure => omega
      case rel => exact ⟨j + 1, by omega, by go_num, by rw [HJ.out, Int.natCast_add], rfl⟩
    · obtain rfl : j = ps.length := by omega
      rw [List.take_length]
      go_wp2_with (go_at_call 34; refine (G _).mono ?_; clear G; rintro e w1 ⟨v1, rfl, ho1, k1⟩; have HO := Lib.hid ho1; have HK := Lib.hid k1; clear ho1 k1)
      go_loopg [6, 27] ps.length (fun k v i wr => CatInv w ps k v i wr)
      case atStart => exact ⟨0, by omega, rfl, HO.out, HK.out⟩
      case round =>
        clear HO HK
        obtain ⟨j, hj, rfl, ho, hk⟩ := hrel
        have HO := Lib.hid ho
        have HK := Lib.hid hk
        by_cases hlt : j < ps.length
        · obtain ⟨⟨A, c, l⟩, hp⟩ : ∃ p, ps[j]? = some p := ⟨_, List.getElem?_eq_getElem hlt⟩
          obtain ⟨c0, hf⟩ := HC.out j _ hp
          simp only at c0 hf
          have c1 : wr.cell? ⟨g, j, none⟩ = some (.slice A l.length c) := (hk.cell (World.block_lt_of_cell? _ _ c0) (fun h => h)).trans c0
          have HF := Lib.hid (hf.same hk)
          have hjs : catF (ps.take (j + 1)) = catF (ps.take j) ++ l := by rw [take_snoc' hp, catF_snoc]
          have hln := catF_take ps (j + 1)
          rw [hjs, List.length_append] at hln
          have HJ := Lib.hid hjs
          have hw : w.heap.size ≤ wr.heap.size := hk.size
          have HL := Lib.hid (show (catF (ps.take j)).length + l.length ≤ 1000000 from by omega)
          clear ho hk hp c0 hf hjs hln
          go_wp2_with (refine wpList_appF rfl (.tmp 31) (.tmp 32) rfl (fun k => w.heap.size ≤ k) _ (catF (ps.take j)) rfl HO.out A c l rfl HF.out HL.out ?_)
          intro v4 w4 ho4 k4
          have HO4 := Lib.hid (ho4.mono (G := fun k => w.heap.size ≤ k) (fun k hk => by omega))
          have HK4 := Lib.hid (HK.out.up k4 (fun x hx => HO.out.2 x hx))
          clear ho4 k4
          go_wp2_with fail
          go_roundg (gk - 1)
          case measure => omega
          case rel => exact ⟨j + 1, by omega, by go_num, by rw [HJ.out, List.length_append]; exact HO4.out, HK4.out⟩
        · obtain rfl : j = ps.length := by omega
          clear ho hk
          go_wp2_with fail
          go_ret
          exact ⟨_, rfl, by rw [List.take_length] at HO; exact HO.out, HK.out⟩

end Go.Proofs.Ytmmeloklnkfjjaa
