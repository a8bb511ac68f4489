/- The pool's functions: what each comes to, over a pool that reads as a list of places. The pool's functions, on: what loops, or makes memory. The pool's functions, the last: Take, New. -/
import Derived.Test.YtimgmobmagpmlaaBase
import Derived.Deep.RegionLaw
import Derived.Deep.AppendLies
namespace Go.Proofs.Ytimgmobmagpmlaa

section
open Go.RowKit

abbrev PSt := List (Bytes × Nat)
def usedOf (ps : PSt) : Nat := ps.countP fun x => decide (0 < x.2)
def holdsOf (ps : PSt) : Nat := (ps.map (·.2)).sum

/-- A pool at block p, its blocks in F. -/
structure PoolIn (w : World) (p q : Nat) (cs : List Value) (F : Nat → Prop) (ps : PSt) : Prop where
  fp : F p
  fq : F q
  lt : ∀ k, F k → k < w.heap.size
  many : ps.length ≤ 4096
  head : Blk w p [.slice (some ⟨q, 0, none⟩) ps.length ps.length, .int .i64 (usedOf ps)] 74
  row : Blk w q cs 82
  size : cs.length = ps.length * 2
  holds : ∀ i bs h, ps[i]? = some (bs, h) → cs[i * 2 + 1]? = some (.int .i64 (h : Nat))
  bytes : ∀ i bs h, ps[i]? = some (bs, h) → ∃ v, cs[i * 2]? = some v ∧ OwnF w F 5 v (bcells bs)

def PoolAt (w : World) (p : Nat) (F : Nat → Prop) (ps : PSt) : Prop := ∃ q cs, PoolIn w p q cs F ps

theorem PoolAt.keeps {w w' : World} {p : Nat} {F G : Nat → Prop} {ps : PSt} (h : PoolAt w p F ps) (hk : Keeps G w w') (hn : ∀ k, F k → ¬ G k) : PoolAt w' p F ps := by
  obtain ⟨q, cs, h⟩ := h
  refine ⟨q, cs, h.fp, h.fq, fun k hk' => Nat.lt_of_lt_of_le (h.lt k hk') hk.size, h.many, h.head.keeps hk (hn _ h.fp), h.row.keeps hk (hn _ h.fq), h.size, h.holds, fun i bs hh hi => ?_⟩
  obtain ⟨v, hv, ho⟩ := h.bytes i bs hh hi
  exact ⟨v, hv, ho.keeps hk hn⟩

theorem PoolIn.ne {w : World} {p q : Nat} {cs : List Value} {F : Nat → Prop} {ps : PSt} (h : PoolIn w p q cs F ps) : p ≠ q := by
  rintro rfl
  exact absurd (h.head.inj h.row) (by decide)

/-! `at` -/
theorem at_neg (p : Nat) (i : Int) (w : World) (hi : i < 0) :
    Calls Try.prog 44 #[.pointer (some ⟨p, 0, none⟩), .int .i64 i] w fun e w' => e = .returned (.pointer none) ∧ w = w' := by
  go_enter Try.func44, Try.ntmps44
  go_wp2
  go_ret
  exact ⟨rfl, rfl⟩

theorem at_ge (p q n : Nat) (i : Int) (w : World) (hn : n ≤ 4096) (hi0 : 0 ≤ i) (hi : (n : Int) ≤ i)
    (h0 : w.cell? ⟨p, 0, none⟩ = some (.slice (some ⟨q, 0, none⟩) n n)) :
    Calls Try.prog 44 #[.pointer (some ⟨p, 0, none⟩), .int .i64 i] w fun e w' => e = .returned (.pointer none) ∧ w = w' := by
  go_enter Try.func44, Try.ntmps44
  go_wp2
  go_ret
  exact ⟨rfl, rfl⟩

theorem at_zero (p q n i : Nat) (h : Int) (w : World) (hn : n ≤ 4096) (hi : i < n) (hh : (h == 0) = true)
    (h0 : w.cell? ⟨p, 0, none⟩ = some (.slice (some ⟨q, 0, none⟩) n n))
    (hc : w.cell? ⟨q, i * 2 + 1, none⟩ = some (.int .i64 h)) :
    Calls Try.prog 44 #[.pointer (some ⟨p, 0, none⟩), .int .i64 i] w fun e w' => e = .returned (.pointer none) ∧ w = w' := by
  go_enter Try.func44, Try.ntmps44
  go_wp2
  go_ret
  exact ⟨rfl, rfl⟩

theorem at_some (p q n i : Nat) (h : Int) (w : World) (hn : n ≤ 4096) (hi : i < n) (hh : (h == 0) = false)
    (h0 : w.cell? ⟨p, 0, none⟩ = some (.slice (some ⟨q, 0, none⟩) n n))
    (hc : w.cell? ⟨q, i * 2 + 1, none⟩ = some (.int .i64 h)) :
    Calls Try.prog 44 #[.pointer (some ⟨p, 0, none⟩), .int .i64 i] w fun e w' => e = .returned (.pointer (some ⟨q, i * 2, none⟩)) ∧ w = w' := by
  go_enter Try.func44, Try.ntmps44
  go_wp2
  go_ret
  exact ⟨rfl, rfl⟩

/-- How often the frame of a number is held. -/
def heldOf (ps : PSt) (i : Int) : Nat := if 0 ≤ i then ((ps[i.toNat]?).map (·.2)).getD 0 else 0

theorem at_missing {w : World} {p : Nat} {F : Nat → Prop} {ps : PSt} (h : PoolAt w p F ps) (i : Int) (hi : heldOf ps i = 0) :
    Calls Try.prog 44 #[.pointer (some ⟨p, 0, none⟩), .int .i64 i] w fun e w' => e = .returned (.pointer none) ∧ w = w' := by
  obtain ⟨q, cs, h⟩ := h
  have hm := h.many
  by_cases h0 : i < 0
  · exact at_neg p i w h0
  · by_cases h1 : (ps.length : Int) ≤ i
    · exact at_ge p q _ i w h.many (by omega) h1 (h.head.cell 0)
    · obtain ⟨j, rfl⟩ : ∃ j : Nat, i = j := ⟨i.toNat, by omega⟩
      have hj : j < ps.length := by omega
      obtain ⟨⟨bs, x⟩, hx⟩ : ∃ x, ps[j]? = some x := ⟨_, List.getElem?_eq_getElem hj⟩
      have hz : x = 0 := by simpa [heldOf, hx] using hi
      subst hz
      exact at_zero p q _ j 0 w h.many hj rfl (h.head.cell 0) ((h.row.cell _).trans (h.holds j bs 0 hx))

theorem hold_missing {w : World} {p : Nat} {F : Nat → Prop} {ps : PSt} (h : PoolAt w p F ps) (i : Int) (hi : heldOf ps i = 0) :
    Calls Try.prog 43 #[.pointer (some ⟨p, 0, none⟩), .int .i64 i] w fun e w' => e = .returned (.int .i64 21) ∧ w = w' := by
  have C := at_missing h i hi
  go_enter Try.func43, Try.ntmps43
  go_wp2_with (go_at_call 44; refine C.mono ?_; rintro e w' ⟨rfl, rfl⟩)
  go_ret
  exact ⟨rfl, rfl⟩

theorem drop_missing {w : World} {p : Nat} {F : Nat → Prop} {ps : PSt} (h : PoolAt w p F ps) (i : Int) (hi : heldOf ps i = 0) :
    Calls Try.prog 14 #[.pointer (some ⟨p, 0, none⟩), .int .i64 i] w fun e w' => e = .returned (.int .i64 21) ∧ w = w' := by
  have C := at_missing h i hi
  go_enter Try.func14, Try.ntmps14
  go_wp2_with (go_at_call 44; refine C.mono ?_; rintro e w' ⟨rfl, rfl⟩)
  go_ret
  exact ⟨rfl, rfl⟩

theorem size_missing {w : World} {p : Nat} {F : Nat → Prop} {ps : PSt} (h : PoolAt w p F ps) (i : Int) (hi : heldOf ps i = 0) :
    Calls Try.prog 41 #[.pointer (some ⟨p, 0, none⟩), .int .i64 i] w fun e w' => e = .returned (.int .i64 0) ∧ w = w' := by
  have C := at_missing h i hi
  go_enter Try.func41, Try.ntmps41
  go_wp2_with (go_at_call 44; refine C.mono ?_; rintro e w' ⟨rfl, rfl⟩)
  go_ret
  exact ⟨rfl, rfl⟩

theorem OwnF.set_ne {w : World} {F : Nat → Prop} {T T' : TypeId} {v : Value} {xs : List Value} {b : Nat} {cs : List Value} (h : OwnF w F T v xs) (hb : Blk w b cs T') (hT : T ≠ T') (o : Nat) (u : Value) :
    OwnF (w.setCell ⟨b, o, none⟩ u) F T v xs := by
  obtain ⟨⟨h1, h2⟩, h3⟩ := h
  refine ⟨⟨h1, ?_⟩, h3⟩
  rcases h2 with h2 | ⟨g, cap, cur, hv, hg, hh, r⟩
  · exact .inl h2
  · have hne : g ≠ b := by
      rintro rfl
      have := (show w.heap[g]? = _ from hb).symm.trans hh
      injection this with this
      injection this with _ h5
      exact hT h5.symm
    exact .inr ⟨g, cap, cur, hv, hg, (Below.heap_setCell w ⟨b, o, none⟩ u g hne).trans hh, r⟩

theorem countP_set_same {α : Type} (P : α → Bool) : ∀ (l : List α) (i : Nat) (x y : α), l[i]? = some x → P x = P y → (l.set i y).countP P = l.countP P
  | [], _, _, _, h, _ => by simp at h
  | a :: l, 0, x, y, h, e => by
    simp at h; subst h
    simp [List.countP_cons, e]
  | a :: l, i + 1, x, y, h, e => by
    simp at h
    simp [List.countP_cons, countP_set_same P l i x y h e]

/-- A place's number of holds is turned; the head's word, if it must. -/
theorem PoolIn.setHolds {w : World} {p q : Nat} {cs : List Value} {F : Nat → Prop} {ps : PSt} (h : PoolIn w p q cs F ps) {i : Nat} {bs : Bytes} {a b : Nat} (hi : ps[i]? = some (bs, a)) (hu : usedOf (ps.set i (bs, b)) = usedOf ps) :
    PoolIn (w.setCell ⟨q, i * 2 + 1, none⟩ (.int .i64 b)) p q (cs.set (i * 2 + 1) (.int .i64 b)) F (ps.set i (bs, b)) := by
  have hil : i < ps.length := (List.getElem?_eq_some_iff.1 hi).1
  refine ⟨h.fp, h.fq, by simpa [World.setCell] using h.lt, by simpa using h.many, ?_, h.row.set _ _, by simpa using h.size, ?_, ?_⟩
  · rw [hu, List.length_set]
    exact h.head.set_ne _ _ h.ne
  · intro j bs' h' hj
    by_cases e : i = j
    · subst e
      rw [List.getElem?_set_self hil] at hj
      obtain ⟨rfl, rfl⟩ : bs = bs' ∧ b = h' := by simpa using hj
      rw [List.getElem?_set_self (by rw [h.size]; omega)]
    · rw [List.getElem?_set_ne e] at hj
      rw [List.getElem?_set_ne (by omega)]
      exact h.holds j bs' h' hj
  · intro j bs' h' hj
    have hj2 : ∃ h2, ps[j]? = some (bs', h2) := by
      by_cases e : i = j
      · subst e
        rw [List.getElem?_set_self hil] at hj
        obtain ⟨rfl, rfl⟩ : bs = bs' ∧ b = h' := by simpa using hj
        exact ⟨a, hi⟩
      · rw [List.getElem?_set_ne e] at hj
        exact ⟨h', hj⟩
    obtain ⟨h2, hj2⟩ := hj2
    obtain ⟨v, hv, ho⟩ := h.bytes j bs' h2 hj2
    exact ⟨v, by rw [List.getElem?_set_ne (by omega)]; exact hv, ho.set_ne h.row (by decide) _ _⟩

def Did (r : Value) (Q : World → Prop) (w : World) (F : Nat → Prop) (e : Ending) (w' : World) : Prop := e = .returned r ∧ Q w' ∧ Keeps F w w'

theorem hold_some {w : World} {p : Nat} {F : Nat → Prop} {ps : PSt} (hP : PoolAt w p F ps) (i : Nat) (bs : Bytes) (h : Nat) (hi : ps[i]? = some (bs, h)) (hh : 0 < h) (hb : h ≤ 1000000000) :
    Calls Try.prog 43 #[.pointer (some ⟨p, 0, none⟩), .int .i64 i] w (Did (.int .i64 0) (fun w' => PoolAt w' p F (ps.set i (bs, h + 1))) w F) := by
  obtain ⟨q, cs, hP⟩ := hP
  have hil : i < ps.length := (List.getElem?_eq_some_iff.1 hi).1
  have hm := hP.many
  have hc := (hP.row.cell _).trans (hP.holds i bs h hi)
  have hf := hP.row.frozen (i * 2 + 1)
  have C := at_some p q _ i h w hm hil (by simpa using (by omega : h ≠ 0)) (hP.head.cell 0) hc
  have E := hP.setHolds (b := h + 1) hi (countP_set_same _ _ _ _ _ hi (by simp; omega))
  have hk : Keeps F w (w.setCell ⟨q, i * 2 + 1, none⟩ (.int .i64 ((h + 1 : Nat) : Int))) := (Keeps.refl F w).setCell (fun _ => hP.fq) _
  clear hP
  go_enter Try.func43, Try.ntmps43
  go_wp2_with (go_at_call 44; refine C.mono ?_; rintro e w' ⟨rfl, rfl⟩)
  go_ret
  exact ⟨rfl, ⟨q, _, E⟩, hk⟩

theorem used_any {w : World} {p : Nat} {F : Nat → Prop} {ps : PSt} (hP : PoolAt w p F ps) :
    Calls Try.prog 18 #[.pointer (some ⟨p, 0, none⟩)] w fun e w' => e = .returned (.int .i64 (usedOf ps)) ∧ w = w' := by
  obtain ⟨q, cs, hP⟩ := hP
  have hc := hP.head.cell 1
  clear hP
  go_enter Try.func18, Try.ntmps18
  go_wp2
  go_ret
  exact ⟨rfl, rfl⟩

theorem size_some {w : World} {p : Nat} {F : Nat → Prop} {ps : PSt} (hP : PoolAt w p F ps) (i : Nat) (bs : Bytes) (h : Nat) (hi : ps[i]? = some (bs, h)) (hh : 0 < h) :
    Calls Try.prog 41 #[.pointer (some ⟨p, 0, none⟩), .int .i64 i] w fun e w' => e = .returned (.int .i64 (bs.length : Nat)) ∧ w = w' := by
  obtain ⟨q, cs, hP⟩ := hP
  have hil : i < ps.length := (List.getElem?_eq_some_iff.1 hi).1
  have hc := (hP.row.cell _).trans (hP.holds i bs h hi)
  have C := at_some p q _ i h w hP.many hil (by simpa using (by omega : h ≠ 0)) (hP.head.cell 0) hc
  obtain ⟨v, hv, ho⟩ := hP.bytes i bs h hi
  have hcv := (hP.row.cell _).trans hv
  clear hP
  rcases ho.1.2 with ⟨rfl, hn⟩ | ⟨g, cap, cur, rfl, r⟩
  · have hb : bs.length = 0 := by simpa using hn
    rw [hb]
    go_enter Try.func41, Try.ntmps41
    go_wp2_with (go_at_call 44; refine C.mono ?_; rintro e w' ⟨rfl, rfl⟩)
    go_ret
    exact ⟨rfl, rfl⟩
  · rw [bcells_length] at hcv
    clear r ho hv
    go_enter Try.func41, Try.ntmps41
    go_wp2_with (go_at_call 44; refine C.mono ?_; rintro e w' ⟨rfl, rfl⟩)
    go_ret
    exact ⟨rfl, rfl⟩

theorem usedOf_le (ps : PSt) : usedOf ps ≤ ps.length := List.countP_le_length

theorem PoolIn.free {w : World} {p q : Nat} {cs : List Value} {F : Nat → Prop} {ps : PSt} (h : PoolIn w p q cs F ps) {i : Nat} {bs : Bytes} {u : Int} (hi : ps[i]? = some (bs, 1)) (hu : ((usedOf (ps.set i ([], 0)) : Nat) : Int) = u) :
    PoolIn (((w.setCell ⟨q, i * 2 + 1, none⟩ (.int .i64 0)).setCell ⟨q, i * 2, none⟩ (.slice none 0 0)).setCell ⟨p, 1, none⟩ (.int .i64 u)) p q ((cs.set (i * 2 + 1) (.int .i64 0)).set (i * 2) (.slice none 0 0)) F (ps.set i ([], 0)) := by
  have hil : i < ps.length := (List.getElem?_eq_some_iff.1 hi).1
  have hne := h.ne
  have hr := ((h.row.set (i * 2 + 1) (.int .i64 0)).set (i * 2) (.slice none 0 0))
  refine ⟨h.fp, h.fq, by simpa [World.setCell] using h.lt, by simpa using h.many, ?_, hr.set_ne _ _ (Ne.symm hne), by simpa using h.size, ?_, ?_⟩
  · rw [List.length_set, hu]
    have := (((h.head.set_ne ⟨q, i * 2 + 1, none⟩ (.int .i64 0) hne).set_ne ⟨q, i * 2, none⟩ (.slice none 0 0) hne).set 1 (.int .i64 u))
    simpa using this
  · intro j bs' h' hj
    by_cases e : i = j
    · subst e
      rw [List.getElem?_set_self hil] at hj
      obtain ⟨rfl, rfl⟩ : [] = bs' ∧ 0 = h' := by simpa using hj
      rw [List.getElem?_set_ne (by omega), List.getElem?_set_self (by rw [h.size]; omega)]
      rfl
    · rw [List.getElem?_set_ne e] at hj
      rw [List.getElem?_set_ne (by omega), List.getElem?_set_ne (by omega)]
      exact h.holds j bs' h' hj
  · intro j bs' h' hj
    by_cases e : i = j
    · subst e
      rw [List.getElem?_set_self hil] at hj
      obtain ⟨rfl, rfl⟩ : [] = bs' ∧ 0 = h' := by simpa using hj
      exact ⟨_, by rw [List.getElem?_set_self (by simp [h.size]; omega)], OwnF.nil _ _ _⟩
    · rw [List.getElem?_set_ne e] at hj
      obtain ⟨v, hv, ho⟩ := h.bytes j bs' h' hj
      exact ⟨v, by rw [List.getElem?_set_ne (by omega), List.getElem?_set_ne (by omega)]; exact hv,
        ((ho.set_ne h.row (by decide) _ _).set_ne (h.row.set _ _) (by decide) _ _).set_ne (T' := 74) (((h.head.set_ne ⟨q, i * 2 + 1, none⟩ (.int .i64 0) hne).set_ne ⟨q, i * 2, none⟩ (.slice none 0 0) hne)) (by decide) _ _⟩

theorem usedOf_free : ∀ (ps : PSt) (i : Nat) (bs : Bytes) (h : Nat), ps[i]? = some (bs, h + 1) → usedOf (ps.set i ([], 0)) + 1 = usedOf ps
  | [], i, bs, h, hi => by simp at hi
  | x :: ps, 0, bs, h, hi => by
    simp at hi; subst hi
    simp [usedOf, List.countP_cons]
  | x :: ps, i + 1, bs, h, hi => by
    simp at hi
    have := usedOf_free ps i bs h hi
    simp only [usedOf, List.set_cons_succ, List.countP_cons] at this ⊢
    omega

theorem drop_last {w : World} {p : Nat} {F : Nat → Prop} {ps : PSt} (hP : PoolAt w p F ps) (i : Nat) (bs : Bytes) (hi : ps[i]? = some (bs, 1)) :
    Calls Try.prog 14 #[.pointer (some ⟨p, 0, none⟩), .int .i64 i] w (Did (.int .i64 0) (fun w' => PoolAt w' p F (ps.set i ([], 0))) w F) := by
  obtain ⟨q, cs, hP⟩ := hP
  have hil : i < ps.length := (List.getElem?_eq_some_iff.1 hi).1
  have hm := hP.many
  have hc := (hP.row.cell _).trans (hP.holds i bs 1 hi)
  have hf := hP.row.frozen (i * 2 + 1)
  have hf0 := hP.row.frozen (i * 2)
  have hfp := hP.head.frozen 1
  have hcp := hP.head.cell 1
  obtain ⟨v, hv, ho⟩ := hP.bytes i bs 1 hi
  have hcv := (hP.row.cell _).trans hv
  clear hv ho
  have C := at_some p q _ i _ w hm hil rfl (hP.head.cell 0) hc
  have hu := usedOf_free ps i bs 0 hi
  have hul := usedOf_le ps
  have hne := hP.ne
  have E := hP.free hi (u := (usedOf ps : Int) - 1) (by omega)
  have fp := hP.fp
  have fq := hP.fq
  clear hP hu
  generalize hU : usedOf ps = U at *
  have hpq : q ≠ p := Ne.symm hne
  have hU1 : 1 ≤ U := by rw [← hU]; exact List.countP_pos_iff.2 ⟨_, List.mem_of_getElem? hi, by simp⟩
  clear hU
  go_enter Try.func14, Try.ntmps14
  go_wp2_with (go_at_call 44; refine C.mono ?_; rintro e w' ⟨rfl, rfl⟩)
  go_ret
  refine ⟨rfl, ⟨q, _, E⟩, (((Keeps.refl F w).setCell (fun _ => fq) _).setCell (fun _ => fq) _).setCell (fun _ => fp) _⟩
end

section
open Go.RowKit

theorem drop_more {w : World} {p : Nat} {F : Nat → Prop} {ps : PSt} (hP : PoolAt w p F ps) (i : Nat) (bs : Bytes) (h : Nat) (hi : ps[i]? = some (bs, h + 2)) (hb : h ≤ 1000000000) :
    Calls Try.prog 14 #[.pointer (some ⟨p, 0, none⟩), .int .i64 i] w (Did (.int .i64 0) (fun w' => PoolAt w' p F (ps.set i (bs, h + 1))) w F) := by
  obtain ⟨q, cs, hP⟩ := hP
  have hil : i < ps.length := (List.getElem?_eq_some_iff.1 hi).1
  have hm := hP.many
  have hc := (hP.row.cell _).trans (hP.holds i bs _ hi)
  have hf := hP.row.frozen (i * 2 + 1)
  have C := at_some p q _ i ((h + 2 : Nat) : Int) w hm hil (by simp; omega) (hP.head.cell 0) hc
  have E := hP.setHolds (b := h + 1) hi (countP_set_same _ _ _ _ _ hi (by simp))
  have hk : Keeps F w (w.setCell ⟨q, i * 2 + 1, none⟩ (.int .i64 ((h + 1 : Nat) : Int))) := (Keeps.refl F w).setCell (fun _ => hP.fq) _
  have e : (((h + 2 : Nat) : Int) - 1) = ((h + 1 : Nat) : Int) := by omega
  generalize hx : ((h + 2 : Nat) : Int) = x at *
  generalize hy : ((h + 1 : Nat) : Int) = y at *
  have b1 : 2 ≤ x := by omega
  have b2 : x ≤ 2000000000 := by omega
  have t : (x - 1 == 0) = false := by simp; omega
  subst e
  clear hP hx hy
  go_enter Try.func14, Try.ntmps14
  go_wp2_with (go_at_call 44; refine C.mono ?_; rintro e w' ⟨rfl, rfl⟩)
  go_ret
  exact ⟨rfl, ⟨q, _, E⟩, hk⟩

theorem holdsOf_take_succ (ps : PSt) (k : Nat) (h : k < ps.length) : holdsOf (ps.take (k + 1)) = holdsOf (ps.take k) + ps[k].2 := by
  unfold holdsOf
  rw [List.take_succ_eq_append_getElem h, List.map_append, List.sum_append_nat]
  simp

theorem holdsOf_take_le (ps : PSt) (k : Nat) : holdsOf (ps.take k) ≤ holdsOf ps := by
  have : holdsOf ps = holdsOf (ps.take k) + holdsOf (ps.drop k) := by
    rw [holdsOf, holdsOf, holdsOf, ← List.sum_append_nat, ← List.map_append, List.take_append_drop]
  omega

def HoldsInv (w : World) (p : Nat) (F : Nat → Prop) (ps : PSt) (k : Nat) (s i : Value) (wr : World) : Prop :=
  ∃ j : Nat, j + k = ps.length ∧ i = .int .i64 j ∧ s = .int .i64 (holdsOf (ps.take j)) ∧ Keeps Nothing w wr

theorem OwnF.form {w : World} {F : Nat → Prop} {T : TypeId} {v : Value} {xs : List Value} (h : OwnF w F T v xs) : ∃ A n c, v = .slice A n c := by
  rcases h.1.2 with ⟨rfl, hn⟩ | ⟨g, cap, cur, rfl, r⟩
  · exact ⟨_, _, _, rfl⟩
  · exact ⟨_, _, _, rfl⟩

theorem holds_any {w : World} {p : Nat} {F : Nat → Prop} {ps : PSt} (hP : PoolAt w p F ps) (hb : holdsOf ps ≤ 1000000000000) :
    Calls Try.prog 31 #[.pointer (some ⟨p, 0, none⟩)] w (Did (.int .i64 (holdsOf ps)) (fun w' => PoolAt w' p F ps) w Nothing) := by
  have hA := Lib.hid hP
  obtain ⟨q, cs, hP⟩ := hP
  have hc := hP.head.cell 0
  have hm := hP.many
  have hr := Lib.hid hP
  clear hP
  go_enter Try.func31, Try.ntmps31
  go_wp2
  go_loopg [3, 11] (ps.length) (fun k s i wr => HoldsInv w p F ps k s i wr)
  case atStart => exact ⟨0, by omega, rfl, rfl, Keeps.refl _ _⟩
  case round =>
    obtain ⟨j, hj, rfl, rfl, hk⟩ := hrel
    have hH := Lib.hid hk
    have hl := holdsOf_take_le ps j
    by_cases hlt : j < ps.length
    · have hx : ps[j]? = some (ps[j].1, ps[j].2) := List.getElem?_eq_getElem hlt
      have hsum := Lib.hid (holdsOf_take_succ ps j hlt)
      have hle := holdsOf_take_le ps (j + 1)
      rw [hsum.out] at hle
      have hh := hr.out.holds j _ _ hx
      obtain ⟨v, hv, ho⟩ := hr.out.bytes j _ _ hx
      obtain ⟨va, vn, vc, rfl⟩ := ho.form
      have row := hr.out.row.keeps hk (fun h => h)
      have c1 := (row.cell _).trans hh
      have c0 := (row.cell _).trans hv
      generalize holdsOf (ps.take j) = S at *
      generalize ps[j].2 = x at *
      clear hh hv ho row hx hk
      go_wp2
      go_roundg (gk - 1)
      case measure => omega
      case rel => exact ⟨j + 1, by omega, by go_num, by rw [hsum.out]; go_num, hH.out.alloc _⟩
    · have hE : Hid (holdsOf (ps.take j) = holdsOf ps) := by
        rw [List.take_of_length_le (by omega)]; rfl
      generalize holdsOf (ps.take j) = S at *
      go_wp2
      go_ret
      exact ⟨ret_int (by have := hE.out; omega), hA.out.keeps hH.out (fun _ _ h => h), hH.out⟩

theorem Try.info5 : (Try.prog.info? 5).map (fun i => (i.zero, i.size, i.bytes)) = some (some (.int .u8 0), 1, 1) := by kernel_rfl
theorem Try.info82 : (Try.prog.info? 82).map (fun i => (i.zero, i.size, i.bytes)) = some (some (.agg #[.slice none 0 0, .int .i64 0]), 2, 32) := by kernel_rfl

theorem bcells_one (l : Bytes) : ∀ u ∈ bcells l, u.oneCell' = true := by
  intro u hu
  obtain ⟨x, _, rfl⟩ := List.mem_map.1 hu
  rfl

theorem OwnF.pos {w : World} {F : Nat → Prop} {T : TypeId} {v : Value} {bs : Bytes} (h : OwnF w F T v (bcells bs)) (h0 : 0 < bs.length) :
    ∃ g cap cur, v = .slice (some ⟨g, 0, none⟩) bs.length cap ∧ F g ∧ Blk w g cur T ∧ bs.length ≤ cap ∧ cap ≤ maxLen ∧ cur.length = cap := by
  rcases h.blk with ⟨rfl, hn⟩ | ⟨g, cap, cur, rfl, hF, hb, hc, hm, hl, _⟩
  · have := bcells_length bs
    rw [hn] at this
    simp at this
    omega
  · exact ⟨g, cap, cur, by rw [bcells_length], hF, hb, by simpa using hc, hm, hl⟩

theorem OwnF.zero {w : World} {F : Nat → Prop} {T : TypeId} {v : Value} (h : OwnF w F T v (bcells [])) : ∃ A c, v = .slice A 0 c := by
  rcases h.blk with ⟨rfl, hn⟩ | ⟨g, cap, cur, rfl, r⟩
  · exact ⟨_, _, rfl⟩
  · exact ⟨_, _, rfl⟩
end

section
open Go.RowKit

theorem take_full {w : World} {p : Nat} {F : Nat → Prop} {ps : PSt} (hP : PoolAt w p F ps) (v : Value) (hu : usedOf ps = ps.length) :
    Calls Try.prog 12 #[.pointer (some ⟨p, 0, none⟩), v] w fun e w' => e = .returned (.tuple #[.int .i64 0, .int .i64 20]) ∧ Keeps Nothing w w' := by
  obtain ⟨q, cs, hP⟩ := hP
  have hc0 := hP.head.cell 0
  have hc1 := hP.head.cell 1
  have hm := hP.many
  clear hP
  rw [hu] at hc1
  clear hu
  go_enter Try.func12, Try.ntmps12
  go_wp2
  go_quiet (fail)
  go_wp2
  go_ret2
  exact ⟨rfl, (Keeps.refl _ _).drewN _⟩

theorem PoolIn.take {w : World} {p q : Nat} {cs : List Value} {F : Nat → Prop} {ps : PSt} (h : PoolIn w p q cs F ps) {i : Nat} {b0 bs : Bytes} {u : Int} (hi : ps[i]? = some (b0, 0)) (hu : ((usedOf (ps.set i (bs, 1)) : Nat) : Int) = u)
    {w1 : World} {v : Value} (hk : Keeps Nothing w w1) (ho : OwnF w1 (fun k => w.heap.size ≤ k) 5 v (bcells bs)) :
    PoolIn (((w1.setCell ⟨q, i * 2, none⟩ v).setCell ⟨q, i * 2 + 1, none⟩ (.int .i64 1)).setCell ⟨p, 1, none⟩ (.int .i64 u)) p q ((cs.set (i * 2) v).set (i * 2 + 1) (.int .i64 1)) (fun k => F k ∨ w.heap.size ≤ k ∧ k < w1.heap.size) (ps.set i (bs, 1)) := by
  have hil : i < ps.length := (List.getElem?_eq_some_iff.1 hi).1
  have hne := h.ne
  have head := h.head.keeps hk (fun h => h)
  have row := h.row.keeps hk (fun h => h)
  have hr := (row.set (i * 2) v).set (i * 2 + 1) (.int .i64 1)
  refine ⟨.inl h.fp, .inl h.fq, ?_, by simpa using h.many, ?_, hr.set_ne _ _ (Ne.symm hne), by simpa using h.size, ?_, ?_⟩
  · intro k hk'
    have := hk.size
    simp only [World.size_setCell]
    rcases hk' with hk' | hk'
    · have := h.lt k hk'; omega
    · exact hk'.2
  · rw [List.length_set, hu]
    have := (((head.set_ne ⟨q, i * 2, none⟩ v hne).set_ne ⟨q, i * 2 + 1, none⟩ (.int .i64 1) hne).set 1 (.int .i64 u))
    simpa using this
  · intro j bs' h' hj
    by_cases e : i = j
    · subst e
      rw [List.getElem?_set_self hil] at hj
      obtain ⟨rfl, rfl⟩ : bs = bs' ∧ 1 = h' := by simpa using hj
      rw [List.getElem?_set_self (by simp [h.size]; omega)]
      rfl
    · rw [List.getElem?_set_ne e] at hj
      rw [List.getElem?_set_ne (by omega), List.getElem?_set_ne (by omega)]
      exact h.holds j bs' h' hj
  · intro j bs' h' hj
    have up : ∀ {G : Nat → Prop} {v2 : Value} {xs : List Value}, OwnF w1 G 5 v2 xs → OwnF (((w1.setCell ⟨q, i * 2, none⟩ v).setCell ⟨q, i * 2 + 1, none⟩ (.int .i64 1)).setCell ⟨p, 1, none⟩ (.int .i64 u)) G 5 v2 xs := fun h2 =>
      ((h2.set_ne row (by decide) _ _).set_ne (row.set _ _) (by decide) _ _).set_ne (T' := 74) ((head.set_ne ⟨q, i * 2, none⟩ v hne).set_ne ⟨q, i * 2 + 1, none⟩ (.int .i64 1) hne) (by decide) _ _
    by_cases e : i = j
    · subst e
      rw [List.getElem?_set_self hil] at hj
      obtain ⟨rfl, rfl⟩ : bs = bs' ∧ 1 = h' := by simpa using hj
      refine ⟨v, by rw [List.getElem?_set_ne (by omega), List.getElem?_set_self (by rw [h.size]; omega)], up ?_⟩
      exact ⟨ho.1, fun g hg => .inr ⟨ho.2 g hg, (ho.1.lt g hg).2⟩⟩
    · rw [List.getElem?_set_ne e] at hj
      obtain ⟨v2, hv, ho2⟩ := h.bytes j bs' h' hj
      exact ⟨v2, by rw [List.getElem?_set_ne (by omega), List.getElem?_set_ne (by omega)]; exact hv, up ((ho2.keeps hk (fun _ _ h => h)).mono (fun k hk => .inl hk))⟩

theorem usedOf_take : ∀ (ps : PSt) (i : Nat) (b0 bs : Bytes), ps[i]? = some (b0, 0) → usedOf (ps.set i (bs, 1)) = usedOf ps + 1
  | [], i, b0, bs, hi => by simp at hi
  | x :: ps, 0, b0, bs, hi => by
    simp at hi; subst hi
    simp [usedOf, List.countP_cons]
  | x :: ps, i + 1, b0, bs, hi => by
    simp at hi
    have := usedOf_take ps i b0 bs hi
    simp only [usedOf, List.set_cons_succ, List.countP_cons] at this ⊢
    omega

theorem usedOf_lt : ∀ (ps : PSt) (i : Nat) (b0 : Bytes), ps[i]? = some (b0, 0) → usedOf ps < ps.length := by
  intro ps i b0 hi
  have h1 := usedOf_take ps i b0 b0 hi
  have h2 := usedOf_le (ps.set i (b0, 1))
  rw [List.length_set] at h2
  omega

def TakeInv (k : Nat) (n : Nat) (i : Value) (w wr : World) : Prop := ∃ j m : Nat, j + n = k ∧ i = .int .i64 j ∧ wr = w.drewN m

def Took (w : World) (p : Nat) (F : Nat → Prop) (ps : PSt) (k : Nat) (bs : Bytes) (e : Ending) (w' : World) : Prop :=
  e = .returned (.tuple #[.int .i64 k, .int .i64 0]) ∧ ∃ F', PoolAt w' p F' (ps.set k (bs, 1)) ∧ (∀ x, F' x → F x ∨ w.heap.size ≤ x) ∧ Keeps F w w'

set_option maxRecDepth 100000 in
theorem take_free {w : World} {p : Nat} {F : Nat → Prop} {ps : PSt} (hP : PoolAt w p F ps) (k : Nat) (b0 bs : Bytes) (ad : Addr) (c : Nat) (hi : ps[k]? = some (b0, 0))
    (hb : ∀ j x, j < k → ps[j]? = some x → 0 < x.2) (hne : 0 < bs.length) (hlen : bs.length ≤ 140737488355328)
    (hr : ∀ j u, (bcells bs)[j]? = some u → w.cell? (ad.add j) = some u) :
    Calls Try.prog 12 #[.pointer (some ⟨p, 0, none⟩), .slice (some ad) bs.length c] w (Took w p F ps k bs) := by
  obtain ⟨i0, hi0, hz0, hz1, hz2⟩ := info_parts Try.info5
  obtain ⟨q, cs, hP⟩ := hP
  have hil : k < ps.length := (List.getElem?_eq_some_iff.1 hi).1
  have hm := hP.many
  have hul := usedOf_lt _ _ _ hi
  have hc0 := hP.head.cell 0
  have hc1 := hP.head.cell 1
  have HP := Lib.hid hP
  have hu := Lib.hid (usedOf_take ps k b0 bs hi)
  have hB := Lib.hid hb
  have hR := Lib.hid hr
  have hne' : ((usedOf ps : Int) == (ps.length : Int)) = false := by simp; omega
  clear hP hr hb
  go_enter Try.func12, Try.ntmps12
  go_wp2
  go_quiet (fail)
  go_wp2
  go_loopg [22] k (fun n i wr => TakeInv k n i w wr)
  case atStart => exact ⟨0, _, by omega, rfl, rfl⟩
  case round =>
    obtain ⟨j, m, hj, rfl, rfl⟩ := hrel
    by_cases hlt : j < k
    · have hx : ps[j]? = some (ps[j].1, ps[j].2) := List.getElem?_eq_getElem (by omega)
      have hh := HP.out.holds j _ _ hx
      have hpos := hB.out j _ hlt hx
      generalize ps[j].2 = x at *
      have cx := (HP.out.row.cell _).trans hh
      have hx0 : ((x : Int) == 0) = false := by have hp : 0 < x := hpos; simp; omega
      clear hx hh hpos
      go_wp2
      go_roundg (gk - 1)
      case measure => omega
      case rel => exact ⟨j + 1, m, by omega, by go_num, rfl⟩
    · obtain rfl : j = k := by omega
      have hh := HP.out.holds j _ _ hi
      have cx := (HP.out.row.cell _).trans hh
      have hnews : Hid (∀ i u, (bcells bs)[i]? = some u → (w.drewN m).drew.cell? (ad.add i) = some u) := hR.out
      have h1 := Lib.hid (bcells_one bs)
      have hbl : Hid ((bcells bs).length = bs.length * 1) := by rw [Nat.mul_one]; exact bcells_length bs
      have hH : (w.drewN m).drew.heap.size = w.heap.size := rfl
      have hfq := HP.out.row.frozen (j * 2)
      have hfq1 := HP.out.row.frozen (j * 2 + 1)
      have hfp := HP.out.head.frozen 1
      have hq0 := (HP.out.row.cell (j * 2))
      have hq1 := (HP.out.row.cell (j * 2 + 1))
      have hqs := HP.out.size
      have hpq : p ≠ q := HP.out.ne
      have hqp : q ≠ p := Ne.symm hpq
      have H0 : Blk (w.drewN m).drew p _ 74 := HP.out.head
      have R0 : Blk (w.drewN m).drew q cs 82 := HP.out.row
      obtain ⟨vq, hvq, -⟩ := HP.out.bytes j _ _ hi
      rw [hvq] at hq0
      rw [HP.out.holds j _ _ hi] at hq1
      clear hvq hqs hh
      go_wp2
      go_region_law (refine step_append_lies _ rfl (.const (.slice none 0 0)) (.tmp 39) 34 rfl 0 5 i0 (.int .u8 0) 1 1 Try.underlying34 hi0 hz0 hz1 hz2 rfl (by decide) (.slice none 0 0) 0 [] rfl (World.ownsRow_nil _ _ _ _) ad bs.length c (bcells bs) (by simp [Act.eval, Act.put]) hbl.out hnews.out h1.out hne (by unfold maxLen; omega) (by omega) (Nat.zero_le _) w.heap.size hH ?_; intro g cap w1 hown hgrow hat hlt2; (have H1 := H0.grown hgrow (by simp [Value.ownBlock]); have R1 := R0.grown hgrow (by simp [Value.ownBlock]); have d0 := H1.cell 0; have d1 := H1.cell 1; have d2 := H1.frozen 1; have d3 := (R1.cell (j * 2)).trans (R0.cell (j * 2) ▸ hq0); have d4 := (R1.cell (j * 2 + 1)).trans (R0.cell (j * 2 + 1) ▸ hq1); have d5 := R1.frozen (j * 2); have d6 := R1.frozen (j * 2 + 1)))
      all_goals go_wp2
      all_goals go_ret2
      all_goals
        have hk : Keeps Nothing w w1 := (((Keeps.refl Nothing w).drewN m).drew).grown hgrow (fun k hk => by simp [Value.ownBlock] at hk)
        have hown2 := hown
        rw [Nat.zero_add, List.nil_append] at hown2
        have hg2 : g = w.heap.size := by simpa [Value.ownBlock] using hat
        have ho : OwnF w1 (fun k => w.heap.size ≤ k) 5 (.slice (some ⟨g, 0, none⟩) bs.length cap) (bcells bs) := by
          have := ownF_of_row hown2
          exact ⟨this.1, fun x hx => by simp [Value.ownBlock] at hx; omega⟩
        refine ⟨rfl, _, ⟨q, _, HP.out.take hi (u := (usedOf ps : Int) + 1) (by rw [hu.out]; omega) hk ho⟩, fun x hx => hx.imp id And.left, ?_⟩
        exact (((hk.mono (fun _ h => h.elim)).setCell (fun _ => HP.out.fq) _).setCell (fun _ => HP.out.fq) _).setCell (fun _ => HP.out.fp) _

set_option maxRecDepth 100000 in
theorem take_empty {w : World} {p : Nat} {F : Nat → Prop} {ps : PSt} (hP : PoolAt w p F ps) (k : Nat) (b0 : Bytes) (A : Option Addr) (c : Nat) (hi : ps[k]? = some (b0, 0))
    (hb : ∀ j x, j < k → ps[j]? = some x → 0 < x.2) :
    Calls Try.prog 12 #[.pointer (some ⟨p, 0, none⟩), .slice A 0 c] w (Took w p F ps k []) := by
  obtain ⟨q, cs, hP⟩ := hP
  have hil : k < ps.length := (List.getElem?_eq_some_iff.1 hi).1
  have hm := hP.many
  have hul := usedOf_lt _ _ _ hi
  have hc0 := hP.head.cell 0
  have hc1 := hP.head.cell 1
  have HP := Lib.hid hP
  have hu := Lib.hid (usedOf_take ps k b0 [] hi)
  have hB := Lib.hid hb
  have hne' : ((usedOf ps : Int) == (ps.length : Int)) = false := by simp; omega
  clear hP hb
  go_enter Try.func12, Try.ntmps12
  go_wp2
  go_quiet (fail)
  go_wp2
  go_loopg [22] k (fun n i wr => TakeInv k n i w wr)
  case atStart => exact ⟨0, _, by omega, rfl, rfl⟩
  case round =>
    obtain ⟨j, m, hj, rfl, rfl⟩ := hrel
    by_cases hlt : j < k
    · have hx : ps[j]? = some (ps[j].1, ps[j].2) := List.getElem?_eq_getElem (by omega)
      have hh := HP.out.holds j _ _ hx
      have hpos := hB.out j _ hlt hx
      generalize ps[j].2 = x at *
      have cx := (HP.out.row.cell _).trans hh
      have hx0 : ((x : Int) == 0) = false := by have hp : 0 < x := hpos; simp; omega
      clear hx hh hpos
      go_wp2
      go_roundg (gk - 1)
      case measure => omega
      case rel => exact ⟨j + 1, m, by omega, by go_num, rfl⟩
    · obtain rfl : j = k := by omega
      have hh := HP.out.holds j _ _ hi
      have cx := (HP.out.row.cell _).trans hh
      have hfq := HP.out.row.frozen (j * 2)
      have hfq1 := HP.out.row.frozen (j * 2 + 1)
      have hfp := HP.out.head.frozen 1
      have hq0 := (HP.out.row.cell (j * 2))
      have hq1 := (HP.out.row.cell (j * 2 + 1))
      have hpq : p ≠ q := HP.out.ne
      have hqp : q ≠ p := Ne.symm hpq
      obtain ⟨vq, hvq, -⟩ := HP.out.bytes j _ _ hi
      rw [hvq] at hq0
      rw [HP.out.holds j _ _ hi] at hq1
      clear hvq hh
      cases A
      all_goals
        go_wp2
        go_region
      all_goals go_wp2
      all_goals go_ret2
      all_goals
        refine ⟨rfl, _, ⟨q, _, HP.out.take hi (u := (usedOf ps : Int) + 1) (by rw [hu.out]; omega) (w1 := w.drewN (m + 1)) ((Keeps.refl Nothing w).drewN (m + 1)) (OwnF.nil _ _ _)⟩, fun x hx => Or.imp id And.left hx, ?_⟩
        exact (((((Keeps.refl F w).drewN (m + 1))).setCell (fun _ => HP.out.fq) _).setCell (fun _ => HP.out.fq) _).setCell (fun _ => HP.out.fp) _

theorem pool_made {w w1 w2 : World} (m : Nat) (hm : m ≤ 4096) (hb : Blk w1 w.heap.size (rep m [.slice none 0 0, .int .i64 0]) 82) (hk : Keeps Nothing w w1)
    (hs : w1.heap.size = w.heap.size + 1) (h2 : Blk w2 (w.heap.size + 1) [.slice (some ⟨w.heap.size, 0, none⟩) m m, .int .i64 0] 74) (hk2 : Keeps Nothing w1 w2) (hs2 : w2.heap.size = w.heap.size + 2) :
    PoolAt w2 (w.heap.size + 1) (fun k => w.heap.size ≤ k ∧ k ≤ w.heap.size + 1) (List.replicate m ([], 0)) := by
  have hu : usedOf (List.replicate m ([], 0)) = 0 := by
    unfold usedOf
    rw [List.countP_eq_zero]
    intro x hx
    rw [List.eq_of_mem_replicate hx]
    simp
  refine ⟨w.heap.size, rep m [.slice none 0 0, .int .i64 0], by omega, by omega, fun k hk => by omega, by simpa using hm, ?_, hb.keeps hk2 (fun h => h), by simp [rep_length], ?_, ?_⟩
  · rw [hu, List.length_replicate]
    exact h2
  · intro i bs h hi
    obtain ⟨hlt, e⟩ := List.getElem?_eq_some_iff.1 hi
    simp at e hlt
    have := rep_get m [.slice none 0 0, .int .i64 0] i 1 hlt (by simp)
    simp at this
    rw [this, ← e.2]
    rfl
  · intro i bs h hi
    obtain ⟨hlt, e⟩ := List.getElem?_eq_some_iff.1 hi
    simp at e hlt
    have := rep_get m [.slice none 0 0, .int .i64 0] i 0 hlt (by simp)
    simp at this
    obtain ⟨rfl, rfl⟩ := e
    exact ⟨_, this, OwnF.nil _ _ _⟩

def Made (n : Int) (w : World) (e : Ending) (w' : World) : Prop :=
  ∃ p F, e = .returned (.pointer (some ⟨p, 0, none⟩)) ∧ PoolAt w' p F (List.replicate (min (max n 0) 4096).toNat ([], 0)) ∧ (∀ x, F x → w.heap.size ≤ x) ∧ Keeps Nothing w w'

set_option maxRecDepth 100000 in
theorem new_any (n : Int) (w : World) (m : Nat) (hn : n ≤ 0 ∧ m = 0 ∨ 0 < n ∧ n ≤ 4096 ∧ n = m ∨ 4096 < n ∧ m = 4096) :
    Calls Try.prog 9 #[.int .i64 n] w (Made n w) := by
  obtain ⟨i0, hi0, hz0, hz1, hz2⟩ := info_parts Try.info82
  have hm : m ≤ 4096 := by omega
  have hN := Lib.hid (show (min (max n 0) 4096).toNat = m by omega)
  have hE := Lib.hid hn
  have hc : n < 0 ∨ n = 0 ∨ 0 < n ∧ n ≤ 4096 ∨ 4096 < n := by omega
  clear hn
  rcases hc with h1 | rfl | ⟨h1, h2⟩ | h1
  all_goals
    go_enter Try.func9, Try.ntmps9
    go_wp2_with (at_make; refine wpList_mk rfl (.tmp 5) (.tmp 5) 72 rfl 82 i0 (.agg #[.slice none 0 0, .int .i64 0]) [.slice none 0 0, .int .i64 0] Try.underlying72 hi0 hz0 hz1 rfl .i64 .i64 _ _ m rfl rfl (by have := hE.out; omega) (by have := hE.out; omega) 32 hz2 (by omega) (by omega) ?_)
    intro w1 hb hk hs
    go_wp2
    go_ret
    refine ⟨_, (fun k => w.heap.size ≤ k ∧ k ≤ w.heap.size + 1), rfl, ?_, fun x hx => hx.1, hk.alloc _⟩
    rw [hN.out]
    exact pool_made _ hm hb hk hs (hs ▸ Blk.new w1 _ _) ((Keeps.refl _ _).alloc _) (by simp [hs])
end

end Go.Proofs.Ytimgmobmagpmlaa
