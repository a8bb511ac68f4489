/- The pool's functions: what each comes to, over a pool that reads as a list of places. -/
import Derived.Test.YtpgmkekdgchkfaaBase
import Derived.Deep.RegionLaw
import Derived.Deep.AppendLies
namespace Go.Proofs.Ytpgmkekdgchkfaa
open Go.RowKit

abbrev PSt := List (Bytes × Nat)
def usedOf (ps : PSt) : Nat := ps.countP fun x => decide (0 < x.2)
def holdsOf (ps : PSt) : Nat := (ps.map (·.2)).sum

/-- A pool at block p, its blocks in F. -/
structure PoolIn (w : World) (p q : Nat) (cs : List Value) (F : Nat → Prop) (ps : PSt) : Prop where
  fp : F p
  fq : F q
  lt : ∀ k, F k → k < w.heap.size
  many : ps.length ≤ 4096
  head : Blk w p [.slice (some ⟨q, 0, none⟩) ps.length ps.length, .int .i64 (usedOf ps)] 91
  row : Blk w q cs 93
  size : cs.length = ps.length * 2
  holds : ∀ i bs h, ps[i]? = some (bs, h) → cs[i * 2 + 1]? = some (.int .i64 (h : Nat))
  bytes : ∀ i bs h, ps[i]? = some (bs, h) → ∃ v, cs[i * 2]? = some v ∧ OwnF w F 5 v (bcells bs)

def PoolAt (w : World) (p : Nat) (F : Nat → Prop) (ps : PSt) : Prop := ∃ q cs, PoolIn w p q cs F ps

theorem PoolAt.keeps {w w' : World} {p : Nat} {F G : Nat → Prop} {ps : PSt} (h : PoolAt w p F ps) (hk : Keeps G w w') (hn : ∀ k, F k → ¬ G k) : PoolAt w' p F ps := by
  obtain ⟨q, cs, h⟩ := h
  refine ⟨q, cs, h.fp, h.fq, fun k hk' => Nat.lt_of_lt_of_le (h.lt k hk') hk.size, h.many, h.head.keeps hk (hn _ h.fp), h.row.keeps hk (hn _ h.fq), h.size, h.holds, fun i bs hh hi => ?_⟩
  obtain ⟨v, hv, ho⟩ := h.bytes i bs hh hi
  exact ⟨v, hv, ho.keeps hk hn⟩

theorem PoolIn.ne {w : World} {p q : Nat} {cs : List Value} {F : Nat → Prop} {ps : PSt} (h : PoolIn w p q cs F ps) : p ≠ q := by
  rintro rfl
  exact absurd (h.head.inj h.row) (by decide)

/-! `at` -/
theorem at_neg (p : Nat) (i : Int) (w : World) (hi : i < 0) :
    Calls Try.prog 49 #[.pointer (some ⟨p, 0, none⟩), .int .i64 i] w fun e w' => e = .returned (.pointer none) ∧ w = w' := by
  go_enter Try.func49, Try.ntmps49
  go_wp2
  go_ret
  exact ⟨rfl, rfl⟩

theorem at_ge (p q n : Nat) (i : Int) (w : World) (hn : n ≤ 4096) (hi0 : 0 ≤ i) (hi : (n : Int) ≤ i)
    (h0 : w.cell? ⟨p, 0, none⟩ = some (.slice (some ⟨q, 0, none⟩) n n)) :
    Calls Try.prog 49 #[.pointer (some ⟨p, 0, none⟩), .int .i64 i] w fun e w' => e = .returned (.pointer none) ∧ w = w' := by
  go_enter Try.func49, Try.ntmps49
  go_wp2
  go_ret
  exact ⟨rfl, rfl⟩

theorem at_zero (p q n i : Nat) (h : Int) (w : World) (hn : n ≤ 4096) (hi : i < n) (hh : (h == 0) = true)
    (h0 : w.cell? ⟨p, 0, none⟩ = some (.slice (some ⟨q, 0, none⟩) n n))
    (hc : w.cell? ⟨q, i * 2 + 1, none⟩ = some (.int .i64 h)) :
    Calls Try.prog 49 #[.pointer (some ⟨p, 0, none⟩), .int .i64 i] w fun e w' => e = .returned (.pointer none) ∧ w = w' := by
  go_enter Try.func49, Try.ntmps49
  go_wp2
  go_ret
  exact ⟨rfl, rfl⟩

theorem at_some (p q n i : Nat) (h : Int) (w : World) (hn : n ≤ 4096) (hi : i < n) (hh : (h == 0) = false)
    (h0 : w.cell? ⟨p, 0, none⟩ = some (.slice (some ⟨q, 0, none⟩) n n))
    (hc : w.cell? ⟨q, i * 2 + 1, none⟩ = some (.int .i64 h)) :
    Calls Try.prog 49 #[.pointer (some ⟨p, 0, none⟩), .int .i64 i] w fun e w' => e = .returned (.pointer (some ⟨q, i * 2, none⟩)) ∧ w = w' := by
  go_enter Try.func49, Try.ntmps49
  go_wp2
  go_ret
  exact ⟨rfl, rfl⟩

/-- How often the frame of a number is held. -/
def heldOf (ps : PSt) (i : Int) : Nat := if 0 ≤ i then ((ps[i.toNat]?).map (·.2)).getD 0 else 0

theorem at_missing {w : World} {p : Nat} {F : Nat → Prop} {ps : PSt} (h : PoolAt w p F ps) (i : Int) (hi : heldOf ps i = 0) :
    Calls Try.prog 49 #[.pointer (some ⟨p, 0, none⟩), .int .i64 i] w fun e w' => e = .returned (.pointer none) ∧ w = w' := by
  obtain ⟨q, cs, h⟩ := h
  have hm := h.many
  by_cases h0 : i < 0
  · exact at_neg p i w h0
  · by_cases h1 : (ps.length : Int) ≤ i
    · exact at_ge p q _ i w h.many (by omega) h1 (h.head.cell 0)
    · obtain ⟨j, rfl⟩ : ∃ j : Nat, i = j := ⟨i.toNat, by omega⟩
      have hj : j < ps.length := by omega
      obtain ⟨⟨bs, x⟩, hx⟩ : ∃ x, ps[j]? = some x := ⟨_, List.getElem?_eq_getElem hj⟩
      have hz : x = 0 := by simpa [heldOf, hx] using hi
      subst hz
      exact at_zero p q _ j 0 w h.many hj rfl (h.head.cell 0) ((h.row.cell _).trans (h.holds j bs 0 hx))

theorem hold_missing {w : World} {p : Nat} {F : Nat → Prop} {ps : PSt} (h : PoolAt w p F ps) (i : Int) (hi : heldOf ps i = 0) :
    Calls Try.prog 17 #[.pointer (some ⟨p, 0, none⟩), .int .i64 i] w fun e w' => e = .returned (.int .i64 21) ∧ w = w' := by
  have C := at_missing h i hi
  go_enter Try.func17, Try.ntmps17
  go_wp2_with (go_at_call 49; refine C.mono ?_; rintro e w' ⟨rfl, rfl⟩)
  go_ret
  exact ⟨rfl, rfl⟩

theorem drop_missing {w : World} {p : Nat} {F : Nat → Prop} {ps : PSt} (h : PoolAt w p F ps) (i : Int) (hi : heldOf ps i = 0) :
    Calls Try.prog 18 #[.pointer (some ⟨p, 0, none⟩), .int .i64 i] w fun e w' => e = .returned (.int .i64 21) ∧ w = w' := by
  have C := at_missing h i hi
  go_enter Try.func18, Try.ntmps18
  go_wp2_with (go_at_call 49; refine C.mono ?_; rintro e w' ⟨rfl, rfl⟩)
  go_ret
  exact ⟨rfl, rfl⟩

theorem get_missing {w : World} {p : Nat} {F : Nat → Prop} {ps : PSt} (h : PoolAt w p F ps) (i : Int) (hi : heldOf ps i = 0) :
    Calls Try.prog 19 #[.pointer (some ⟨p, 0, none⟩), .int .i64 i] w fun e w' => e = .returned (.tuple #[.slice none 0 0, .int .i64 21]) ∧ w = w' := by
  have C := at_missing h i hi
  go_enter Try.func19, Try.ntmps19
  go_wp2_with (go_at_call 49; refine C.mono ?_; rintro e w' ⟨rfl, rfl⟩)
  go_ret2
  exact ⟨rfl, rfl⟩

theorem size_missing {w : World} {p : Nat} {F : Nat → Prop} {ps : PSt} (h : PoolAt w p F ps) (i : Int) (hi : heldOf ps i = 0) :
    Calls Try.prog 20 #[.pointer (some ⟨p, 0, none⟩), .int .i64 i] w fun e w' => e = .returned (.int .i64 0) ∧ w = w' := by
  have C := at_missing h i hi
  go_enter Try.func20, Try.ntmps20
  go_wp2_with (go_at_call 49; refine C.mono ?_; rintro e w' ⟨rfl, rfl⟩)
  go_ret
  exact ⟨rfl, rfl⟩

theorem OwnF.set_ne {w : World} {F : Nat → Prop} {T T' : TypeId} {v : Value} {xs : List Value} {b : Nat} {cs : List Value} (h : OwnF w F T v xs) (hb : Blk w b cs T') (hT : T ≠ T') (o : Nat) (u : Value) :
    OwnF (w.setCell ⟨b, o, none⟩ u) F T v xs := by
  obtain ⟨⟨h1, h2⟩, h3⟩ := h
  refine ⟨⟨h1, ?_⟩, h3⟩
  rcases h2 with h2 | ⟨g, cap, cur, hv, hg, hh, r⟩
  · exact .inl h2
  · have hne : g ≠ b := by
      rintro rfl
      have := (show w.heap[g]? = _ from hb).symm.trans hh
      injection this with this
      injection this with _ h5
      exact hT h5.symm
    exact .inr ⟨g, cap, cur, hv, hg, (Below.heap_setCell w ⟨b, o, none⟩ u g hne).trans hh, r⟩

theorem countP_set_same {α : Type} (P : α → Bool) : ∀ (l : List α) (i : Nat) (x y : α), l[i]? = some x → P x = P y → (l.set i y).countP P = l.countP P
  | [], _, _, _, h, _ => by simp at h
  | a :: l, 0, x, y, h, e => by
    simp at h; subst h
    simp [List.countP_cons, e]
  | a :: l, i + 1, x, y, h, e => by
    simp at h
    simp [List.countP_cons, countP_set_same P l i x y h e]

/-- A place's number of holds is turned; the head's word, if it must. -/
theorem PoolIn.setHolds {w : World} {p q : Nat} {cs : List Value} {F : Nat → Prop} {ps : PSt} (h : PoolIn w p q cs F ps) {i : Nat} {bs : Bytes} {a b : Nat} (hi : ps[i]? = some (bs, a)) (hu : usedOf (ps.set i (bs, b)) = usedOf ps) :
    PoolIn (w.setCell ⟨q, i * 2 + 1, none⟩ (.int .i64 b)) p q (cs.set (i * 2 + 1) (.int .i64 b)) F (ps.set i (bs, b)) := by
  have hil : i < ps.length := (List.getElem?_eq_some_iff.1 hi).1
  refine ⟨h.fp, h.fq, by simpa [World.setCell] using h.lt, by simpa using h.many, ?_, h.row.set _ _, by simpa using h.size, ?_, ?_⟩
  · rw [hu, List.length_set]
    exact h.head.set_ne _ _ h.ne
  · intro j bs' h' hj
    by_cases e : i = j
    · subst e
      rw [List.getElem?_set_self hil] at hj
      obtain ⟨rfl, rfl⟩ : bs = bs' ∧ b = h' := by simpa using hj
      rw [List.getElem?_set_self (by rw [h.size]; omega)]
    · rw [List.getElem?_set_ne e] at hj
      rw [List.getElem?_set_ne (by omega)]
      exact h.holds j bs' h' hj
  · intro j bs' h' hj
    have hj2 : ∃ h2, ps[j]? = some (bs', h2) := by
      by_cases e : i = j
      · subst e
        rw [List.getElem?_set_self hil] at hj
        obtain ⟨rfl, rfl⟩ : bs = bs' ∧ b = h' := by simpa using hj
        exact ⟨a, hi⟩
      · rw [List.getElem?_set_ne e] at hj
        exact ⟨h', hj⟩
    obtain ⟨h2, hj2⟩ := hj2
    obtain ⟨v, hv, ho⟩ := h.bytes j bs' h2 hj2
    exact ⟨v, by rw [List.getElem?_set_ne (by omega)]; exact hv, ho.set_ne h.row (by decide) _ _⟩

def Did (r : Value) (Q : World → Prop) (w : World) (F : Nat → Prop) (e : Ending) (w' : World) : Prop := e = .returned r ∧ Q w' ∧ Keeps F w w'

theorem hold_some {w : World} {p : Nat} {F : Nat → Prop} {ps : PSt} (hP : PoolAt w p F ps) (i : Nat) (bs : Bytes) (h : Nat) (hi : ps[i]? = some (bs, h)) (hh : 0 < h) (hb : h ≤ 1000000000) :
    Calls Try.prog 17 #[.pointer (some ⟨p, 0, none⟩), .int .i64 i] w (Did (.int .i64 0) (fun w' => PoolAt w' p F (ps.set i (bs, h + 1))) w F) := by
  obtain ⟨q, cs, hP⟩ := hP
  have hil : i < ps.length := (List.getElem?_eq_some_iff.1 hi).1
  have hm := hP.many
  have hc := (hP.row.cell _).trans (hP.holds i bs h hi)
  have hf := hP.row.frozen (i * 2 + 1)
  have C := at_some p q _ i h w hm hil (by simpa using (by omega : h ≠ 0)) (hP.head.cell 0) hc
  have E := hP.setHolds (b := h + 1) hi (countP_set_same _ _ _ _ _ hi (by simp; omega))
  have hk : Keeps F w (w.setCell ⟨q, i * 2 + 1, none⟩ (.int .i64 ((h + 1 : Nat) : Int))) := (Keeps.refl F w).setCell (fun _ => hP.fq) _
  clear hP
  go_enter Try.func17, Try.ntmps17
  go_wp2_with (go_at_call 49; refine C.mono ?_; rintro e w' ⟨rfl, rfl⟩)
  go_ret
  exact ⟨rfl, ⟨q, _, E⟩, hk⟩

theorem used_any {w : World} {p : Nat} {F : Nat → Prop} {ps : PSt} (hP : PoolAt w p F ps) :
    Calls Try.prog 21 #[.pointer (some ⟨p, 0, none⟩)] w fun e w' => e = .returned (.int .i64 (usedOf ps)) ∧ w = w' := by
  obtain ⟨q, cs, hP⟩ := hP
  have hc := hP.head.cell 1
  clear hP
  go_enter Try.func21, Try.ntmps21
  go_wp2
  go_ret
  exact ⟨rfl, rfl⟩

theorem room_any {w : World} {p : Nat} {F : Nat → Prop} {ps : PSt} (hP : PoolAt w p F ps) :
    Calls Try.prog 15 #[.pointer (some ⟨p, 0, none⟩)] w fun e w' => e = .returned (.int .i64 (ps.length : Nat)) ∧ w = w' := by
  obtain ⟨q, cs, hP⟩ := hP
  have hc := hP.head.cell 0
  clear hP
  go_enter Try.func15, Try.ntmps15
  go_wp2
  go_ret
  exact ⟨rfl, rfl⟩

theorem size_some {w : World} {p : Nat} {F : Nat → Prop} {ps : PSt} (hP : PoolAt w p F ps) (i : Nat) (bs : Bytes) (h : Nat) (hi : ps[i]? = some (bs, h)) (hh : 0 < h) :
    Calls Try.prog 20 #[.pointer (some ⟨p, 0, none⟩), .int .i64 i] w fun e w' => e = .returned (.int .i64 (bs.length : Nat)) ∧ w = w' := by
  obtain ⟨q, cs, hP⟩ := hP
  have hil : i < ps.length := (List.getElem?_eq_some_iff.1 hi).1
  have hc := (hP.row.cell _).trans (hP.holds i bs h hi)
  have C := at_some p q _ i h w hP.many hil (by simpa using (by omega : h ≠ 0)) (hP.head.cell 0) hc
  obtain ⟨v, hv, ho⟩ := hP.bytes i bs h hi
  have hcv := (hP.row.cell _).trans hv
  clear hP
  rcases ho.1.2 with ⟨rfl, hn⟩ | ⟨g, cap, cur, rfl, r⟩
  · have hb : bs.length = 0 := by simpa using hn
    rw [hb]
    go_enter Try.func20, Try.ntmps20
    go_wp2_with (go_at_call 49; refine C.mono ?_; rintro e w' ⟨rfl, rfl⟩)
    go_ret
    exact ⟨rfl, rfl⟩
  · rw [bcells_length] at hcv
    clear r ho hv
    go_enter Try.func20, Try.ntmps20
    go_wp2_with (go_at_call 49; refine C.mono ?_; rintro e w' ⟨rfl, rfl⟩)
    go_ret
    exact ⟨rfl, rfl⟩

theorem usedOf_le (ps : PSt) : usedOf ps ≤ ps.length := List.countP_le_length

theorem PoolIn.free {w : World} {p q : Nat} {cs : List Value} {F : Nat → Prop} {ps : PSt} (h : PoolIn w p q cs F ps) {i : Nat} {bs : Bytes} {u : Int} (hi : ps[i]? = some (bs, 1)) (hu : ((usedOf (ps.set i ([], 0)) : Nat) : Int) = u) :
    PoolIn (((w.setCell ⟨q, i * 2 + 1, none⟩ (.int .i64 0)).setCell ⟨q, i * 2, none⟩ (.slice none 0 0)).setCell ⟨p, 1, none⟩ (.int .i64 u)) p q ((cs.set (i * 2 + 1) (.int .i64 0)).set (i * 2) (.slice none 0 0)) F (ps.set i ([], 0)) := by
  have hil : i < ps.length := (List.getElem?_eq_some_iff.1 hi).1
  have hne := h.ne
  have hr := ((h.row.set (i * 2 + 1) (.int .i64 0)).set (i * 2) (.slice none 0 0))
  refine ⟨h.fp, h.fq, by simpa [World.setCell] using h.lt, by simpa using h.many, ?_, hr.set_ne _ _ (Ne.symm hne), by simpa using h.size, ?_, ?_⟩
  · rw [List.length_set, hu]
    have := (((h.head.set_ne ⟨q, i * 2 + 1, none⟩ (.int .i64 0) hne).set_ne ⟨q, i * 2, none⟩ (.slice none 0 0) hne).set 1 (.int .i64 u))
    simpa using this
  · intro j bs' h' hj
    by_cases e : i = j
    · subst e
      rw [List.getElem?_set_self hil] at hj
      obtain ⟨rfl, rfl⟩ : [] = bs' ∧ 0 = h' := by simpa using hj
      rw [List.getElem?_set_ne (by omega), List.getElem?_set_self (by rw [h.size]; omega)]
      rfl
    · rw [List.getElem?_set_ne e] at hj
      rw [List.getElem?_set_ne (by omega), List.getElem?_set_ne (by omega)]
      exact h.holds j bs' h' hj
  · intro j bs' h' hj
    by_cases e : i = j
    · subst e
      rw [List.getElem?_set_self hil] at hj
      obtain ⟨rfl, rfl⟩ : [] = bs' ∧ 0 = h' := by simpa using hj
      exact ⟨_, by rw [List.getElem?_set_self (by simp [h.size]; omega)], OwnF.nil _ _ _⟩
    · rw [List.getElem?_set_ne e] at hj
      obtain ⟨v, hv, ho⟩ := h.bytes j bs' h' hj
      exact ⟨v, by rw [List.getElem?_set_ne (by omega), List.getElem?_set_ne (by omega)]; exact hv,
        ((ho.set_ne h.row (by decide) _ _).set_ne (h.row.set _ _) (by decide) _ _).set_ne (T' := 91) (((h.head.set_ne ⟨q, i * 2 + 1, none⟩ (.int .i64 0) hne).set_ne ⟨q, i * 2, none⟩ (.slice none 0 0) hne)) (by decide) _ _⟩

theorem usedOf_free : ∀ (ps : PSt) (i : Nat) (bs : Bytes) (h : Nat), ps[i]? = some (bs, h + 1) → usedOf (ps.set i ([], 0)) + 1 = usedOf ps
  | [], i, bs, h, hi => by simp at hi
  | x :: ps, 0, bs, h, hi => by
    simp at hi; subst hi
    simp [usedOf, List.countP_cons]
  | x :: ps, i + 1, bs, h, hi => by
    simp at hi
    have := usedOf_free ps i bs h hi
    simp only [usedOf, List.set_cons_succ, List.countP_cons] at this ⊢
    omega

theorem drop_last {w : World} {p : Nat} {F : Nat → Prop} {ps : PSt} (hP : PoolAt w p F ps) (i : Nat) (bs : Bytes) (hi : ps[i]? = some (bs, 1)) :
    Calls Try.prog 18 #[.pointer (some ⟨p, 0, none⟩), .int .i64 i] w (Did (.int .i64 0) (fun w' => PoolAt w' p F (ps.set i ([], 0))) w F) := by
  obtain ⟨q, cs, hP⟩ := hP
  have hil : i < ps.length := (List.getElem?_eq_some_iff.1 hi).1
  have hm := hP.many
  have hc := (hP.row.cell _).trans (hP.holds i bs 1 hi)
  have hf := hP.row.frozen (i * 2 + 1)
  have hf0 := hP.row.frozen (i * 2)
  have hfp := hP.head.frozen 1
  have hcp := hP.head.cell 1
  obtain ⟨v, hv, ho⟩ := hP.bytes i bs 1 hi
  have hcv := (hP.row.cell _).trans hv
  clear hv ho
  have C := at_some p q _ i _ w hm hil rfl (hP.head.cell 0) hc
  have hu := usedOf_free ps i bs 0 hi
  have hul := usedOf_le ps
  have hne := hP.ne
  have E := hP.free hi (u := (usedOf ps : Int) - 1) (by omega)
  have fp := hP.fp
  have fq := hP.fq
  clear hP hu
  generalize hU : usedOf ps = U at *
  have hpq : q ≠ p := Ne.symm hne
  have hU1 : 1 ≤ U := by rw [← hU]; exact List.countP_pos_iff.2 ⟨_, List.mem_of_getElem? hi, by simp⟩
  clear hU
  go_enter Try.func18, Try.ntmps18
  go_wp2_with (go_at_call 49; refine C.mono ?_; rintro e w' ⟨rfl, rfl⟩)
  go_ret
  refine ⟨rfl, ⟨q, _, E⟩, (((Keeps.refl F w).setCell (fun _ => fq) _).setCell (fun _ => fq) _).setCell (fun _ => fp) _⟩

end Go.Proofs.Ytpgmkekdgchkfaa
