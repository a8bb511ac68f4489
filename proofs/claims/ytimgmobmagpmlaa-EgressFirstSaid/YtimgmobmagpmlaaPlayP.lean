/- The ledger of a port: each frame is held as often as it waits, or is sent. -/
import Derived.Test.YtimgmobmagpmlaaSetE
namespace Go.Proofs.Ytimgmobmagpmlaa
open Go.RowKit

def cntR (rs : List RSt) (i : Int) : Nat := (rs.map fun r => r.q.count i).sum

structure Led (E : Eg) : Prop where
  held : ∀ i, heldOf E.ps i = cntR E.rs i + (if E.busy = true ∧ E.id = i then 1 else 0)
  sum : holdsOf E.ps = totalOf E.rs + (if E.busy = true then 1 else 0)
  size : ∀ i, heldOf E.ps i ≠ 0 → 64 ≤ sizeP E.ps i ∧ sizeP E.ps i ≤ 1522
  r8 : E.rs.length = 8

theorem sum_set (l : List Nat) : ∀ (k : Nat) (a b : Nat), l[k]? = some a → (l.set k b).sum + a = l.sum + b := by
  induction l with
  | nil => intro k a b h; simp at h
  | cons x l ih =>
    intro k a b h
    cases k with
    | zero => simp at h; subst h; simp; omega
    | succ k =>
      have := ih k a b (by simpa using h)
      simp
      omega

theorem holdsOf_set {ps : PSt} {k : Nat} {x y : Bytes × Nat} (h : ps[k]? = some x) : holdsOf (ps.set k y) + x.2 = holdsOf ps + y.2 := by
  unfold holdsOf
  rw [List.map_set]
  exact sum_set _ _ _ _ (by rw [List.getElem?_map, h]; rfl)

theorem totalOf_set {rs : List RSt} {k : Nat} {r s : RSt} (h : rs[k]? = some r) : totalOf (rs.set k s) + r.q.length = totalOf rs + s.q.length := by
  unfold totalOf
  rw [List.map_set]
  exact sum_set _ _ _ _ (by rw [List.getElem?_map, h]; rfl)

theorem cntR_set {rs : List RSt} {k : Nat} {r s : RSt} (h : rs[k]? = some r) (i : Int) : cntR (rs.set k s) i + r.q.count i = cntR rs i + s.q.count i := by
  unfold cntR
  rw [List.map_set]
  exact sum_set _ _ _ _ (by rw [List.getElem?_map, h]; rfl)

theorem holdsOf_drop {ps : PSt} {i : Int} (h : heldOf ps i ≠ 0) : holdsOf (dropP ps i) + 1 = holdsOf ps := by
  unfold dropP
  rw [if_neg h]
  obtain ⟨j, bs, m, rfl, hj, hm, hh, hg⟩ := heldOf_some h
  rw [Int.toNat_natCast, hg]
  simp only
  by_cases h1 : m = 1
  · rw [if_pos h1]
    have := holdsOf_set (y := (([] : Bytes), 0)) hj
    simp only at this
    omega
  · rw [if_neg h1]
    have := holdsOf_set (y := (bs, m - 1)) hj
    simp only at this
    omega

theorem holdsOf_hold {ps : PSt} {i : Int} (h : heldOf ps i ≠ 0) : holdsOf (holdP ps i) = holdsOf ps + 1 := by
  unfold holdP
  rw [if_neg h]
  obtain ⟨j, bs, m, rfl, hj, hm, hh, hg⟩ := heldOf_some h
  rw [Int.toNat_natCast, hg]
  have := holdsOf_set (y := (bs, m + 1)) hj
  simp only at this ⊢
  omega

theorem Led.row {E : Eg} (h : Led E) {c : Nat} (hc : c < 8) : ∃ r, E.rs[c]? = some r ∧ E.rs.getD c ⟨0, [], 0⟩ = r := by
  have hl : c < E.rs.length := by have := h.r8; omega
  exact ⟨_, List.getElem?_eq_getElem hl, by rw [List.getD_eq_getElem?_getD, List.getElem?_eq_getElem hl]; rfl⟩

theorem cntR_ge {rs : List RSt} {r : RSt} (h : r ∈ rs) (i : Int) : r.q.count i ≤ cntR rs i := by
  unfold cntR
  induction rs with
  | nil => simp at h
  | cons x rs ih =>
    rcases List.mem_cons.1 h with rfl | h
    · simp
    · have := ih h
      simp
      omega

theorem Led.has {E : Eg} (h : Led E) : ∀ r ∈ E.rs, ∀ x ∈ r.q, 0 < heldOf E.ps x := fun r hr x hx => by
  have h1 := cntR_ge hr x
  have h2 : 0 < r.q.count x := List.count_pos_iff.2 hx
  rw [h.held x]
  omega

/-- What is sent is sent. -/
theorem Led.ended {E : Eg} (h : Led E) (hb : E.busy = true) : Led E.ended := by
  have hi : heldOf E.ps E.id ≠ 0 := by rw [h.held, if_pos ⟨hb, rfl⟩]; omega
  exact
    { held := fun i => by
        show heldOf (dropP E.ps E.id) i = cntR E.rs i + (if false = true ∧ E.id = i then 1 else 0)
        rw [if_neg (show ¬ (false = true ∧ E.id = i) from fun h => by cases h.1), heldOf_dropP]
        by_cases e : i = E.id
        · rw [if_pos e, e, h.held, if_pos ⟨hb, rfl⟩]; omega
        · rw [if_neg e, h.held, if_neg (fun x => e x.2.symm)]
      sum := by
        have h1 := holdsOf_drop hi
        have h2 := h.sum
        rw [if_pos hb] at h2
        show holdsOf (dropP E.ps E.id) = totalOf E.rs + (if false = true then 1 else 0)
        rw [if_neg (by decide)]
        omega
      size := fun i hn => by
        have hn : heldOf (dropP E.ps E.id) i ≠ 0 := hn
        show 64 ≤ sizeP (dropP E.ps E.id) i ∧ sizeP (dropP E.ps E.id) i ≤ 1522
        rw [heldOf_dropP] at hn
        by_cases e : i = E.id
        · rw [if_pos e] at hn
          rw [sizeP_dropP _ _ _ (.inr (by omega))]
          exact h.size i (by rw [e]; omega)
        · rw [if_neg e] at hn
          rw [sizeP_dropP _ _ _ (.inl e)]
          exact h.size i hn
      r8 := h.r8 }

/-- A frame is sent from now on. -/
theorem Led.sends {E : Eg} (h : Led E) (hb : E.busy = false) {now : Int} {c : Nat} (hc : c < 8) {x : Int} {q : List Int} (hq : (E.rs.getD c ⟨0, [], 0⟩).q = x :: q) : Led (E.sends now c x q) := by
  obtain ⟨r, hr, hg⟩ := h.row hc
  rw [hg] at hq
  have e0 : (E.sends now c x q).rs = E.rs.set c { r with q := q } := by unfold Eg.sends; rw [hg]
  exact
    { held := fun i => by
        show heldOf E.ps i = cntR (E.sends now c x q).rs i + (if true = true ∧ x = i then 1 else 0)
        rw [e0]
        have h1 := cntR_set (s := { r with q := q }) hr i
        have h2 := h.held i
        rw [if_neg (fun y => by rw [hb] at y; cases y.1)] at h2
        rw [hq, List.count_cons] at h1
        simp only at h1
        by_cases e : x = i
        · rw [if_pos ⟨rfl, e⟩]
          rw [if_pos (by simpa using e)] at h1
          omega
        · rw [if_neg (fun y => e y.2)]
          rw [if_neg (by simpa using e)] at h1
          omega
      sum := by
        show holdsOf E.ps = totalOf (E.sends now c x q).rs + (if true = true then 1 else 0)
        rw [e0, if_pos rfl]
        have h1 := totalOf_set (s := { r with q := q }) hr
        have h2 := h.sum
        rw [if_neg (by rw [hb]; decide)] at h2
        rw [hq] at h1
        simp at h1
        omega
      size := h.size
      r8 := by show (E.sends now c x q).rs.length = 8; rw [e0, List.length_set]; exact h.r8 }

/-! ## the link -/

theorem heldOf_drops (l : List Int) : ∀ (ps : PSt) (i : Int), heldOf (l.foldl dropP ps) i = heldOf ps i - l.count i := by
  induction l with
  | nil => intro ps i; simp
  | cons x l ih =>
    intro ps i
    rw [List.foldl_cons, ih, heldOf_dropP, List.count_cons]
    by_cases e : i = x
    · rw [if_pos e, e, if_pos (by simp)]; omega
    · rw [if_neg e, if_neg (by simpa using fun h => e h.symm)]; omega

theorem holdsOf_drops (l : List Int) : ∀ (ps : PSt), (∀ i, l.count i ≤ heldOf ps i) → holdsOf (l.foldl dropP ps) + l.length = holdsOf ps := by
  induction l with
  | nil => intro ps _; rfl
  | cons x l ih =>
    intro ps h
    have hx := h x
    rw [List.count_cons, if_pos (by simp)] at hx
    have h1 := holdsOf_drop (ps := ps) (i := x) (by omega)
    have h2 := ih (dropP ps x) (fun i => by
      have := h i
      rw [List.count_cons] at this
      rw [heldOf_dropP]
      by_cases e : i = x
      · rw [if_pos e]; rw [if_pos (by simp [e])] at this; rw [e] at this ⊢; omega
      · rw [if_neg e]; omega)
    rw [List.foldl_cons, List.length_cons]
    omega

theorem count_flat (rs : List RSt) (i : Int) : ((rs.map (·.q)).flatten).count i = cntR rs i := by
  induction rs with
  | nil => rfl
  | cons r rs ih =>
    unfold cntR at ih ⊢
    rw [List.map_cons, List.flatten_cons, List.count_append, ih, List.map_cons, List.sum_cons]

theorem length_flat (rs : List RSt) : ((rs.map (·.q)).flatten).length = totalOf rs := by
  induction rs with
  | nil => rfl
  | cons r rs ih =>
    unfold totalOf at ih ⊢
    rw [List.map_cons, List.flatten_cons, List.length_append, ih, List.map_cons, List.sum_cons]

theorem Led.gone_count {E : Eg} (h : Led E) (i : Int) : E.gone.count i = heldOf E.ps i := by
  unfold Eg.gone allTo
  rw [List.take_of_length_le (by have := h.r8; omega), List.count_append, count_flat, h.held]
  by_cases hb : E.busy = true
  · rw [if_pos hb]
    by_cases e : E.id = i
    · rw [if_pos ⟨hb, e⟩, e]; simp
    · rw [if_neg (fun x => e x.2)]; simp [e]
  · rw [if_neg hb, if_neg (fun x => hb x.1)]; rfl

theorem Led.gone_length {E : Eg} (h : Led E) : E.gone.length = holdsOf E.ps := by
  unfold Eg.gone allTo
  rw [List.take_of_length_le (by have := h.r8; omega), List.length_append, length_flat, h.sum]
  by_cases hb : E.busy = true
  · rw [if_pos hb, if_pos hb]; rfl
  · rw [if_neg hb, if_neg hb]; rfl

theorem cntR_emptied (rs : List RSt) (i : Int) : cntR (rs.map emptied) i = 0 := by
  unfold cntR
  induction rs with
  | nil => rfl
  | cons r rs ih => simp only [List.map_cons, List.sum_cons] at ih ⊢; rw [ih]; rfl

theorem totalOf_emptied (rs : List RSt) : totalOf (rs.map emptied) = 0 := by
  unfold totalOf
  induction rs with
  | nil => rfl
  | cons r rs ih => simp only [List.map_cons, List.sum_cons] at ih ⊢; rw [ih]; rfl

theorem Led.linked {E : Eg} (h : Led E) (up : Bool) : Led (E.linked up) := by
  unfold Eg.linked
  by_cases hu : E.up = up
  · rw [if_pos hu]; exact h
  · rw [if_neg hu]
    have h0 : ∀ i, heldOf (E.gone.foldl dropP E.ps) i = 0 := fun i => by rw [heldOf_drops, h.gone_count]; omega
    exact
      { held := fun i => by
          show heldOf (E.gone.foldl dropP E.ps) i = cntR (E.rs.map emptied) i + (if false = true ∧ E.id = i then 1 else 0)
          rw [h0, cntR_emptied, if_neg (fun h => by cases h.1)]
        sum := by
          show holdsOf (E.gone.foldl dropP E.ps) = totalOf (E.rs.map emptied) + (if false = true then 1 else 0)
          have := holdsOf_drops E.gone E.ps (fun i => by rw [h.gone_count]; exact Nat.le_refl _)
          rw [totalOf_emptied, if_neg (by decide)]
          have := h.gone_length
          omega
        size := fun i hn => absurd (h0 i) hn
        r8 := by show (E.rs.map emptied).length = 8; rw [List.length_map]; exact h.r8 }

end Go.Proofs.Ytimgmobmagpmlaa
