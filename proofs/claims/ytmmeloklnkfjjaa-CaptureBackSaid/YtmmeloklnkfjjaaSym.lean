/- The merging of two neighbouring sorted ranges: the plain laws. -/
import Derived.Test.YtmmeloklnkfjjaaIns
namespace Go.Proofs.Ytmmeloklnkfjjaa
open Go.RowKit

/-! One frame moved up. -/
def shUp (a k : Nat) (c : Con) : Con := fun q => if a ≤ q ∧ q < k then c (q + 1) else if q = k then c a else c q

theorem shUp_start (a : Nat) (c : Con) : shUp a a c = c := by
  funext q
  unfold shUp
  rw [if_neg (by omega)]
  split
  · rename_i h; rw [h]
  · rfl

theorem shUp_lo {a k q : Nat} {c : Con} (h : q < k) (ha : a ≤ q) : shUp a k c q = c (q + 1) := by
  unfold shUp; rw [if_pos ⟨ha, h⟩]
theorem shUp_at {a k : Nat} {c : Con} : shUp a k c k = c a := by
  unfold shUp; rw [if_neg (by omega), if_pos rfl]
theorem shUp_out {a k q : Nat} {c : Con} (h : q < a ∨ k < q) (hk : a ≤ k) : shUp a k c q = c q := by
  unfold shUp; rw [if_neg (by omega), if_neg (by omega)]

theorem shUp_succ (a k : Nat) (c : Con) (h : a ≤ k) : shUp a (k + 1) c = swp (shUp a k c) k (k + 1) := by
  funext q
  unfold swp
  by_cases h1 : q = k
  · subst h1
    rw [if_pos rfl, shUp_lo (by omega) h, shUp_out (by omega) h]
  · rw [if_neg h1]
    by_cases h2 : q = k + 1
    · subst h2
      rw [if_pos rfl, shUp_at, shUp_at]
    · rw [if_neg h2]
      by_cases h3 : a ≤ q ∧ q < k
      · rw [shUp_lo (by omega) h3.1, shUp_lo h3.2 h3.1]
      · rw [shUp_out (by omega) (by omega), shUp_out (by omega) h]

theorem shUp_sw {a b : Nat} (c : Con) : ∀ t, a + t < b → Sw a b c (shUp a (a + t) c)
  | 0, _ => by rw [Nat.add_zero, shUp_start]; exact .refl _
  | t + 1, h => by
    rw [← Nat.add_assoc, shUp_succ a (a + t) c (by omega)]
    exact (shUp_sw c t (by omega)).step _ _ (by omega) (by omega)

theorem shUp_srt {a b i : Nat} {c : Con} (hs : Srt (a + 1) b c) (h1 : a + 1 ≤ i) (h2 : i ≤ b) (hlo : ∀ k, a + 1 ≤ k → k < i → Lt (c k) (c a)) (hhi : ∀ k, i ≤ k → k < b → ¬ Lt (c k) (c a)) : Srt a b (shUp a (i - 1) c) := by
  intro q r hq hqr hr
  have e : ∀ x, a ≤ x → shUp a (i - 1) c x = if x < i - 1 then c (x + 1) else if x = i - 1 then c a else c x := fun x hx => by
    unfold shUp
    by_cases h : x < i - 1
    · rw [if_pos ⟨hx, h⟩, if_pos h]
    · rw [if_neg (by omega), if_neg h]
  rw [e q hq, e r (by omega)]
  by_cases h3 : q < i - 1
  · rw [if_pos h3]
    by_cases h4 : r < i - 1
    · rw [if_pos h4]
      exact hs (q + 1) (r + 1) (by omega) (by omega) (by omega)
    · rw [if_neg h4]
      by_cases h5 : r = i - 1
      · rw [if_pos h5]
        exact (hlo (q + 1) (by omega) (by omega)).asymm
      · rw [if_neg h5]
        exact hs (q + 1) r (by omega) (by omega) hr
  · rw [if_neg h3, if_neg (by omega)]
    by_cases h5 : q = i - 1
    · rw [if_pos h5, if_neg (by omega)]
      exact hhi r (by omega) hr
    · rw [if_neg h5, if_neg (by omega)]
      exact hs q r (by omega) hqr hr

/-! One frame moved down. -/
def shDn (m k : Nat) (c : Con) : Con := fun q => if k < q ∧ q ≤ m then c (q - 1) else if q = k then c m else c q

theorem shDn_start (m : Nat) (c : Con) : shDn m m c = c := by
  funext q
  unfold shDn
  rw [if_neg (by omega)]
  split
  · rename_i h; rw [h]
  · rfl

theorem shDn_hi {m k q : Nat} {c : Con} (h : k < q) (ha : q ≤ m) : shDn m k c q = c (q - 1) := by
  unfold shDn; rw [if_pos ⟨h, ha⟩]
theorem shDn_at {m k : Nat} {c : Con} : shDn m k c k = c m := by
  unfold shDn; rw [if_neg (by omega), if_pos rfl]
theorem shDn_out {m k q : Nat} {c : Con} (h : q < k ∨ m < q) (hk : k ≤ m) : shDn m k c q = c q := by
  unfold shDn; rw [if_neg (by omega), if_neg (by omega)]

theorem shDn_succ (m k : Nat) (c : Con) (h : k < m) : shDn m k c = swp (shDn m (k + 1) c) (k + 1) k := by
  funext q
  unfold swp
  by_cases h1 : q = k + 1
  · subst h1
    rw [if_pos rfl, shDn_hi (by omega) (by omega), shDn_out (by omega) (by omega), Nat.add_sub_cancel]
  · rw [if_neg h1]
    by_cases h2 : q = k
    · subst h2
      rw [if_pos rfl, shDn_at, shDn_at]
    · rw [if_neg h2]
      by_cases h3 : k < q ∧ q ≤ m
      · rw [shDn_hi h3.1 h3.2, shDn_hi (by omega) h3.2]
      · rw [shDn_out (by omega) (by omega), shDn_out (by omega) (by omega)]

theorem shDn_sw {a b m : Nat} (c : Con) : ∀ t, a + t ≤ m → m < b → Sw a b c (shDn m (m - t) c)
  | 0, _, _ => by rw [Nat.sub_zero, shDn_start]; exact .refl _
  | t + 1, h, hb => by
    rw [shDn_succ m (m - (t + 1)) c (by omega), show m - (t + 1) + 1 = m - t by omega]
    exact (shDn_sw c t (by omega) hb).step _ _ (by omega) (by omega)

theorem shDn_srt {a m i : Nat} {c : Con} (hs : Srt a m c) (h1 : a ≤ i) (h2 : i ≤ m) (hlo : ∀ k, a ≤ k → k < i → ¬ Lt (c m) (c k)) (hhi : ∀ k, i ≤ k → k < m → Lt (c m) (c k)) : Srt a (m + 1) (shDn m i c) := by
  intro q r hq hqr hr
  have e : ∀ x, x ≤ m → shDn m i c x = if x < i then c x else if x = i then c m else c (x - 1) := fun x hx => by
    unfold shDn
    by_cases h : x < i
    · rw [if_neg (by omega), if_neg (by omega), if_pos h]
    · by_cases h5 : x = i
      · rw [if_neg (by omega), if_pos h5, if_neg h, if_pos h5]
      · rw [if_pos (by omega), if_neg h, if_neg h5]
  rw [e q (by omega), e r (by omega)]
  by_cases h3 : r < i
  · rw [if_pos h3, if_pos (by omega)]
    exact hs q r hq hqr (by omega)
  · rw [if_neg h3]
    by_cases h4 : q < i
    · rw [if_pos h4]
      by_cases h5 : r = i
      · rw [if_pos h5]
        exact hlo q hq h4
      · rw [if_neg h5]
        exact hs q (r - 1) hq (by omega) (by omega)
    · rw [if_neg h4, if_neg (by omega : ¬ r = i)]
      by_cases h5 : q = i
      · rw [if_pos h5]
        exact (hhi (r - 1) (by omega) (by omega)).asymm
      · rw [if_neg h5]
        exact hs (q - 1) (r - 1) (by omega) (by omega) (by omega)

/-! The great step. -/
theorem rot_left (m b : Nat) (c : Con) : rot m m b c = c := by
  funext k
  simp only [rot]
  repeat' split
  all_goals first | omega | rfl | (congr 1; omega)

theorem rot_right (a m : Nat) (c : Con) : rot a m m c = c := by
  funext k
  simp only [rot]
  repeat' split
  all_goals first | omega | rfl | (congr 1; omega)

theorem rot_sw (c : Con) (a m b lo hi : Nat) (h1 : a < m) (h2 : m < b) (hlo : lo ≤ a) (hhi : b ≤ hi) : Sw lo hi c (rot a m b c) := by
  have key : ∀ (k x y : Nat) (d : Con), x + y = k → 1 ≤ x → 1 ≤ y → lo + x ≤ m → m + y ≤ hi → Sw lo hi d (rot (m - x) m (m + y) d) := by
    intro k
    induction k using Nat.strongRecOn with
    | ind k ih =>
      intro x y d hk hx hy hlx hhy
      by_cases hgt : y < x
      · have := ih (x - y + y) (by omega) (x - y) y (swapR (m - x) m y d) rfl (by omega) hy (by omega) hhy
        rw [rot_gt d m x y hgt (by omega)] at this
        exact (swapR_sw d y (by omega) (by omega) (by omega)).trans this
      · by_cases hlt : x < y
        · have := ih (x + (y - x)) (by omega) x (y - x) (swapR (m - x) (m + y - x) x d) rfl hx (by omega) hlx (by omega)
          rw [rot_lt d m x y hlt (by omega)] at this
          exact (swapR_sw d x (by omega) (by omega) (by omega)).trans this
        · obtain rfl : x = y := by omega
          rw [← rot_eq d m x (by omega)]
          exact swapR_sw d x (by omega) (by omega) (by omega)
  have := key (m - a + (b - m)) (m - a) (b - m) c rfl (by omega) (by omega) (by omega) (by omega)
  rwa [show m - (m - a) = a by omega, show m + (b - m) = b by omega] at this

/-- What the search has found: a place from which on both ranges are cut. -/
structure Cut (a m b mid s : Nat) (c : Con) : Prop where
  s0 : a ≤ s
  sm : s ≤ m
  s1 : s ≤ mid
  e1 : mid + m - s ≤ b
  e0 : m ≤ mid + m - s
  keep : ∀ x y, a ≤ x → x < s → mid + m - s ≤ y → y < b → ¬ Lt (c y) (c x)
  turn : ∀ x y, s ≤ x → x < m → m ≤ y → y < mid + m - s → Lt (c y) (c x)

theorem Srt.le {a b : Nat} {c : Con} (h : Srt a b c) {i j : Nat} (h1 : a ≤ i) (h2 : i ≤ j) (h3 : j < b) : ¬ Lt (c j) (c i) := by
  by_cases e : i = j
  · subst e
    unfold Lt
    omega
  · exact h i j h1 (by omega) h3

theorem lt_le {f g k : Fr} (h1 : Lt f g) (h2 : ¬ Lt k g) : Lt f k := by unfold Lt at *; omega
theorem le_lt {f g k : Fr} (h1 : ¬ Lt g f) (h2 : Lt g k) : Lt f k := by unfold Lt at *; omega

theorem cut_of {a m b mid s s0 r0 : Nat} {c : Con} (hx : Srt a m c) (hy : Srt m b c) (ham : a < m) (hmb : m < b) (hmid : mid = (a + b) / 2)
    (hs0 : s0 = if mid < m then mid + m - b else a) (hr0 : r0 = if mid < m then mid else m) (h1 : s0 ≤ s) (h2 : s ≤ r0)
    (hlo : ∀ k, s0 ≤ k → k < s → ¬ Lt (c (mid + m - 1 - k)) (c k)) (hhi : ∀ k, s ≤ k → k < r0 → Lt (c (mid + m - 1 - k)) (c k)) : Cut a m b mid s c := by
  have hA : a ≤ s := by split at hs0 <;> omega
  have hM : s ≤ m := by split at hr0 <;> omega
  have hD : s ≤ mid := by split at hr0 <;> omega
  have hE : mid + m - s ≤ b := by split at hs0 <;> omega
  refine ⟨hA, hM, hD, hE, by omega, fun x y hx1 hx2 hy1 hy2 => ?_, fun x y hx1 hx2 hy1 hy2 => ?_⟩
  · by_cases e : s = s0
    · exfalso
      split at hs0 <;> omega
    · have h := hlo (s - 1) (by omega) (by omega)
      have e2 : mid + m - 1 - (s - 1) = mid + m - s := by omega
      rw [e2] at h
      have hb1 : ¬ Lt (c (s - 1)) (c x) := hx.le hx1 (by omega) (by omega)
      have hb2 : ¬ Lt (c y) (c (mid + m - s)) := hy.le (by omega) hy1 hy2
      exact le_trans' (le_trans' hb1 h) hb2
  · by_cases e : s = r0
    · exfalso
      split at hr0 <;> omega
    · have h := hhi s (by omega) (by omega)
      have hb1 : ¬ Lt (c x) (c s) := hx.le hA hx1 hx2
      have hb2 : ¬ Lt (c (mid + m - 1 - s)) (c y) := hy.le hy1 (by omega) (by omega)
      exact lt_le (le_lt hb2 h) hb1

/-- How the cut row stands. -/
theorem rot_at {a m b mid s : Nat} {c : Con} (h : Cut a m b mid s c) (q : Nat) :
    rot s m (mid + m - s) c q = if q < s then c q else if q < mid then c (q + (m - s)) else if q < mid + m - s then c (q - (mid - s)) else c q := by
  obtain ⟨h1, h2, h3, h4, h5, -, -⟩ := h
  simp only [rot]
  repeat' split
  all_goals first | omega | rfl | (congr 1; omega)

theorem cut_cross {a m b mid s : Nat} {c : Con} (h : Cut a m b mid s c) (hx : Srt a m c) (hy : Srt m b c) : ∀ x y, a ≤ x → x < mid → mid ≤ y → y < b → ¬ Lt (rot s m (mid + m - s) c y) (rot s m (mid + m - s) c x) := by
  intro x y hx1 hx2 hy1 hy2
  rw [rot_at h, rot_at h]
  obtain ⟨h1, h2, h3, h4, h5, hk, ht⟩ := h
  rw [if_neg (by omega : ¬ y < s), if_neg (by omega : ¬ y < mid)]
  by_cases hxs : x < s
  · rw [if_pos hxs]
    by_cases hye : y < mid + m - s
    · rw [if_pos hye]
      exact hx.le hx1 (by omega) (by omega)
    · rw [if_neg hye]
      exact hk x y hx1 hxs (by omega) hy2
  · rw [if_neg hxs, if_pos hx2]
    by_cases hye : y < mid + m - s
    · rw [if_pos hye]
      exact (ht (y - (mid - s)) (x + (m - s)) (by omega) (by omega) (by omega) (by omega)).asymm
    · rw [if_neg hye]
      exact hy.le (by omega) (by omega) hy2

theorem cut_parts {a m b mid s : Nat} {c : Con} (h : Cut a m b mid s c) (hx : Srt a m c) (hy : Srt m b c) (hmb : mid ≤ b) :
    Srt a s (rot s m (mid + m - s) c) ∧ Srt s mid (rot s m (mid + m - s) c) ∧ Srt mid (mid + m - s) (rot s m (mid + m - s) c) ∧ Srt (mid + m - s) b (rot s m (mid + m - s) c) := by
  have hr := rot_at h
  obtain ⟨h1, h2, h3, h4, h5, hk, ht⟩ := h
  have r1 : ∀ q, q < s → rot s m (mid + m - s) c q = c q := fun q hq => by rw [hr, if_pos hq]
  have r2 : ∀ q, s ≤ q → q < mid → rot s m (mid + m - s) c q = c (q + (m - s)) := fun q hq hq2 => by rw [hr, if_neg (by omega), if_pos hq2]
  have r3 : ∀ q, mid ≤ q → q < mid + m - s → rot s m (mid + m - s) c q = c (q - (mid - s)) := fun q hq hq2 => by rw [hr, if_neg (by omega), if_neg (by omega), if_pos hq2]
  have r4 : ∀ q, mid + m - s ≤ q → rot s m (mid + m - s) c q = c q := fun q hq => by rw [hr, if_neg (by omega), if_neg (by omega), if_neg (by omega)]
  refine ⟨fun i j a1 a2 a3 => ?_, fun i j a1 a2 a3 => ?_, fun i j a1 a2 a3 => ?_, fun i j a1 a2 a3 => ?_⟩
  · rw [r1 i (by omega), r1 j a3]
    exact hx i j a1 a2 (by omega)
  · rw [r2 i a1 (by omega), r2 j (by omega) a3]
    exact hy _ _ (by omega) (by omega) (by omega)
  · rw [r3 i a1 (by omega), r3 j (by omega) a3]
    exact hx _ _ (by omega) (by omega) (by omega)
  · rw [r4 i a1, r4 j (by omega)]
    exact hy _ _ (by omega) (by omega) (by omega)

theorem cut_same {a m b mid s : Nat} {c : Con} (h : Cut a m b mid s c) (hs : Srt a b c) : rot s m (mid + m - s) c = c := by
  obtain ⟨h1, h2, h3, h4, h5, hk, ht⟩ := h
  by_cases e1 : s = m
  · rw [e1, rot_left]
  · by_cases e2 : mid + m - s = m
    · rw [e2, rot_right]
    · exact absurd (ht s m (by omega) (by omega) (by omega) (by omega)) (hs s m h1 (by omega) (by omega))

theorem Srt.congr {a b : Nat} {c d : Con} (h : Srt a b c) (e : ∀ k, a ≤ k → k < b → d k = c k) : Srt a b d := fun i j h1 h2 h3 => by
  rw [e i h1 (by omega), e j (by omega) h3]
  exact h i j h1 h2 h3

/-- Both halves sorted, each of its own frames: the whole is. -/
theorem halves {a mid b : Nat} {e d1 d2 : Con} (h1 : Sw a mid e d1) (s1 : Srt a mid d1) (h2 : Sw mid b d1 d2) (s2 : Srt mid b d2) (hc : ∀ x y, a ≤ x → x < mid → mid ≤ y → y < b → ¬ Lt (e y) (e x)) : Srt a b d2 := by
  have lo : ∀ k, k < mid → d2 k = d1 k := fun k hk => h2.out (.inl hk)
  have hi : ∀ k, mid ≤ k → d1 k = e k := fun k hk => h1.out (.inr hk)
  intro i j hai hij hjb
  by_cases hj : j < mid
  · rw [lo i (by omega), lo j hj]
    exact s1 i j hai hij hj
  · by_cases hi2 : mid ≤ i
    · exact s2 i j hi2 hij hjb
    · obtain ⟨j', b1, b2, b3⟩ := h2.mem j (by omega) hjb
      obtain ⟨i', a1, a2, a3⟩ := h1.mem i hai (by omega)
      rw [lo i (by omega), b3, hi j' b1, a3]
      exact hc i' j' a1 a2 b1 b2

end Go.Proofs.Ytmmeloklnkfjjaa
