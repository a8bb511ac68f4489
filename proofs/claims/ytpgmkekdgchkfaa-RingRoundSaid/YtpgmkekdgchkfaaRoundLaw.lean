/- RingRound: for all numbers the law returns true, and what was there is as it was. -/
import Derived.Test.YtpgmkekdgchkfaaKeep7
namespace Go.Proofs.Ytpgmkekdgchkfaa
open Go.RowKit

def seqI (a n : Nat) : List Int := (List.range n).map fun k => ((a + k : Nat) : Int)
@[simp] theorem seqI_length (a n : Nat) : (seqI a n).length = n := by simp [seqI]
theorem seqI_snoc (a n : Nat) : seqI a n ++ [((a + n : Nat) : Int)] = seqI a (n + 1) := by simp [seqI, List.range_succ]
theorem seqI_cons (a n : Nat) : seqI a (n + 1) = (a : Int) :: seqI (a + 1) n := by
  unfold seqI
  rw [List.range_succ_eq_map, List.map_cons, List.map_map]
  congr 1
  apply List.map_congr_left
  intro k _
  show ((a + (k + 1) : Nat) : Int) = ((a + 1 + k : Nat) : Int)
  omega

def rsR (b : Nat) (q : List Int) : List RSt := [⟨0, [], 0⟩, ⟨0, [], 0⟩, ⟨0, [], 0⟩, ⟨b, q, 0⟩, ⟨0, [], 0⟩, ⟨0, [], 0⟩, ⟨0, [], 0⟩, ⟨0, [], 0⟩]

def RoundInv (w : World) (p b many ahead : Nat) (F : Nat → Prop) (k : Nat) (nx i : Value) (wr : World) : Prop :=
  ∃ j x : Nat, j + k = many ∧ i = .int .i64 (j : Nat) ∧ nx = .int .i64 (x : Nat) ∧ x ≤ j ∧ j - x < ahead ∧ RingAt wr p F (rsR b (seqI x (j - x))) ∧ Keeps Nothing w wr

set_option maxRecDepth 100000 in
set_option maxHeartbeats 1000000 in
theorem round_out (b m a : Int) (w : World) (h : b < 1 ∨ 100 < b ∨ m < 0 ∨ 1000 < m ∨ a < 1 ∨ b < a) : Calls Try.prog 8 #[.int .i64 b, .int .i64 m, .int .i64 a] w (TrueKept w) := by
  have hc : b < 1 ∨ 1 ≤ b ∧ 100 < b ∨ 1 ≤ b ∧ b ≤ 100 ∧ m < 0 ∨ 1 ≤ b ∧ b ≤ 100 ∧ 0 ≤ m ∧ 1000 < m ∨ 1 ≤ b ∧ b ≤ 100 ∧ 0 ≤ m ∧ m ≤ 1000 ∧ a < 1 ∨ 1 ≤ b ∧ b ≤ 100 ∧ 0 ≤ m ∧ m ≤ 1000 ∧ 1 ≤ a ∧ b < a := by omega
  rcases hc with h | ⟨h, h2⟩ | ⟨h, h2, h3⟩ | ⟨h, h2, h3, h4⟩ | ⟨h, h2, h3, h4, h5⟩ | ⟨h, h2, h3, h4, h5, h6⟩
  all_goals
    go_enter Try.func8, Try.ntmps8
    go_wp2_with (go_at_call 23; refine (keeps7 _).mono ?_; rintro e w1 ⟨rfl, hk1⟩)
    go_ret
    exact ⟨rfl, hk1⟩

set_option maxRecDepth 100000 in
set_option maxHeartbeats 2000000 in
theorem round_in (b m a : Nat) (w : World) (h1 : 1 ≤ b) (h2 : b ≤ 100) (h3 : m ≤ 1000) (h4 : 1 ≤ a) (h5 : a ≤ b) : Calls Try.prog 8 #[.int .i64 b, .int .i64 m, .int .i64 a] w (TrueKept w) := by
  go_enter Try.func8, Try.ntmps8
  go_wp2_with (first | (go_at_call 23; refine (keeps7 _).mono ?_; rintro e w1 ⟨rfl, hk1⟩) | (go_at_call 24; refine (new_ring 0 0 0 b 0 0 0 0 _).mono ?_; rintro e w2 ⟨p, F, rfl, hP, hF, hk2⟩))
  have hbn : bnd (b : Int) = b := by unfold bnd; omega
  have H2 : RingAt w2 p F (rsR b (seqI 0 0)) := by
    have : RingAt w2 p F (rsR (bnd b) []) := hP
    rwa [hbn] at this
  have HH := Lib.hid H2
  have K2 := hk1.same hk2
  have F2 : ∀ x, F x → w.heap.size ≤ x := fun x hx => by have := hF x hx; have := hk1.size; omega
  clear hP H2 hbn hF hk1 hk2
  go_loopg [8, 41] m (fun k nx i wr => RoundInv w p b m a F k nx i wr)
  case atStart => exact ⟨0, 0, by omega, rfl, rfl, by omega, by omega, HH.out, K2⟩
  case round =>
    obtain ⟨j, x, hj, rfl, rfl, hxj, hlt0, hR, hk⟩ := hrel
    by_cases hlt : j < m
    · have C := push_ok hR 3 (j : Int) ⟨b, seqI x (j - x), 0⟩ rfl (by simp; omega)
      have e1 : Hid (seqI x (j - x) ++ [(j : Int)] = seqI x (j - x + 1)) := by
        have := seqI_snoc x (j - x)
        rw [show x + (j - x) = j by omega] at this
        exact this
      by_cases hlen : j - x + 1 < a
      · go_wp2_with (first
          | (go_at_call 25; refine C.mono ?_; rintro e w3 ⟨rfl, hR3, hk3⟩; have hR3 : RingAt w3 p F (rsR b (seqI x (j - x + 1))) := (by have h : RingAt w3 p F (rsR b (seqI x (j - x) ++ [(j : Int)])) := hR3; rw [e1.out] at h; exact h); have D := len_in hR3 3 ⟨b, seqI x (j - x + 1), 0⟩ rfl; rw [seqI_length] at D; clear C)
          | (go_at_call 30; refine D.mono ?_; rintro e w' ⟨rfl, rfl⟩))
        go_roundg (gk - 1)
        case measure => omega
        case rel => exact ⟨j + 1, x, by omega, by go_num, rfl, by omega, by omega, by rw [show j + 1 - x = j - x + 1 by omega]; exact hR3, hk.up hk3 F2⟩
      · go_wp2_with (first
          | (go_at_call 25; refine C.mono ?_; rintro e w3 ⟨rfl, hR3, hk3⟩; have hR3 : RingAt w3 p F (rsR b (seqI x (j - x + 1))) := (by have h : RingAt w3 p F (rsR b (seqI x (j - x) ++ [(j : Int)])) := hR3; rw [e1.out] at h; exact h); have D := len_in hR3 3 ⟨b, seqI x (j - x + 1), 0⟩ rfl; rw [seqI_length] at D; clear C)
          | (go_at_call 30; refine D.mono ?_; rintro e w' ⟨rfl, rfl⟩)
          | (go_at_call 27; refine (pop_some hR3 3 (x : Int) (seqI (x + 1) (j - x)) ⟨b, seqI x (j - x + 1), 0⟩ rfl (seqI_cons x (j - x))).mono ?_; rintro e w4 ⟨rfl, hR4, hk4⟩))
        go_roundg (gk - 1)
        case measure => omega
        case rel =>
          have hR4 : RingAt w4 p F (rsR b (seqI (x + 1) (j - x))) := hR4
          exact ⟨j + 1, x + 1, by omega, by go_num, by go_num, by omega, by omega, by rw [show j + 1 - (x + 1) = j - x by omega]; exact hR4, (hk.up hk3 F2).up hk4 F2⟩
    · obtain rfl : j = m := by omega
      have D := len_in hR 3 ⟨b, seqI x (j - x), 0⟩ rfl
      have D2 := lost_in hR 3 ⟨b, seqI x (j - x), 0⟩ rfl
      rw [seqI_length] at D
      have e : ((j - x : Nat) : Int) = (j : Int) - x := by omega
      rw [e] at D
      clear e
      go_wp2_with (first | (go_at_call 30; refine D.mono ?_; rintro e w' ⟨rfl, rfl⟩) | (go_at_call 31; refine D2.mono ?_; rintro e w' ⟨rfl, rfl⟩))
      go_ret
      exact ⟨rfl, hk⟩

end Go.Proofs.Ytpgmkekdgchkfaa
