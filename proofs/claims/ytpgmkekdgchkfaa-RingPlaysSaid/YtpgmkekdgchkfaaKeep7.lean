/- The head that the statements on rows share: two numbers in a row of two. -/
import Derived.Test.YtpgmkekdgchkfaaRing4
namespace Go.Proofs.Ytpgmkekdgchkfaa
open Go.RowKit

def rs7 (q : List Int) (l0 l1 : Nat) : List RSt := [⟨0, [], l0⟩, ⟨2, q, l1⟩, ⟨0, [], 0⟩, ⟨0, [], 0⟩, ⟨0, [], 0⟩, ⟨0, [], 0⟩, ⟨0, [], 0⟩, ⟨0, [], 0⟩]

set_option maxRecDepth 100000 in
set_option maxHeartbeats 2000000 in
theorem keeps7 (w : World) : Calls Try.prog 23 #[] w (TrueKept w) := by
  go_enter Try.func23, Try.ntmps23
  go_wp2_with (go_at_call 24; refine (new_ring 0 2 0 0 0 0 0 0 _).mono ?_; rintro e w1 ⟨p, F, rfl, hP, hF, hk1⟩; have H1 : RingAt w1 p F (rs7 [] 0 0) := hP; clear hP)
  go_wp2_with (go_at_call 25; refine (push_ok H1 1 5 ⟨2, [], 0⟩ rfl (by decide)).mono ?_; rintro e w2 ⟨rfl, hP, hk2⟩; have H2 : RingAt w2 p F (rs7 [5] 0 0) := hP; clear hP H1)
  go_wp2_with (go_at_call 25; refine (push_ok H2 1 6 ⟨2, [5], 0⟩ rfl (by decide)).mono ?_; rintro e w3 ⟨rfl, hP, hk3⟩; have H3 : RingAt w3 p F (rs7 [5, 6] 0 0) := hP; clear hP H2)
  go_wp2_with (go_at_call 25; refine (push_full H3 1 7 ⟨2, [5, 6], 0⟩ rfl rfl (by decide)).mono ?_; rintro e w4 ⟨rfl, hP, hk4⟩; have H4 : RingAt w4 p F (rs7 [5, 6] 0 1) := hP; clear hP H3)
  go_wp2_with (go_at_call 25; refine (push_full H4 0 1 ⟨0, [], 0⟩ rfl rfl (by decide)).mono ?_; rintro e w5 ⟨rfl, hP, hk5⟩; have H5 : RingAt w5 p F (rs7 [5, 6] 1 1) := hP; clear hP H4)
  go_wp2_with (first | (go_at_call 25; refine (push_out 8 1 (by omega)).mono ?_; rintro e w' ⟨rfl, rfl⟩) | (go_at_call 26; refine (head_some H5 1 5 [6] ⟨2, [5, 6], 1⟩ rfl rfl).mono ?_; rintro e w6 ⟨rfl, hk6⟩; have H6 := H5.same hk6; clear H5))
  go_wp2_with (go_at_call 27; refine (pop_some H6 1 5 [6] ⟨2, [5, 6], 1⟩ rfl rfl).mono ?_; rintro e w7 ⟨rfl, hP, hk7⟩; have H7 : RingAt w7 p F (rs7 [6] 1 1) := hP; clear hP H6)
  go_wp2_with (first
    | (go_at_call 27; refine (pop_none H7 0 ⟨0, [], 1⟩ rfl rfl).mono ?_; rintro e w' ⟨rfl, rfl⟩)
    | (go_at_call 30; refine (len_in H7 1 ⟨2, [6], 1⟩ rfl).mono ?_; rintro e w' ⟨rfl, rfl⟩)
    | (go_at_call 31; refine (lost_in H7 1 ⟨2, [6], 1⟩ rfl).mono ?_; rintro e w' ⟨rfl, rfl⟩)
    | (go_at_call 50; refine (all_any H7).mono ?_; rintro e w' ⟨rfl, rfl⟩)
    | (go_at_call 33; refine (waits_any H7).mono ?_; rintro e w' ⟨rfl, rfl⟩)
    | (go_at_call 32; refine (list_in H7 1 ⟨2, [6], 1⟩ rfl).mono ?_; rintro e w8 ⟨g, cap, rfl, ho, hk8⟩; have H8 := H7.same hk8; clear H7 ho)
    | (go_at_call 28; refine (flush_any H8).mono ?_; rintro e w9 ⟨v, rfl, ho, hR, hk9⟩; (obtain ⟨A9, c9, hv⟩ := ho.lenG); have hv : v = .slice A9 1 c9 := hv; subst hv; clear ho))
  go_ret
  refine ⟨rfl, ?_⟩
  have hF : ∀ x, F x → w.heap.size ≤ x := hF
  exact ((((((((hk1.up hk2 hF).up hk3 hF).up hk4 hF).up hk5 hF).same hk6).up hk7 hF).same hk8).up hk9 hF)

end Go.Proofs.Ytpgmkekdgchkfaa
