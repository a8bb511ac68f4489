/- The head that the statements on pools share: a frame that is held twice. -/
import Derived.Test.YtpgmkekdgchkfaaPool3
import Derived.Lib.SlBytesConst
namespace Go.Proofs.Ytpgmkekdgchkfaa
open Go.RowKit

def TrueKept (w : World) (e : Ending) (w' : World) : Prop := e = .returned (.bool true) ∧ Keeps Nothing w w'

theorem PoolAt.alloc {w : World} {p : Nat} {F : Nat → Prop} {ps : PSt} (h : PoolAt w p F ps) (o : Obj) : PoolAt (w.alloc o) p F ps := h.keeps ((Keeps.refl Nothing w).alloc o) (fun _ _ h => h)

theorem PoolAt.same {w w' : World} {p : Nat} {F : Nat → Prop} {ps : PSt} (h : PoolAt w p F ps) (hk : Keeps Nothing w w') : PoolAt w' p F ps := h.keeps hk (fun _ _ h => h)

theorem PoolAt.lt {w : World} {p : Nat} {F : Nat → Prop} {ps : PSt} (h : PoolAt w p F ps) : ∀ k, F k → k < w.heap.size := by
  obtain ⟨q, cs, h⟩ := h
  exact h.lt

theorem news_mark (w : World) (l : List Value) (T : TypeId) (fr : Nat × Nat) : ∀ j u, l[j]? = some u → (w.alloc (.cells l.toArray T fr)).cell? ((⟨w.heap.size, 0, none⟩ : Addr).add j) = some u := by
  intro j u h
  rw [Addr.add_lit, World.cell?_alloc_mark]
  simpa using h

set_option maxRecDepth 100000 in
theorem keeps6 (w : World) : Calls Try.prog 13 #[] w (TrueKept w) := by
  have kc := fun (w : World) (C : Array Value) (n c : Nat) => Lib.run_convert_bytes_const (P := Try.prog) w 29 5 C n c Try.underlying29 Try.underlying5
  go_enter Try.func13, Try.ntmps13
  go_wp2_with (go_at_call 14; refine (new_any 1 _ 1 (by omega)).mono ?_; rintro e w1 ⟨p, F, rfl, hP, hF, hk⟩)
  refine (take_free (hP.alloc _) 0 [] [97, 98] _ _ rfl (fun j _ h => absurd h (Nat.not_lt_zero j)) (by decide) (by decide) (news_mark w1 (bcells [97, 98]) 5 (2, 3))).mono ?_
  rintro e w2 ⟨rfl, F2, hP2, hF2, hk2⟩
  clear hP
  go_wp2_with fail
  refine (take_full (hP2.alloc _) _ rfl).mono ?_
  rintro e w3 ⟨rfl, hk3⟩
  have hP3 : PoolAt w3 p F2 [([97, 98], 1)] := (hP2.alloc _).same hk3
  clear hP2
  go_wp2_with (go_at_call 17; refine (hold_some hP3 0 [97, 98] 1 rfl (by decide) (by decide)).mono ?_; rintro e w4 ⟨rfl, hP4, hk4⟩)
  clear hP3
  go_wp2_with (go_at_call 22; refine (holds_any hP4 (by decide)).mono ?_; rintro e w5 ⟨rfl, hP5, hk5⟩)
  clear hP4
  go_wp2_with (go_at_call 18; refine (drop_more hP5 0 [97, 98] 0 rfl (by decide)).mono ?_; rintro e w6 ⟨rfl, hP6, hk6⟩)
  clear hP5
  go_wp2_with (first | (go_at_call 21; refine (used_any hP6).mono ?_; rintro e w' ⟨rfl, rfl⟩) | (go_at_call 19; refine (get_some hP6 0 [97, 98] 1 rfl (by decide) (by decide)).mono ?_; rintro e w7 ⟨v, rfl, hv, hk7⟩; have hcv : (convert 29 9 v).run Try.prog w7 = .ok (.string ⟨#[97, 98]⟩) w7 := conv_str Try.underlying29 Try.underlying5 Try.underlying9 hv.slR))
  have hP7 : PoolAt w7 p F2 [([97, 98], 1)] := hP6.same hk7
  clear hP6
  go_wp2_with (first | (go_at_call 20; refine (size_some hP7 0 [97, 98] 1 rfl (by decide)).mono ?_; rintro e w' ⟨rfl, rfl⟩) | (go_at_call 18; refine (drop_last hP7 0 [97, 98] rfl).mono ?_; rintro e w8 ⟨rfl, hP8, hk8⟩; clear hP7))
  go_wp2_with (first | (go_at_call 18; refine (drop_missing hP8 0 rfl).mono ?_; rintro e w' ⟨rfl, rfl⟩) | (go_at_call 21; refine (used_any hP8).mono ?_; rintro e w' ⟨rfl, rfl⟩) | (go_at_call 15; refine (room_any hP8).mono ?_; rintro e w' ⟨rfl, rfl⟩))
  go_ret
  refine ⟨rfl, ?_⟩
  have f2 : ∀ k, F2 k → w.heap.size ≤ k := fun k h => (hF2 k h).elim (hF k) (fun h => by have := hk.size; simp at h; omega)
  exact ((((((((hk.alloc _).up hk2 hF).alloc _).same hk3).up hk4 f2).same hk5).up hk6 f2).same hk7).up hk8 f2

end Go.Proofs.Ytpgmkekdgchkfaa
