/- ChangeAt: for every input the law returns true and writes nothing that was there; no condition. -/
import Derived.Test.YtpgmkekdgchkfaaRows
import Derived.Test.YtpgmkekdgchkfaaArg9
import Derived.Test.YtpgmkekdgchkfaaAt2
import Derived.WalkKit
import Derived.ProofKit
import Derived.OpenShut
import Derived.ShutString
import Derived.ChangeOld
import Derived.Below
namespace Go.Proofs.Ytpgmkekdgchkfaa.changeAt
open Go.ChangeShapes Go.WideShapes Go.ChangeAt Go.RowKit
open Go.ChangeMaps (open_string shut_string)
set_option linter.unusedVariables false

theorem own : ownKnob Try.prog.godebug = none := by kernel_rfl
theorem laidOut : laidOutB Try.prog = true := by kernel_rfl

set_option maxRecDepth 100000 in
theorem walk {H : Type} {enc : TypeId × Value → H} {base : Nat} {d0 d1 d2 : DataW H} {p0 p1 p2 : List MemPlace} (v0 v1 v2 : Value) (W : World)
    (o0 : Value.okWide Try.prog W .any base 72 v0) (h0 : DataW.Trod enc Try.prog W 0 (fun _ => true) true 72 v0 d0 p0)
    (o1 : Value.okWide Try.prog W .any base 72 v1) (h1 : DataW.Trod enc Try.prog W 0 (fun _ => true) true 72 v1 d1 p1)
    (o2 : Value.okWide Try.prog W .any base 2 v2) (h2 : DataW.Trod enc Try.prog W 0 (fun _ => true) true 2 v2 d2 p2) :
    Calls Try.prog 12 #[v0, v1, v2] W fun e w' => e = .returned (.bool true) ∧ Below W.heap.size W w' := by
  obtain ⟨b1, y1, x1, A1, c1, es1, rfl, hl1, he1, -⟩ := open_list o0 h0
  obtain ⟨b2, y2, x2, A2, c2, es2, rfl, hl2, he2, -⟩ := open_list o1 h1
  obtain ⟨now, rfl, -, -, w2⟩ := open_int Try.underlying2 o2 h2
  have fin : ∀ e w', TrueKept W e w' → e = .returned (.bool true) ∧ Below W.heap.size W w' := fun e w' h => ⟨h.1, h.2.below (Nat.le_refl _) (fun _ f => f.elim)⟩
  by_cases h : ¬ Good b1 y1 x1 es1 ∨ ¬ Good b2 y2 x2 es2 ∨ now < 0 ∨ 2305843009213693952 < now ∨ 2305843009213693952 < b2
  · exact (chat_out W b1 y1 x1 b2 y2 x2 now A1 A2 c1 c2 es1 es2 he1 he2 h).mono fin
  · have g1 : Good b1 y1 x1 es1 := Classical.byContradiction fun g => h (.inl g)
    have g2 : Good b2 y2 x2 es2 := Classical.byContradiction fun g => h (.inr (.inl g))
    exact (chat_in W b1 y1 x1 b2 y2 x2 now A1 A2 c1 c2 es1 es2 he1 he2 g1 g2 (by omega) (by omega) (by omega)).mono fin


set_option maxRecDepth 100000 in
theorem lifted (os : Os) (started : os.Started) (H : Type) (enc : TypeId × Value → H) :
    ReturnsInHanded {} Try.checked os 12 .any (Rows.changeAtSpec.pre6 enc Try.prog Try.f12 Rows.changeAtRow.domain false) (Rows.changeAtSpec.post enc Try.prog Try.f12 false true false false) := by
  refine returnsInHanded_of_change (C := Try.checked) own started (by kernel_rfl) Try.func12
    (ChangeSpec.witness6 (enc := enc) (C := Try.checked) false ⟨#[], #[.agg #[.int .i64 0, .int .i64 0, .int .i64 0, .slice none 0 0], .agg #[.int .i64 0, .int .i64 0, .int .i64 0, .slice none 0 0], .int .i64 0], []⟩ 8 (by kernel_rfl) (by kernel_rfl) (by kernel_rfl) (by kernel_rfl)) ?_
  intro W base args ds gs before hval0 hW hcnd _
  have hval : ∀ (j : Nat) t v, Try.f12.params[j]? = some t → args[j]? = some v → Value.okWide Try.prog W .any base t v := hval0
  have hW' := hW
  obtain ⟨p, q, hA0, hV, rfl, hfz, hnd⟩ := hW
  have hA : DataW.TrodAll enc Try.prog W 0 (fun _ => true) true Try.f12.params.toList args.toList ds p := hA0
  rw [Try.params12] at hA hval
  obtain ⟨v0, vs0, d0, ds0, p0, q0, hargs, rfl, rfl, h0, r0⟩ := trodAll_cons hA
  obtain ⟨v1, vs1, d1, ds1, p1, q1, rfl, rfl, rfl, h1, r1⟩ := trodAll_cons r0
  obtain ⟨v2, vs2, d2, ds2, p2, q2, rfl, rfl, rfl, h2, r2⟩ := trodAll_cons r1
  obtain ⟨rfl, rfl, rfl⟩ := trodAll_nil r2
  obtain rfl : args = #[v0, v1, v2] := by cases args; simp_all
  obtain ⟨rfl, rfl⟩ := trodVars_none hV
  have lt0 : ∀ x ∈ p0, x.block < W.heap.size := by obtain ⟨m, hm⟩ := h0; exact DataW.trod_lt m _ _ _ hm
  have lt1 : ∀ x ∈ p1, x.block < W.heap.size := by obtain ⟨m, hm⟩ := h1; exact DataW.trod_lt m _ _ _ hm
  have lt2 : ∀ x ∈ p2, x.block < W.heap.size := by obtain ⟨m, hm⟩ := h2; exact DataW.trod_lt m _ _ _ hm
  have o0 := hval 0 72 v0 rfl rfl
  have o1 := hval 1 72 v1 rfl rfl
  have o2 := hval 2 2 v2 rfl rfl
  clear hA0 hval0
  refine (walk v0 v1 v2 W o0 h0 o1 h1 o2 h2).mono fun e W' ⟨he, bel⟩ => ?_
  subst he
  exact ⟨_, rfl, _, _, _, [], _, [], hW', trodAll_mk1 (shut_bool Try.underlying4 _), (trodAll_cons_mk (Below.trod laidOut (by kernel_rfl) (of_decide_eq_true (by kernel_rfl)) h0 bel lt0) (trodAll_cons_mk (Below.trod laidOut (by kernel_rfl) (of_decide_eq_true (by kernel_rfl)) h1 bel lt1) (trodAll_cons_mk (Below.trod laidOut (by kernel_rfl) (of_decide_eq_true (by kernel_rfl)) h2 bel lt2) trodAll_mk0))), rfl, bel.frame _, fun h => by cases h⟩

theorem over : Rows.changeAtRow.holds Try.pinned (OpenSpec.ofChange Rows.changeAtSpec) :=
  OpenClaim.holds_of_wide 12 Try.f12 rfl rfl rfl rfl rfl rfl rfl ⟨rfl, rfl, rfl, rfl, rfl⟩ rfl rfl rfl rfl rfl (by kernel_rfl) Try.func12 (by kernel_rfl)
    (of_decide_eq_true (by kernel_rfl)) (by unfold Func.isWrapper; first | (rw [if_pos (by decide +kernel)]; kernel_rfl) | (rw [if_neg (by decide +kernel)]; exact ⟨rfl, rfl⟩))
    (fun os started H enc _ => lifted os started H enc)

theorem proved : Rows.ChangeAtSaid := over
#print axioms proved
end Go.Proofs.Ytpgmkekdgchkfaa.changeAt
