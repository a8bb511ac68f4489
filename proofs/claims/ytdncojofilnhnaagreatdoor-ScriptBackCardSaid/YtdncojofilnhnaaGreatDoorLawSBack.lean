/- ScriptBack: for every input the law returns true and writes nothing that was there; the listed package variables as the program's text lays them (tied). -/
import Derived.Test.YtdncojofilnhnaaGreatDoorTie
import Derived.Test.YtdncojofilnhnaaGreatDoorCards
import Derived.Test.YtdncojofilnhnaaGreatDoorRow0
import Derived.Test.YtdncojofilnhnaaGreatDoorSbA
import Derived.Test.YtdncojofilnhnaaGreatDoorArgS
import Derived.SevenTiedAt
namespace Go.Proofs.YtdncojofilnhnaaGreatDoor.scriptBack
open Go.ChangeShapes Go.WideShapes Go.ChangeAt Go.RowKit
open Go.ChangeMaps (open_string shut_string)
set_option linter.unusedVariables false

theorem own : ownKnob Tryz.prog.godebug = none := by kernel_rfl
theorem laidOut : laidOutB Tryz.prog = true := by kernel_rfl

set_option maxRecDepth 100000 in
theorem walk {H : Type} {enc : TypeId × Value → H} {base : Nat} (v0 : Value) (W : World) {d0 : DataW H} {p0 : List MemPlace}
    (o0 : Value.okWide Tryz.prog W .any base 64 v0) (h0 : DataW.Trod enc Tryz.prog W 0 (fun _ => true) true 64 v0 d0 p0) (hg : Gl W) :
    Calls Tryz.prog 8 #[v0] W fun e W' => e = .returned (.bool true) ∧ Below W.heap.size W W' := by
  obtain ⟨c, acs, l, A, A2, cp, cp2, rfl, hm, hb, hpl, hal, hR, hA, h2⟩ := open_script o0 h0
  obtain ⟨prio, mac, ports, places, bounds, start⟩ := c
  obtain ⟨q0, q1, q2, q3, q4, q5, hq⟩ := sixOf hm.1
  obtain rfl : mac = [q0, q1, q2, q3, q4, q5] := hq
  obtain ⟨b0, b1, b2, b3, b4, b5, b6, b7, hbq⟩ := eightOf hb
  obtain rfl : bounds = [b0, b1, b2, b3, b4, b5, b6, b7] := hbq
  refine (sBack_walk prio places start q0 q1 q2 q3 q4 q5 b0 b1 b2 b3 b4 b5 b6 b7 ports acs l A A2 cp cp2 hm hpl hal hg hR hA h2).mono ?_
  rintro e W' ⟨he, hk⟩
  exact ⟨he, hk.below (Nat.le_refl _) (fun _ x => x.elim)⟩


set_option maxRecDepth 100000 in
theorem lifted (os : Os) (started : os.Started) (H : Type) (enc : TypeId × Value → H) :
    ReturnsInHanded {} Tryz.checked os 8 .any (fun w args => (Rows.scriptBackSpec.pre enc Tryz.prog Tryz.f8 Rows.scriptBackRow.domain false w args ∧ laidMetH Tryz.prog Rows.scriptBackRow.laid w) ∧ sizedMet enc Tryz.prog Tryz.f8 (OpenSpec.ofChange Rows.scriptBackSpec) false w args)
      (Rows.scriptBackSpec.post enc Tryz.prog Tryz.f8 false true false false) := by
  refine handed_shaped (C := Tryz.checked) (X := fun w _ => laidMetH Tryz.prog Rows.scriptBackRow.laid w) (fun _ _ _ hh h => h.of_heap hh) own started (by kernel_rfl) Tryz.func8
    (ChangeSpec.witness_shaped (enc := enc) (C := Tryz.checked) (os := os) (X := fun w _ => laidMetH Tryz.prog Rows.scriptBackRow.laid w) false (laidWorld os) #[.agg sc0.toArray] 8 (laidWorld_os os) (laidWorld_shaped os _) (by kernel_rfl) (by kernel_rfl) (by kernel_rfl)
      (laidMetH_of_parts (laidWorld_plain os _) (by kernel_rfl))) ?_
  intro W base args ds gs before hval0 hW hcnd _ hL hsh _
  have hL' : laidMet Tryz.prog plainList W ∧ handlesMet Tryz.prog [("errors.errorType", Rows.laid_errors_errorType)] W := hL
  have hg := gl_of hL'.1 hL'.2 hsh (big_of hsh)
  have hval : ∀ (j : Nat) t v, Tryz.f8.params[j]? = some t → args[j]? = some v → Value.okWide Tryz.prog W .any base t v := hval0
  have hW' := hW
  obtain ⟨p, q, hA0, hV, rfl, hfz, hnd⟩ := hW
  have hA : DataW.TrodAll enc Tryz.prog W 0 (fun _ => true) true Tryz.f8.params.toList args.toList ds p := hA0
  rw [Tryz.params8] at hA hval
  obtain ⟨v0, vs0, d0, ds0, p0, q0, hargs, rfl, rfl, h0, r0⟩ := trodAll_cons hA
  obtain ⟨rfl, rfl, rfl⟩ := trodAll_nil r0
  obtain rfl : args = #[v0] := by cases args; simp_all
  obtain ⟨rfl, rfl⟩ := trodVars_none hV
  have lt0 : ∀ x ∈ p0, x.block < W.heap.size := by obtain ⟨m, hm⟩ := h0; exact DataW.trod_lt m _ _ _ hm
  have o0 := hval 0 64 v0 rfl rfl
  clear hA0 hval0
  refine (walk v0 W o0 h0 hg).mono fun e W' ⟨he, bel⟩ => ?_
  subst he
  exact ⟨_, rfl, _, _, _, [], _, [], hW', trodAll_mk1 (shut_bool Tryz.underlying4 _), (trodAll_cons_mk (Below.trod laidOut (by kernel_rfl) (of_decide_eq_true (by kernel_rfl)) h0 bel lt0) trodAll_mk0), rfl, bel.frame _, fun h => by cases h⟩

theorem over : Rows.ScriptBackSaid :=
  OpenClaim.holds_of_wide 8 Tryz.f8 rfl rfl rfl rfl rfl rfl rfl ⟨rfl, rfl, rfl, rfl, rfl⟩ rfl rfl rfl rfl rfl (by kernel_rfl) Tryz.func8 (by kernel_rfl)
    (of_decide_eq_true (by kernel_rfl)) (by unfold Func.isWrapper; first | (rw [if_pos (by decide +kernel)]; kernel_rfl) | (rw [if_neg (by decide +kernel)]; exact ⟨rfl, rfl⟩))
    (fun os started H enc _ => lifted os started H enc)

theorem proved : Rows.ScriptBackCardSaid :=
  Claim7.holds_tied_plain_at .later [] [.data, .data, .data, .data, .handle, .sentinel, .sentinel, .pinned] true (true, "731876372b471a59c49c50331a53f02cc4d52563191c72474b1242473835e773") true over (fun _ h => by cases h) (by kernel_rfl) (fun _ h => by cases h) scriptBack_row_tie rfl ⟨rfl, rfl⟩ (by kernel_rfl) rfl
    (fun f fn hf hfn => by
      obtain rfl : f = 8 := Option.some.inj ((show Tryz.prog.funcNamed "bargate/bargatelaw25.ScriptBack" = some 8 by kernel_rfl).symm.trans hf) |>.symm
      obtain rfl : fn = Tryz.f8 := (Option.some.inj (Tryz.func8.symm.trans hfn)).symm
      exact ⟨by kernel_rfl, fun j t ht => by
        rw [Tryz.params8] at ht
        have hm : t ∈ [64] := by simpa using Array.mem_of_getElem? ht
        have hall : ([64].all fun u => !Tryz.prog.wantsStandIn u) = true := by kernel_rfl
        exact (show Tryz.prog.wantsStandIn t = false by simpa using List.all_eq_true.1 hall t hm)⟩)
    (by kernel_rfl)
#print axioms proved
end Go.Proofs.YtdncojofilnhnaaGreatDoor.scriptBack
