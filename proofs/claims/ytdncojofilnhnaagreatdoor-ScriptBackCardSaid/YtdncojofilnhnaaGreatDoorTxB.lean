/- script.Text: the walk of what can't be written for its switch. -/
import Derived.Test.YtdncojofilnhnaaGreatDoorTxA
import Derived.Test.YtdncojofilnhnaaGreatDoorBrD
import Derived.Deep.RegionWith
import Derived.Test.YtdncojofilnhnaaGreatDoorEqA
import Derived.Deep.QuietTactic
import Derived.BigQuiet
import Derived.WalkMore
namespace Go.Proofs.YtdncojofilnhnaaGreatDoor
open Go.RowKit Go.Lib

/-- What stands while a script is written. -/
structure TxS (w wr : World) (cells : List Value) (v : Value) : Prop where
  gl : Gl wr
  k : Keeps Nothing w wr
  s : Blk wr w.heap.size (cells ++ [v]) 64
  c : Blk wr (w.heap.size + 1) cells 61

theorem TxS.same {w wr w' : World} {cells : List Value} {v : Value} (h : TxS w wr cells v) (hk : Keeps Nothing wr w') : TxS w w' cells v :=
  ⟨h.gl.same hk, h.k.same hk, h.s.keeps hk (fun h => h), h.c.keeps hk (fun h => h)⟩

theorem TxS.asideF {F : Nat → Prop} {w wr w' : World} {cells : List Value} {v : Value} (h : TxS w wr cells v) (hk : Keeps F wr w') (hb : 10 ≤ w.heap.size) (hF : ∀ k, F k → w.heap.size + 1 < k) : TxS w w' cells v :=
  ⟨h.gl.keeps hk (fun k hk e => by have := hF k e; omega), h.k.up hk (fun k e => by have := hF k e; omega), h.s.keeps hk (fun e => by have := hF _ e; omega), h.c.keeps hk (fun e => by have := hF _ e; omega)⟩

set_option maxRecDepth 100000 in
set_option maxHeartbeats 16000000 in
theorem text_small (c : Cf) (acs : List Ac) (cs : List (List Value)) (A A2 : Option Addr) (m cp n2 cp2 : Nat) (hm : MacIs c.mac) (hb : c.bounds.length = 8) (hpl : c.ports.length ≤ 140737488355328) (hal : acs.length ≤ 3000) {w : World} (hg : Gl w)
    (hR : RecsR w (.slice A m cp) 2 (c.ports.map ptC)) (hA : RecsR w (.slice A2 n2 cp2) 12 cs) (hAct : All2 (ActR w) acs cs) (hbx : ¬ (bridgeOk c = true ∧ ¬ (c.bounds.headD 0 < 0 ∨ c.bounds ≠ List.replicate 8 (c.bounds.headD 0) ∨ 1073741824 < c.bounds.headD 0))) :
    Calls Tryz.prog 28 #[.agg (cfC c (.slice A m cp) ++ [Value.slice A2 n2 cp2] : List Value).toArray] w fun ev w' => STextIs w' c acs ev ∧ Keeps Nothing w w' := by
  have HBC := Lib.hid (fun (w' : World) (h : RecsR w' (.slice A m cp) 2 (c.ports.map ptC)) => bridge_check c hm hb (.slice A m cp) hpl w' h)
  have HBAD := Lib.hid (fun h => text_bad (c := c) (acs := acs) h)
  have HBD := Lib.hid (fun h h' => text_bounds (c := c) (acs := acs) h h')
  have HLN := Lib.hid (fun h h' => text_lines (c := c) (acs := acs) h h')
  have HIF := Lib.hid (bridgeOk_iff c)
  have HBX := Lib.hid hbx
  clear hbx
  have HEB := Lib.hid (@bridgeE_bad c)
  have HEO := Lib.hid (@bridgeE_ok c)
  have HCL := Lib.hid (@conf_len c hm)
  obtain ⟨prio, mac, ports, places, bounds, start⟩ := c
  obtain ⟨q0, q1, q2, q3, q4, q5, hq⟩ := sixOf hm.1
  obtain rfl : mac = [q0, q1, q2, q3, q4, q5] := hq
  obtain ⟨b0, b1, b2, b3, b4, b5, b6, b7, hbq⟩ := eightOf hb
  obtain rfl : bounds = [b0, b1, b2, b3, b4, b5, b6, b7] := hbq
  have HM := Lib.hid hm
  have HG := Lib.hid hg
  have HR := Lib.hid hR
  have HA := Lib.hid hA
  have HAct := Lib.hid hAct
  have HPL := Lib.hid hpl
  have HAL := Lib.hid hal
  show Calls Tryz.prog 28 #[.agg #[.int .i64 prio, .int .u8 q0, .int .u8 q1, .int .u8 q2, .int .u8 q3, .int .u8 q4, .int .u8 q5, .slice A m cp, .int .i64 places, .int .i64 b0, .int .i64 b1, .int .i64 b2, .int .i64 b3, .int .i64 b4, .int .i64 b5, .int .i64 b6, .int .i64 b7, .int .i64 start, .slice A2 n2 cp2]] w _
  have HZ : Hid (Blk ((w.alloc (.cells [.int .i64 prio, .int .u8 q0, .int .u8 q1, .int .u8 q2, .int .u8 q3, .int .u8 q4, .int .u8 q5, .slice A m cp, .int .i64 places, .int .i64 b0, .int .i64 b1, .int .i64 b2, .int .i64 b3, .int .i64 b4, .int .i64 b5, .int .i64 b6, .int .i64 b7, .int .i64 start, .slice A2 n2 cp2].toArray 64)).alloc (.cells cf0.toArray 61)) (w.heap.size + 1) cf0 61) := Lib.hid (by
    have := Blk.new (w.alloc (.cells [.int .i64 prio, .int .u8 q0, .int .u8 q1, .int .u8 q2, .int .u8 q3, .int .u8 q4, .int .u8 q5, .slice A m cp, .int .i64 places, .int .i64 b0, .int .i64 b1, .int .i64 b2, .int .i64 b3, .int .i64 b4, .int .i64 b5, .int .i64 b6, .int .i64 b7, .int .i64 start, .slice A2 n2 cp2].toArray 64)) cf0 61
    rw [show (w.alloc (.cells [.int .i64 prio, .int .u8 q0, .int .u8 q1, .int .u8 q2, .int .u8 q3, .int .u8 q4, .int .u8 q5, .slice A m cp, .int .i64 places, .int .i64 b0, .int .i64 b1, .int .i64 b2, .int .i64 b3, .int .i64 b4, .int .i64 b5, .int .i64 b6, .int .i64 b7, .int .i64 start, .slice A2 n2 cp2].toArray 64)).heap.size = w.heap.size + 1 by simp] at this
    exact this)
  have HT0 : Hid (∀ w2, Blk w2 (w.heap.size + 1) [.int .i64 prio, .int .u8 q0, .int .u8 q1, .int .u8 q2, .int .u8 q3, .int .u8 q4, .int .u8 q5, .slice A m cp, .int .i64 places, .int .i64 b0, .int .i64 b1, .int .i64 b2, .int .i64 b3, .int .i64 b4, .int .i64 b5, .int .i64 b6, .int .i64 b7, .int .i64 start] 61 → Keeps (fun k => k = w.heap.size + 1) ((w.alloc (.cells [.int .i64 prio, .int .u8 q0, .int .u8 q1, .int .u8 q2, .int .u8 q3, .int .u8 q4, .int .u8 q5, .slice A m cp, .int .i64 places, .int .i64 b0, .int .i64 b1, .int .i64 b2, .int .i64 b3, .int .i64 b4, .int .i64 b5, .int .i64 b6, .int .i64 b7, .int .i64 start, .slice A2 n2 cp2].toArray 64)).alloc (.cells cf0.toArray 61)) w2 → TxS w w2 [.int .i64 prio, .int .u8 q0, .int .u8 q1, .int .u8 q2, .int .u8 q3, .int .u8 q4, .int .u8 q5, .slice A m cp, .int .i64 places, .int .i64 b0, .int .i64 b1, .int .i64 b2, .int .i64 b3, .int .i64 b4, .int .i64 b5, .int .i64 b6, .int .i64 b7, .int .i64 start] (.slice A2 n2 cp2)) := Lib.hid (fun w2 h1 h2 => by
    have k0 : Keeps Nothing w ((w.alloc (.cells [.int .i64 prio, .int .u8 q0, .int .u8 q1, .int .u8 q2, .int .u8 q3, .int .u8 q4, .int .u8 q5, .slice A m cp, .int .i64 places, .int .i64 b0, .int .i64 b1, .int .i64 b2, .int .i64 b3, .int .i64 b4, .int .i64 b5, .int .i64 b6, .int .i64 b7, .int .i64 start, .slice A2 n2 cp2].toArray 64)).alloc (.cells cf0.toArray 61)) := ((Keeps.refl Nothing w).alloc _).alloc _
    have k1 := k0.up h2 (fun k e => by omega)
    exact ⟨hg.same k1, k1, ((Blk.new w [.int .i64 prio, .int .u8 q0, .int .u8 q1, .int .u8 q2, .int .u8 q3, .int .u8 q4, .int .u8 q5, .slice A m cp, .int .i64 places, .int .i64 b0, .int .i64 b1, .int .i64 b2, .int .i64 b3, .int .i64 b4, .int .i64 b5, .int .i64 b6, .int .i64 b7, .int .i64 start, .slice A2 n2 cp2] 64).alloc _).keeps h2 (fun e => by omega), h1⟩)
  clear hm hb hpl hal hg hR hA hAct
  cases hok : bridgeOk ⟨prio, [q0, q1, q2, q3, q4, q5], ports, places, [b0, b1, b2, b3, b4, b5, b6, b7], start⟩ with
  | false =>
    have HTX := Lib.hid (HBAD.out hok)
    rw [HEB.out (by rw [hok]; decide)] at HBC
    clear hok HIF HBD HLN HCL
    go_enter Tryz.func28, Tryz.ntmps28
    go_wp2_with (first | (refine wpList_getM rfl 61 (.tmp 15) rfl w.heap.size 0 rfl [.int .i64 prio, .int .u8 q0, .int .u8 q1, .int .u8 q2, .int .u8 q3, .int .u8 q4, .int .u8 q5, .slice A m cp, .int .i64 places, .int .i64 b0, .int .i64 b1, .int .i64 b2, .int .i64 b3, .int .i64 b4, .int .i64 b5, .int .i64 b6, .int .i64 b7, .int .i64 start] [.int .i64 prio, .int .u8 q0, .int .u8 q1, .int .u8 q2, .int .u8 q3, .int .u8 q4, .int .u8 q5, .slice A m cp, .int .i64 places, .int .i64 b0, .int .i64 b1, .int .i64 b2, .int .i64 b3, .int .i64 b4, .int .i64 b5, .int .i64 b6, .int .i64 b7, .int .i64 start, .slice A2 n2 cp2] 64 (Blk.new w [.int .i64 prio, .int .u8 q0, .int .u8 q1, .int .u8 q2, .int .u8 q3, .int .u8 q4, .int .u8 q5, .slice A m cp, .int .i64 places, .int .i64 b0, .int .i64 b1, .int .i64 b2, .int .i64 b3, .int .i64 b4, .int .i64 b5, .int .i64 b6, .int .i64 b7, .int .i64 start, .slice A2 n2 cp2] 64) rfl _ Tryz.underlying61 rfl size61 ?_) | (refine wpList_putB rfl 61 (.tmp 4) (.tmp 16) rfl (w.heap.size + 1) [.int .i64 prio, .int .u8 q0, .int .u8 q1, .int .u8 q2, .int .u8 q3, .int .u8 q4, .int .u8 q5, .slice A m cp, .int .i64 places, .int .i64 b0, .int .i64 b1, .int .i64 b2, .int .i64 b3, .int .i64 b4, .int .i64 b5, .int .i64 b6, .int .i64 b7, .int .i64 start] rfl rfl 61 cf0 HZ.out size61 rfl (by simp [Value.oneCell']) ?_; intro w2 hr2 k2; have HT2 := Lib.hid (HT0.out w2 hr2 k2); clear hr2 k2) | (refine wpList_getM rfl 61 (.tmp 4) rfl (w.heap.size + 1) 0 rfl [.int .i64 prio, .int .u8 q0, .int .u8 q1, .int .u8 q2, .int .u8 q3, .int .u8 q4, .int .u8 q5, .slice A m cp, .int .i64 places, .int .i64 b0, .int .i64 b1, .int .i64 b2, .int .i64 b3, .int .i64 b4, .int .i64 b5, .int .i64 b6, .int .i64 b7, .int .i64 start] [.int .i64 prio, .int .u8 q0, .int .u8 q1, .int .u8 q2, .int .u8 q3, .int .u8 q4, .int .u8 q5, .slice A m cp, .int .i64 places, .int .i64 b0, .int .i64 b1, .int .i64 b2, .int .i64 b3, .int .i64 b4, .int .i64 b5, .int .i64 b6, .int .i64 b7, .int .i64 start] 61 HT2.out.c rfl _ Tryz.underlying61 rfl size61 ?_) | (go_at_call 34; refine (HBC.out _ (HR.out.still HT2.out.k)).mono ?_; rintro ev w3 ⟨rfl, k3⟩; have HT3 := Lib.hid (HT2.out.same k3); clear k3))
    go_ret2
    refine ⟨?_, HT3.out.k⟩
    unfold STextIs
    rw [HTX.out]
    exact ⟨_, rfl, rfl⟩
  | true =>
    rw [HEO.out hok] at HBC
    have HOK := Lib.hid hok
    have HIFF := Lib.hid (HIF.out.1 hok)
    clear hok HIF HBAD HEB HEO
    go_enter Tryz.func28, Tryz.ntmps28
    go_upto_region 5 with (first | (refine wpList_getM rfl 61 (.tmp 15) rfl w.heap.size 0 rfl [.int .i64 prio, .int .u8 q0, .int .u8 q1, .int .u8 q2, .int .u8 q3, .int .u8 q4, .int .u8 q5, .slice A m cp, .int .i64 places, .int .i64 b0, .int .i64 b1, .int .i64 b2, .int .i64 b3, .int .i64 b4, .int .i64 b5, .int .i64 b6, .int .i64 b7, .int .i64 start] [.int .i64 prio, .int .u8 q0, .int .u8 q1, .int .u8 q2, .int .u8 q3, .int .u8 q4, .int .u8 q5, .slice A m cp, .int .i64 places, .int .i64 b0, .int .i64 b1, .int .i64 b2, .int .i64 b3, .int .i64 b4, .int .i64 b5, .int .i64 b6, .int .i64 b7, .int .i64 start, .slice A2 n2 cp2] 64 (Blk.new w [.int .i64 prio, .int .u8 q0, .int .u8 q1, .int .u8 q2, .int .u8 q3, .int .u8 q4, .int .u8 q5, .slice A m cp, .int .i64 places, .int .i64 b0, .int .i64 b1, .int .i64 b2, .int .i64 b3, .int .i64 b4, .int .i64 b5, .int .i64 b6, .int .i64 b7, .int .i64 start, .slice A2 n2 cp2] 64) rfl _ Tryz.underlying61 rfl size61 ?_) | (refine wpList_putB rfl 61 (.tmp 4) (.tmp 16) rfl (w.heap.size + 1) [.int .i64 prio, .int .u8 q0, .int .u8 q1, .int .u8 q2, .int .u8 q3, .int .u8 q4, .int .u8 q5, .slice A m cp, .int .i64 places, .int .i64 b0, .int .i64 b1, .int .i64 b2, .int .i64 b3, .int .i64 b4, .int .i64 b5, .int .i64 b6, .int .i64 b7, .int .i64 start] rfl rfl 61 cf0 HZ.out size61 rfl (by simp [Value.oneCell']) ?_; intro w2 hr2 k2; have HT2 := Lib.hid (HT0.out w2 hr2 k2); clear hr2 k2) | (refine wpList_getM rfl 61 (.tmp 4) rfl (w.heap.size + 1) 0 rfl [.int .i64 prio, .int .u8 q0, .int .u8 q1, .int .u8 q2, .int .u8 q3, .int .u8 q4, .int .u8 q5, .slice A m cp, .int .i64 places, .int .i64 b0, .int .i64 b1, .int .i64 b2, .int .i64 b3, .int .i64 b4, .int .i64 b5, .int .i64 b6, .int .i64 b7, .int .i64 start] [.int .i64 prio, .int .u8 q0, .int .u8 q1, .int .u8 q2, .int .u8 q3, .int .u8 q4, .int .u8 q5, .slice A m cp, .int .i64 places, .int .i64 b0, .int .i64 b1, .int .i64 b2, .int .i64 b3, .int .i64 b4, .int .i64 b5, .int .i64 b6, .int .i64 b7, .int .i64 start] 61 HT2.out.c rfl _ Tryz.underlying61 rfl size61 ?_) | (go_at_call 34; refine (HBC.out _ (HR.out.still HT2.out.k)).mono ?_; rintro ev w3 ⟨rfl, k3⟩; have HT3 := Lib.hid (HT2.out.same k3); clear k3))
    generalize (Value.agg #[.int .i64 prio, .int .u8 q0, .int .u8 q1, .int .u8 q2, .int .u8 q3, .int .u8 q4, .int .u8 q5, .slice A m cp, .int .i64 places, .int .i64 b0, .int .i64 b1, .int .i64 b2, .int .i64 b3, .int .i64 b4, .int .i64 b5, .int .i64 b6, .int .i64 b7, .int .i64 start, .slice A2 n2 cp2]) = V0
    generalize (Value.agg #[.int .i64 prio, .int .u8 q0, .int .u8 q1, .int .u8 q2, .int .u8 q3, .int .u8 q4, .int .u8 q5, .slice A m cp, .int .i64 places, .int .i64 b0, .int .i64 b1, .int .i64 b2, .int .i64 b3, .int .i64 b4, .int .i64 b5, .int .i64 b6, .int .i64 b7, .int .i64 start]) = V1
    have HSM := Lib.hid (fun w' => same_ok b0 w')
    by_cases hb0 : b0 < 0
    · have HTX := Lib.hid (HBD.out HOK.out (.inl hb0))
      have hd : decide (b0 < 0) = true := decide_eq_true hb0
      have e9 : w3.cell? ⟨w.heap.size + 1, 9, none⟩ = some (.int .i64 b0) := HT3.out.c.cell 9
      clear HBD HLN HCL HIFF HBC hb0
      go_quiet (fail)
      go_wp2
      go_ret2
      refine ⟨?_, HT3.out.k.drewN _⟩
      unfold STextIs
      rw [HTX.out]
      exact ⟨_, rfl, rfl⟩
    · have hd : decide (b0 < 0) = false := decide_eq_false hb0
      by_cases heq : [b0, b1, b2, b3, b4, b5, b6, b7] = List.replicate 8 b0
      · have hq : b0 = b1 ∧ b0 = b2 ∧ b0 = b3 ∧ b0 = b4 ∧ b0 = b5 ∧ b0 = b6 ∧ b0 = b7 := by simp [List.replicate] at heq; omega
        obtain ⟨rfl, rfl, rfl, rfl, rfl, rfl, rfl⟩ := hq
        have hneq : ∀ w, (binOp .neq 59 (.agg #[.int .i64 b0, .int .i64 b0, .int .i64 b0, .int .i64 b0, .int .i64 b0, .int .i64 b0, .int .i64 b0, .int .i64 b0]) (.agg #[.int .i64 b0, .int .i64 b0, .int .i64 b0, .int .i64 b0, .int .i64 b0, .int .i64 b0, .int .i64 b0, .int .i64 b0])).run Tryz.prog w = .ok (.bool false) w := fun w => by
          rw [neq_eight]; simp
        have f9 : w3.drew.cell? ⟨w.heap.size + 1, 9, none⟩ = some (.int .i64 b0) := HT3.out.c.cell 9; have f10 : w3.drew.cell? ⟨w.heap.size + 1, 10, none⟩ = some (.int .i64 b0) := HT3.out.c.cell 10; have f11 : w3.drew.cell? ⟨w.heap.size + 1, 11, none⟩ = some (.int .i64 b0) := HT3.out.c.cell 11; have f12 : w3.drew.cell? ⟨w.heap.size + 1, 12, none⟩ = some (.int .i64 b0) := HT3.out.c.cell 12; have f13 : w3.drew.cell? ⟨w.heap.size + 1, 13, none⟩ = some (.int .i64 b0) := HT3.out.c.cell 13; have f14 : w3.drew.cell? ⟨w.heap.size + 1, 14, none⟩ = some (.int .i64 b0) := HT3.out.c.cell 14; have f15 : w3.drew.cell? ⟨w.heap.size + 1, 15, none⟩ = some (.int .i64 b0) := HT3.out.c.cell 15; have f16 : w3.drew.cell? ⟨w.heap.size + 1, 16, none⟩ = some (.int .i64 b0) := HT3.out.c.cell 16
        by_cases hb1 : 1073741824 < b0
        · have HTX := Lib.hid (HBD.out HOK.out (.inr (.inr hb1)))
          have hd2 : decide (1073741824 < b0) = true := decide_eq_true hb1
          clear HBD HLN HCL HIFF HBC hb0 hb1 heq
          go_region_held3 (fun v => v.cell? ⟨w.heap.size + 1, 9, none⟩ = some (.int .i64 b0) ∧ v.cell? ⟨w.heap.size + 1, 10, none⟩ = some (.int .i64 b0) ∧ v.cell? ⟨w.heap.size + 1, 11, none⟩ = some (.int .i64 b0) ∧ v.cell? ⟨w.heap.size + 1, 12, none⟩ = some (.int .i64 b0) ∧ v.cell? ⟨w.heap.size + 1, 13, none⟩ = some (.int .i64 b0) ∧ v.cell? ⟨w.heap.size + 1, 14, none⟩ = some (.int .i64 b0) ∧ v.cell? ⟨w.heap.size + 1, 15, none⟩ = some (.int .i64 b0) ∧ v.cell? ⟨w.heap.size + 1, 16, none⟩ = some (.int .i64 b0)) (first | exact ⟨f9, f10, f11, f12, f13, f14, f15, f16⟩ | exact ⟨g9, g10, g11, g12, g13, g14, g15, g16⟩) (first | (go_at_call 56; refine (HSM.out _).mono ?_; rintro ev w4 ⟨rfl, k4⟩; have HT4 := Lib.hid (HT3.out.same ((Keeps.refl Nothing w3).drew.same k4)); have g9 : w4.cell? ⟨w.heap.size + 1, 9, none⟩ = some (.int .i64 b0) := HT4.out.c.cell 9; have g10 : w4.cell? ⟨w.heap.size + 1, 10, none⟩ = some (.int .i64 b0) := HT4.out.c.cell 10; have g11 : w4.cell? ⟨w.heap.size + 1, 11, none⟩ = some (.int .i64 b0) := HT4.out.c.cell 11; have g12 : w4.cell? ⟨w.heap.size + 1, 12, none⟩ = some (.int .i64 b0) := HT4.out.c.cell 12; have g13 : w4.cell? ⟨w.heap.size + 1, 13, none⟩ = some (.int .i64 b0) := HT4.out.c.cell 13; have g14 : w4.cell? ⟨w.heap.size + 1, 14, none⟩ = some (.int .i64 b0) := HT4.out.c.cell 14; have g15 : w4.cell? ⟨w.heap.size + 1, 15, none⟩ = some (.int .i64 b0) := HT4.out.c.cell 15; have g16 : w4.cell? ⟨w.heap.size + 1, 16, none⟩ = some (.int .i64 b0) := HT4.out.c.cell 16; clear k4))
          all_goals
            go_wp2
            go_ret2
            refine ⟨?_, HT4.out.k⟩
            unfold STextIs
            rw [HTX.out]
            exact ⟨_, rfl, rfl⟩
        · exact absurd ⟨HOK.out, by intro hx; rcases hx with hx | hx | hx; exact hb0 hx; exact hx rfl; exact hb1 hx⟩ HBX.out
      · have HTX := Lib.hid (HBD.out HOK.out (.inr (.inl heq)))
        have hneq : ∀ w, (binOp .neq 59 (.agg #[.int .i64 b0, .int .i64 b1, .int .i64 b2, .int .i64 b3, .int .i64 b4, .int .i64 b5, .int .i64 b6, .int .i64 b7]) (.agg #[.int .i64 b0, .int .i64 b0, .int .i64 b0, .int .i64 b0, .int .i64 b0, .int .i64 b0, .int .i64 b0, .int .i64 b0])).run Tryz.prog w = .ok (.bool true) w := fun w => by
          rw [neq_eight]
          rw [decide_eq_false (by simpa [List.replicate] using heq)]
          rfl
        have f9 : w3.drew.cell? ⟨w.heap.size + 1, 9, none⟩ = some (.int .i64 b0) := HT3.out.c.cell 9; have f10 : w3.drew.cell? ⟨w.heap.size + 1, 10, none⟩ = some (.int .i64 b1) := HT3.out.c.cell 10; have f11 : w3.drew.cell? ⟨w.heap.size + 1, 11, none⟩ = some (.int .i64 b2) := HT3.out.c.cell 11; have f12 : w3.drew.cell? ⟨w.heap.size + 1, 12, none⟩ = some (.int .i64 b3) := HT3.out.c.cell 12; have f13 : w3.drew.cell? ⟨w.heap.size + 1, 13, none⟩ = some (.int .i64 b4) := HT3.out.c.cell 13; have f14 : w3.drew.cell? ⟨w.heap.size + 1, 14, none⟩ = some (.int .i64 b5) := HT3.out.c.cell 14; have f15 : w3.drew.cell? ⟨w.heap.size + 1, 15, none⟩ = some (.int .i64 b6) := HT3.out.c.cell 15; have f16 : w3.drew.cell? ⟨w.heap.size + 1, 16, none⟩ = some (.int .i64 b7) := HT3.out.c.cell 16
        clear HBD HLN HCL HIFF HBC hb0 heq
        first | (go_region_with (first | (go_at_call 56; refine (HSM.out _).mono ?_; rintro ev w4 ⟨rfl, k4⟩; have HT4 := Lib.hid (HT3.out.same ((Keeps.refl Nothing w3).drew.same k4)); have g9 : w4.cell? ⟨w.heap.size + 1, 9, none⟩ = some (.int .i64 b0) := HT4.out.c.cell 9; have g10 : w4.cell? ⟨w.heap.size + 1, 10, none⟩ = some (.int .i64 b1) := HT4.out.c.cell 10; have g11 : w4.cell? ⟨w.heap.size + 1, 11, none⟩ = some (.int .i64 b2) := HT4.out.c.cell 11; have g12 : w4.cell? ⟨w.heap.size + 1, 12, none⟩ = some (.int .i64 b3) := HT4.out.c.cell 12; have g13 : w4.cell? ⟨w.heap.size + 1, 13, none⟩ = some (.int .i64 b4) := HT4.out.c.cell 13; have g14 : w4.cell? ⟨w.heap.size + 1, 14, none⟩ = some (.int .i64 b5) := HT4.out.c.cell 14; have g15 : w4.cell? ⟨w.heap.size + 1, 15, none⟩ = some (.int .i64 b6) := HT4.out.c.cell 15; have g16 : w4.cell? ⟨w.heap.size + 1, 16, none⟩ = some (.int .i64 b7) := HT4.out.c.cell 16; clear k4))) | fail
        all_goals
          go_wp2
          go_ret2
          refine ⟨?_, HT4.out.k⟩
          unfold STextIs
          rw [HTX.out]
          exact ⟨_, rfl, rfl⟩
end Go.Proofs.YtdncojofilnhnaaGreatDoor
