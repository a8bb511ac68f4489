/- script.Text: the walk of what can be written for its switch. -/
import Derived.Test.YtdncojofilnhnaaGreatDoorTxB
import Derived.Test.YtdncojofilnhnaaGreatDoorBrD
import Derived.Test.YtdncojofilnhnaaGreatDoorLineW
import Derived.Deep.RegionWith
import Derived.Test.YtdncojofilnhnaaGreatDoorEqA
import Derived.Deep.QuietTactic
import Derived.BigQuiet
import Derived.WalkMore
namespace Go.Proofs.YtdncojofilnhnaaGreatDoor
open Go.RowKit Go.Lib

theorem act0_len : act0.length = 12 := rfl

set_option maxRecDepth 100000 in
set_option maxHeartbeats 16000000 in
theorem text_great (c : Cf) (acs : List Ac) (cs : List (List Value)) (A A2 : Option Addr) (m cp n2 cp2 : Nat) (hm : MacIs c.mac) (hb : c.bounds.length = 8) (hpl : c.ports.length ≤ 140737488355328) (hal : acs.length ≤ 3000) {w : World} (hg : Gl w)
    (hR : RecsR w (.slice A m cp) 2 (c.ports.map ptC)) (hA : RecsR w (.slice A2 n2 cp2) 12 cs) (hAct : All2 (ActR w) acs cs) (hbx : bridgeOk c = true ∧ ¬ (c.bounds.headD 0 < 0 ∨ c.bounds ≠ List.replicate 8 (c.bounds.headD 0) ∨ 1073741824 < c.bounds.headD 0)) :
    Calls Tryz.prog 28 #[.agg (cfC c (.slice A m cp) ++ [Value.slice A2 n2 cp2] : List Value).toArray] w fun ev w' => STextIs w' c acs ev ∧ Keeps Nothing w w' := by
  have HBC := Lib.hid (fun (w' : World) (h : RecsR w' (.slice A m cp) 2 (c.ports.map ptC)) => bridge_check c hm hb (.slice A m cp) hpl w' h)
  have HBAD := Lib.hid (fun h => text_bad (c := c) (acs := acs) h)
  have HBD := Lib.hid (fun h h' => text_bounds (c := c) (acs := acs) h h')
  have HLN := Lib.hid (fun h h' => text_lines (c := c) (acs := acs) h h')
  have HIF := Lib.hid (bridgeOk_iff c)
  have HBX := Lib.hid hbx
  clear hbx
  have HEB := Lib.hid (@bridgeE_bad c)
  have HEO := Lib.hid (@bridgeE_ok c)
  have HCL := Lib.hid (@conf_len c hm)
  obtain ⟨prio, mac, ports, places, bounds, start⟩ := c
  obtain ⟨q0, q1, q2, q3, q4, q5, hq⟩ := sixOf hm.1
  obtain rfl : mac = [q0, q1, q2, q3, q4, q5] := hq
  obtain ⟨b0, b1, b2, b3, b4, b5, b6, b7, hbq⟩ := eightOf hb
  obtain rfl : bounds = [b0, b1, b2, b3, b4, b5, b6, b7] := hbq
  have HM := Lib.hid hm
  have HG := Lib.hid hg
  have HR := Lib.hid hR
  have HA := Lib.hid hA
  have HAct := Lib.hid hAct
  have HPL := Lib.hid hpl
  have HAL := Lib.hid hal
  show Calls Tryz.prog 28 #[.agg #[.int .i64 prio, .int .u8 q0, .int .u8 q1, .int .u8 q2, .int .u8 q3, .int .u8 q4, .int .u8 q5, .slice A m cp, .int .i64 places, .int .i64 b0, .int .i64 b1, .int .i64 b2, .int .i64 b3, .int .i64 b4, .int .i64 b5, .int .i64 b6, .int .i64 b7, .int .i64 start, .slice A2 n2 cp2]] w _
  have HZ : Hid (Blk ((w.alloc (.cells [.int .i64 prio, .int .u8 q0, .int .u8 q1, .int .u8 q2, .int .u8 q3, .int .u8 q4, .int .u8 q5, .slice A m cp, .int .i64 places, .int .i64 b0, .int .i64 b1, .int .i64 b2, .int .i64 b3, .int .i64 b4, .int .i64 b5, .int .i64 b6, .int .i64 b7, .int .i64 start, .slice A2 n2 cp2].toArray 64)).alloc (.cells cf0.toArray 61)) (w.heap.size + 1) cf0 61) := Lib.hid (by
    have := Blk.new (w.alloc (.cells [.int .i64 prio, .int .u8 q0, .int .u8 q1, .int .u8 q2, .int .u8 q3, .int .u8 q4, .int .u8 q5, .slice A m cp, .int .i64 places, .int .i64 b0, .int .i64 b1, .int .i64 b2, .int .i64 b3, .int .i64 b4, .int .i64 b5, .int .i64 b6, .int .i64 b7, .int .i64 start, .slice A2 n2 cp2].toArray 64)) cf0 61
    rw [show (w.alloc (.cells [.int .i64 prio, .int .u8 q0, .int .u8 q1, .int .u8 q2, .int .u8 q3, .int .u8 q4, .int .u8 q5, .slice A m cp, .int .i64 places, .int .i64 b0, .int .i64 b1, .int .i64 b2, .int .i64 b3, .int .i64 b4, .int .i64 b5, .int .i64 b6, .int .i64 b7, .int .i64 start, .slice A2 n2 cp2].toArray 64)).heap.size = w.heap.size + 1 by simp] at this
    exact this)
  have HT0 : Hid (∀ w2, Blk w2 (w.heap.size + 1) [.int .i64 prio, .int .u8 q0, .int .u8 q1, .int .u8 q2, .int .u8 q3, .int .u8 q4, .int .u8 q5, .slice A m cp, .int .i64 places, .int .i64 b0, .int .i64 b1, .int .i64 b2, .int .i64 b3, .int .i64 b4, .int .i64 b5, .int .i64 b6, .int .i64 b7, .int .i64 start] 61 → Keeps (fun k => k = w.heap.size + 1) ((w.alloc (.cells [.int .i64 prio, .int .u8 q0, .int .u8 q1, .int .u8 q2, .int .u8 q3, .int .u8 q4, .int .u8 q5, .slice A m cp, .int .i64 places, .int .i64 b0, .int .i64 b1, .int .i64 b2, .int .i64 b3, .int .i64 b4, .int .i64 b5, .int .i64 b6, .int .i64 b7, .int .i64 start, .slice A2 n2 cp2].toArray 64)).alloc (.cells cf0.toArray 61)) w2 → TxS w w2 [.int .i64 prio, .int .u8 q0, .int .u8 q1, .int .u8 q2, .int .u8 q3, .int .u8 q4, .int .u8 q5, .slice A m cp, .int .i64 places, .int .i64 b0, .int .i64 b1, .int .i64 b2, .int .i64 b3, .int .i64 b4, .int .i64 b5, .int .i64 b6, .int .i64 b7, .int .i64 start] (.slice A2 n2 cp2)) := Lib.hid (fun w2 h1 h2 => by
    have k0 : Keeps Nothing w ((w.alloc (.cells [.int .i64 prio, .int .u8 q0, .int .u8 q1, .int .u8 q2, .int .u8 q3, .int .u8 q4, .int .u8 q5, .slice A m cp, .int .i64 places, .int .i64 b0, .int .i64 b1, .int .i64 b2, .int .i64 b3, .int .i64 b4, .int .i64 b5, .int .i64 b6, .int .i64 b7, .int .i64 start, .slice A2 n2 cp2].toArray 64)).alloc (.cells cf0.toArray 61)) := ((Keeps.refl Nothing w).alloc _).alloc _
    have k1 := k0.up h2 (fun k e => by omega)
    exact ⟨hg.same k1, k1, ((Blk.new w [.int .i64 prio, .int .u8 q0, .int .u8 q1, .int .u8 q2, .int .u8 q3, .int .u8 q4, .int .u8 q5, .slice A m cp, .int .i64 places, .int .i64 b0, .int .i64 b1, .int .i64 b2, .int .i64 b3, .int .i64 b4, .int .i64 b5, .int .i64 b6, .int .i64 b7, .int .i64 start, .slice A2 n2 cp2] 64).alloc _).keeps h2 (fun e => by omega), h1⟩)
  clear hm hb hpl hal hg hR hA hAct
  cases hok : bridgeOk ⟨prio, [q0, q1, q2, q3, q4, q5], ports, places, [b0, b1, b2, b3, b4, b5, b6, b7], start⟩ with
  | false =>
    exact absurd HBX.out.1 (by rw [hok]; decide)
  | true =>
    rw [HEO.out hok] at HBC
    have HOK := Lib.hid hok
    have HIFF := Lib.hid (HIF.out.1 hok)
    clear hok HIF HBAD HEB HEO
    go_enter Tryz.func28, Tryz.ntmps28
    go_upto_region 5 with (first | (refine wpList_getM rfl 61 (.tmp 15) rfl w.heap.size 0 rfl [.int .i64 prio, .int .u8 q0, .int .u8 q1, .int .u8 q2, .int .u8 q3, .int .u8 q4, .int .u8 q5, .slice A m cp, .int .i64 places, .int .i64 b0, .int .i64 b1, .int .i64 b2, .int .i64 b3, .int .i64 b4, .int .i64 b5, .int .i64 b6, .int .i64 b7, .int .i64 start] [.int .i64 prio, .int .u8 q0, .int .u8 q1, .int .u8 q2, .int .u8 q3, .int .u8 q4, .int .u8 q5, .slice A m cp, .int .i64 places, .int .i64 b0, .int .i64 b1, .int .i64 b2, .int .i64 b3, .int .i64 b4, .int .i64 b5, .int .i64 b6, .int .i64 b7, .int .i64 start, .slice A2 n2 cp2] 64 (Blk.new w [.int .i64 prio, .int .u8 q0, .int .u8 q1, .int .u8 q2, .int .u8 q3, .int .u8 q4, .int .u8 q5, .slice A m cp, .int .i64 places, .int .i64 b0, .int .i64 b1, .int .i64 b2, .int .i64 b3, .int .i64 b4, .int .i64 b5, .int .i64 b6, .int .i64 b7, .int .i64 start, .slice A2 n2 cp2] 64) rfl _ Tryz.underlying61 rfl size61 ?_) | (refine wpList_putB rfl 61 (.tmp 4) (.tmp 16) rfl (w.heap.size + 1) [.int .i64 prio, .int .u8 q0, .int .u8 q1, .int .u8 q2, .int .u8 q3, .int .u8 q4, .int .u8 q5, .slice A m cp, .int .i64 places, .int .i64 b0, .int .i64 b1, .int .i64 b2, .int .i64 b3, .int .i64 b4, .int .i64 b5, .int .i64 b6, .int .i64 b7, .int .i64 start] rfl rfl 61 cf0 HZ.out size61 rfl (by simp [Value.oneCell']) ?_; intro w2 hr2 k2; have HT2 := Lib.hid (HT0.out w2 hr2 k2); clear hr2 k2) | (refine wpList_getM rfl 61 (.tmp 4) rfl (w.heap.size + 1) 0 rfl [.int .i64 prio, .int .u8 q0, .int .u8 q1, .int .u8 q2, .int .u8 q3, .int .u8 q4, .int .u8 q5, .slice A m cp, .int .i64 places, .int .i64 b0, .int .i64 b1, .int .i64 b2, .int .i64 b3, .int .i64 b4, .int .i64 b5, .int .i64 b6, .int .i64 b7, .int .i64 start] [.int .i64 prio, .int .u8 q0, .int .u8 q1, .int .u8 q2, .int .u8 q3, .int .u8 q4, .int .u8 q5, .slice A m cp, .int .i64 places, .int .i64 b0, .int .i64 b1, .int .i64 b2, .int .i64 b3, .int .i64 b4, .int .i64 b5, .int .i64 b6, .int .i64 b7, .int .i64 start] 61 HT2.out.c rfl _ Tryz.underlying61 rfl size61 ?_) | (go_at_call 34; refine (HBC.out _ (HR.out.still HT2.out.k)).mono ?_; rintro ev w3 ⟨rfl, k3⟩; have HT3 := Lib.hid (HT2.out.same k3); clear k3))
    generalize (Value.agg #[.int .i64 prio, .int .u8 q0, .int .u8 q1, .int .u8 q2, .int .u8 q3, .int .u8 q4, .int .u8 q5, .slice A m cp, .int .i64 places, .int .i64 b0, .int .i64 b1, .int .i64 b2, .int .i64 b3, .int .i64 b4, .int .i64 b5, .int .i64 b6, .int .i64 b7, .int .i64 start, .slice A2 n2 cp2]) = V0
    generalize (Value.agg #[.int .i64 prio, .int .u8 q0, .int .u8 q1, .int .u8 q2, .int .u8 q3, .int .u8 q4, .int .u8 q5, .slice A m cp, .int .i64 places, .int .i64 b0, .int .i64 b1, .int .i64 b2, .int .i64 b3, .int .i64 b4, .int .i64 b5, .int .i64 b6, .int .i64 b7, .int .i64 start]) = V1
    have HSM := Lib.hid (fun w' => same_ok b0 w')
    by_cases hb0 : b0 < 0
    · exact absurd (.inl hb0) HBX.out.2
    · have hd : decide (b0 < 0) = false := decide_eq_false hb0
      by_cases heq : [b0, b1, b2, b3, b4, b5, b6, b7] = List.replicate 8 b0
      · have hq : b0 = b1 ∧ b0 = b2 ∧ b0 = b3 ∧ b0 = b4 ∧ b0 = b5 ∧ b0 = b6 ∧ b0 = b7 := by simp [List.replicate] at heq; omega
        obtain ⟨rfl, rfl, rfl, rfl, rfl, rfl, rfl⟩ := hq
        have hneq : ∀ w, (binOp .neq 59 (.agg #[.int .i64 b0, .int .i64 b0, .int .i64 b0, .int .i64 b0, .int .i64 b0, .int .i64 b0, .int .i64 b0, .int .i64 b0]) (.agg #[.int .i64 b0, .int .i64 b0, .int .i64 b0, .int .i64 b0, .int .i64 b0, .int .i64 b0, .int .i64 b0, .int .i64 b0])).run Tryz.prog w = .ok (.bool false) w := fun w => by
          rw [neq_eight]; simp
        have f9 : w3.drew.cell? ⟨w.heap.size + 1, 9, none⟩ = some (.int .i64 b0) := HT3.out.c.cell 9; have f10 : w3.drew.cell? ⟨w.heap.size + 1, 10, none⟩ = some (.int .i64 b0) := HT3.out.c.cell 10; have f11 : w3.drew.cell? ⟨w.heap.size + 1, 11, none⟩ = some (.int .i64 b0) := HT3.out.c.cell 11; have f12 : w3.drew.cell? ⟨w.heap.size + 1, 12, none⟩ = some (.int .i64 b0) := HT3.out.c.cell 12; have f13 : w3.drew.cell? ⟨w.heap.size + 1, 13, none⟩ = some (.int .i64 b0) := HT3.out.c.cell 13; have f14 : w3.drew.cell? ⟨w.heap.size + 1, 14, none⟩ = some (.int .i64 b0) := HT3.out.c.cell 14; have f15 : w3.drew.cell? ⟨w.heap.size + 1, 15, none⟩ = some (.int .i64 b0) := HT3.out.c.cell 15; have f16 : w3.drew.cell? ⟨w.heap.size + 1, 16, none⟩ = some (.int .i64 b0) := HT3.out.c.cell 16
        by_cases hb1 : 1073741824 < b0
        · exact absurd (.inr (.inr hb1)) HBX.out.2
        · have hd2 : decide (1073741824 < b0) = false := decide_eq_false hb1
          have HTX := Lib.hid (HLN.out HOK.out (by intro hx; rcases hx with hx | hx | hx; exact hb0 hx; exact hx rfl; exact hb1 hx))
          have HB0 : Hid (0 ≤ b0 ∧ b0 ≤ 1073741824) := Lib.hid ⟨by omega, by omega⟩
          clear HBD HLN HBC hb0 hb1 heq
          go_region_held3 (fun v => v.cell? ⟨w.heap.size + 1, 9, none⟩ = some (.int .i64 b0) ∧ v.cell? ⟨w.heap.size + 1, 10, none⟩ = some (.int .i64 b0) ∧ v.cell? ⟨w.heap.size + 1, 11, none⟩ = some (.int .i64 b0) ∧ v.cell? ⟨w.heap.size + 1, 12, none⟩ = some (.int .i64 b0) ∧ v.cell? ⟨w.heap.size + 1, 13, none⟩ = some (.int .i64 b0) ∧ v.cell? ⟨w.heap.size + 1, 14, none⟩ = some (.int .i64 b0) ∧ v.cell? ⟨w.heap.size + 1, 15, none⟩ = some (.int .i64 b0) ∧ v.cell? ⟨w.heap.size + 1, 16, none⟩ = some (.int .i64 b0)) (first | exact ⟨f9, f10, f11, f12, f13, f14, f15, f16⟩ | exact ⟨g9, g10, g11, g12, g13, g14, g15, g16⟩) (first | (go_at_call 56; refine (HSM.out _).mono ?_; rintro ev w4 ⟨rfl, k4⟩; have HT4 := Lib.hid (HT3.out.same ((Keeps.refl Nothing w3).drew.same k4)); have g9 : w4.cell? ⟨w.heap.size + 1, 9, none⟩ = some (.int .i64 b0) := HT4.out.c.cell 9; have g10 : w4.cell? ⟨w.heap.size + 1, 10, none⟩ = some (.int .i64 b0) := HT4.out.c.cell 10; have g11 : w4.cell? ⟨w.heap.size + 1, 11, none⟩ = some (.int .i64 b0) := HT4.out.c.cell 11; have g12 : w4.cell? ⟨w.heap.size + 1, 12, none⟩ = some (.int .i64 b0) := HT4.out.c.cell 12; have g13 : w4.cell? ⟨w.heap.size + 1, 13, none⟩ = some (.int .i64 b0) := HT4.out.c.cell 13; have g14 : w4.cell? ⟨w.heap.size + 1, 14, none⟩ = some (.int .i64 b0) := HT4.out.c.cell 14; have g15 : w4.cell? ⟨w.heap.size + 1, 15, none⟩ = some (.int .i64 b0) := HT4.out.c.cell 15; have g16 : w4.cell? ⟨w.heap.size + 1, 16, none⟩ = some (.int .i64 b0) := HT4.out.c.cell 16; clear k4))
          clear hneq hd hd2 HSM f9 f10 f11 f12 f13 f14 f15 f16 g10 g11 g12 g13 g14 g15 g16 HT3
          go_upto_region 7 with fail
          obtain ⟨r1, r2, r3, r4, r5, r6, r7, r8, r9, r10, -⟩ := HIFF.out
          have HI1 := Lib.hid (fun (w' : World) (hg : Gl w') => itoa_ok prio (by have : (0 : Int) ≤ prio := r8; omega) (by have : prio ≤ 61440 := r9; omega) (w := w') hg)
          have HI2 := Lib.hid (fun (w' : World) (hg : Gl w') => itoa_ok places (by have : (0 : Int) ≤ places := r4; omega) (by have : places ≤ 4096 := r5; omega) (w := w') hg)
          have HI3 := Lib.hid (fun (w' : World) (hg : Gl w') => itoa_ok b0 (by have := HB0.out; omega) (by have := HB0.out; omega) (w := w') hg)
          have HI4 := Lib.hid (fun (w' : World) (hg : Gl w') => fmt_ok start (by have : (0 : Int) ≤ start := r6; omega) (by have : start < 4611686018427387904 := r7; omega) (w := w') hg)
          have HI5 := Lib.hid (fun (w' : World) => macText_ok [q0, q1, q2, q3, q4, q5] HM.out w')
          clear r1 r2 r3 r4 r5 r6 r7 r8 r9 r10
          obtain ⟨t_p, htp⟩ : ∃ x, x = itoa prio := ⟨_, rfl⟩
          obtain ⟨t_l, htl⟩ : ∃ x, x = itoa places := ⟨_, rfl⟩
          obtain ⟨t_b, htb⟩ : ∃ x, x = itoa b0 := ⟨_, rfl⟩
          obtain ⟨t_s, hts⟩ : ∃ x, x = itoa start := ⟨_, rfl⟩
          obtain ⟨t_m, htm⟩ : ∃ x, x = macText [q0, q1, q2, q3, q4, q5] := ⟨_, rfl⟩
          rw [← htp] at HI1
          rw [← htl] at HI2
          rw [← htb] at HI3
          rw [← hts] at HI4
          rw [← htm] at HI5
          have HTP := Lib.hid htp
          have HTL := Lib.hid htl
          have HTB := Lib.hid htb
          have HTS := Lib.hid hts
          have HTM := Lib.hid htm
          clear htp htl htb hts htm
          have t1 : True := trivial
          have t2 : True := trivial
          have f0 : w4.drew.cell? ⟨w.heap.size + 1, 0, none⟩ = some (.int .i64 prio) := HT4.out.c.cell 0; have f1 : w4.drew.cell? ⟨w.heap.size + 1, 1, none⟩ = some (.int .u8 q0) := HT4.out.c.cell 1; have f2 : w4.drew.cell? ⟨w.heap.size + 1, 2, none⟩ = some (.int .u8 q1) := HT4.out.c.cell 2; have f3 : w4.drew.cell? ⟨w.heap.size + 1, 3, none⟩ = some (.int .u8 q2) := HT4.out.c.cell 3; have f4 : w4.drew.cell? ⟨w.heap.size + 1, 4, none⟩ = some (.int .u8 q3) := HT4.out.c.cell 4; have f5 : w4.drew.cell? ⟨w.heap.size + 1, 5, none⟩ = some (.int .u8 q4) := HT4.out.c.cell 5; have f6 : w4.drew.cell? ⟨w.heap.size + 1, 6, none⟩ = some (.int .u8 q5) := HT4.out.c.cell 6; have f8 : w4.drew.cell? ⟨w.heap.size + 1, 8, none⟩ = some (.int .i64 places) := HT4.out.c.cell 8; have f9 : w4.drew.cell? ⟨w.heap.size + 1, 9, none⟩ = some (.int .i64 b0) := HT4.out.c.cell 9; have f17 : w4.drew.cell? ⟨w.heap.size + 1, 17, none⟩ = some (.int .i64 start) := HT4.out.c.cell 17
          first | (go_region_held3 (fun v => v.cell? ⟨w.heap.size + 1, 0, none⟩ = some (.int .i64 prio) ∧ v.cell? ⟨w.heap.size + 1, 1, none⟩ = some (.int .u8 q0) ∧ v.cell? ⟨w.heap.size + 1, 2, none⟩ = some (.int .u8 q1) ∧ v.cell? ⟨w.heap.size + 1, 3, none⟩ = some (.int .u8 q2) ∧ v.cell? ⟨w.heap.size + 1, 4, none⟩ = some (.int .u8 q3) ∧ v.cell? ⟨w.heap.size + 1, 5, none⟩ = some (.int .u8 q4) ∧ v.cell? ⟨w.heap.size + 1, 6, none⟩ = some (.int .u8 q5) ∧ v.cell? ⟨w.heap.size + 1, 8, none⟩ = some (.int .i64 places) ∧ v.cell? ⟨w.heap.size + 1, 9, none⟩ = some (.int .i64 b0) ∧ v.cell? ⟨w.heap.size + 1, 17, none⟩ = some (.int .i64 start)) (first | exact ⟨o0 _, o1 _, o2 _, o3 _, o4 _, o5 _, o6 _, o8 _, o9 _, o17 _⟩ | exact ⟨n0, n1, n2, n3, n4, n5, n6, n8, n9, n17⟩ | exact ⟨m0, m1, m2, m3, m4, m5, m6, m8, m9, m17⟩ | exact ⟨l0, l1, l2, l3, l4, l5, l6, l8, l9, l17⟩ | exact ⟨k0, k1, k2, k3, k4, k5, k6, k8, k9, k17⟩ | exact ⟨g0, g1, g2, g3, g4, g5, g6, g8, g9, g17⟩ | exact ⟨f0, f1, f2, f3, f4, f5, f6, f8, f9, f17⟩) (first | (go_at_call 53; clear t1; refine (HI1.out _ (HT4.out.gl.same ((Keeps.refl Nothing w4).drew))).mono ?_; rintro ev w5 ⟨rfl, kk⟩; have Hw5 := Lib.hid (HT4.out.same ((Keeps.refl Nothing w4).drew.same kk)); have g0 : w5.cell? ⟨w.heap.size + 1, 0, none⟩ = some (.int .i64 prio) := Hw5.out.c.cell 0; have g1 : w5.cell? ⟨w.heap.size + 1, 1, none⟩ = some (.int .u8 q0) := Hw5.out.c.cell 1; have g2 : w5.cell? ⟨w.heap.size + 1, 2, none⟩ = some (.int .u8 q1) := Hw5.out.c.cell 2; have g3 : w5.cell? ⟨w.heap.size + 1, 3, none⟩ = some (.int .u8 q2) := Hw5.out.c.cell 3; have g4 : w5.cell? ⟨w.heap.size + 1, 4, none⟩ = some (.int .u8 q3) := Hw5.out.c.cell 4; have g5 : w5.cell? ⟨w.heap.size + 1, 5, none⟩ = some (.int .u8 q4) := Hw5.out.c.cell 5; have g6 : w5.cell? ⟨w.heap.size + 1, 6, none⟩ = some (.int .u8 q5) := Hw5.out.c.cell 6; have g8 : w5.cell? ⟨w.heap.size + 1, 8, none⟩ = some (.int .i64 places) := Hw5.out.c.cell 8; have g9 : w5.cell? ⟨w.heap.size + 1, 9, none⟩ = some (.int .i64 b0) := Hw5.out.c.cell 9; have g17 : w5.cell? ⟨w.heap.size + 1, 17, none⟩ = some (.int .i64 start) := Hw5.out.c.cell 17; clear kk) | (go_at_call 40; refine (HI5.out _).mono ?_; rintro ev w6 ⟨rfl, kk⟩; have Hw6 := Lib.hid (Hw5.out.same kk); have k0 : w6.cell? ⟨w.heap.size + 1, 0, none⟩ = some (.int .i64 prio) := Hw6.out.c.cell 0; have k1 : w6.cell? ⟨w.heap.size + 1, 1, none⟩ = some (.int .u8 q0) := Hw6.out.c.cell 1; have k2 : w6.cell? ⟨w.heap.size + 1, 2, none⟩ = some (.int .u8 q1) := Hw6.out.c.cell 2; have k3 : w6.cell? ⟨w.heap.size + 1, 3, none⟩ = some (.int .u8 q2) := Hw6.out.c.cell 3; have k4 : w6.cell? ⟨w.heap.size + 1, 4, none⟩ = some (.int .u8 q3) := Hw6.out.c.cell 4; have k5 : w6.cell? ⟨w.heap.size + 1, 5, none⟩ = some (.int .u8 q4) := Hw6.out.c.cell 5; have k6 : w6.cell? ⟨w.heap.size + 1, 6, none⟩ = some (.int .u8 q5) := Hw6.out.c.cell 6; have k8 : w6.cell? ⟨w.heap.size + 1, 8, none⟩ = some (.int .i64 places) := Hw6.out.c.cell 8; have k9 : w6.cell? ⟨w.heap.size + 1, 9, none⟩ = some (.int .i64 b0) := Hw6.out.c.cell 9; have k17 : w6.cell? ⟨w.heap.size + 1, 17, none⟩ = some (.int .i64 start) := Hw6.out.c.cell 17; clear kk) | (go_at_call 53; clear t2; refine (HI2.out _ (Hw6.out.gl)).mono ?_; rintro ev w7 ⟨rfl, kk⟩; have Hw7 := Lib.hid (Hw6.out.same kk); have l0 : w7.cell? ⟨w.heap.size + 1, 0, none⟩ = some (.int .i64 prio) := Hw7.out.c.cell 0; have l1 : w7.cell? ⟨w.heap.size + 1, 1, none⟩ = some (.int .u8 q0) := Hw7.out.c.cell 1; have l2 : w7.cell? ⟨w.heap.size + 1, 2, none⟩ = some (.int .u8 q1) := Hw7.out.c.cell 2; have l3 : w7.cell? ⟨w.heap.size + 1, 3, none⟩ = some (.int .u8 q2) := Hw7.out.c.cell 3; have l4 : w7.cell? ⟨w.heap.size + 1, 4, none⟩ = some (.int .u8 q3) := Hw7.out.c.cell 4; have l5 : w7.cell? ⟨w.heap.size + 1, 5, none⟩ = some (.int .u8 q4) := Hw7.out.c.cell 5; have l6 : w7.cell? ⟨w.heap.size + 1, 6, none⟩ = some (.int .u8 q5) := Hw7.out.c.cell 6; have l8 : w7.cell? ⟨w.heap.size + 1, 8, none⟩ = some (.int .i64 places) := Hw7.out.c.cell 8; have l9 : w7.cell? ⟨w.heap.size + 1, 9, none⟩ = some (.int .i64 b0) := Hw7.out.c.cell 9; have l17 : w7.cell? ⟨w.heap.size + 1, 17, none⟩ = some (.int .i64 start) := Hw7.out.c.cell 17; clear kk) | (go_at_call 53; refine (HI3.out _ (Hw7.out.gl)).mono ?_; rintro ev w8 ⟨rfl, kk⟩; have Hw8 := Lib.hid (Hw7.out.same kk); have m0 : w8.cell? ⟨w.heap.size + 1, 0, none⟩ = some (.int .i64 prio) := Hw8.out.c.cell 0; have m1 : w8.cell? ⟨w.heap.size + 1, 1, none⟩ = some (.int .u8 q0) := Hw8.out.c.cell 1; have m2 : w8.cell? ⟨w.heap.size + 1, 2, none⟩ = some (.int .u8 q1) := Hw8.out.c.cell 2; have m3 : w8.cell? ⟨w.heap.size + 1, 3, none⟩ = some (.int .u8 q2) := Hw8.out.c.cell 3; have m4 : w8.cell? ⟨w.heap.size + 1, 4, none⟩ = some (.int .u8 q3) := Hw8.out.c.cell 4; have m5 : w8.cell? ⟨w.heap.size + 1, 5, none⟩ = some (.int .u8 q4) := Hw8.out.c.cell 5; have m6 : w8.cell? ⟨w.heap.size + 1, 6, none⟩ = some (.int .u8 q5) := Hw8.out.c.cell 6; have m8 : w8.cell? ⟨w.heap.size + 1, 8, none⟩ = some (.int .i64 places) := Hw8.out.c.cell 8; have m9 : w8.cell? ⟨w.heap.size + 1, 9, none⟩ = some (.int .i64 b0) := Hw8.out.c.cell 9; have m17 : w8.cell? ⟨w.heap.size + 1, 17, none⟩ = some (.int .i64 start) := Hw8.out.c.cell 17; clear kk) | (go_at_call 37; refine (HI4.out _ (Hw8.out.gl)).mono ?_; rintro ev w9 ⟨rfl, kk⟩; have Hw9 := Lib.hid (Hw8.out.same kk); have n0 : w9.cell? ⟨w.heap.size + 1, 0, none⟩ = some (.int .i64 prio) := Hw9.out.c.cell 0; have n1 : w9.cell? ⟨w.heap.size + 1, 1, none⟩ = some (.int .u8 q0) := Hw9.out.c.cell 1; have n2 : w9.cell? ⟨w.heap.size + 1, 2, none⟩ = some (.int .u8 q1) := Hw9.out.c.cell 2; have n3 : w9.cell? ⟨w.heap.size + 1, 3, none⟩ = some (.int .u8 q2) := Hw9.out.c.cell 3; have n4 : w9.cell? ⟨w.heap.size + 1, 4, none⟩ = some (.int .u8 q3) := Hw9.out.c.cell 4; have n5 : w9.cell? ⟨w.heap.size + 1, 5, none⟩ = some (.int .u8 q4) := Hw9.out.c.cell 5; have n6 : w9.cell? ⟨w.heap.size + 1, 6, none⟩ = some (.int .u8 q5) := Hw9.out.c.cell 6; have n8 : w9.cell? ⟨w.heap.size + 1, 8, none⟩ = some (.int .i64 places) := Hw9.out.c.cell 8; have n9 : w9.cell? ⟨w.heap.size + 1, 9, none⟩ = some (.int .i64 b0) := Hw9.out.c.cell 9; have n17 : w9.cell? ⟨w.heap.size + 1, 17, none⟩ = some (.int .i64 start) := Hw9.out.c.cell 17; have o0 : ∀ o, (w9.alloc o).cell? ⟨w.heap.size + 1, 0, none⟩ = some (.int .i64 prio) := fun o => (Hw9.out.c.alloc o).cell 0; have o1 : ∀ o, (w9.alloc o).cell? ⟨w.heap.size + 1, 1, none⟩ = some (.int .u8 q0) := fun o => (Hw9.out.c.alloc o).cell 1; have o2 : ∀ o, (w9.alloc o).cell? ⟨w.heap.size + 1, 2, none⟩ = some (.int .u8 q1) := fun o => (Hw9.out.c.alloc o).cell 2; have o3 : ∀ o, (w9.alloc o).cell? ⟨w.heap.size + 1, 3, none⟩ = some (.int .u8 q2) := fun o => (Hw9.out.c.alloc o).cell 3; have o4 : ∀ o, (w9.alloc o).cell? ⟨w.heap.size + 1, 4, none⟩ = some (.int .u8 q3) := fun o => (Hw9.out.c.alloc o).cell 4; have o5 : ∀ o, (w9.alloc o).cell? ⟨w.heap.size + 1, 5, none⟩ = some (.int .u8 q4) := fun o => (Hw9.out.c.alloc o).cell 5; have o6 : ∀ o, (w9.alloc o).cell? ⟨w.heap.size + 1, 6, none⟩ = some (.int .u8 q5) := fun o => (Hw9.out.c.alloc o).cell 6; have o8 : ∀ o, (w9.alloc o).cell? ⟨w.heap.size + 1, 8, none⟩ = some (.int .i64 places) := fun o => (Hw9.out.c.alloc o).cell 8; have o9 : ∀ o, (w9.alloc o).cell? ⟨w.heap.size + 1, 9, none⟩ = some (.int .i64 b0) := fun o => (Hw9.out.c.alloc o).cell 9; have o17 : ∀ o, (w9.alloc o).cell? ⟨w.heap.size + 1, 17, none⟩ = some (.int .i64 start) := fun o => (Hw9.out.c.alloc o).cell 17; clear kk))) | fail
          have HT10 := Lib.hid (Hw9.out.same ((Keeps.refl Nothing w9).alloc (.cells ([strV sBridge, strV t_p, strV t_m, strV t_l, strV t_b, strV t_s] : List Value).toArray 9)))
          have HO10 : Hid (OwnF (w9.alloc (.cells ([strV sBridge, strV t_p, strV t_m, strV t_l, strV t_b, strV t_s] : List Value).toArray 9)) (fun k => w.heap.size + 1 < k) 9 (.slice (some ⟨w9.heap.size, 0, none⟩) 6 6) ([sBridge, t_p, t_m, t_l, t_b, t_s].map strV)) := Lib.hid ((OwnF.lit w9 [strV sBridge, strV t_p, strV t_m, strV t_l, strV t_b, strV t_s] 9 (by simp [maxLen])).mono (fun k hk => Nat.lt_of_lt_of_le Hw9.out.c.lt hk))
          have HSP := Lib.hid (fun (x : Int) (h : speedOk x = true) => speed_le h)
          have HBIG := Lib.hid HG.out.big
          have c7 : ∀ o, (w9.alloc o).cell? ⟨w.heap.size + 1, 7, none⟩ = some (.slice A m cp) := fun o => (Hw9.out.c.alloc o).cell 7
          have hmp : ports.length = m := by
            obtain ⟨A', c', e⟩ := HR.out.form
            rw [List.length_map] at e
            injection e with _ e2 _
            exact e2.symm
          have HMP := Lib.hid hmp
          clear hmp
          clear f0 f1 f2 f3 f4 f5 f6 f8 f9 f17 g0 g1 g2 g3 g4 g5 g6 g8 g9 g17 k0 k1 k2 k3 k4 k5 k6 k8 k9 k17 l0 l1 l2 l3 l4 l5 l6 l8 l9 l17 m0 m1 m2 m3 m4 m5 m6 m8 m9 m17 n0 n1 n2 n3 n4 n5 n6 n8 n9 n17 o0 o1 o2 o3 o4 o5 o6 o8 o9 o17 HI1 HI2 HI3 HI4 HI5 HT4 Hw5 Hw6 Hw7 Hw8
          go_wp2
          go_loopw [63, 6] (fun vi vw wr => ∃ (j : Nat) (ws : List Str) (A1 : Option Addr) (n1 c1 : Nat), vi = .int .i64 j ∧ j ≤ m ∧ vw = .slice A1 n1 c1 ∧ Hid (TxS w wr [.int .i64 prio, .int .u8 q0, .int .u8 q1, .int .u8 q2, .int .u8 q3, .int .u8 q4, .int .u8 q5, .slice A m cp, .int .i64 places, .int .i64 b0, .int .i64 b0, .int .i64 b0, .int .i64 b0, .int .i64 b0, .int .i64 b0, .int .i64 b0, .int .i64 b0, .int .i64 start] (.slice A2 n2 cp2)) ∧ Hid (OwnF wr (fun k => w.heap.size + 1 < k) 9 (.slice A1 n1 c1) (ws.map strV)) ∧ Hid (ws = [sBridge, t_p, t_m, t_l, t_b, t_s] ++ (ports.take j).map portW)) (fun vi _ _ => m - (RowKit.intOf vi).toNat)
          case atStart => exact ⟨0, [sBridge, t_p, t_m, t_l, t_b, t_s], some ⟨w9.heap.size, 0, none⟩, 6, 6, rfl, Nat.zero_le _, rfl, HT10, HO10, Lib.hid (by simp)⟩
          case round =>
            obtain ⟨j, ws, A1, n1, cq, rfl, hj, rfl, HT, HO, HW⟩ := hrel
            clear HT10 HO10
            by_cases hjm : j < m
            · obtain ⟨p, hp⟩ : ∃ p, ports[j]? = some p := ⟨_, List.getElem?_eq_getElem (by rw [HMP.out]; exact hjm)⟩
              obtain ⟨B, o, rfl, -, -, hr⟩ := (HR.out.still HT.out.k).at (i := j) (cs := ptC p) (by rw [List.getElem?_map, hp]; rfl)
              have c0 := hr 0 _ rfl
              have c1' := hr 1 _ rfl
              rw [Nat.add_zero] at c0
              have hall := HIFF.out.2.2.2.2.2.2.2.2.2.2
              have hp8 : ports.length ≤ 8 := HIFF.out.2.1
              have hspd := speed_le ((List.all_eq_true.1 hall) p (List.mem_of_getElem? hp))
              have HIT := Lib.hid (fun (w' : World) (hg : Gl w') => itoa_ok p.speed (by omega) (by omega) (w := w') hg)
              have hil := itoa_length_le p.speed (by omega) (by omega)
              have hmp := HMP.out
              have hwl : ws.length = 6 + j := by rw [HW.out]; simp; omega
              have hwn : ws ++ [portW p] = [sBridge, t_p, t_m, t_l, t_b, t_s] ++ (ports.take (j + 1)).map portW := by rw [HW.out, List.take_add_one, hp]; simp
              have hm8 : m ≤ 8 := by omega
              have hb1 : ws.length + 1 ≤ 140737488355328 := by omega
              have hb2 : (ws.length + 1) * 16 ≤ 140737488355328 := by omega
              clear hwl
              obtain ⟨i0, hi0, hz0, hz1, hz2⟩ := info_parts info9
              obtain ⟨tsp, htsp⟩ : ∃ x, x = itoa p.speed := ⟨_, rfl⟩
              obtain ⟨ed, hed⟩ : ∃ x, x = p.edge := ⟨_, rfl⟩
              have hpw : portW p = tsp ++ (if ed then [101] else []) := by unfold portW; rw [htsp, hed]
              rw [← htsp] at HIT hil
              have c1 : wr.cell? ⟨B, o + j * 2 + 1, none⟩ = some (.bool ed) := by rw [hed]; exact c1'
              clear htsp hed hr c1' hall hp hp8 hspd hmp
              cases ed with
              | false =>
                have HWN : ws ++ [tsp] = [sBridge, t_p, t_m, t_l, t_b, t_s] ++ (ports.take (j + 1)).map portW := by rw [← hwn, hpw]; simp
                clear hwn hpw
                have HWN := Lib.hid HWN
                go_wp2_with (first | (go_at_call 53; refine (HIT.out _ (HT.out.gl.same ((Keeps.refl Nothing wr).alloc (.cells #[.int .i64 p.speed, .bool false] 70)))).mono ?_; rintro ev w11 ⟨rfl, k11⟩; have ka := ((Keeps.refl Nothing wr).alloc (.cells #[.int .i64 p.speed, .bool false] 70)).same k11; have HT11 := Lib.hid (HT.out.same ka); have e1 : w11.cell? ⟨wr.heap.size, 1, none⟩ = some (.bool false) := ((Blk.new wr [.int .i64 p.speed, .bool false] 70).keeps k11 (fun h => h)).cell 1; have HO11 := Lib.hid (fun o => by have := ((HO.out.keeps ka (fun _ _ h => h)).keeps ((Keeps.refl Nothing w11).alloc o) (fun _ _ h => h)).toS; rw [List.length_map] at this; exact this); clear k11 ka) | (at_builtin; refine wpList_app rfl (.tmp 74) (.tmp 76) 43 rfl 9 i0 (.string ⟨#[]⟩) 1 16 Tryz.underlying43 hi0 hz0 hz1 hz2 rfl (by decide) (fun k => w.heap.size + 1 < k) (.slice A1 n1 cq) ws.length (ws.map strV) rfl (HO11.out _) ⟨w11.heap.size, 0, none⟩ 1 1 [strV tsp] rfl rfl (lit1 w11 _ 9) (fun u hu => by simp at hu; subst hu; rfl) (by decide) (by omega) (by omega) ?_; intro g cap w12 hO12 hk12; have HT12 := Lib.hid ((HT11.out.same ((Keeps.refl Nothing w11).alloc (.cells #[strV tsp] 9))).asideF hk12 HBIG.out (fun k hk => (HO11.out (.cells #[strV tsp] 9)).2 k hk)); have HO12 := Lib.hid hO12; clear hO12 hk12))
                exact ⟨⟨j + 1, ws ++ [tsp], some ⟨g, 0, none⟩, ws.length + 1, cap, by go_num, by omega, rfl, HT12, Lib.hid (by
                  have h1 := (HO12.out.mono (G := fun k => w.heap.size + 1 < k) (fun k hk => by have h2 := HT11.out.c.lt; have h3 : w11.heap.size ≤ (w11.alloc (.cells #[strV tsp] 9)).heap.size := ((Keeps.refl Nothing w11).alloc _).size; rcases hk with hk | hk; exact hk; exact Nat.lt_of_lt_of_le h2 (Nat.le_trans h3 hk))).toF
                  rw [List.map_append]
                  exact h1), HWN⟩, by simp [RowKit.intOf]; omega⟩
              | true =>
                obtain ⟨s1, cs1, hs1⟩ := cat_of tsp [101]
                have HWN : ws ++ [s1] = [sBridge, t_p, t_m, t_l, t_b, t_s] ++ (ports.take (j + 1)).map portW := by rw [← hwn, hpw, hs1]; simp
                have hlim : ¬ 9223372036854775807 < tsp.length + 1 := by omega
                clear hwn hpw hs1
                have HWN := Lib.hid HWN
                go_wp2_with (first | (go_at_call 53; refine (HIT.out _ (HT.out.gl.same ((Keeps.refl Nothing wr).alloc (.cells #[.int .i64 p.speed, .bool true] 70)))).mono ?_; rintro ev w11 ⟨rfl, k11⟩; have ka := ((Keeps.refl Nothing wr).alloc (.cells #[.int .i64 p.speed, .bool true] 70)).same k11; have HT11 := Lib.hid (HT.out.same ka); have e1 : w11.cell? ⟨wr.heap.size, 1, none⟩ = some (.bool true) := ((Blk.new wr [.int .i64 p.speed, .bool true] 70).keeps k11 (fun h => h)).cell 1; have HO11 := Lib.hid (fun o => by have := ((HO.out.keeps ka (fun _ _ h => h)).keeps ((Keeps.refl Nothing w11).alloc o) (fun _ _ h => h)).toS; rw [List.length_map] at this; exact this); clear k11 ka) | (at_builtin; refine wpList_app rfl (.tmp 74) (.tmp 76) 43 rfl 9 i0 (.string ⟨#[]⟩) 1 16 Tryz.underlying43 hi0 hz0 hz1 hz2 rfl (by decide) (fun k => w.heap.size + 1 < k) (.slice A1 n1 cq) ws.length (ws.map strV) rfl (HO11.out _) ⟨w11.heap.size, 0, none⟩ 1 1 [strV s1] rfl rfl (lit1 w11 _ 9) (fun u hu => by simp at hu; subst hu; rfl) (by decide) (by omega) (by omega) ?_; intro g cap w12 hO12 hk12; have HT12 := Lib.hid ((HT11.out.same ((Keeps.refl Nothing w11).alloc (.cells #[strV s1] 9))).asideF hk12 HBIG.out (fun k hk => (HO11.out (.cells #[strV s1] 9)).2 k hk)); have HO12 := Lib.hid hO12; clear hO12 hk12))
                exact ⟨⟨j + 1, ws ++ [s1], some ⟨g, 0, none⟩, ws.length + 1, cap, by go_num, by omega, rfl, HT12, Lib.hid (by
                  have h1 := (HO12.out.mono (G := fun k => w.heap.size + 1 < k) (fun k hk => by have h2 := HT11.out.c.lt; have h3 : w11.heap.size ≤ (w11.alloc (.cells #[strV s1] 9)).heap.size := ((Keeps.refl Nothing w11).alloc _).size; rcases hk with hk | hk; exact hk; exact Nat.lt_of_lt_of_le h2 (Nat.le_trans h3 hk))).toF
                  rw [List.map_append]
                  exact h1), HWN⟩, by simp [RowKit.intOf]; omega⟩
            · obtain ⟨wo, rfl⟩ : ∃ wo, wo = wr := ⟨_, rfl⟩
              have hjm2 : j = m := by omega
              have HWJ : Hid (ws = confW ⟨prio, [q0, q1, q2, q3, q4, q5], ports, places, [b0, b0, b0, b0, b0, b0, b0, b0], start⟩) := Lib.hid (by
                rw [HW.out, hjm2, ← HMP.out, List.take_length, HTP.out, HTM.out, HTL.out, HTB.out, HTS.out]
                rfl)
              have hwl : ws.length ≤ 14 := by
                have h8 : ports.length ≤ 8 := HIFF.out.2.1
                rw [HW.out]; simp; omega
              have HJL : Hid ((joinOn 32 ws).length ≤ 400) := Lib.hid (by
                rw [HWJ.out]
                obtain ⟨-, r2, -, r4, r5, r6, r7, r8, r9, -, r11⟩ := HIFF.out
                have a2 : ports.length ≤ 8 := r2
                have a4 : (0 : Int) ≤ places := r4
                have a5 : places ≤ 4096 := r5
                have a6 : (0 : Int) ≤ start := r6
                have a7 : start < 4611686018427387904 := r7
                have a8 : (0 : Int) ≤ prio := r8
                have a9 : prio ≤ 61440 := r9
                have a0 := HB0.out
                exact HCL.out ⟨by show _ ≤ prio; omega, by show prio ≤ _; omega⟩ ⟨by show _ ≤ places; omega, by show places ≤ _; omega⟩ ⟨by show _ ≤ b0; omega, by show b0 ≤ _; omega⟩ ⟨by show _ ≤ start; omega, by show start ≤ _; omega⟩ (fun p hp => by have := HSP.out _ ((List.all_eq_true.1 r11) p hp); omega) a2)
              have HNL : Hid (acs.length = n2) := Lib.hid (by
                obtain ⟨A', c', e⟩ := HA.out.form
                injection e with _ e2 _
                rw [HAct.out.len]; exact e2.symm)
              rcases HO.out.blk with ⟨-, e⟩ | ⟨g, cap, cur, e, hF, hB, hcap, -, hcl, htk⟩
              · exfalso
                rw [HW.out] at e
                simp at e
              · injection e with ea en ec
                subst ea
                subst ec
                rw [List.length_map] at en hcap
                have HJ := Lib.hid (join_ok g n1 cq ws 32 (w := wo) en (by omega) (fun j x hx => by
                    rw [hB.cell j]
                    have h1 : (ws.map strV)[j]? = some (strV x) := by rw [List.getElem?_map, hx]; rfl
                    rw [← htk, List.getElem?_take] at h1
                    split at h1
                    · exact h1
                    · simp at h1) hB.lt (by omega) (by have := HJL.out; omega))
                clear hF hB hcap hcl htk en hwl hjm2
                obtain ⟨t_j, htj⟩ : ∃ x, x = joinOn 32 ws := ⟨_, rfl⟩
                rw [← htj] at HJ HJL
                have HTJ : Hid (t_j = joinOn 32 (confW ⟨prio, [q0, q1, q2, q3, q4, q5], ports, places, [b0, b0, b0, b0, b0, b0, b0, b0], start⟩)) := Lib.hid (by rw [htj, HWJ.out])
                clear htj HWJ HO HW c7
                go_wp2_with (first | (go_at_call 41; refine (HJ.out).mono ?_; rintro ev w11 ⟨rfl, k11⟩; have HT11 := Lib.hid (HT.out.same k11); have c18 : ∀ o, (w11.alloc o).cell? ⟨w.heap.size, 18, none⟩ = some (.slice A2 n2 cp2) := fun o => (HT11.out.s.alloc o).cell 18; have HT12 := Lib.hid (HT11.out.same ((Keeps.refl Nothing w11).alloc (.cells #[strV t_j] 9))); have HO12 : Hid (OwnF (w11.alloc (.cells #[strV t_j] 9)) (fun k => w.heap.size + 1 < k) 9 (.slice (some ⟨w11.heap.size, 0, none⟩) 1 1) ([t_j].map strV)) := Lib.hid ((OwnF.lit w11 [strV t_j] 9 (by simp [maxLen])).mono (fun k hk => Nat.lt_of_lt_of_le HT11.out.c.lt hk)); clear k11))
                clear HT11 c18 HT HJ hjm
                go_loopw [85, 10] (fun vi vl wr => ∃ (i : Nat) (ls : List Str) (A3 : Option Addr) (n3 c3 : Nat), vi = .int .i64 i ∧ i ≤ n2 ∧ vl = .slice A3 n3 c3 ∧ Hid (TxS w wr [.int .i64 prio, .int .u8 q0, .int .u8 q1, .int .u8 q2, .int .u8 q3, .int .u8 q4, .int .u8 q5, .slice A m cp, .int .i64 places, .int .i64 b0, .int .i64 b0, .int .i64 b0, .int .i64 b0, .int .i64 b0, .int .i64 b0, .int .i64 b0, .int .i64 b0, .int .i64 start] (.slice A2 n2 cp2)) ∧ Hid (OwnF wr (fun k => w.heap.size + 1 < k) 9 (.slice A3 n3 c3) ((t_j :: ls).map strV)) ∧ Hid (LnGo acs ls i ∧ ls.length = i ∧ ∀ l ∈ ls, l.length ≤ 8589939100)) (fun vi _ _ => n2 - (RowKit.intOf vi).toNat)
                case atStart => exact ⟨0, [], some ⟨w11.heap.size, 0, none⟩, 1, 1, rfl, Nat.zero_le _, rfl, HT12, HO12, Lib.hid ⟨lnGo_start acs, rfl, by simp⟩⟩
                case round =>
                  obtain ⟨i, ls, A3, n3, c3, rfl, hi, rfl, HT, HO, HL⟩ := hrel
                  clear HT12 HO12
                  have hal := HAL.out
                  have hnl := HNL.out
                  have hln : n2 ≤ 3000 := by omega
                  have hn3 : n3 = i + 1 := by
                    obtain ⟨A', c', e⟩ := HO.out.lenG
                    injection e with _ e2 _
                    rw [e2, List.length_map, List.length_cons, HL.out.2.1]
                  clear hal hnl
                  by_cases hin : i < n2
                  · obtain ⟨a, ha⟩ : ∃ a, acs[i]? = some a := ⟨_, List.getElem?_eq_getElem (by rw [HNL.out]; exact hin)⟩
                    obtain ⟨C, hC⟩ : ∃ C, cs[i]? = some C := ⟨_, List.getElem?_eq_getElem (by rw [← HAct.out.len, HNL.out]; exact hin)⟩
                    obtain ⟨⟨haI, hab, hac, hak⟩, bv, cv, hCe, hsb, hsc⟩ := HAct.out.get i a C ha hC
                    obtain ⟨B, o, rfl, -, hC12, hr⟩ := (HA.out.still HT.out.k).at hC
                    have HRG : Hid (wr.rangeAt B (o + i * 12) C) := Lib.hid (fun j v hv => hr j v hv)
                    have HC12 := Lib.hid hC12
                    have HSZ : Hid ((Tryz.prog.info? 73).map (·.size) = some C.length) := Lib.hid (by rw [HC12.out]; exact size73)
                    have HLL := Lib.hid (fun l (h : lineP a = .ok l) => line_len haI h)
                    have HLI : Hid (∀ w', Gl w' → Keeps Nothing w w' → Calls Tryz.prog 30 #[.agg C.toArray] w' fun ev w2 => LineIs w2 a ev ∧ Keeps Nothing w' w2) := Lib.hid (fun w' hg hk => by
                      rw [hCe]
                      exact line_ok a haI hak (by omega) (by omega) bv cv hg (hsb.same hk) (hsc.same hk))
                    have hba : a.bytes.length ≤ 4294967000 := hab
                    have HONE : Hid (∀ v ∈ C, v.oneCell' = true) := Lib.hid (by
                      obtain ⟨Ab, cb, rfl⟩ := hsb.shape
                      obtain ⟨Ac, cc, rfl⟩ := hsc.shape
                      rw [hCe]
                      intro v hv
                      simp only [actC, cmdCells, List.mem_append, List.mem_cons, List.mem_map, List.not_mem_nil, or_false] at hv
                      rcases hv with (rfl | rfl | rfl | rfl) | rfl | ⟨x, -, rfl⟩ | rfl <;> rfl)
                    have HA1 := Lib.hid ha
                    clear hr hC12 hCe hsb hsc hC haI hac hak ha
                    have hi3 : i < 3000 := by omega
                    cases hlp : lineP a with
                    | error e =>
                      have HEI := Lib.hid (lnGo_err HL.out.1 HA1.out hlp)
                      rw [HEI.out] at HTX
                      obtain ⟨en, ek⟩ := e
                      cases en with
                      | none =>
                        have HCE : Hid (∀ w', Gl w' → Keeps Nothing w w' → Calls Tryz.prog 30 #[.agg C.toArray] w' fun ev w2 => ev = .returned (.tuple #[strV [], .iface 33 (.int .i64 ek)]) ∧ Keeps Nothing w' w2) := Lib.hid (fun w' h1 h2 => (HLI.out w' h1 h2).mono (fun ev w2 h => by
                          obtain ⟨h1, h2⟩ := h
                          unfold LineIs at h1
                          rw [hlp] at h1
                          obtain ⟨v, hv, rfl⟩ := h1
                          have hv' : v = .iface 33 (.int .i64 ek) := hv
                          subst hv'
                          exact ⟨rfl, h2⟩))
                        clear HLI hlp HLL hba HEI
                        go_wp2_with (first | (refine wpList_load_mid rfl 73 (.tmp 88) rfl B (o + i * 12) rfl C _ HRG.out Tryz.underlying73 rfl HSZ.out ?_) | (refine wpList_putB rfl 73 (.tmp 12) (.tmp 89) rfl wr.heap.size C rfl rfl 73 act0 (Blk.new wr act0 73) HSZ.out (by rw [HC12.out]; rfl) HONE.out ?_; intro w12 hr12 k12; have HB12 := Lib.hid hr12; have HO12 := Lib.hid ((HO.out.keeps ((Keeps.refl Nothing wr).alloc (.cells act0.toArray 73)) (fun _ _ h => h)).other k12 (not_blk (Blk.new wr act0 73) (by decide))); have HT12 := Lib.hid ((HT.out.same ((Keeps.refl Nothing wr).alloc (.cells act0.toArray 73))).asideF k12 HBIG.out (fun k hk => by subst hk; exact HT.out.c.lt)); clear hr12 k12) | (refine wpList_getM rfl 73 (.tmp 12) rfl wr.heap.size 0 rfl C C 73 HB12.out (by rw [List.drop_zero, List.take_length]) _ Tryz.underlying73 rfl HSZ.out ?_) | (go_at_call 30; refine (HCE.out _ HT12.out.gl HT12.out.k).mono ?_; rintro ev w13 ⟨rfl, k13⟩; have HT13 := Lib.hid (HT12.out.same k13); clear k13))
                        go_ret2
                        refine ⟨?_, HT13.out.k.alloc _⟩
                        unfold STextIs
                        rw [HTX.out]
                        exact ⟨_, _, rfl, Nat.le_trans HBIG.out HT13.out.k.size, Blk.new w13 [.int .i64 ((i : Int) + 2), .iface 33 (.int .i64 ek)] 79, rfl⟩
                      | some en =>
                        have HCE : Hid (∀ w', Gl w' → Keeps Nothing w w' → Calls Tryz.prog 30 #[.agg C.toArray] w' fun ev w2 => (∃ bw, ev = .returned (.tuple #[strV [], .iface 42 (.pointer (some ⟨bw, 0, none⟩))]) ∧ WrErr w2 (.iface 42 (.pointer (some ⟨bw, 0, none⟩))) (some (en, ek))) ∧ Keeps Nothing w' w2) := Lib.hid (fun w' h1 h2 => (HLI.out w' h1 h2).mono (fun ev w2 h => by
                          obtain ⟨h1, h2⟩ := h
                          unfold LineIs at h1
                          rw [hlp] at h1
                          obtain ⟨v, hv, rfl⟩ := h1
                          obtain ⟨bw, hb0, rfl, hb⟩ := hv
                          exact ⟨⟨bw, rfl, ⟨bw, hb0, rfl, hb⟩⟩, h2⟩))
                        clear HLI hlp HLL hba HEI
                        go_wp2_with (first | (refine wpList_load_mid rfl 73 (.tmp 88) rfl B (o + i * 12) rfl C _ HRG.out Tryz.underlying73 rfl HSZ.out ?_) | (refine wpList_putB rfl 73 (.tmp 12) (.tmp 89) rfl wr.heap.size C rfl rfl 73 act0 (Blk.new wr act0 73) HSZ.out (by rw [HC12.out]; rfl) HONE.out ?_; intro w12 hr12 k12; have HB12 := Lib.hid hr12; have HO12 := Lib.hid ((HO.out.keeps ((Keeps.refl Nothing wr).alloc (.cells act0.toArray 73)) (fun _ _ h => h)).other k12 (not_blk (Blk.new wr act0 73) (by decide))); have HT12 := Lib.hid ((HT.out.same ((Keeps.refl Nothing wr).alloc (.cells act0.toArray 73))).asideF k12 HBIG.out (fun k hk => by subst hk; exact HT.out.c.lt)); clear hr12 k12) | (refine wpList_getM rfl 73 (.tmp 12) rfl wr.heap.size 0 rfl C C 73 HB12.out (by rw [List.drop_zero, List.take_length]) _ Tryz.underlying73 rfl HSZ.out ?_) | (go_at_call 30; refine (HCE.out _ HT12.out.gl HT12.out.k).mono ?_; rintro ev w13 ⟨⟨bw, rfl, hwr⟩, k13⟩; have HT13 := Lib.hid (HT12.out.same k13); have HW13 := Lib.hid hwr; clear hwr; clear k13))
                        go_ret2
                        refine ⟨?_, HT13.out.k.alloc _⟩
                        unfold STextIs
                        rw [HTX.out]
                        exact ⟨_, _, rfl, Nat.le_trans HBIG.out HT13.out.k.size, Blk.new w13 [.int .i64 ((i : Int) + 2), .iface 42 (.pointer (some ⟨bw, 0, none⟩))] 79, WrErr.same HW13.out ((Keeps.refl Nothing w13).alloc _)⟩
                    | ok l =>
                      have HEI := Lib.hid (lnGo_ok HL.out.1 HA1.out hlp)
                      have hll := HLL.out l hlp
                      have HLN2 : Hid (LnGo acs (ls ++ [l]) (i + 1) ∧ (ls ++ [l]).length = i + 1 ∧ ∀ x ∈ ls ++ [l], x.length ≤ 8589939100) := Lib.hid ⟨HEI.out, by simp; exact HL.out.2.1, fun x hx => by
                        rcases List.mem_append.1 hx with h | h
                        · exact HL.out.2.2 x h
                        · simp at h; subst h; omega⟩
                      have HCE : Hid (∀ w', Gl w' → Keeps Nothing w w' → Calls Tryz.prog 30 #[.agg C.toArray] w' fun ev w2 => ev = .returned (.tuple #[strV l, .nilIface]) ∧ Keeps Nothing w' w2) := Lib.hid (fun w' h1 h2 => (HLI.out w' h1 h2).mono (fun ev w2 h => by
                        obtain ⟨h1, h2⟩ := h
                        unfold LineIs at h1
                        rw [hlp] at h1
                        exact ⟨h1, h2⟩))
                      clear HLI hlp HLL hba HEI hll
                      obtain ⟨i0, hi0, hz0, hz1, hz2⟩ := info_parts info9
                      have hb1 : (i + 1) + 1 ≤ 140737488355328 := by omega
                      have hb2 : (i + 1 + 1) * 16 ≤ 140737488355328 := by omega
                      subst hn3
                      go_wp2_with (first | (refine wpList_load_mid rfl 73 (.tmp 88) rfl B (o + i * 12) rfl C _ HRG.out Tryz.underlying73 rfl HSZ.out ?_) | (refine wpList_putB rfl 73 (.tmp 12) (.tmp 89) rfl wr.heap.size C rfl rfl 73 act0 (Blk.new wr act0 73) HSZ.out (by rw [HC12.out]; rfl) HONE.out ?_; intro w12 hr12 k12; have HB12 := Lib.hid hr12; have HO12 := Lib.hid ((HO.out.keeps ((Keeps.refl Nothing wr).alloc (.cells act0.toArray 73)) (fun _ _ h => h)).other k12 (not_blk (Blk.new wr act0 73) (by decide))); have HT12 := Lib.hid ((HT.out.same ((Keeps.refl Nothing wr).alloc (.cells act0.toArray 73))).asideF k12 HBIG.out (fun k hk => by subst hk; exact HT.out.c.lt)); clear hr12 k12) | (refine wpList_getM rfl 73 (.tmp 12) rfl wr.heap.size 0 rfl C C 73 HB12.out (by rw [List.drop_zero, List.take_length]) _ Tryz.underlying73 rfl HSZ.out ?_) | (go_at_call 30; refine (HCE.out _ HT12.out.gl HT12.out.k).mono ?_; rintro ev w13 ⟨rfl, k13⟩; have HT13 := Lib.hid (HT12.out.same k13); have HO13 := Lib.hid (fun o => by have := ((HO12.out.keeps k13 (fun _ _ h => h)).keeps ((Keeps.refl Nothing w13).alloc o) (fun _ _ h => h)).toS; rw [List.length_map, List.length_cons, HL.out.2.1] at this; exact this); clear k13) | (at_builtin; refine wpList_app rfl (.tmp 103) (.tmp 105) 43 rfl 9 i0 (.string ⟨#[]⟩) 1 16 Tryz.underlying43 hi0 hz0 hz1 hz2 rfl (by decide) (fun k => w.heap.size + 1 < k) (.slice A3 (i + 1) c3) (i + 1) ((t_j :: ls).map strV) rfl (HO13.out _) ⟨w13.heap.size, 0, none⟩ 1 1 [strV l] rfl rfl (lit1 w13 _ 9) (fun u hu => by simp at hu; subst hu; rfl) (by decide) (by omega) (by omega) ?_; intro g cap w14 hO14 hk14; have HT14 := Lib.hid ((HT13.out.same ((Keeps.refl Nothing w13).alloc (.cells #[strV l] 9))).asideF hk14 HBIG.out (fun k hk => (HO13.out (.cells #[strV l] 9)).2 k hk)); have HO14 := Lib.hid hO14; clear hO14 hk14))
                      exact ⟨⟨i + 1, ls ++ [l], some ⟨g, 0, none⟩, i + 1 + 1, cap, by go_num, by omega, rfl, HT14, Lib.hid (by
                        have h1 := (HO14.out.mono (G := fun k => w.heap.size + 1 < k) (fun k hk => by have h2 := HT13.out.c.lt; have h3 : w13.heap.size ≤ (w13.alloc (.cells #[strV l] 9)).heap.size := ((Keeps.refl Nothing w13).alloc _).size; rcases hk with hk | hk; exact hk; exact Nat.lt_of_lt_of_le h2 (Nat.le_trans h3 hk))).toF
                        rw [show (t_j :: (ls ++ [l])) = (t_j :: ls) ++ [l] from rfl, List.map_append]
                        exact h1), HLN2⟩, by simp [RowKit.intOf]; omega⟩
                  · have hin2 : i = n2 := by omega
                    have HEI : Hid (linesP 0 acs = .ok ls) := Lib.hid (lnGo_end (by have := HL.out.1; rw [hin2, ← HNL.out] at this; exact this))
                    rw [HEI.out] at HTX
                    by_cases h2000 : 2000 < ls.length + 1
                    · have HTX2 := Lib.hid (HTX.out.trans (if_pos h2000))
                      have h2n : (2000 : Int) < (n3 : Int) := by have := HL.out.2.1; omega
                      clear HTX h2000 HL HEI hn3
                      go_wp2
                      go_ret2
                      refine ⟨?_, HT.out.k⟩
                      unfold STextIs
                      rw [HTX2.out]
                      exact ⟨_, rfl, rfl⟩
                    · have HTX2 := Lib.hid (HTX.out.trans (if_neg h2000))
                      have h2n : ¬ (2000 : Int) < (n3 : Int) := by have := HL.out.2.1; omega
                      rcases HO.out.blk with ⟨-, e⟩ | ⟨g, cap, cur, e, hF, hB, hcap, -, hcl, htk⟩
                      · simp at e
                      · injection e with ea en ec
                        subst ea
                        subst ec
                        rw [List.length_map] at en hcap
                        have HJ := Lib.hid (join_ok g n3 c3 (t_j :: ls) 10 (w := wr) en (by omega) (fun j x hx => by
                            rw [hB.cell j]
                            have h1 : ((t_j :: ls).map strV)[j]? = some (strV x) := by rw [List.getElem?_map, hx]; rfl
                            rw [← htk, List.getElem?_take] at h1
                            split at h1
                            · exact h1
                            · simp at h1) hB.lt (by omega) (by
                            have h1 := joinOn_len 10 8589939100 (t_j :: ls) (fun x hx => by
                              rcases List.mem_cons.1 hx with rfl | hx
                              · have := HJL.out; omega
                              · exact HL.out.2.2 x hx)
                            have h2 : (t_j :: ls).length ≤ 2000 := by rw [List.length_cons]; omega
                            have h3 := Nat.mul_le_mul h2 (Nat.le_refl (8589939100 + 1))
                            omega))
                        rw [← HTJ.out] at HTX2
                        clear HTX h2000 hF hB hcap hcl htk en HL HO hn3 HEI
                        obtain ⟨t_t, htt⟩ : ∃ x, x = joinOn 10 (t_j :: ls) := ⟨_, rfl⟩
                        rw [← htt] at HJ HTX2
                        clear htt
                        go_wp2_with (go_at_call 41; refine (HJ.out).mono ?_; rintro ev w12 ⟨rfl, k12⟩; have HT12 := Lib.hid (HT.out.same k12); clear k12)
                        go_ret2
                        refine ⟨?_, HT12.out.k⟩
                        unfold STextIs
                        rw [HTX2.out]
                        exact rfl
      · exact absurd (.inr (.inl heq)) HBX.out.2
end Go.Proofs.YtdncojofilnhnaaGreatDoor
