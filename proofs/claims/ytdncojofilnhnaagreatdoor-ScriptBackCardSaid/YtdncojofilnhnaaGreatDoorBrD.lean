/- bridge.Check: the walk. -/
import Derived.Test.YtdncojofilnhnaaGreatDoorBrC
namespace Go.Proofs.YtdncojofilnhnaaGreatDoor
open Go.RowKit Go.Lib

set_option maxRecDepth 100000 in
set_option maxHeartbeats 4000000 in
theorem contains_func (ps : List Pt) (hn : ps.length ≤ 140737488355328) (v : Value) (w : World) (hR : RecsR w v 2 (ps.map ptC)) :
    Calls Tryz.prog 62 #[v, .func (.func 63) #[] #[]] w fun ev w' => ev = .returned (.bool (!(ps.all fun p => speedOk p.speed))) ∧ Keeps Nothing w w' := by
  have HI := Lib.hid (index_func ps hn v w hR)
  obtain ⟨b, hb⟩ : ∃ b, b = !(ps.all fun p => speedOk p.speed) := ⟨_, rfl⟩
  rw [← hb] at HI ⊢
  clear hb hR hn
  go_enter Tryz.func62, Tryz.ntmps62
  go_wp2_with (go_at_call 87; refine HI.out.mono ?_; rintro ev w1 ⟨⟨r, rfl, hr⟩, k1⟩; have HR := Lib.hid hr; have K1 := Lib.hid k1; clear hr k1)
  go_ret
  refine ⟨?_, K1.out⟩
  rw [← HR.out]
  rfl

theorem sixOf {α : Type} {l : List α} (h : l.length = 6) : ∃ q0 q1 q2 q3 q4 q5, l = [q0, q1, q2, q3, q4, q5] := by
  match l, h with
  | [q0, q1, q2, q3, q4, q5], _ => exact ⟨_, _, _, _, _, _, rfl⟩

theorem eightOf {α : Type} {l : List α} (h : l.length = 8) : ∃ q0 q1 q2 q3 q4 q5 q6 q7, l = [q0, q1, q2, q3, q4, q5, q6, q7] := by
  match l, h with
  | [q0, q1, q2, q3, q4, q5, q6, q7], _ => exact ⟨_, _, _, _, _, _, _, _, rfl⟩

/-- A switch's cells. -/
def cfC (c : Cf) (pv : Value) : List Value := [.int .i64 c.prio] ++ c.mac.map (.int .u8) ++ [pv, .int .i64 c.places] ++ c.bounds.map (.int .i64) ++ [.int .i64 c.start]

abbrev cfV (c : Cf) (pv : Value) : Value := .agg (cfC c pv).toArray

theorem bridgeOk_iff (c : Cf) : bridgeOk c = true ↔ c.ports.length ≠ 0 ∧ c.ports.length ≤ 8 ∧ c.mac.headD 0 % 2 = 0 ∧ 0 ≤ c.places ∧ c.places ≤ 4096 ∧ 0 ≤ c.start ∧ c.start < 4611686018427387904 ∧ 0 ≤ c.prio ∧ c.prio ≤ 61440 ∧ c.prio % 4096 = 0 ∧ (c.ports.all fun p => speedOk p.speed) = true := by
  unfold bridgeOk
  simp only [Bool.and_eq_true, decide_eq_true_eq, and_assoc]

theorem bridgeE_bad {c : Cf} (h : ¬ bridgeOk c = true) : bridgeE c = 30 := by unfold bridgeE; rw [if_neg h]
theorem bridgeE_ok {c : Cf} (h : bridgeOk c = true) : bridgeE c = 0 := by unfold bridgeE; rw [if_pos h]

set_option maxRecDepth 100000 in
set_option maxHeartbeats 8000000 in
theorem bridge_check (c : Cf) (hm : MacIs c.mac) (hbn : c.bounds.length = 8) (pv : Value) (hn : c.ports.length ≤ 140737488355328) (w : World) (hR : RecsR w pv 2 (c.ports.map ptC)) :
    Calls Tryz.prog 34 #[cfV c pv] w fun ev w' => ev = .returned (.int .i64 (bridgeE c)) ∧ Keeps Nothing w w' := by
  have HG := fun w => Lib.hid (group_ok c.mac hm w)
  have HI := fun w => Lib.hid (id_ok c.prio c.mac hm w)
  have HC := Lib.hid (fun (w' : World) (h : RecsR w' pv 2 (c.ports.map ptC)) => contains_func c.ports hn pv w' h)
  have HIFF := Lib.hid (bridgeOk_iff c)
  have HBAD := Lib.hid (@bridgeE_bad c)
  have HOK := Lib.hid (@bridgeE_ok c)
  obtain ⟨A, cp, rfl⟩ := hR.form
  rw [List.length_map] at HC hR ⊢
  obtain ⟨n, hnn⟩ : ∃ n, n = c.ports.length := ⟨_, rfl⟩
  rw [← hnn] at hn HIFF HC hR ⊢
  clear hnn
  generalize bridgeE c = E at *
  generalize bridgeOk c = OK at *
  obtain ⟨prio, mac, ports, places, bounds, start⟩ := c
  simp only at *
  obtain ⟨hml, -⟩ := hm
  obtain ⟨q0, q1, q2, q3, q4, q5, rfl⟩ := sixOf hml
  obtain ⟨b0, b1, b2, b3, b4, b5, b6, b7, rfl⟩ := eightOf hbn
  · skip
    have HB : Hid (Blk (w.alloc (.cells #[.int .i64 prio, .int .u8 q0, .int .u8 q1, .int .u8 q2, .int .u8 q3, .int .u8 q4, .int .u8 q5, .slice A n cp, .int .i64 places, .int .i64 b0, .int .i64 b1, .int .i64 b2, .int .i64 b3, .int .i64 b4, .int .i64 b5, .int .i64 b6, .int .i64 b7, .int .i64 start] 61)) w.heap.size [.int .i64 prio, .int .u8 q0, .int .u8 q1, .int .u8 q2, .int .u8 q3, .int .u8 q4, .int .u8 q5, .slice A n cp, .int .i64 places, .int .i64 b0, .int .i64 b1, .int .i64 b2, .int .i64 b3, .int .i64 b4, .int .i64 b5, .int .i64 b6, .int .i64 b7, .int .i64 start] 61) := Lib.hid (Blk.new w _ 61)
    have K1 := Lib.hid ((Keeps.refl Nothing w).alloc (.cells #[.int .i64 prio, .int .u8 q0, .int .u8 q1, .int .u8 q2, .int .u8 q3, .int .u8 q4, .int .u8 q5, .slice A n cp, .int .i64 places, .int .i64 b0, .int .i64 b1, .int .i64 b2, .int .i64 b3, .int .i64 b4, .int .i64 b5, .int .i64 b6, .int .i64 b7, .int .i64 start] 61))
    have HR := Lib.hid (hR.still K1.out)
    clear hR
    show Calls Tryz.prog 34 #[.agg #[.int .i64 prio, .int .u8 q0, .int .u8 q1, .int .u8 q2, .int .u8 q3, .int .u8 q4, .int .u8 q5, .slice A n cp, .int .i64 places, .int .i64 b0, .int .i64 b1, .int .i64 b2, .int .i64 b3, .int .i64 b4, .int .i64 b5, .int .i64 b6, .int .i64 b7, .int .i64 start]] w _
    have HGL : ∀ w, Hid (Calls Tryz.prog 60 #[.agg #[.int .u8 q0, .int .u8 q1, .int .u8 q2, .int .u8 q3, .int .u8 q4, .int .u8 q5]] w _) := HG
    have HIL : ∀ w, Hid (Calls Tryz.prog 61 #[.int .i64 prio, .agg #[.int .u8 q0, .int .u8 q1, .int .u8 q2, .int .u8 q3, .int .u8 q4, .int .u8 q5]] w _) := HI
    clear HG HI
    by_cases h1 : n = 0
    · obtain rfl : E = 30 := HBAD.out (by rw [HIFF.out]; omega)
      subst h1
      go_enter Tryz.func34, Tryz.ntmps34
      go_wp2
      go_ret
      exact ⟨rfl, K1.out⟩
    have h1i : ¬ ((n : Int)) = 0 := by omega
    by_cases h2 : 8 < n
    · obtain rfl : E = 30 := HBAD.out (by rw [HIFF.out]; omega)
      go_enter Tryz.func34, Tryz.ntmps34
      go_wp2
      go_ret
      exact ⟨rfl, K1.out⟩
    have h2i : ¬ (8 : Int) < (n : Int) := by omega
    by_cases h3 : q0 % 2 = 0
    case neg =>
      obtain rfl : E = 30 := HBAD.out (by rw [HIFF.out]; simp; omega)
      have HGT : ∀ w, Hid (Calls Tryz.prog 60 #[.agg #[.int .u8 q0, .int .u8 q1, .int .u8 q2, .int .u8 q3, .int .u8 q4, .int .u8 q5]] w fun ev w' => ev = .returned (.bool true) ∧ Keeps Nothing w w') := fun w => by
        have := (HGL w).out
        rw [show decide (List.headD [q0, q1, q2, q3, q4, q5] 0 % 2 ≠ 0) = true by simp; omega] at this
        exact this
      clear HGL h3
      go_enter Tryz.func34, Tryz.ntmps34
      go_wp2_with (go_at_call 60; refine ((HGT _).out).mono ?_; rintro ev w2 ⟨rfl, k2⟩; have K2 := Lib.hid (K1.out.same k2); clear k2)
      go_ret
      exact ⟨rfl, K2.out⟩
    have HGF : ∀ w, Hid (Calls Tryz.prog 60 #[.agg #[.int .u8 q0, .int .u8 q1, .int .u8 q2, .int .u8 q3, .int .u8 q4, .int .u8 q5]] w fun ev w' => ev = .returned (.bool false) ∧ Keeps Nothing w w') := fun w => by
      have := (HGL w).out
      rw [show decide (List.headD [q0, q1, q2, q3, q4, q5] 0 % 2 ≠ 0) = false by simp [h3]] at this
      exact this
    clear HGL
    by_cases h4 : places < 0
    · obtain rfl : E = 30 := HBAD.out (by rw [HIFF.out]; omega)
      go_enter Tryz.func34, Tryz.ntmps34
      go_wp2_with (first | (go_at_call 60; refine ((HGF _).out).mono ?_; rintro ev w2 ⟨rfl, k2⟩; have K2 := Lib.hid (K1.out.same k2); have hb2 := HB.out.keeps k2 (fun h => h); have HR2 := Lib.hid (HR.out.still k2); have f0 : w2.cell? ⟨w.heap.size, 0, none⟩ = some (.int .i64 prio) := hb2.cell 0; have f1 : w2.cell? ⟨w.heap.size, 1, none⟩ = some (.int .u8 q0) := hb2.cell 1; have f2 : w2.cell? ⟨w.heap.size, 2, none⟩ = some (.int .u8 q1) := hb2.cell 2; have f3 : w2.cell? ⟨w.heap.size, 3, none⟩ = some (.int .u8 q2) := hb2.cell 3; have f4 : w2.cell? ⟨w.heap.size, 4, none⟩ = some (.int .u8 q3) := hb2.cell 4; have f5 : w2.cell? ⟨w.heap.size, 5, none⟩ = some (.int .u8 q4) := hb2.cell 5; have f6 : w2.cell? ⟨w.heap.size, 6, none⟩ = some (.int .u8 q5) := hb2.cell 6; have f7 : w2.cell? ⟨w.heap.size, 7, none⟩ = some (.slice A n cp) := hb2.cell 7; have f8 : w2.cell? ⟨w.heap.size, 8, none⟩ = some (.int .i64 places) := hb2.cell 8; have f17 : w2.cell? ⟨w.heap.size, 17, none⟩ = some (.int .i64 start) := hb2.cell 17; have HB2 := Lib.hid hb2; clear k2 hb2))
      go_ret
      exact ⟨rfl, K2.out⟩
    by_cases h5 : 4096 < places
    · obtain rfl : E = 30 := HBAD.out (by rw [HIFF.out]; omega)
      go_enter Tryz.func34, Tryz.ntmps34
      go_wp2_with (first | (go_at_call 60; refine ((HGF _).out).mono ?_; rintro ev w2 ⟨rfl, k2⟩; have K2 := Lib.hid (K1.out.same k2); have hb2 := HB.out.keeps k2 (fun h => h); have HR2 := Lib.hid (HR.out.still k2); have f0 : w2.cell? ⟨w.heap.size, 0, none⟩ = some (.int .i64 prio) := hb2.cell 0; have f1 : w2.cell? ⟨w.heap.size, 1, none⟩ = some (.int .u8 q0) := hb2.cell 1; have f2 : w2.cell? ⟨w.heap.size, 2, none⟩ = some (.int .u8 q1) := hb2.cell 2; have f3 : w2.cell? ⟨w.heap.size, 3, none⟩ = some (.int .u8 q2) := hb2.cell 3; have f4 : w2.cell? ⟨w.heap.size, 4, none⟩ = some (.int .u8 q3) := hb2.cell 4; have f5 : w2.cell? ⟨w.heap.size, 5, none⟩ = some (.int .u8 q4) := hb2.cell 5; have f6 : w2.cell? ⟨w.heap.size, 6, none⟩ = some (.int .u8 q5) := hb2.cell 6; have f7 : w2.cell? ⟨w.heap.size, 7, none⟩ = some (.slice A n cp) := hb2.cell 7; have f8 : w2.cell? ⟨w.heap.size, 8, none⟩ = some (.int .i64 places) := hb2.cell 8; have f17 : w2.cell? ⟨w.heap.size, 17, none⟩ = some (.int .i64 start) := hb2.cell 17; have HB2 := Lib.hid hb2; clear k2 hb2))
      go_ret
      exact ⟨rfl, K2.out⟩
    by_cases h6 : start < 0
    · obtain rfl : E = 30 := HBAD.out (by rw [HIFF.out]; omega)
      go_enter Tryz.func34, Tryz.ntmps34
      go_wp2_with (first | (go_at_call 60; refine ((HGF _).out).mono ?_; rintro ev w2 ⟨rfl, k2⟩; have K2 := Lib.hid (K1.out.same k2); have hb2 := HB.out.keeps k2 (fun h => h); have HR2 := Lib.hid (HR.out.still k2); have f0 : w2.cell? ⟨w.heap.size, 0, none⟩ = some (.int .i64 prio) := hb2.cell 0; have f1 : w2.cell? ⟨w.heap.size, 1, none⟩ = some (.int .u8 q0) := hb2.cell 1; have f2 : w2.cell? ⟨w.heap.size, 2, none⟩ = some (.int .u8 q1) := hb2.cell 2; have f3 : w2.cell? ⟨w.heap.size, 3, none⟩ = some (.int .u8 q2) := hb2.cell 3; have f4 : w2.cell? ⟨w.heap.size, 4, none⟩ = some (.int .u8 q3) := hb2.cell 4; have f5 : w2.cell? ⟨w.heap.size, 5, none⟩ = some (.int .u8 q4) := hb2.cell 5; have f6 : w2.cell? ⟨w.heap.size, 6, none⟩ = some (.int .u8 q5) := hb2.cell 6; have f7 : w2.cell? ⟨w.heap.size, 7, none⟩ = some (.slice A n cp) := hb2.cell 7; have f8 : w2.cell? ⟨w.heap.size, 8, none⟩ = some (.int .i64 places) := hb2.cell 8; have f17 : w2.cell? ⟨w.heap.size, 17, none⟩ = some (.int .i64 start) := hb2.cell 17; have HB2 := Lib.hid hb2; clear k2 hb2))
      go_ret
      exact ⟨rfl, K2.out⟩
    by_cases h7 : 4611686018427387904 ≤ start
    · obtain rfl : E = 30 := HBAD.out (by rw [HIFF.out]; omega)
      go_enter Tryz.func34, Tryz.ntmps34
      go_wp2_with (first | (go_at_call 60; refine ((HGF _).out).mono ?_; rintro ev w2 ⟨rfl, k2⟩; have K2 := Lib.hid (K1.out.same k2); have hb2 := HB.out.keeps k2 (fun h => h); have HR2 := Lib.hid (HR.out.still k2); have f0 : w2.cell? ⟨w.heap.size, 0, none⟩ = some (.int .i64 prio) := hb2.cell 0; have f1 : w2.cell? ⟨w.heap.size, 1, none⟩ = some (.int .u8 q0) := hb2.cell 1; have f2 : w2.cell? ⟨w.heap.size, 2, none⟩ = some (.int .u8 q1) := hb2.cell 2; have f3 : w2.cell? ⟨w.heap.size, 3, none⟩ = some (.int .u8 q2) := hb2.cell 3; have f4 : w2.cell? ⟨w.heap.size, 4, none⟩ = some (.int .u8 q3) := hb2.cell 4; have f5 : w2.cell? ⟨w.heap.size, 5, none⟩ = some (.int .u8 q4) := hb2.cell 5; have f6 : w2.cell? ⟨w.heap.size, 6, none⟩ = some (.int .u8 q5) := hb2.cell 6; have f7 : w2.cell? ⟨w.heap.size, 7, none⟩ = some (.slice A n cp) := hb2.cell 7; have f8 : w2.cell? ⟨w.heap.size, 8, none⟩ = some (.int .i64 places) := hb2.cell 8; have f17 : w2.cell? ⟨w.heap.size, 17, none⟩ = some (.int .i64 start) := hb2.cell 17; have HB2 := Lib.hid hb2; clear k2 hb2))
      go_ret
      exact ⟨rfl, K2.out⟩
    by_cases h8 : 0 ≤ prio ∧ prio ≤ 61440 ∧ prio % 4096 = 0
    case neg =>
      obtain rfl : E = 30 := HBAD.out (by rw [HIFF.out]; omega)
      have HIL' := HIL
      simp only [if_neg h8] at HIL'
      clear HIL HIFF HBAD HOK h8
      go_enter Tryz.func34, Tryz.ntmps34
      go_wp2_with (first | (go_at_call 60; refine ((HGF _).out).mono ?_; rintro ev w2 ⟨rfl, k2⟩; have K2 := Lib.hid (K1.out.same k2); have hb2 := HB.out.keeps k2 (fun h => h); have HR2 := Lib.hid (HR.out.still k2); have f0 : w2.cell? ⟨w.heap.size, 0, none⟩ = some (.int .i64 prio) := hb2.cell 0; have f1 : w2.cell? ⟨w.heap.size, 1, none⟩ = some (.int .u8 q0) := hb2.cell 1; have f2 : w2.cell? ⟨w.heap.size, 2, none⟩ = some (.int .u8 q1) := hb2.cell 2; have f3 : w2.cell? ⟨w.heap.size, 3, none⟩ = some (.int .u8 q2) := hb2.cell 3; have f4 : w2.cell? ⟨w.heap.size, 4, none⟩ = some (.int .u8 q3) := hb2.cell 4; have f5 : w2.cell? ⟨w.heap.size, 5, none⟩ = some (.int .u8 q4) := hb2.cell 5; have f6 : w2.cell? ⟨w.heap.size, 6, none⟩ = some (.int .u8 q5) := hb2.cell 6; have f7 : w2.cell? ⟨w.heap.size, 7, none⟩ = some (.slice A n cp) := hb2.cell 7; have f8 : w2.cell? ⟨w.heap.size, 8, none⟩ = some (.int .i64 places) := hb2.cell 8; have f17 : w2.cell? ⟨w.heap.size, 17, none⟩ = some (.int .i64 start) := hb2.cell 17; have HB2 := Lib.hid hb2; clear k2 hb2) | (go_at_call 61; refine ((HIL' _).out).mono ?_; rintro ev w3 ⟨⟨v, rfl⟩, k3⟩; have K3 := Lib.hid (K2.out.same k3); have g7 : w3.cell? ⟨w.heap.size, 7, none⟩ = some (.slice A n cp) := (HB2.out.keeps k3 (fun h => h)).cell 7; have HR3 := Lib.hid (HR2.out.still k3); clear k3))
      all_goals first | (go_ret; exact ⟨rfl, K3.out⟩) | (exfalso; rename_i hx; simp at hx; omega)
    have HIL' := HIL
    simp only [if_pos h8] at HIL'
    clear HIL
    cases hal : (ports.all fun p => speedOk p.speed) with
    | false =>
      obtain rfl : E = 30 := HBAD.out (by rw [HIFF.out, hal]; simp)
      rw [hal] at HC
      clear HIFF HBAD HOK h8 hal
      go_enter Tryz.func34, Tryz.ntmps34
      go_wp2_with (first | (go_at_call 60; refine ((HGF _).out).mono ?_; rintro ev w2 ⟨rfl, k2⟩; have K2 := Lib.hid (K1.out.same k2); have hb2 := HB.out.keeps k2 (fun h => h); have HR2 := Lib.hid (HR.out.still k2); have f0 : w2.cell? ⟨w.heap.size, 0, none⟩ = some (.int .i64 prio) := hb2.cell 0; have f1 : w2.cell? ⟨w.heap.size, 1, none⟩ = some (.int .u8 q0) := hb2.cell 1; have f2 : w2.cell? ⟨w.heap.size, 2, none⟩ = some (.int .u8 q1) := hb2.cell 2; have f3 : w2.cell? ⟨w.heap.size, 3, none⟩ = some (.int .u8 q2) := hb2.cell 3; have f4 : w2.cell? ⟨w.heap.size, 4, none⟩ = some (.int .u8 q3) := hb2.cell 4; have f5 : w2.cell? ⟨w.heap.size, 5, none⟩ = some (.int .u8 q4) := hb2.cell 5; have f6 : w2.cell? ⟨w.heap.size, 6, none⟩ = some (.int .u8 q5) := hb2.cell 6; have f7 : w2.cell? ⟨w.heap.size, 7, none⟩ = some (.slice A n cp) := hb2.cell 7; have f8 : w2.cell? ⟨w.heap.size, 8, none⟩ = some (.int .i64 places) := hb2.cell 8; have f17 : w2.cell? ⟨w.heap.size, 17, none⟩ = some (.int .i64 start) := hb2.cell 17; have HB2 := Lib.hid hb2; clear k2 hb2) | (go_at_call 61; refine ((HIL' _).out).mono ?_; rintro ev w3 ⟨⟨v, rfl⟩, k3⟩; have K3 := Lib.hid (K2.out.same k3); have g7 : w3.cell? ⟨w.heap.size, 7, none⟩ = some (.slice A n cp) := (HB2.out.keeps k3 (fun h => h)).cell 7; have HR3 := Lib.hid (HR2.out.still k3); clear k3) | (go_at_call 62; refine (HC.out _ HR3.out).mono ?_; rintro ev w4 ⟨rfl, k4⟩; have K4 := Lib.hid (K3.out.same k4); clear k4))
      all_goals first | (go_ret; exact ⟨rfl, K4.out⟩) | (exfalso; rename_i hx; simp at hx; omega)
    | true =>
      obtain rfl : E = 0 := HOK.out (by rw [HIFF.out, hal]; simp; omega)
      rw [hal] at HC
      clear HIFF HBAD HOK h8 hal
      go_enter Tryz.func34, Tryz.ntmps34
      go_wp2_with (first | (go_at_call 60; refine ((HGF _).out).mono ?_; rintro ev w2 ⟨rfl, k2⟩; have K2 := Lib.hid (K1.out.same k2); have hb2 := HB.out.keeps k2 (fun h => h); have HR2 := Lib.hid (HR.out.still k2); have f0 : w2.cell? ⟨w.heap.size, 0, none⟩ = some (.int .i64 prio) := hb2.cell 0; have f1 : w2.cell? ⟨w.heap.size, 1, none⟩ = some (.int .u8 q0) := hb2.cell 1; have f2 : w2.cell? ⟨w.heap.size, 2, none⟩ = some (.int .u8 q1) := hb2.cell 2; have f3 : w2.cell? ⟨w.heap.size, 3, none⟩ = some (.int .u8 q2) := hb2.cell 3; have f4 : w2.cell? ⟨w.heap.size, 4, none⟩ = some (.int .u8 q3) := hb2.cell 4; have f5 : w2.cell? ⟨w.heap.size, 5, none⟩ = some (.int .u8 q4) := hb2.cell 5; have f6 : w2.cell? ⟨w.heap.size, 6, none⟩ = some (.int .u8 q5) := hb2.cell 6; have f7 : w2.cell? ⟨w.heap.size, 7, none⟩ = some (.slice A n cp) := hb2.cell 7; have f8 : w2.cell? ⟨w.heap.size, 8, none⟩ = some (.int .i64 places) := hb2.cell 8; have f17 : w2.cell? ⟨w.heap.size, 17, none⟩ = some (.int .i64 start) := hb2.cell 17; have HB2 := Lib.hid hb2; clear k2 hb2) | (go_at_call 61; refine ((HIL' _).out).mono ?_; rintro ev w3 ⟨⟨v, rfl⟩, k3⟩; have K3 := Lib.hid (K2.out.same k3); have g7 : w3.cell? ⟨w.heap.size, 7, none⟩ = some (.slice A n cp) := (HB2.out.keeps k3 (fun h => h)).cell 7; have HR3 := Lib.hid (HR2.out.still k3); clear k3) | (go_at_call 62; refine (HC.out _ HR3.out).mono ?_; rintro ev w4 ⟨rfl, k4⟩; have K4 := Lib.hid (K3.out.same k4); clear k4))
      all_goals first | (go_ret; exact ⟨rfl, K4.out⟩) | (exfalso; rename_i hx; simp at hx; omega)
end Go.Proofs.YtdncojofilnhnaaGreatDoor
