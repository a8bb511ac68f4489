/- CaptureWindows: the plain law and the walk. -/
import Derived.Test.YtmmeloklnkfjjaaKeep
namespace Go.Proofs.Ytmmeloklnkfjjaa
open Go.RowKit

theorem win_add (l : List Fr) (a b c : Int) (h1 : a ≤ b) (h2 : b ≤ c) : (l.filter (inWin a b)).length + (l.filter (inWin b c)).length = (l.filter (inWin a c)).length := by
  induction l with
  | nil => rfl
  | cons f l ih =>
    simp only [List.filter_cons, inWin] at ih ⊢
    by_cases q1 : a ≤ f.frm
    · by_cases q2 : f.frm < b
      · have q3 : ¬ b ≤ f.frm := by omega
        have q4 : f.frm < c := by omega
        simp only [q1, q2, q3, q4, and_self, false_and, decide_true, decide_false, if_true, List.length_cons]
        simp
        omega
      · have q3 : b ≤ f.frm := by omega
        by_cases q4 : f.frm < c
        · simp only [q1, q2, q3, q4, and_self, and_false, decide_true, decide_false, if_true, List.length_cons]
          simp
          omega
        · simp only [q1, q2, q3, q4, and_false, decide_false]
          simpa using ih
    · have q3 : ¬ b ≤ f.frm := by omega
      simp only [q1, q3, false_and, decide_false]
      simpa using ih

theorem busy1_add (port a b c : Int) (f : Fr) (h1 : a ≤ b) (h2 : b ≤ c) (hf : f.frm ≤ f.till) : busy1 port a b f + busy1 port b c f = busy1 port a c f := by
  unfold busy1 mxI mnI
  by_cases hp : f.port = port
  · simp only [hp, true_and]
    repeat' split
    all_goals omega
  · simp [hp]

theorem busyS_add (port a b c : Int) (l : List Fr) (h1 : a ≤ b) (h2 : b ≤ c) (hf : ∀ f ∈ l, f.frm ≤ f.till) : busyS port a b l + busyS port b c l = busyS port a c l := by
  induction l with
  | nil => rfl
  | cons f l ih =>
    have q1 := ih (fun x hx => hf x (by simp [hx]))
    have q2 := busy1_add port a b c f h1 h2 (hf f (by simp))
    simp only [busyS, List.map_cons, List.sum_cons] at q1 ⊢
    omega

def tsF (x0 x1 x2 : Int) : Nat → Int := fun k => if k = 0 then x0 else if k = 1 then x1 else x2

theorem ts_at (x0 x1 x2 : Int) (k : Nat) (hk : k < 3) : ∀ w, (Instr.index 39 (.agg #[.int .i64 x0, .int .i64 x1, .int .i64 x2]) (.int .i64 (k : Nat))).run Try.prog w = .ok (.int .i64 (tsF x0 x1 x2 k)) w := by
  match k, hk with
  | 0, _ => exact fun w => by kernel_rfl
  | 1, _ => exact fun w => by kernel_rfl
  | 2, _ => exact fun w => by kernel_rfl

def TsInv (w : World) (x0 x1 x2 : Int) (k : Nat) (i : Value) (wr : World) : Prop :=
  ∃ j : Nat, j + k = 3 ∧ i = .int .i64 (j : Nat) ∧ (∀ m, m < j → 0 ≤ tsF x0 x1 x2 m ∧ tsF x0 x1 x2 m ≤ 1125899906842624) ∧ wr = w

def FrInv (w : World) (l : List Fr) (k : Nat) (i : Value) (wr : World) : Prop :=
  ∃ j : Nat, j + k = l.length ∧ i = .int .i64 (j : Nat) ∧ (∀ (m : Nat) (f : Fr), m < j → l[m]? = some f → 0 ≤ f.frm ∧ f.frm ≤ f.till ∧ f.till ≤ 1125899906842624) ∧ Keeps Nothing w wr

set_option maxRecDepth 100000 in
set_option maxHeartbeats 16000000 in
theorem wins_ok {w : World} {A : Option Addr} {c : Nat} {l : List Fr} (hr : FrsR w A c l) (hl : l.length ≤ 9223372036854775807) (port x0 x1 x2 : Int) :
    Calls Try.prog 6 #[.slice A l.length c, .int .i64 port, .agg #[.int .i64 x0, .int .i64 x1, .int .i64 x2]] w (TrueKept w) := by
  have HR := Lib.hid hr
  clear hr
  have HB0 := Lib.hid (Blk.new w [.int .i64 x0, .int .i64 x1, .int .i64 x2] 39)
  have HK0 := Lib.hid ((Keeps.refl Nothing w).alloc (.cells #[.int .i64 x0, .int .i64 x1, .int .i64 x2] 39))
  by_cases hsm : Small l
  · have S := fun (v : World) (hv : Keeps Nothing w v) => small_ok (HR.out.same hv) hl true ⟨fun _ => hsm, fun _ => rfl⟩
    have hl100 : l.length ≤ 100 := hsm.2
    clear hsm
    go_enter Try.func6, Try.ntmps6
    go_upto_region 5 with (first | (go_at_call 9; refine keeps_ok.mono ?_; rintro e w1 ⟨rfl, k1⟩; have K1 := Lib.hid k1; clear k1) | (go_at_call 10; refine (S _ (HK0.out.same K1.out)).mono ?_; clear S; rintro e w2 ⟨rfl, k2⟩; have K2 := Lib.hid (K1.out.same k2); clear k2))
    have hb2 := HB0.out.keeps K2.out (fun h => h)
    have d0 : w2.cell? ⟨w.heap.size, 0, none⟩ = some (.int .i64 x0) := hb2.cell 0
    have d1 : w2.cell? ⟨w.heap.size, 1, none⟩ = some (.int .i64 x1) := hb2.cell 1
    have d2 : w2.cell? ⟨w.heap.size, 2, none⟩ = some (.int .i64 x2) := hb2.cell 2
    clear hb2
    go_wp2_with fail
    go_loopg [21] 3 (fun k i wr => TsInv w2 x0 x1 x2 k i wr)
    case atStart => exact ⟨0, by omega, rfl, fun m h => by omega, rfl⟩
    case round =>
      obtain ⟨j, hj, rfl, hgood, rfl⟩ := hrel
      have HG := Lib.hid hgood
      clear hgood
      by_cases hlt : j < 3
      · have hix := ts_at x0 x1 x2 j hlt
        obtain ⟨t, ht⟩ : ∃ t, t = tsF x0 x1 x2 j := ⟨_, rfl⟩
        rw [← ht] at hix
        have HT := Lib.hid ht
        clear ht
        by_cases t1 : t < 0
        · go_wp2_with fail
          go_ret
          exact ⟨rfl, HK0.out.same K2.out⟩
        · have t1' : decide (t < 0) = false := by simpa using t1
          by_cases t2 : 1125899906842624 < t
          · go_wp2_with fail
            go_ret
            exact ⟨rfl, HK0.out.same K2.out⟩
          · have t2' : decide ((1125899906842624 : Int) < t) = false := by simpa using t2
            go_wp2_with fail
            go_roundg (gk - 1)
            case measure => omega
            case rel =>
              refine ⟨j + 1, by omega, by go_num, fun m hm => ?_, rfl⟩
              by_cases e : m = j
              · subst e
                rw [← HT.out]
                omega
              · exact HG.out m (by omega)
      · obtain rfl : j = 3 := by omega
        have g0 : 0 ≤ x0 ∧ x0 ≤ 1125899906842624 := HG.out 0 (by omega)
        have g1 : 0 ≤ x1 ∧ x1 ≤ 1125899906842624 := HG.out 1 (by omega)
        have g2 : 0 ≤ x2 ∧ x2 ≤ 1125899906842624 := HG.out 2 (by omega)
        obtain ⟨g0a, g0b⟩ := g0
        obtain ⟨g1a, g1b⟩ := g1
        obtain ⟨g2a, g2b⟩ := g2
        obtain ⟨wo, rfl⟩ : ∃ wo, wo = wr := ⟨_, rfl⟩
        clear d0 d1 d2 HG
        go_wp2_with fail
        go_loopg [33] l.length (fun k i wr => FrInv wo l k i wr)
        case atStart => exact ⟨0, by omega, rfl, fun m f h => by omega, Keeps.refl _ _⟩
        case round =>
          obtain ⟨j, hj, rfl, hgood, hk⟩ := hrel
          have HG := Lib.hid hgood
          have HK := Lib.hid (K2.out.same hk)
          have HKo := Lib.hid hk
          clear hgood hk
          by_cases hlt : j < l.length
          · obtain ⟨fp, fc, ff, ft, fB, fcap, fbs, b, o, hfj, rfl, f0, f1, f2, f3, f4, -⟩ := (HR.out.same (HK0.out.same HK.out)).get hlt
            have HF := Lib.hid hfj
            clear hfj
            by_cases t1 : ff < 0
            · go_wp2_with fail
              go_ret
              exact ⟨rfl, (HK0.out.same HK.out).alloc _⟩
            · have t1' : decide (ff < 0) = false := by simpa using t1
              by_cases t2 : ft < ff
              · go_wp2_with fail
                go_ret
                exact ⟨rfl, (HK0.out.same HK.out).alloc _⟩
              · have t2' : decide (ft < ff) = false := by simpa using t2
                by_cases t3 : 1125899906842624 < ft
                · go_wp2_with fail
                  go_ret
                  exact ⟨rfl, (HK0.out.same HK.out).alloc _⟩
                · have t3' : decide ((1125899906842624 : Int) < ft) = false := by simpa using t3
                  go_wp2_with fail
                  go_roundg (gk - 1)
                  case measure => omega
                  case rel =>
                    refine ⟨j + 1, by omega, by go_num, fun m f hm he => ?_, HKo.out.alloc _⟩
                    by_cases e : m = j
                    · subst e
                      rw [HF.out] at he
                      injection he with he
                      subst he
                      simp only
                      omega
                    · exact HG.out m f (by omega) he
          · obtain rfl : j = l.length := by omega
            have hfr : ∀ f ∈ l, f.frm ≤ f.till := fun f hf => by
              obtain ⟨m, hm⟩ := List.getElem?_of_mem hf
              exact (HG.out m f (List.getElem?_eq_some_iff.1 hm).1 hm).2.1
            have hb2 := HB0.out.keeps HK.out (fun h => h)
            have d0 : wr.cell? ⟨w.heap.size, 0, none⟩ = some (.int .i64 x0) := hb2.cell 0
            have d1 : wr.cell? ⟨w.heap.size, 1, none⟩ = some (.int .i64 x1) := hb2.cell 1
            have d2 : wr.cell? ⟨w.heap.size, 2, none⟩ = some (.int .i64 x2) := hb2.cell 2
            have HKA := Lib.hid (HK0.out.same HK.out)
            obtain ⟨C, hC⟩ : ∃ C, x0 + x1 = C := ⟨_, rfl⟩
            obtain ⟨T, hT⟩ : ∃ T, C + x2 = T := ⟨_, rfl⟩
            have hCb : x0 ≤ C ∧ C ≤ 2251799813685248 := by omega
            have hTb : C ≤ T ∧ T ≤ 3377699720527872 := by omega
            have D1 := fun (v : World) (hv : Keeps Nothing w v) => window_ok (HR.out.same hv) (by omega) x0 C
            have D2 := fun (v : World) (hv : Keeps Nothing w v) => window_ok (HR.out.same hv) (by omega) C T
            have D3 := fun (v : World) (hv : Keeps Nothing w v) => window_ok (HR.out.same hv) (by omega) x0 T
            have E1 := fun (v : World) (hv : Keeps Nothing w v) => busy_ok (HR.out.same hv) hl100 port x0 T (by omega) (by omega) (by omega) (by omega)
            have E2 := fun (v : World) (hv : Keeps Nothing w v) => busy_ok (HR.out.same hv) hl100 port x0 C (by omega) (by omega) (by omega) (by omega)
            have E3 := fun (v : World) (hv : Keeps Nothing w v) => busy_ok (HR.out.same hv) hl100 port C T (by omega) (by omega) (by omega) (by omega)
            have hadd := win_add l x0 C T hCb.1 hTb.1
            have hbadd := busyS_add port x0 C T l hCb.1 hTb.1 hfr
            have hb0 := (busyS_le port x0 T l (by omega) (by omega)).1
            have hb1 := busyS_le port x0 C l (by omega) (by omega)
            have hb3 := busyS_le port C T l (by omega) (by omega)
            have hn3 : (l.filter (inWin x0 T)).length ≤ 100 := Nat.le_trans (List.length_filter_le _ _) hl100
            unfold WinRes at D1 D2 D3
            generalize (l.filter (inWin x0 C)).length = n1 at *
            generalize (l.filter (inWin C T)).length = n2 at *
            generalize (l.filter (inWin x0 T)).length = n3 at *
            generalize busyS port x0 T l = B1 at *
            generalize busyS port x0 C l = B2 at *
            generalize busyS port C T l = B3 at *
            have q1 : (((n1 : Int) + (n2 : Int)) != (n3 : Int)) = false := by simp; omega
            have q2 : ((B2 + B3) == B1) = true := by simpa using hbadd
            have q3 : decide (0 ≤ B1) = true := by simpa using hb0
            have hb1' : 0 ≤ B2 ∧ B2 ≤ 900719925474099200 := by omega
            have hb3' : 0 ≤ B3 ∧ B3 ≤ 900719925474099200 := by omega
            obtain ⟨r1, r2⟩ := hb1'
            obtain ⟨r3, r4⟩ := hb3'
            have hn1 : n1 ≤ 100 := by omega
            have hn2 : n2 ≤ 100 := by omega
            clear hadd hbadd hb2 hfr hb1 hb3 HB0 HK0 HR HG HK HKo K2
            go_wp2_with (first
              | (go_at_call 16; refine (D1 _ HKA.out).mono ?_; clear D1; rintro e w3 ⟨A3, c3, rfl, k3⟩; have K3 := Lib.hid (HKA.out.same k3); clear k3)
              | (go_at_call 16; refine (D2 _ K3.out).mono ?_; clear D2; rintro e w4 ⟨A4, c4, rfl, k4⟩; have K4 := Lib.hid (K3.out.same k4); clear k4)
              | (go_at_call 16; refine (D3 _ K4.out).mono ?_; clear D3; rintro e w5 ⟨A5, c5, rfl, k5⟩; have K5 := Lib.hid (K4.out.same k5); clear k5)
              | (go_at_call 17; refine (E1 _ K5.out).mono ?_; clear E1; rintro e w6 ⟨rfl, k6⟩; have K6 := Lib.hid (K5.out.same k6); clear k6)
              | (go_at_call 17; refine (E2 _ K6.out).mono ?_; clear E2; rintro e w7 ⟨rfl, k7⟩; have K7 := Lib.hid (K6.out.same k7); clear k7)
              | (go_at_call 17; refine (E3 _ K7.out).mono ?_; clear E3; rintro e w8 ⟨rfl, k8⟩; have K8 := Lib.hid (K7.out.same k8); clear k8))
            go_ret
            exact ⟨rfl, K8.out⟩
  · have S := fun (v : World) (hv : Keeps Nothing w v) => small_ok (HR.out.same hv) hl false ⟨(fun h => by cases h), fun h => absurd h hsm⟩
    clear hsm
    go_enter Try.func6, Try.ntmps6
    go_wp2_with (first | (go_at_call 9; refine keeps_ok.mono ?_; rintro e w1 ⟨rfl, k1⟩; have K1 := Lib.hid k1; clear k1) | (go_at_call 10; refine (S _ (HK0.out.same K1.out)).mono ?_; clear S; rintro e w2 ⟨rfl, k2⟩; have K2 := Lib.hid (K1.out.same k2); clear k2))
    go_ret
    exact ⟨rfl, HK0.out.same K2.out⟩

end Go.Proofs.Ytmmeloklnkfjjaa
