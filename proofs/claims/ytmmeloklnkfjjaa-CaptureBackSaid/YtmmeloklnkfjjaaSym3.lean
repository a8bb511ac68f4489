/- The merging of two neighbouring sorted ranges: the walk of the great step. -/
import Derived.Test.YtmmeloklnkfjjaaSym
import Derived.Deep.DeepCutAuto
import Derived.Deep.CutBlock
namespace Go.Proofs.Ytmmeloklnkfjjaa
open Go.RowKit

def Find3 (w : World) (g n : Nat) (c : Con) (s0 r0 p : Nat) (k : Nat) (i j : Value) (wr : World) : Prop :=
  ∃ x y : Nat, y = x + k ∧ i = .int .i64 (x : Nat) ∧ j = .int .i64 (y : Nat) ∧ s0 ≤ x ∧ y ≤ r0 ∧ (∀ q, s0 ≤ q → q < x → ¬ Lt (c (p - q)) (c q)) ∧ (∀ q, y ≤ q → q < r0 → Lt (c (p - q)) (c q)) ∧ RowC wr g n c ∧ Keeps (fun k => k = g) w wr

def Below3 (g n cap N : Nat) : Prop :=
  ∀ (w : World) (c : Con) (a m b : Nat), b - a < N → RowC w g n c → a < m → m < b → b ≤ n → Srt a m c → Srt m b c →
    Calls Try.prog 41 #[.slice (some ⟨g, 0, none⟩) n cap, .int .i64 (a : Nat), .int .i64 (m : Nat), .int .i64 (b : Nat), .func (.func 31) #[] #[]] w (SortRes w g n a b c)

def Half (w : World) (g n a b : Nat) (c : Con) (wr : World) : Prop :=
  ∃ d, RowC wr g n d ∧ Sw a b c d ∧ Srt a b d ∧ (Srt a b c → d = c) ∧ Keeps (fun k => k = g) w wr

set_option maxRecDepth 100000 in
set_option maxHeartbeats 32000000 in
theorem sm_gen {w : World} {g n cap : Nat} {c : Con} (hr : RowC w g n c) (hn : n ≤ 1000000) (a m b : Nat) (h1 : a + 1 < m) (h2 : m + 1 < b) (h3 : b ≤ n) (hx : Srt a m c) (hy : Srt m b c) (ih : Below3 g n cap (b - a)) :
    Calls Try.prog 41 #[.slice (some ⟨g, 0, none⟩) n cap, .int .i64 (a : Nat), .int .i64 (m : Nat), .int .i64 (b : Nat), .func (.func 31) #[] #[]] w (SortRes w g n a b c) := by
  have HR := Lib.hid hr
  have HX := Lib.hid hx
  have HY := Lib.hid hy
  have HIH := Lib.hid ih
  have hma : ((m : Int) - (a : Int) == 1) = false := by simp; omega
  have hbm : ((b : Int) - (m : Int) == 1) = false := by simp; omega
  obtain ⟨mid, hmid⟩ : ∃ mid, mid = (a + b) / 2 := ⟨_, rfl⟩
  have hmi : ((a : Int) + (b : Int)) / 2 = (mid : Int) := by omega
  have hmidb : mid < b := by omega
  have hamid : a < mid := by omega
  obtain ⟨s0, hs0⟩ : ∃ s0, s0 = if mid < m then mid + m - b else a := ⟨_, rfl⟩
  obtain ⟨r0, hr0⟩ : ∃ r0, r0 = if mid < m then mid else m := ⟨_, rfl⟩
  obtain ⟨N, hN⟩ : ∃ N, N = mid + m := ⟨_, rfl⟩
  obtain ⟨p, hp⟩ : ∃ p, p = mid + m - 1 := ⟨_, rfl⟩
  have hNi : (mid : Int) + (m : Int) = (N : Int) := by omega
  have hpi : (N : Int) - 1 = (p : Int) := by omega
  have HMid := Lib.hid hmid
  have HS0 := Lib.hid hs0
  have HR0 := Lib.hid hr0
  have HN := Lib.hid hN
  have HP := Lib.hid hp
  clear hr hx hy ih hmid hs0 hr0 hN hp
  go_enter Try.func41, Try.ntmps41
  go_upto_if 140 with fail
  go_cut [20, 21] from 141 to 146 (fun u v wx => u = .int .i64 (s0 : Nat) ∧ v = .int .i64 (r0 : Nat) ∧ w = wx)
  case first =>
    have e1 := HS0.out
    have e2 := HR0.out
    have e3 := HN.out
    by_cases hmm : mid < m
    · rw [if_pos hmm] at e1 e2
      have q1 : (N : Int) - (b : Int) = (s0 : Int) := by have := HMid.out; omega
      subst e2
      clear e1 e3
      go_wp2_with fail
      go_meet
      case rel => exact ⟨rfl, rfl, rfl⟩
    · rw [if_neg hmm] at e1 e2
      have hmm' : decide ((mid : Int) < (m : Int)) = false := by simp; omega
      subst e1 e2
      clear e3
      go_wp2_with fail
      go_meet
      case rel => exact ⟨rfl, rfl, rfl⟩
  case rest =>
    obtain ⟨rfl, rfl, rfl⟩ := hcut
    have hsr : s0 ≤ r0 := by
      have e1 := HS0.out
      have e2 := HR0.out
      have := HMid.out
      split at e1 <;> split at e2 <;> omega
    go_wp2_with fail
    go_loopg [20, 21] (r0 - s0) (fun k i j wr => Find3 w g n c s0 r0 p k i j wr)
    case atStart => exact ⟨s0, r0, by omega, rfl, rfl, Nat.le_refl _, Nat.le_refl _, fun q h1 h2 => by omega, fun q h1 h2 => by omega, HR.out, Keeps.refl _ _⟩
    case round =>
      clear HR
      obtain ⟨x, y, hxy, rfl, rfl, hax, hyb, hlo, hhi, hr, hk⟩ := hrel
      have HRr := Lib.hid hr
      have HK := Lib.hid hk
      have HLo := Lib.hid hlo
      have HHi := Lib.hid hhi
      have hbr : r0 ≤ m ∧ r0 ≤ mid ∧ a ≤ s0 ∧ p < s0 + b ∧ m ≤ p + 1 - r0 := by
        have e1 := HS0.out
        have e2 := HR0.out
        have e3 := HMid.out
        have e4 := HP.out
        split at e1 <;> split at e2 <;> omega
      obtain ⟨hr1, hr2, hr3, hr4, hr5⟩ := hbr
      by_cases hlt : x < y
      · obtain ⟨h, hh⟩ : ∃ h : Nat, h = (x + y) / 2 := ⟨_, rfl⟩
        obtain ⟨z, hz⟩ : ∃ z : Nat, z = p - h := ⟨_, rfl⟩
        have hhi2 : ((x : Int) + (y : Int)) / 2 = (h : Int) := by omega
        have hzi : (p : Int) - (h : Int) = (z : Int) := by omega
        have hxh : x ≤ h := by omega
        have hhy : h < y := by omega
        have hhn : h < n := by omega
        have hzn : z < n := by omega
        obtain ⟨x0, x1, x2, x3, x4⟩ := hr.cell hzn
        obtain ⟨y0, y1, y2, y3, y4⟩ := hr.cell hhn
        obtain ⟨f, hf⟩ : ∃ f, f = c z := ⟨_, rfl⟩
        obtain ⟨g', hg'⟩ : ∃ f, f = c h := ⟨_, rfl⟩
        rw [← hf] at x0 x1 x2 x3 x4
        rw [← hg'] at y0 y1 y2 y3 y4
        obtain ⟨R, hR⟩ : ∃ R, ordI f g' = R := ⟨_, rfl⟩
        have C := fun v => order_ok (w := v) f g' R hR
        have HLT := Lib.hid (show Lt (c z) (c h) ↔ R < 0 from by rw [← hR, ordI_lt, hf, hg'])
        obtain ⟨fp, fc, ff, ft, fA, fcap, fbs⟩ := f
        obtain ⟨gp, gc, gf, gt, gA, gcap, gbs⟩ := g'
        unfold Fr.val at C
        simp only at x0 x1 x2 x3 x4 y0 y1 y2 y3 y4 C
        have HH := Lib.hid hh
        have HZ := Lib.hid hz
        have HXY := Lib.hid hxy
        have hwz : IntKind.i64.wrap (z : Int) = (z : Int) := IntWalk.i64_in _ (by omega)
        clear hr hk hR hf hg' hh hz hxy hlo hhi
        go_upto_region 35 with fail
        go_still_tail 11, (by kernel_rfl)
        change wpList _ _ _ _ _ wr.drew
        have HRd := Lib.hid (HRr.out.drew)
        have HKd := Lib.hid (HK.out.drew)
        clear HRr HK x0 x1 x2 x3 x4 y0 y1 y2 y3 y4
        generalize wr.drew = w1 at *
        by_cases hneg : R < 0
        · have hL := HLT.out.2 hneg
          have HL := Lib.hid hL
          clear hL
          go_wp2_with (go_at_call 31; refine (C _).mono ?_; clear C; rintro e' w2 ⟨rfl, hk2⟩; have HR2 := Lib.hid (HRd.out.keeps hk2 (fun h => h)); have HK2 := Lib.hid (HKd.out.trans hk2 (fun _ h _ => h.elim)); clear hk2 HRd HKd)
          go_roundg (h - x)
          case measure => have := HXY.out; omega
          case rel =>
            refine ⟨x, h, by omega, rfl, rfl, hax, by omega, HLo.out, fun q h1 h2 => ?_, HR2.out, HK2.out⟩
            have hz := HZ.out
            have b1 : ¬ Lt (c q) (c h) := HX.out.le (by omega) h1 (by omega)
            have b2 : ¬ Lt (c z) (c (p - q)) := HY.out.le (by omega) (by omega) (by omega)
            exact lt_le (le_lt b2 HL.out) b1
        · have hneg' : decide (R < 0) = false := by simpa using hneg
          have hL : ¬ Lt (c z) (c h) := fun h => hneg (HLT.out.1 h)
          have HL := Lib.hid hL
          clear hL
          go_wp2_with (go_at_call 31; refine (C _).mono ?_; clear C; rintro e' w2 ⟨rfl, hk2⟩; have HR2 := Lib.hid (HRd.out.keeps hk2 (fun h => h)); have HK2 := Lib.hid (HKd.out.trans hk2 (fun _ h _ => h.elim)); clear hk2 HRd HKd)
          go_roundg (y - (h + 1))
          case measure => have := HXY.out; omega
          case rel =>
            refine ⟨h + 1, y, by omega, by go_num, rfl, by omega, hyb, fun q h1 h2 => ?_, HHi.out, HR2.out, HK2.out⟩
            have hz := HZ.out
            have b1 : ¬ Lt (c h) (c q) := HX.out.le (by omega) (by omega) (by omega)
            have b2 : ¬ Lt (c (p - q)) (c z) := HY.out.le (by omega) (by omega) (by omega)
            exact le_trans' (le_trans' b1 HL.out) b2
      · obtain rfl : y = x := by omega
        clear hr hk hxy hlo hhi
        obtain ⟨E, hE⟩ : ∃ E, E = mid + m - y := ⟨_, rfl⟩
        have hlo2 := HLo.out
        have hhi2 := HHi.out
        rw [HP.out] at hlo2 hhi2
        have hcut := cut_of HX.out HY.out (by omega) (by omega) HMid.out HS0.out HR0.out hax hyb hlo2 hhi2
        have hcross := cut_cross hcut HX.out HY.out
        obtain ⟨hp1, hp2, hp3, hp4⟩ := cut_parts hcut HX.out HY.out (by omega)
        have hsame := fun hs => cut_same hcut hs
        obtain ⟨c1, c2, c3, c4, c5, -, -⟩ := hcut
        rw [← hE] at hcross hp1 hp2 hp3 hp4 hsame c4 c5
        have hEi : (N : Int) - (y : Int) = (E : Int) := by have := HN.out; omega
        have hsw : Sw a b c (rot y m E c) := by
          by_cases q1 : y = m
          · rw [q1, rot_left]; exact .refl _
          · by_cases q2 : E = m
            · rw [q2, rot_right]; exact .refl _
            · exact rot_sw c y m E a b (by omega) (by omega) c1 c4
        have hE2 : y ≤ m ∧ E = mid + m - y := ⟨c2, hE⟩
        have HE2 := Lib.hid hE2
        have HCross := Lib.hid hcross
        have HP1 := Lib.hid hp1
        have HP2 := Lib.hid hp2
        have HP3 := Lib.hid hp3
        have HP4 := Lib.hid hp4
        have HSame := Lib.hid hsame
        have HSw := Lib.hid hsw
        clear hlo2 hhi2 hcross hp1 hp2 hp3 hp4 hsame hsw hE hE2 HLo HHi
        go_upto_region 39 with fail
        go_cut [185] from 178 to 184 (fun u wx => u = .bool (decide (y < m ∧ m < E)) ∧ wr = wx)
        case first =>
          by_cases t1 : y < m
          · by_cases t2 : m < E
            · have t1i : (y : Int) < (m : Int) := by omega
              have t2i : (m : Int) < (E : Int) := by omega
              go_wp2_with fail
              go_meet
              case rel => exact ⟨congrArg Value.bool (decide_eq_true ⟨t1, t2⟩).symm, rfl⟩
            · have t1i : (y : Int) < (m : Int) := by omega
              have t2i : decide ((m : Int) < (E : Int)) = false := by simp; omega
              go_wp2_with fail
              go_meet
              case rel => exact ⟨congrArg Value.bool (decide_eq_false (fun h => by omega)).symm, rfl⟩
          · have t1i : decide ((y : Int) < (m : Int)) = false := by simp; omega
            go_wp2_with fail
            go_meet
            case rel => exact ⟨congrArg Value.bool (decide_eq_false (fun h => by omega)).symm, rfl⟩
        case rest =>
          obtain ⟨rfl, rfl⟩ := hcut
          go_upto_if 185 with fail
          go_cut [185, 186] from 187 to 191 (fun _ _ wx => RowC wx g n (rot y m E c) ∧ Keeps (fun k => k = g) w wx)
          case first =>
            by_cases t1 : y < m ∧ m < E
            · rw [decide_eq_true t1]
              have C44 := rotate_ok (cap := cap) HRr.out hn y m E t1.1 t1.2 (by omega) (.func (.func 31) #[] #[])
              clear t1
              go_wp2_with (go_at_call 44; refine C44.mono ?_; clear C44; rintro e' w2 ⟨rfl, hr2, -, hk2⟩; have HR2 := Lib.hid hr2; have HK2 := Lib.hid (HK.out.trans hk2 (fun _ h _ => h)); clear hr2 hk2)
              go_meet
              case rel => exact ⟨HR2.out, HK2.out⟩
            · rw [decide_eq_false t1]
              have hr2 : RowC wr g n (rot y m E c) := by
                by_cases q1 : y = m
                · rw [q1, rot_left]; exact HRr.out
                · have q2 : E = m := by omega
                  rw [q2, rot_right]; exact HRr.out
              have HR2 := Lib.hid hr2
              clear t1 hr2
              go_wp2_with fail
              go_meet
              case rel => exact ⟨HR2.out, HK.out⟩
          case rest =>
            obtain ⟨hr2, hk2⟩ := hcut
            obtain ⟨w2, rfl⟩ : ∃ w2, w2 = wc := ⟨_, rfl⟩
            have HR2 := Lib.hid hr2
            have HK2 := Lib.hid hk2
            clear hr2 hk2 HRr HK
            generalize rot y m E c = d at *
            go_upto_region 41 with fail
            go_cut [199] from 192 to 198 (fun u wx => u = .bool (decide (a < y ∧ y < mid)) ∧ w2 = wx)
            case first =>
              by_cases t1 : a < y
              · by_cases t2 : y < mid
                · have t1i : (a : Int) < (y : Int) := by omega
                  have t2i : (y : Int) < (mid : Int) := by omega
                  go_wp2_with fail
                  go_meet
                  case rel => exact ⟨congrArg Value.bool (decide_eq_true ⟨t1, t2⟩).symm, rfl⟩
                · have t1i : (a : Int) < (y : Int) := by omega
                  have t2i : decide ((y : Int) < (mid : Int)) = false := by simp; omega
                  go_wp2_with fail
                  go_meet
                  case rel => exact ⟨congrArg Value.bool (decide_eq_false (fun h => by omega)).symm, rfl⟩
              · have t1i : decide ((a : Int) < (y : Int)) = false := by simp; omega
                go_wp2_with fail
                go_meet
                case rel => exact ⟨congrArg Value.bool (decide_eq_false (fun h => by omega)).symm, rfl⟩
            case rest =>
              obtain ⟨rfl, rfl⟩ := hcut
              go_upto_if 199 with fail
              go_cut [199, 200] from 201 to 205 (fun _ _ wx => Half w g n a mid d wx)
              case first =>
                by_cases t1 : a < y ∧ y < mid
                · rw [decide_eq_true t1]
                  have C41 := HIH.out w2 d a y mid (by omega) HR2.out t1.1 t1.2 (by omega) HP1.out HP2.out
                  clear t1
                  go_wp2_with (go_at_call 41; refine C41.mono ?_; clear C41; rintro e' w3 ⟨d1, rfl, hr3, hs3, ho3, hi3, hk3⟩; have HR3 := Lib.hid hr3; have HS3 := Lib.hid hs3; have HO3 := Lib.hid ho3; have HI3 := Lib.hid hi3; have HK3 := Lib.hid (HK2.out.trans hk3 (fun _ h _ => h)); clear hr3 hk3 hs3 ho3 hi3)
                  go_meet
                  case rel => exact ⟨d1, HR3.out, HS3.out, HO3.out, HI3.out, HK3.out⟩
                · rw [decide_eq_false t1]
                  have HO3 := Lib.hid (show Srt a mid d from by
                    by_cases q1 : y = a
                    · have := HP2.out; rwa [q1] at this
                    · have q2 : y = mid := by omega
                      have := HP1.out; rwa [q2] at this)
                  clear t1
                  go_wp2_with fail
                  go_meet
                  case rel => exact ⟨d, HR2.out, .refl _, HO3.out, fun _ => rfl, HK2.out⟩
              case rest =>
                obtain ⟨d1, hr3, hs3, ho3, hi3, hk3⟩ := hcut
                obtain ⟨w3, rfl⟩ : ∃ w3, w3 = wc := ⟨_, rfl⟩
                have HR3 := Lib.hid hr3
                have HS3 := Lib.hid hs3
                have HO3 := Lib.hid ho3
                have HI3 := Lib.hid hi3
                have HK3 := Lib.hid hk3
                clear hr3 hs3 ho3 hi3 hk3 HR2 HK2
                go_upto_region 43 with fail
                go_cut [213] from 206 to 212 (fun u wx => u = .bool (decide (mid < E ∧ E < b)) ∧ w3 = wx)
                case first =>
                  by_cases t1 : mid < E
                  · by_cases t2 : E < b
                    · have t1i : (mid : Int) < (E : Int) := by omega
                      have t2i : (E : Int) < (b : Int) := by omega
                      go_wp2_with fail
                      go_meet
                      case rel => exact ⟨congrArg Value.bool (decide_eq_true ⟨t1, t2⟩).symm, rfl⟩
                    · have t1i : (mid : Int) < (E : Int) := by omega
                      have t2i : decide ((E : Int) < (b : Int)) = false := by simp; omega
                      go_wp2_with fail
                      go_meet
                      case rel => exact ⟨congrArg Value.bool (decide_eq_false (fun h => by omega)).symm, rfl⟩
                  · have t1i : decide ((mid : Int) < (E : Int)) = false := by simp; omega
                    go_wp2_with fail
                    go_meet
                    case rel => exact ⟨congrArg Value.bool (decide_eq_false (fun h => by omega)).symm, rfl⟩
                case rest =>
                  obtain ⟨rfl, rfl⟩ := hcut
                  have hout : ∀ k, mid ≤ k → d1 k = d k := fun k hk => HS3.out.out (.inr hk)
                  have HP3' := Lib.hid (HP3.out.congr (d := d1) (fun k h1 h2 => hout k h1))
                  have HP4' := Lib.hid (HP4.out.congr (d := d1) (fun k h1 h2 => hout k (by have := HE2.out; omega)))
                  have hfin : ∀ d2, Sw mid b d1 d2 → Srt mid b d2 → (Srt mid b d1 → d2 = d1) → Sw a b c d2 ∧ Srt a b d2 ∧ (Srt a b c → d2 = c) := fun d2 q1 q2 q3 =>
                    ⟨(HSw.out.trans (HS3.out.mono (Nat.le_refl _) (by omega))).trans (q1.mono (by omega) (Nat.le_refl _)), halves HS3.out HO3.out q1 q2 HCross.out, fun hs => by
                      have e1 := HSame.out hs
                      subst e1
                      have e2 := HI3.out (fun i j h1 h2 h3 => hs i j h1 h2 (by omega))
                      subst e2
                      exact q3 (fun i j h1 h2 h3 => hs i j (by omega) h2 h3)⟩
                  have HFin := Lib.hid hfin
                  clear hout hfin
                  by_cases t1 : mid < E ∧ E < b
                  · rw [decide_eq_true t1]
                    have C41 := HIH.out w3 d1 mid E b (by omega) HR3.out t1.1 t1.2 h3 HP3'.out HP4'.out
                    clear t1
                    go_wp2_with (go_at_call 41; refine C41.mono ?_; clear C41; rintro e' w4 ⟨d2, rfl, hr4, hs4, ho4, hi4, hk4⟩; have HR4 := Lib.hid hr4; have HS4 := Lib.hid hs4; have HO4 := Lib.hid ho4; have HI4 := Lib.hid hi4; have HK4 := Lib.hid (HK3.out.trans hk4 (fun _ h _ => h)); clear hr4 hk4 hs4 ho4 hi4)
                    go_end0
                    obtain ⟨f1, f2, f3⟩ := HFin.out d2 HS4.out HO4.out HI4.out
                    exact ⟨d2, rfl, HR4.out, f1, f2, f3, HK4.out⟩
                  · rw [decide_eq_false t1]
                    have HO4 := Lib.hid (show Srt mid b d1 from by
                      by_cases q1 : E = mid
                      · have := HP4'.out; rwa [q1] at this
                      · have q2 : E = b := by have := HE2.out; omega
                        have := HP3'.out; rwa [q2] at this)
                    clear t1
                    go_wp2_with fail
                    go_end0
                    obtain ⟨f1, f2, f3⟩ := HFin.out d1 (.refl _) HO4.out (fun _ => rfl)
                    exact ⟨d1, rfl, HR3.out, f1, f2, f3, HK3.out⟩

end Go.Proofs.Ytmmeloklnkfjjaa
