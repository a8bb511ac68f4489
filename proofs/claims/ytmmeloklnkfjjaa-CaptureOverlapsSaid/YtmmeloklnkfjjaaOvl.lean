/- CaptureOverlaps: the walk. -/
import Derived.Test.YtmmeloklnkfjjaaKeep
namespace Go.Proofs.Ytmmeloklnkfjjaa
open Go.RowKit

def OvO (w : World) (n : Nat) (k : Nat) (i : Value) (wr : World) : Prop := ∃ j : Nat, j + k = n ∧ i = .int .i64 (j : Nat) ∧ Keeps Nothing w wr

set_option maxRecDepth 100000 in
set_option maxHeartbeats 16000000 in
theorem ovl_ok {w : World} {A : Option Addr} {c : Nat} {l : List Fr} (hr : FrsR w A c l) (hl : l.length ≤ 9223372036854775807) :
    Calls Try.prog 7 #[.slice A l.length c] w (TrueKept w) := by
  have HR := Lib.hid hr
  clear hr
  by_cases hsm : Small l
  · have S := fun (v : World) (hv : Keeps Nothing w v) => small_ok (HR.out.same hv) hl true ⟨fun _ => hsm, fun _ => rfl⟩
    have O := fun (v : World) (hv : Keeps Nothing w v) => overlap_ok (HR.out.same hv) hl
    have hl100 : l.length ≤ 100 := hsm.2
    clear hsm
    go_enter Try.func7, Try.ntmps7
    go_upto_region 6 with (first | (go_at_call 9; refine keeps_ok.mono ?_; rintro e w1 ⟨rfl, k1⟩) | (go_at_call 10; refine (S _ k1).mono ?_; clear S; rintro e w2 ⟨rfl, k2⟩) | (go_at_call 18; refine (O _ (k1.same k2)).mono ?_; clear O; rintro e w3 ⟨(⟨rfl, hap⟩ | ⟨i, k, f, g, rfl, hik, hfi, hgk, hport, hlt⟩), k3⟩))
    · have HAp := Lib.hid hap
      have HK := Lib.hid ((k1.same k2).same k3)
      clear hap k1 k2 k3
      go_wp2_with fail
      go_loopg [61] l.length (fun k i wr => OvO w l.length k i wr)
      case atStart => exact ⟨0, by omega, rfl, HK.out⟩
      case round =>
        clear HK
        obtain ⟨j, hj, rfl, hk⟩ := hrel
        have HK := Lib.hid hk
        clear hk
        by_cases hlt : j < l.length
        · obtain ⟨gO, rfl⟩ : ∃ g, g = gk := ⟨_, rfl⟩
          go_wp2_with fail
          go_loopg [65] j (fun k i wr => OvO w j k i wr)
          case atStart => exact ⟨0, by omega, rfl, HK.out⟩
          case round =>
            clear HK
            obtain ⟨i, hi, rfl, hk⟩ := hrel
            have HK := Lib.hid hk
            by_cases hlt2 : i < j
            · obtain ⟨gp, gc, gf, gt, gB, gcap, gbs, b, o, hgj, rfl, g0, g1, g2, g3, g4, -⟩ := (HR.out.same hk).get hlt
              obtain ⟨fp, fc, ff, ft, fB, fcap, fbs, b', o', hfi, hA, f0, f1, f2, f3, f4, -⟩ := (HR.out.same hk).get (j := i) (by omega)
              injection hA with hA
              injection hA with hA1 hA2
              subst hA1 hA2
              have hin : i < l.length := by omega
              have HG := Lib.hid hgj
              have HFi := Lib.hid hfi
              clear hk hgj hfi
              by_cases hp : fp = gp
              · have hle := HAp.out i j _ _ hlt2 hlt HFi.out HG.out hp
                simp only at hle
                subst hp
                have hle' : decide (gf < ft) = false := by simp; omega
                clear hle
                go_upto_region 14 with fail
                go_quiet (fail)
                have HKd := Lib.hid (HK.out.drewN nq)
                go_wp2_with fail
                go_roundg (gk - 1)
                case measure => omega
                case rel => exact ⟨i + 1, by omega, by go_num, HKd.out⟩
              · have hp' : (fp == gp) = false := by simpa using hp
                clear hp
                go_upto_region 14 with fail
                go_quiet (fail)
                have HKd := Lib.hid (HK.out.drewN nq)
                go_wp2_with fail
                go_roundg (gk - 1)
                case measure => omega
                case rel => exact ⟨i + 1, by omega, by go_num, HKd.out⟩
            · obtain rfl : i = j := by omega
              clear hk
              go_wp2_with fail
              go_roundg (gO - 1)
              case measure => omega
              case rel => exact ⟨i + 1, by omega, by go_num, HK.out⟩
        · obtain rfl : j = l.length := by omega
          go_wp2_with fail
          go_ret
          exact ⟨rfl, HK.out⟩
    · have hkn : k < l.length := (List.getElem?_eq_some_iff.1 hgk).1
      have hin : i < l.length := by omega
      have hk3 := (k1.same k2).same k3
      obtain ⟨gp, gc, gf, gt, gB, gcap, gbs, b, o, hgj, rfl, g0, g1, g2, g3, g4, -⟩ := (HR.out.same hk3).get hkn
      obtain ⟨fp, fc, ff, ft, fB, fcap, fbs, b', o', hfi', hA, f0, f1, f2, f3, f4, -⟩ := (HR.out.same hk3).get hin
      injection hA with hA
      injection hA with hA1 hA2
      subst hA1 hA2
      rw [hgj] at hgk
      injection hgk with hgk
      subst hgk
      rw [hfi'] at hfi
      injection hfi with hfi
      subst hfi
      simp only at hport hlt
      subst hport
      have HK := Lib.hid hk3
      clear hgj hfi' hk3 k1 k2 k3
      go_upto_region 7 with fail
      go_quiet (fail)
      have HKd := Lib.hid (HK.out.drewN nq)
      go_wp2_with fail
      go_ret
      exact ⟨rfl, HKd.out⟩
  · have S := fun (v : World) (hv : Keeps Nothing w v) => small_ok (HR.out.same hv) hl false ⟨(fun h => by cases h), fun h => absurd h hsm⟩
    clear hsm
    go_enter Try.func7, Try.ntmps7
    go_wp2_with (first | (go_at_call 9; refine keeps_ok.mono ?_; rintro e w1 ⟨rfl, k1⟩) | (go_at_call 10; refine (S _ k1).mono ?_; clear S; rintro e w2 ⟨rfl, k2⟩))
    go_ret
    exact ⟨rfl, k1.same k2⟩

end Go.Proofs.Ytmmeloklnkfjjaa
