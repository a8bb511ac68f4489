/- May frames be kept: Check. -/
import Derived.Test.YtmmeloklnkfjjaaCap2
namespace Go.Proofs.Ytmmeloklnkfjjaa
open Go.RowKit

def Fr.Ok (f : Fr) : Prop := 0 ≤ f.port ∧ f.port ≤ 255 ∧ 0 ≤ f.cls ∧ f.cls ≤ 7 ∧ 0 ≤ f.frm ∧ f.frm ≤ f.till ∧ f.bs.length ≤ 1522

instance (f : Fr) : Decidable f.Ok := inferInstanceAs (Decidable (_ ∧ _))

def checkR (l : List Fr) : Int := if 65535 < l.length then 3 else if ∀ f ∈ l, f.Ok then 0 else 1

theorem checkR_bad {l : List Fr} (hl : ¬ 65535 < l.length) {f : Fr} (hf : f ∈ l) (hb : ¬ f.Ok) : checkR l = 1 := by
  unfold checkR
  rw [if_neg hl, if_neg (fun h => hb (h f hf))]

theorem checkR_good {l : List Fr} (hl : ¬ 65535 < l.length) (h : ∀ f ∈ l, f.Ok) : checkR l = 0 := by
  unfold checkR
  rw [if_neg hl, if_pos h]

def CkInv (w : World) (l : List Fr) (k : Nat) (i : Value) (wr : World) : Prop :=
  ∃ j : Nat, j + k = l.length ∧ i = .int .i64 (j : Nat) ∧ (∀ (m : Nat) (f : Fr), m < j → l[m]? = some f → f.Ok) ∧ Keeps Nothing w wr

set_option maxRecDepth 100000 in
set_option maxHeartbeats 4000000 in
theorem check_ok {w : World} {A : Option Addr} {c : Nat} {l : List Fr} (hr : FrsR w A c l) (hl : l.length ≤ 9223372036854775807) (r : Int) (hv : r = checkR l) :
    Calls Try.prog 12 #[.slice A l.length c] w (fun e w' => e = .returned (.int .i64 r) ∧ Keeps Nothing w w') := by
  have HR := Lib.hid hr
  have HV := Lib.hid hv
  clear hr hv
  by_cases hlong : (65535 : Int) < l.length
  · have hr3 : r = 3 := by
      rw [HV.out]; unfold checkR; rw [if_pos (by omega)]
    subst hr3
    clear HV
    go_enter Try.func12, Try.ntmps12
    go_wp2_with fail
    go_ret
    exact ⟨rfl, Keeps.refl _ _⟩
  have hlong' : decide ((65535 : Int) < l.length) = false := by simpa using hlong
  have hl2 : ¬ 65535 < l.length := by omega
  have HL := Lib.hid hl2
  clear hl2 hlong
  go_enter Try.func12, Try.ntmps12
  go_wp2_with fail
  go_loopg [10] l.length (fun k i wr => CkInv w l k i wr)
  case atStart => exact ⟨0, by omega, rfl, fun m f h => by omega, Keeps.refl _ _⟩
  case round =>
    obtain ⟨j, hj, rfl, hno, hk⟩ := hrel
    have HN := Lib.hid hno
    have HK := Lib.hid hk
    by_cases hlt : j < l.length
    · obtain ⟨port, cls, frm, till, B, cap, bs, b, o, hf, rfl, f0, f1, f2, f3, f4, hs⟩ := (HR.out.same hk).get hlt
      have HF := Lib.hid hf
      have hbad : ¬ (⟨port, cls, frm, till, B, cap, bs⟩ : Fr).Ok → r = 1 := fun h => HV.out.trans (checkR_bad HL.out (List.mem_of_getElem? hf) h)
      have HBAD := Lib.hid hbad
      clear hno hk hf hs hbad
      by_cases p0 : port < 0
      · obtain rfl : r = 1 := HBAD.out (fun h => by unfold Fr.Ok at h; simp only at h; omega)
        clear HV HN HBAD
        go_wp2_with fail
        go_ret
        exact ⟨rfl, HK.out.alloc _⟩
      have p0' : decide (port < 0) = false := by simpa using p0
      by_cases p1 : 255 < port
      · obtain rfl : r = 1 := HBAD.out (fun h => by unfold Fr.Ok at h; simp only at h; omega)
        clear HV HN HBAD
        go_wp2_with fail
        go_ret
        exact ⟨rfl, HK.out.alloc _⟩
      have p1' : decide (255 < port) = false := by simpa using p1
      by_cases c0 : cls < 0
      · obtain rfl : r = 1 := HBAD.out (fun h => by unfold Fr.Ok at h; simp only at h; omega)
        clear HV HN HBAD
        go_wp2_with fail
        go_ret
        exact ⟨rfl, HK.out.alloc _⟩
      have c0' : decide (cls < 0) = false := by simpa using c0
      by_cases c1 : 7 < cls
      · obtain rfl : r = 1 := HBAD.out (fun h => by unfold Fr.Ok at h; simp only at h; omega)
        clear HV HN HBAD
        go_wp2_with fail
        go_ret
        exact ⟨rfl, HK.out.alloc _⟩
      have c1' : decide (7 < cls) = false := by simpa using c1
      by_cases r0 : frm < 0
      · obtain rfl : r = 1 := HBAD.out (fun h => by unfold Fr.Ok at h; simp only at h; omega)
        clear HV HN HBAD
        go_wp2_with fail
        go_ret
        exact ⟨rfl, HK.out.alloc _⟩
      have r0' : decide (frm < 0) = false := by simpa using r0
      by_cases t0 : till < frm
      · obtain rfl : r = 1 := HBAD.out (fun h => by unfold Fr.Ok at h; simp only at h; omega)
        clear HV HN HBAD
        go_wp2_with fail
        go_ret
        exact ⟨rfl, HK.out.alloc _⟩
      have t0' : decide (till < frm) = false := by simpa using t0
      by_cases l0 : (1522 : Int) < (bs.length : Int)
      · obtain rfl : r = 1 := HBAD.out (fun h => by unfold Fr.Ok at h; simp only at h; omega)
        clear HV HN HBAD
        go_wp2_with fail
        go_ret
        exact ⟨rfl, HK.out.alloc _⟩
      have l0' : decide ((1522 : Int) < (bs.length : Int)) = false := by simpa using l0
      have hok : (⟨port, cls, frm, till, B, cap, bs⟩ : Fr).Ok := ⟨by simp only; omega, by simp only; omega, by simp only; omega, by simp only; omega, by simp only; omega, by simp only; omega, by simp only; omega⟩
      have HOK := Lib.hid hok
      clear hok HBAD
      go_wp2_with fail
      go_roundg (gk - 1)
      case measure => omega
      case rel =>
        refine ⟨j + 1, by omega, by go_num, fun m f hm he => ?_, HK.out.alloc _⟩
        by_cases e1 : m = j
        · subst e1
          rw [HF.out] at he
          injection he with he
          subst he
          exact HOK.out
        · exact HN.out m f (by omega) he
    · have hr0 : r = 0 := HV.out.trans (checkR_good HL.out (fun f hf => by
        obtain ⟨m, hm⟩ := List.getElem?_of_mem hf
        exact HN.out m f (by have := (List.getElem?_eq_some_iff.1 hm).1; omega) hm))
      subst hr0
      clear HV HN hno hk
      go_wp2_with fail
      go_ret
      exact ⟨rfl, HK.out⟩

end Go.Proofs.Ytmmeloklnkfjjaa
