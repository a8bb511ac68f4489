/- Until when, and from when on: in general. -/
import Derived.Test.YtpgmkekdgchkfaaLeap
namespace Go.Proofs.Ytpgmkekdgchkfaa
open Go.RowKit

theorem leapN_le {S : Sch} {now : Int} (hx : Ext S now) (t : Int) (n : Nat) (hn : n ≤ 264) : (S.sys now).leapN t n ≤ 264 := by
  have h1 := steps_le hx
  unfold Fit.Sys.leapN
  split
  · exact h1
  · split
    · exact h1
    · omega

def GWInv (w : World) (S : Sch) (now : Int) (pr : Int → Bool) (r : Int) (K k : Nat) (t n : Value) (wr : World) : Prop :=
  ∃ (t' : Int) (n' : Nat), t = .int .i64 t' ∧ n = .int .i64 (n' : Nat) ∧ n' ≤ 264 ∧ t' ≤ 4700000000000000000 + ((K : Int) - k) * 1000000000 ∧ k ≤ K ∧ (S.sys now).walk pr k t' n' = some r ∧ Keeps Nothing w wr

set_option maxRecDepth 100000 in
set_option maxHeartbeats 8000000 in
theorem guntil_ok {w : World} {p : Nat} {S : Sch} (h : SchAt w p S) (hg : SchGood S) {now : Int} (hx : Ext S now) (c : Nat) (b : Int) (hc : c < 8) (hb : wrap64 ((2 : Int) ^ c) = b) (t r : Int) (ht : t ≤ 4700000000000000000) (K : Nat) (hK : K ≤ 2000) (hr : (S.sys now).walk (fun s => bits .and .i64 s b == 0) K t (S.sys now).steps = some r) :
    Calls Try.prog 55 #[.pointer (some ⟨p, 0, none⟩), .int .i64 (c : Nat), .int .i64 t] w (fun e w' => e = .returned (.int .i64 r) ∧ Keeps Nothing w w') := by
  have HS := Lib.hid h
  have HG := Lib.hid hg
  have HX := Lib.hid hx
  have HR := Lib.hid hr
  have hst := steps_le hx
  have C2 := fun v (hv : Keeps Nothing w v) => steps_ok (HS.out.same hv) hx.ol hx.al
  rw [steps_eq S now] at C2
  clear h hg hx hr
  go_enter Try.func55, Try.ntmps55
  go_wp2_with (go_at_call 65; refine (C2 _ (Keeps.refl _ _)).mono ?_; rintro e w2 ⟨rfl, hk2⟩; clear C2)
  go_loopg [2, 8] K (fun k t n wr => GWInv w S now (fun s => bits .and .i64 s b == 0) r K k t n wr)
  case atStart => exact ⟨_, _, rfl, rfl, hst, by omega, Nat.le_refl _, HR.out, hk2⟩
  case round =>
    obtain ⟨t', n', rfl, rfl, hn', ht', hkK, hw, hk⟩ := hrel
    have HK := Lib.hid hk
    clear hk
    obtain ⟨k0, hk0⟩ : ∃ k0, gk = k0 + 1 := by
      cases gk with
      | zero => rw [Fit.Sys.walk] at hw; cases hw
      | succ k0 => exact ⟨k0, rfl⟩
    rw [hk0, Fit.Sys.walk] at hw
    by_cases h2 : 0 < n' ∧ 0 ≤ t'
    · rw [if_pos h2] at hw
      have C3 := fun v (hv : Keeps Nothing w v) => state_ok (HS.out.same hv) HG.out t' (by omega)
      have C4 := fun v (hv : Keeps Nothing w v) => gleap_ok (HS.out.same hv) HG.out HX.out t' n' (by omega) (by omega)
      obtain ⟨h3, h4⟩ := h2
      have hsys : (S.sys now).st t' = S.state t' := rfl
      rw [hsys] at hw
      by_cases hs : (bits .and .i64 (S.state t') b == 0) = true
      · rw [if_pos hs] at hw
        have he : t' = r := by injection hw
        subst he
        skip
        clear hw C4
        go_wp2_with (go_at_call 39; refine (C3 _ HK.out).mono ?_; rintro e w3 ⟨rfl, hk3⟩; clear C3)
        go_ret
        exact ⟨rfl, HK.out.same hk3⟩
      · rw [if_neg hs] at hw
        have HW := Lib.hid hw
        have hs' : (bits .and .i64 (S.state t') b == 0) = false := by simpa using hs
        have hle := leapN_le HX.out t' n' hn'
        have htop := leapT_top HG.out now t' n'
        clear hw hs
        generalize (S.sys now).leapT t' n' = t2 at *
        generalize (S.sys now).leapN t' n' = n2 at *
        go_wp2_with (first | (go_at_call 39; refine (C3 _ HK.out).mono ?_; rintro e w3 ⟨rfl, hk3⟩; clear C3) | (go_at_call 72; refine (C4 _ (HK.out.same hk3)).mono ?_; rintro e w4 ⟨rfl, hk4⟩; clear C4))
        go_roundg (gk - 1)
        case measure => omega
        case rel => exact ⟨_, _, rfl, rfl, hle, by omega, by omega, (by rw [show gk - 1 = k0 by omega]; exact HW.out), (HK.out.same hk3).same hk4⟩
    · rw [if_neg h2] at hw
      have he : r = -1 := by injection hw with hw; exact hw.symm
      subst he
      clear hw
      by_cases h3 : 0 < n'
      · have q3 : decide (0 ≤ t') = false := by simp; omega
        have h3' : (0 : Int) < (n' : Int) := by omega
        go_wp2_with fail
        go_ret
        exact ⟨rfl, HK.out⟩
      · have q3 : decide ((0 : Int) < (n' : Int)) = false := by simp; omega
        go_wp2_with fail
        go_ret
        exact ⟨rfl, HK.out⟩

set_option maxRecDepth 100000 in
set_option maxHeartbeats 8000000 in
theorem gfrom_ok {w : World} {p : Nat} {S : Sch} (h : SchAt w p S) (hg : SchGood S) {now : Int} (hx : Ext S now) (c : Nat) (b : Int) (hc : c < 8) (hb : wrap64 ((2 : Int) ^ c) = b) (t r : Int) (ht : t ≤ 4700000000000000000) (K : Nat) (hK : K ≤ 2000) (hr : (S.sys now).walk (fun s => !(bits .and .i64 s b == 0)) K t (S.sys now).steps = some r) :
    Calls Try.prog 56 #[.pointer (some ⟨p, 0, none⟩), .int .i64 (c : Nat), .int .i64 t] w (fun e w' => e = .returned (.int .i64 r) ∧ Keeps Nothing w w') := by
  have HS := Lib.hid h
  have HG := Lib.hid hg
  have HX := Lib.hid hx
  have HR := Lib.hid hr
  have hst := steps_le hx
  have C2 := fun v (hv : Keeps Nothing w v) => steps_ok (HS.out.same hv) hx.ol hx.al
  rw [steps_eq S now] at C2
  clear h hg hx hr
  go_enter Try.func56, Try.ntmps56
  go_wp2_with (go_at_call 65; refine (C2 _ (Keeps.refl _ _)).mono ?_; rintro e w2 ⟨rfl, hk2⟩; clear C2)
  go_loopg [2, 8] K (fun k t n wr => GWInv w S now (fun s => !(bits .and .i64 s b == 0)) r K k t n wr)
  case atStart => exact ⟨_, _, rfl, rfl, hst, by omega, Nat.le_refl _, HR.out, hk2⟩
  case round =>
    obtain ⟨t', n', rfl, rfl, hn', ht', hkK, hw, hk⟩ := hrel
    have HK := Lib.hid hk
    clear hk
    obtain ⟨k0, hk0⟩ : ∃ k0, gk = k0 + 1 := by
      cases gk with
      | zero => rw [Fit.Sys.walk] at hw; cases hw
      | succ k0 => exact ⟨k0, rfl⟩
    rw [hk0, Fit.Sys.walk] at hw
    by_cases h2 : 0 < n' ∧ 0 ≤ t'
    · rw [if_pos h2] at hw
      have C3 := fun v (hv : Keeps Nothing w v) => state_ok (HS.out.same hv) HG.out t' (by omega)
      have C4 := fun v (hv : Keeps Nothing w v) => gleap_ok (HS.out.same hv) HG.out HX.out t' n' (by omega) (by omega)
      obtain ⟨h3, h4⟩ := h2
      have hsys : (S.sys now).st t' = S.state t' := rfl
      rw [hsys] at hw
      by_cases hs : (!(bits .and .i64 (S.state t') b == 0)) = true
      · rw [if_pos hs] at hw
        have he : t' = r := by injection hw
        subst he
        have hs2 : (bits .and .i64 (S.state t') b == 0) = false := by simpa using hs
        have hs3 : (bits .and .i64 (S.state t') b != 0) = true := by simp only [bne, hs2]; rfl
        clear hs
        clear hw C4
        go_wp2_with (go_at_call 39; refine (C3 _ HK.out).mono ?_; rintro e w3 ⟨rfl, hk3⟩; clear C3)
        go_ret
        exact ⟨rfl, HK.out.same hk3⟩
      · rw [if_neg hs] at hw
        have HW := Lib.hid hw
        have hs2 : (bits .and .i64 (S.state t') b == 0) = true := by simpa using hs
        have hs3 : (bits .and .i64 (S.state t') b != 0) = false := by simp only [bne, hs2]; rfl
        have hle := leapN_le HX.out t' n' hn'
        have htop := leapT_top HG.out now t' n'
        clear hw hs
        generalize (S.sys now).leapT t' n' = t2 at *
        generalize (S.sys now).leapN t' n' = n2 at *
        go_wp2_with (first | (go_at_call 39; refine (C3 _ HK.out).mono ?_; rintro e w3 ⟨rfl, hk3⟩; clear C3) | (go_at_call 72; refine (C4 _ (HK.out.same hk3)).mono ?_; rintro e w4 ⟨rfl, hk4⟩; clear C4))
        go_roundg (gk - 1)
        case measure => omega
        case rel => exact ⟨_, _, rfl, rfl, hle, by omega, by omega, (by rw [show gk - 1 = k0 by omega]; exact HW.out), (HK.out.same hk3).same hk4⟩
    · rw [if_neg h2] at hw
      have he : r = -1 := by injection hw with hw; exact hw.symm
      subst he
      clear hw
      by_cases h3 : 0 < n'
      · have q3 : decide (0 ≤ t') = false := by simp; omega
        have h3' : (0 : Int) < (n' : Int) := by omega
        go_wp2_with fail
        go_ret
        exact ⟨rfl, HK.out⟩
      · have q3 : decide ((0 : Int) < (n' : Int)) = false := by simp; omega
        go_wp2_with fail
        go_ret
        exact ⟨rfl, HK.out⟩

end Go.Proofs.Ytpgmkekdgchkfaa
