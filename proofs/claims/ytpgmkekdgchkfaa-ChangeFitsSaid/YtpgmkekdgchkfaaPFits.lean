/- The document's search: the first time at which it fits. -/
import Derived.Test.YtpgmkekdgchkfaaPOpen
namespace Go.Proofs.Ytpgmkekdgchkfaa
open Go.RowKit

def PFInv (w : World) (S : Sch) (now b need r : Int) (k : Nat) (t i : Value) (wr : World) : Prop :=
  ∃ (j : Nat) (t' : Int), j + k = 600 ∧ i = .int .i64 (j : Nat) ∧ t = .int .i64 t' ∧ t' ≤ 4620000000000000000 + j * 1000000000 ∧ (S.sys now).fitsR (opn b) need k t' = r ∧ Keeps Nothing w wr

set_option maxRecDepth 100000 in
set_option maxHeartbeats 8000000 in
theorem pfits_ok {w : World} {q : Nat} {P : Par} {S : Sch} (h : ParAt w q P) (ha : Alike S P) (hg : SchGood S) {now : Int} (c : Nat) (b : Int) (hc : c < 8) (hb : wrap64 ((2 : Int) ^ c) = b) (t need : Int) (ht : t ≤ 4620000000000000000) (hn0 : 1 ≤ need) (hn1 : need ≤ 500) :
    Calls Try.prog 41 #[.pointer (some ⟨q, 0, none⟩), .int .i64 (c : Nat), .int .i64 t, .int .i64 need, .int .i64 600] w (fun e w' => e = .returned (.int .i64 ((S.sys now).fitsR (opn b) need 600 t)) ∧ Keeps Nothing w w') := by
  have HS := Lib.hid h
  have HA := Lib.hid ha
  have HG := Lib.hid hg
  have HPG := Lib.hid (Par.good ha hg)
  obtain ⟨r, hr⟩ : ∃ r, r = (S.sys now).fitsR (opn b) need 600 t := ⟨_, rfl⟩
  rw [← hr]
  have HR := Lib.hid hr
  clear h ha hg hr
  go_enter Try.func41, Try.ntmps41
  go_wp2_with fail
  go_loopg [2, 11] 600 (fun k t i wr => PFInv w S now b need r k t i wr)
  case atStart => exact ⟨0, t, by omega, rfl, rfl, by omega, HR.out.symm, Keeps.refl _ _⟩
  case round =>
    obtain ⟨j, t', hj, rfl, rfl, htb, ho, hk⟩ := hrel
    have HK := Lib.hid hk
    clear hk
    by_cases hlt : j < 600
    · obtain ⟨k0, hk0⟩ : ∃ k0, gk = k0 + 1 := ⟨gk - 1, by omega⟩
      rw [hk0, Fit.Sys.fitsR] at ho
      by_cases h0 : 0 ≤ t'
      · rw [if_pos h0] at ho
        have C1 := fun v (hv : Keeps Nothing wr v) => popen_ok (now := now) ((HS.out.same HK.out).same hv) HA.out HG.out c b hc hb t' need h0 (by omega) hn0 hn1
        have C2 := fun v (hv : Keeps Nothing wr v) => pnext_ok ((HS.out.same HK.out).same hv) HPG.out t' (by omega)
        rw [next_eq HA.out HG.out] at C2
        have htop := Sch.next_top HG.out t'
        have e2 : (S.sys now).nx t' = S.next t' := rfl
        rw [e2] at ho
        generalize (S.sys now).openR (opn b) (t' + need) 600 t' t' = O at *
        generalize S.next t' = N at *
        cases O
        · rw [if_neg (by decide)] at ho
          have HO := Lib.hid ho
          clear ho
          go_wp2_with (first | (go_at_call 42; refine (C1 _ (Keeps.refl _ _)).mono ?_; rintro e w3 ⟨rfl, hk3⟩; clear C1) | (go_at_call 38; refine (C2 _ hk3).mono ?_; rintro e w4 ⟨rfl, hk4⟩; clear C2))
          go_roundg (gk - 1)
          case measure => omega
          case rel => exact ⟨j + 1, N, by omega, by go_num, rfl, by omega, (by rw [show gk - 1 = k0 by omega]; exact HO.out), HK.out.same (hk3.same hk4)⟩
        · rw [if_pos rfl] at ho
          subst ho
          clear C2
          go_wp2_with (go_at_call 42; refine (C1 _ (Keeps.refl _ _)).mono ?_; rintro e w3 ⟨rfl, hk3⟩; clear C1)
          go_ret
          exact ⟨rfl, HK.out.same hk3⟩
      · rw [if_neg h0] at ho
        subst ho
        have h0' : decide (0 ≤ t') = false := by simpa using h0
        go_wp2_with fail
        go_ret
        exact ⟨rfl, HK.out⟩
    · have hk0 : gk = 0 := by omega
      rw [hk0, Fit.Sys.fitsR] at ho
      subst ho
      have hlt' : decide ((j : Int) < 600) = false := by simp; omega
      go_wp2_with fail
      go_ret
      exact ⟨rfl, HK.out⟩

end Go.Proofs.Ytpgmkekdgchkfaa
