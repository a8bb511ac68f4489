/- The first time at which a class may go for so long: in general. -/
import Derived.Test.YtpgmkekdgchkfaaWalks2
namespace Go.Proofs.Ytpgmkekdgchkfaa
open Go.RowKit

def opn (b : Int) : Int → Bool := fun s => !(bits .and .i64 s b == 0)

theorem opn_not (b : Int) : (fun x => !(opn b x)) = (fun s => bits .and .i64 s b == 0) := by
  funext x
  unfold opn
  rw [Bool.not_not]

def gfitAt (S : Sch) (now : Int) (b need : Int) (j : Nat) (t r : Int) : Prop :=
  match j with
  | 0 => ∃ v t1, (S.sys now).fitGo (opn b) need (2 * (S.sys now).steps) t = some (v, t1) ∧ (v = true → t1 = r) ∧ (v = false → (S.waits = false ∧ r = -1) ∨ (S.waits = true ∧ ∃ v2 t2, (S.sys now).fitGo (opn b) need (2 * (S.sys now).steps) ((S.sys now).late t1) = some (v2, t2) ∧ (v2 = true → t2 = r) ∧ (v2 = false → r = -1)))
  | 1 => (S.waits = false ∧ r = -1) ∨ (S.waits = true ∧ ∃ v2 t2, (S.sys now).fitGo (opn b) need (2 * (S.sys now).steps) ((S.sys now).late t) = some (v2, t2) ∧ (v2 = true → t2 = r) ∧ (v2 = false → r = -1))
  | _ => r = -1

theorem gfitAt_of {S : Sch} {now b need t r : Int} (h : (S.sys now).fits (opn b) need t = some r) : gfitAt S now b need 0 t r := by
  unfold Fit.Sys.fits at h
  unfold gfitAt
  simp only
  cases h1 : (S.sys now).fitGo (opn b) need (2 * (S.sys now).steps) t with
  | none => rw [h1] at h; cases h
  | some x =>
    obtain ⟨v, t1⟩ := x
    rw [h1] at h
    refine ⟨v, t1, rfl, ?_, ?_⟩
    · intro hv
      subst hv
      simp only at h
      injection h
    · intro hv
      subst hv
      simp only at h
      by_cases hw : S.waits = true
      · have hw2 : (S.sys now).waits = true := hw
        rw [if_pos hw2] at h
        right
        refine ⟨hw, ?_⟩
        cases h2 : (S.sys now).fitGo (opn b) need (2 * (S.sys now).steps) ((S.sys now).late t1) with
        | none => rw [h2] at h; cases h
        | some x =>
          obtain ⟨v2, t2⟩ := x
          rw [h2] at h
          refine ⟨v2, t2, rfl, ?_, ?_⟩
          · intro hv; subst hv; simp only at h; injection h
          · intro hv; subst hv; simp only at h; injection h with h; exact h.symm
      · have hw2 : ¬ (S.sys now).waits = true := hw
        rw [if_neg hw2] at h
        injection h with h
        exact .inl ⟨by simpa using hw, h.symm⟩

def GFitsInv (w : World) (S : Sch) (now b need r : Int) (k : Nat) (t i : Value) (wr : World) : Prop :=
  ∃ (j : Nat) (t' : Int), j + k = 2 ∧ i = .int .i64 (j : Nat) ∧ t = .int .i64 t' ∧ t' ≤ 4620000000000000000 + j * 2000000000000000 ∧ gfitAt S now b need j t' r ∧ Keeps Nothing w wr

def GFitInv (w : World) (S : Sch) (now b need : Int) (B : Int) (X : Bool × Int) (n k : Nat) (t i : Value) (wr : World) : Prop :=
  ∃ (j : Nat) (t' : Int), j + k = n ∧ i = .int .i64 (j : Nat) ∧ t = .int .i64 t' ∧ t' ≤ B + j * 2200000000000 ∧ (S.sys now).fitGo (opn b) need k t' = some X ∧ Keeps Nothing w wr

theorem late_top {S : Sch} (hg : SchGood S) (now : Int) {t B : Int} (hw : S.waits = true) (hB : 4611686018427387904 ≤ B) (h : t ≤ B) : (S.sys now).late t ≤ B := by
  have h1 := (hg.admin hw).b1
  have e : (S.sys now).late t = if S.has = true then max (max t (S.due - 2000000000)) (S.due - 2 * S.oper.cyc) else max t (S.due - 2000000000) := rfl
  rw [e]
  split
  · rename_i hh
    have := (hg.oper hh).c0
    omega
  · omega

set_option maxRecDepth 100000 in
set_option maxHeartbeats 16000000 in
theorem gfits_ok {w : World} {p : Nat} {S : Sch} (h : SchAt w p S) (hg : SchGood S) {now : Int} (hx : Ext S now) (c : Nat) (b : Int) (hc : c < 8) (hb : wrap64 ((2 : Int) ^ c) = b) (t need r : Int) (ht : t ≤ 4620000000000000000) (hn0 : 1 ≤ need) (hn1 : need ≤ 500) (hr : (S.sys now).fits (opn b) need t = some r) :
    Calls Try.prog 40 #[.pointer (some ⟨p, 0, none⟩), .int .i64 (c : Nat), .int .i64 t, .int .i64 need] w (fun e w' => e = .returned (.int .i64 r) ∧ Keeps Nothing w w') := by
  have HS := Lib.hid h
  have HG := Lib.hid hg
  have HX := Lib.hid hx
  have HR := Lib.hid (gfitAt_of hr)
  have hst := steps_le hx
  have hd0 := fun hw => (hg.admin hw).b0
  have hd1 := fun hw => (hg.admin hw).b1
  have HD := Lib.hid (And.intro hd0 hd1)
  obtain ⟨N, hN⟩ : ∃ N : Nat, N = 2 * (S.sys now).steps := ⟨_, rfl⟩
  have hN8 : N ≤ 528 := by omega
  have hw1 : IntKind.i64.wrap (2 * (((S.sys now).steps : Nat) : Int)) = (N : Int) := by rw [IntKind.wrap_i64]; omega
  have HN := Lib.hid hN
  clear hN
  clear h hr hg hx hd0 hd1
  go_enter Try.func40, Try.ntmps40
  go_wp2_with fail
  go_loopg [2, 12] 2 (fun k t i wr => GFitsInv w S now b need r k t i wr)
  case atStart => exact ⟨0, t, by omega, rfl, rfl, by omega, HR.out, Keeps.refl _ _⟩
  case round =>
    obtain ⟨j, t', hj, rfl, rfl, htb, hfit, hk⟩ := hrel
    have HF := Lib.hid hfit
    have HK := Lib.hid hk
    have C2 := fun v (hv : Keeps Nothing wr v) => steps_ok ((HS.out.same HK.out).same hv) HX.out.ol HX.out.al
    rw [steps_eq S now] at C2
    have hj3 : j = 0 ∨ j = 1 ∨ j = 2 := by omega
    rcases hj3 with rfl | rfl | rfl
    · clear hfit hk
      obtain ⟨v, t1, hX, hv1, hv2⟩ := HF.out
      have hB : t' ≤ 4620000000000000000 := by omega
      rw [← HN.out] at hX
      have hVX := Lib.hid hX
      have hV1 := Lib.hid hv1
      have hV2 := Lib.hid hv2
      clear hX hv1 hv2 HF
      go_wp2_with (go_at_call 65; refine (C2 _ (Keeps.refl _ _)).mono ?_; rintro e w2 ⟨rfl, hk2⟩; clear C2)
      have HK2 := Lib.hid (HK.out.same hk2)
      clear hk2
      obtain ⟨wq, rfl⟩ : ∃ wq : World, wq = wr := ⟨_, rfl⟩
      obtain ⟨gq, rfl⟩ : ∃ gq : Nat, gq = gk := ⟨_, rfl⟩
      clear hw1
      go_loopg [2, 49] N (fun k t i wr => GFitInv w S now b need 4620000000000000000 (v, t1) N k t i wr)
      case atStart => exact ⟨0, _, by omega, rfl, rfl, by omega, hVX.out, HK2.out⟩
      case round =>
        obtain ⟨j2, t2, hj2, rfl, rfl, ht2, hgo, hk⟩ := hrel
        have HKi := Lib.hid hk
        clear hk
        by_cases hlt : gk = 0
        · rw [hlt, Fit.Sys.fitGo] at hgo
          have hgo' : (false, t2) = (v, t1) := by injection hgo
          injection hgo' with e1 e2
          subst e1 e2
          have hlt' : ¬ (j2 : Int) < (N : Int) := by omega
          clear hgo
          go_wp2_with fail
          go_roundg (gq - 1)
          case measure => omega
          case rel => exact ⟨1, t2, by omega, rfl, rfl, by omega, hV2.out (by trivial), HKi.out⟩
        · obtain ⟨k0, hk0⟩ : ∃ k0, gk = k0 + 1 := ⟨gk - 1, by omega⟩
          rw [hk0, Fit.Sys.fitGo] at hgo
          have hlt' : (j2 : Int) < (N : Int) := by omega
          cases hA : (S.sys now).walk (opn b) (4 * (S.sys now).steps) t2 (S.sys now).steps with
          | none => rw [hA] at hgo; cases hgo
          | some f =>
            rw [hA] at hgo
            simp only at hgo
            have hfT := walk_top HG.out now (opn b) (B := 4620000000000000000 + j2 * 2200000000000) (by omega) _ hA (by omega)
            have C3 := fun v (hv : Keeps Nothing wr v) => gfrom_ok ((HS.out.same HKi.out).same hv) HG.out HX.out c b hc hb t2 f (by omega) (4 * (S.sys now).steps) (by omega) hA
            by_cases hf : f < 0
            · rw [if_pos hf] at hgo
              have hgo' : (false, t2) = (v, t1) := by injection hgo
              injection hgo' with e1 e2
              subst e1 e2
              clear hgo hA
              go_wp2_with (go_at_call 56; refine (C3 _ (Keeps.refl _ _)).mono ?_; rintro e w3 ⟨rfl, hk3⟩; clear C3)
              go_roundg (gq - 1)
              case measure => omega
              case rel => exact ⟨1, t2, by omega, rfl, rfl, by omega, hV2.out (by trivial), HKi.out.same hk3⟩
            · rw [if_neg hf] at hgo
              rw [opn_not] at hgo
              cases hU : (S.sys now).walk (fun s => bits .and .i64 s b == 0) (4 * (S.sys now).steps) f (S.sys now).steps with
              | none => rw [hU] at hgo; cases hgo
              | some u =>
                rw [hU] at hgo
                simp only at hgo
                have huT := walk_top HG.out now _ (B := 4620000000000000000 + j2 * 2200000000000 + 1056000000000) (by omega) _ hU (by omega)
                have C4 := fun v (hv : Keeps Nothing wr v) => guntil_ok ((HS.out.same HKi.out).same hv) HG.out HX.out c b hc hb f u (by omega) (4 * (S.sys now).steps) (by omega) hU
                by_cases hu : u < 0
                · rw [if_pos (.inl hu)] at hgo
                  have hgo' : (true, f) = (v, t1) := by injection hgo
                  injection hgo' with e1 e2
                  subst e1 e2
                  have hfr := hV1.out rfl
                  subst hfr
                  clear hgo hA hU
                  go_wp2_with (first | (go_at_call 56; refine (C3 _ (Keeps.refl _ _)).mono ?_; rintro e w3 ⟨rfl, hk3⟩; clear C3) | (go_at_call 55; refine (C4 _ hk3).mono ?_; rintro e w4 ⟨rfl, hk4⟩; clear C4))
                  go_ret
                  exact ⟨rfl, (HKi.out.same hk3).same hk4⟩
                · have hu' : decide (u < 0) = false := by simp; omega
                  have hw5 : IntKind.i64.wrap (u - f) = u - f := by rw [IntKind.wrap_i64]; omega
                  by_cases hq : need ≤ u - f
                  · rw [if_pos (.inr hq)] at hgo
                    have hgo' : (true, f) = (v, t1) := by injection hgo
                    injection hgo' with e1 e2
                    subst e1 e2
                    have hfr := hV1.out rfl
                    subst hfr
                    clear hgo hA hU
                    go_wp2_with (first | (go_at_call 56; refine (C3 _ (Keeps.refl _ _)).mono ?_; rintro e w3 ⟨rfl, hk3⟩; clear C3) | (go_at_call 55; refine (C4 _ hk3).mono ?_; rintro e w4 ⟨rfl, hk4⟩; clear C4))
                    go_ret
                    exact ⟨rfl, (HKi.out.same hk3).same hk4⟩
                  · rw [if_neg (by omega)] at hgo
                    have HGO := Lib.hid hgo
                    have q3 : decide (need ≤ u - f) = false := by simp; omega
                    clear hgo hA hU hq
                    go_wp2_with (first | (go_at_call 56; refine (C3 _ (Keeps.refl _ _)).mono ?_; rintro e w3 ⟨rfl, hk3⟩; clear C3) | (go_at_call 55; refine (C4 _ hk3).mono ?_; rintro e w4 ⟨rfl, hk4⟩; clear C4))
                    go_roundg (gk - 1)
                    case measure => omega
                    case rel => exact ⟨j2 + 1, u, by omega, by go_num, rfl, by omega, (by rw [show gk - 1 = k0 by omega]; exact HGO.out), (HKi.out.same hk3).same hk4⟩
    · have hB2 := HS.out.blk.keeps hk (fun h => h)
      have s1 : wr.cell? ⟨p, 1, none⟩ = some (.int .i64 S.oper.cyc) := hB2.cell 1
      have s8 : wr.cell? ⟨p, 8, none⟩ = some (.bool S.has) := hB2.cell 8
      have s9 : wr.cell? ⟨p, 9, none⟩ = some (.bool S.waits) := hB2.cell 9
      have s10 : wr.cell? ⟨p, 10, none⟩ = some (.int .i64 S.due) := hB2.cell 10
      clear hfit hk hB2
      rcases HF.out with ⟨hw, hr1⟩ | ⟨hw, v, t1, hX, hv1, hv2⟩
      · subst hr1
        rw [hw] at s9
        clear HF hw
        go_wp2_with fail
        go_ret
        exact ⟨rfl, HK.out⟩
      · rw [hw] at s9
        have hd0 := HD.out.1 hw
        have hd1 := HD.out.2 hw
        have hlt := late_top HG.out now (t := t') (B := 4622000000000000000) hw (by omega) (by omega)
        have eL : (S.sys now).late t' = if S.has = true then max (max t' (S.due - 2000000000)) (S.due - 2 * S.oper.cyc) else max t' (S.due - 2000000000) := rfl
        generalize (S.sys now).late t' = t5 at *
        go_upto_if 16 with fail
        obtain ⟨x2, hx2⟩ : ∃ x, x = S.due - 2000000000 := ⟨_, rfl⟩
        have hwa : IntKind.i64.wrap (S.due - 2000000000) = x2 := by rw [IntKind.wrap_i64]; omega
        rw [← hx2] at eL
        have HX2 := Lib.hid hx2
        clear hx2
        go_cut [2] from 17 to 45 (fun v wx => v = .int .i64 t5 ∧ Keeps Nothing wr wx)
        case first =>
          cases hh : S.has with
          | false =>
            rw [hh] at s8
            rw [if_neg (by rw [hh]; decide)] at eL
            have HE := Lib.hid eL
            clear eL hX hv1 hv2 HF
            by_cases l1 : t' < x2
            · go_wp2_with fail
              go_meet
              case rel => exact ⟨congrArg (Value.int .i64) (by have := HE.out; omega), by first | exact Keeps.refl _ _ | exact (Keeps.refl _ _).drew | exact (Keeps.refl _ _).drewN _⟩
            · have l1' : decide (t' < x2) = false := by simpa using l1
              go_wp2_with fail
              go_meet
              case rel => exact ⟨congrArg (Value.int .i64) (by have := HE.out; omega), by first | exact Keeps.refl _ _ | exact (Keeps.refl _ _).drew | exact (Keeps.refl _ _).drewN _⟩
          | true =>
            have g := HG.out.oper hh
            have gc0 := g.c0
            have gc1 := g.c1
            rw [hh] at s8
            rw [if_pos hh] at eL
            obtain ⟨x3, hx3⟩ : ∃ x, x = S.due - 2 * S.oper.cyc := ⟨_, rfl⟩
            rw [← hx3] at eL
            have HE := Lib.hid eL
            have hwb : IntKind.i64.wrap (2 * S.oper.cyc) = 2 * S.oper.cyc := by rw [IntKind.wrap_i64]; omega
            have hwc : IntKind.i64.wrap (S.due - 2 * S.oper.cyc) = x3 := by rw [IntKind.wrap_i64]; omega
            clear eL hX hv1 hv2 HF g hx3
            by_cases l1 : t' < x2
            · by_cases l2 : x2 < x3
              · go_upto_region 9 with fail
                go_quiet (fail)
                go_wp2_with fail
                go_meet
                case rel => exact ⟨congrArg (Value.int .i64) (by have := HE.out; omega), by first | exact Keeps.refl _ _ | exact (Keeps.refl _ _).drew | exact (Keeps.refl _ _).drewN _⟩
              · have l2' : decide (x2 < x3) = false := by simpa using l2
                go_upto_region 9 with fail
                go_quiet (fail)
                go_wp2_with fail
                go_meet
                case rel => exact ⟨congrArg (Value.int .i64) (by have := HE.out; omega), by first | exact Keeps.refl _ _ | exact (Keeps.refl _ _).drew | exact (Keeps.refl _ _).drewN _⟩
            · have l1' : decide (t' < x2) = false := by simpa using l1
              by_cases l2 : t' < x3
              · go_upto_region 9 with fail
                go_quiet (fail)
                go_wp2_with fail
                go_meet
                case rel => exact ⟨congrArg (Value.int .i64) (by have := HE.out; omega), by first | exact Keeps.refl _ _ | exact (Keeps.refl _ _).drew | exact (Keeps.refl _ _).drewN _⟩
              · have l2' : decide (t' < x3) = false := by simpa using l2
                go_upto_region 9 with fail
                go_quiet (fail)
                go_wp2_with fail
                go_meet
                case rel => exact ⟨congrArg (Value.int .i64) (by have := HE.out; omega), by first | exact Keeps.refl _ _ | exact (Keeps.refl _ _).drew | exact (Keeps.refl _ _).drewN _⟩
        case rest =>
          obtain ⟨rfl, kc⟩ := hcut
          clear eL hwa
          rw [← HN.out] at hX
          have hVX := Lib.hid hX
          have hV1 := Lib.hid hv1
          have hV2 := Lib.hid hv2
          clear hX hv1 hv2 HF
          go_wp2_with (go_at_call 65; refine (C2 _ kc).mono ?_; rintro e w2 ⟨rfl, hk2⟩; clear C2)
          have HK2 := Lib.hid (HK.out.same (kc.same hk2))
          clear hk2
          obtain ⟨wq, rfl⟩ : ∃ wq : World, wq = wr := ⟨_, rfl⟩
          obtain ⟨gq, rfl⟩ : ∃ gq : Nat, gq = gk := ⟨_, rfl⟩
          clear hw1
          go_loopg [2, 49] N (fun k t i wr => GFitInv w S now b need 4622000000000000000 (v, t1) N k t i wr)
          case atStart => exact ⟨0, _, by omega, rfl, rfl, by omega, hVX.out, HK2.out⟩
          case round =>
            obtain ⟨j2, t2, hj2, rfl, rfl, ht2, hgo, hk⟩ := hrel
            have HKi := Lib.hid hk
            clear hk
            by_cases hlt : gk = 0
            · rw [hlt, Fit.Sys.fitGo] at hgo
              have hgo' : (false, t2) = (v, t1) := by injection hgo
              injection hgo' with e1 e2
              subst e1 e2
              have hlt' : ¬ (j2 : Int) < (N : Int) := by omega
              clear hgo
              go_wp2_with fail
              go_roundg (gq - 1)
              case measure => omega
              case rel => exact ⟨2, t2, by omega, rfl, rfl, by omega, hV2.out (by trivial), HKi.out⟩
            · obtain ⟨k0, hk0⟩ : ∃ k0, gk = k0 + 1 := ⟨gk - 1, by omega⟩
              rw [hk0, Fit.Sys.fitGo] at hgo
              have hlt' : (j2 : Int) < (N : Int) := by omega
              cases hA : (S.sys now).walk (opn b) (4 * (S.sys now).steps) t2 (S.sys now).steps with
              | none => rw [hA] at hgo; cases hgo
              | some f =>
                rw [hA] at hgo
                simp only at hgo
                have hfT := walk_top HG.out now (opn b) (B := 4622000000000000000 + j2 * 2200000000000) (by omega) _ hA (by omega)
                have C3 := fun v (hv : Keeps Nothing wr v) => gfrom_ok ((HS.out.same HKi.out).same hv) HG.out HX.out c b hc hb t2 f (by omega) (4 * (S.sys now).steps) (by omega) hA
                by_cases hf : f < 0
                · rw [if_pos hf] at hgo
                  have hgo' : (false, t2) = (v, t1) := by injection hgo
                  injection hgo' with e1 e2
                  subst e1 e2
                  clear hgo hA
                  go_wp2_with (go_at_call 56; refine (C3 _ (Keeps.refl _ _)).mono ?_; rintro e w3 ⟨rfl, hk3⟩; clear C3)
                  go_roundg (gq - 1)
                  case measure => omega
                  case rel => exact ⟨2, t2, by omega, rfl, rfl, by omega, hV2.out (by trivial), HKi.out.same hk3⟩
                · rw [if_neg hf] at hgo
                  rw [opn_not] at hgo
                  cases hU : (S.sys now).walk (fun s => bits .and .i64 s b == 0) (4 * (S.sys now).steps) f (S.sys now).steps with
                  | none => rw [hU] at hgo; cases hgo
                  | some u =>
                    rw [hU] at hgo
                    simp only at hgo
                    have huT := walk_top HG.out now _ (B := 4622000000000000000 + j2 * 2200000000000 + 1056000000000) (by omega) _ hU (by omega)
                    have C4 := fun v (hv : Keeps Nothing wr v) => guntil_ok ((HS.out.same HKi.out).same hv) HG.out HX.out c b hc hb f u (by omega) (4 * (S.sys now).steps) (by omega) hU
                    by_cases hu : u < 0
                    · rw [if_pos (.inl hu)] at hgo
                      have hgo' : (true, f) = (v, t1) := by injection hgo
                      injection hgo' with e1 e2
                      subst e1 e2
                      have hfr := hV1.out rfl
                      subst hfr
                      clear hgo hA hU
                      go_wp2_with (first | (go_at_call 56; refine (C3 _ (Keeps.refl _ _)).mono ?_; rintro e w3 ⟨rfl, hk3⟩; clear C3) | (go_at_call 55; refine (C4 _ hk3).mono ?_; rintro e w4 ⟨rfl, hk4⟩; clear C4))
                      go_ret
                      exact ⟨rfl, (HKi.out.same hk3).same hk4⟩
                    · have hu' : decide (u < 0) = false := by simp; omega
                      have hw5 : IntKind.i64.wrap (u - f) = u - f := by rw [IntKind.wrap_i64]; omega
                      by_cases hq : need ≤ u - f
                      · rw [if_pos (.inr hq)] at hgo
                        have hgo' : (true, f) = (v, t1) := by injection hgo
                        injection hgo' with e1 e2
                        subst e1 e2
                        have hfr := hV1.out rfl
                        subst hfr
                        clear hgo hA hU
                        go_wp2_with (first | (go_at_call 56; refine (C3 _ (Keeps.refl _ _)).mono ?_; rintro e w3 ⟨rfl, hk3⟩; clear C3) | (go_at_call 55; refine (C4 _ hk3).mono ?_; rintro e w4 ⟨rfl, hk4⟩; clear C4))
                        go_ret
                        exact ⟨rfl, (HKi.out.same hk3).same hk4⟩
                      · rw [if_neg (by omega)] at hgo
                        have HGO := Lib.hid hgo
                        have q3 : decide (need ≤ u - f) = false := by simp; omega
                        clear hgo hA hU hq
                        go_wp2_with (first | (go_at_call 56; refine (C3 _ (Keeps.refl _ _)).mono ?_; rintro e w3 ⟨rfl, hk3⟩; clear C3) | (go_at_call 55; refine (C4 _ hk3).mono ?_; rintro e w4 ⟨rfl, hk4⟩; clear C4))
                        go_roundg (gk - 1)
                        case measure => omega
                        case rel => exact ⟨j2 + 1, u, by omega, by go_num, rfl, by omega, (by rw [show gk - 1 = k0 by omega]; exact HGO.out), (HKi.out.same hk3).same hk4⟩

    · have hr1 : r = -1 := HF.out
      subst hr1
      clear hfit hk
      go_wp2_with fail
      go_ret
      exact ⟨rfl, HK.out⟩

end Go.Proofs.Ytpgmkekdgchkfaa
