/- The first time at which a class may go for so long; where no list is in force and one waits. -/
import Derived.Test.YtpgmkekdgchkfaaSched6
namespace Go.Proofs.Ytpgmkekdgchkfaa
open Go.RowKit

def Sch.fitGo (S : Sch) (b need : Int) : Nat → Int → Option (Bool × Int)
  | 0, t => some (false, t)
  | k + 1, t =>
    match S.walkTo (fun s => !(bits .and .i64 s b == 0)) 40 t S.steps with
    | none => none
    | some f => if f < 0 then some (false, t) else
      match S.walkTo (fun s => bits .and .i64 s b == 0) 40 f S.steps with
      | none => none
      | some u => if u < 0 ∨ (f < 1000000000000000 ∧ u < 1000000000000000 ∧ need ≤ u - f) then some (true, f) else if 1000000000000000 ≤ u ∨ 1000000000000000 ≤ f then none else S.fitGo b need k u

def Sch.fitAt (S : Sch) (b need : Int) (j : Nat) (t r : Int) : Prop :=
  match j with
  | 0 => ∃ v t1, S.fitGo b need (2 * S.steps).toNat t = some (v, t1) ∧ (v = true → t1 = r) ∧ (v = false → S.due - 2000000000 ≤ t1 ∧ ∃ v2 t2, S.fitGo b need (2 * S.steps).toNat t1 = some (v2, t2) ∧ (v2 = true → t2 = r) ∧ (v2 = false → r = -1))
  | 1 => S.due - 2000000000 ≤ t ∧ ∃ v2 t2, S.fitGo b need (2 * S.steps).toNat t = some (v2, t2) ∧ (v2 = true → t2 = r) ∧ (v2 = false → r = -1)
  | _ => r = -1

def FitsInv (w : World) (S : Sch) (b need r : Int) (k : Nat) (t i : Value) (wr : World) : Prop :=
  ∃ (j : Nat) (t' : Int), j + k = 2 ∧ i = .int .i64 (j : Nat) ∧ t = .int .i64 t' ∧ S.fitAt b need j t' r ∧ Keeps Nothing w wr

def FitInv (w : World) (S : Sch) (b need : Int) (X : Bool × Int) (n k : Nat) (t i : Value) (wr : World) : Prop :=
  ∃ (j : Nat) (t' : Int), j + k = n ∧ i = .int .i64 (j : Nat) ∧ t = .int .i64 t' ∧ S.fitGo b need k t' = some X ∧ Keeps Nothing w wr

set_option maxRecDepth 100000 in
set_option maxHeartbeats 4000000 in
theorem fits_ok {w : World} {p : Nat} {S : Sch} (h : SchAt w p S) (hl : Lone S) (c : Nat) (b : Int) (hc : c < 8) (hb : wrap64 ((2 : Int) ^ c) = b) (t need r : Int) (hr : S.fitAt b need 0 t r) :
    Calls Try.prog 40 #[.pointer (some ⟨p, 0, none⟩), .int .i64 (c : Nat), .int .i64 t, .int .i64 need] w (fun e w' => e = .returned (.int .i64 r) ∧ Keeps Nothing w w') := by
  obtain ⟨⟨ob, oc, ox, oA, ocap, oes⟩, ⟨ab, ac, ax, aA, acap, aes⟩, has, waits, due, chg, rep⟩ := S
  obtain ⟨h1, h2, hg, hol⟩ := hl
  simp only at h1 h2 hg hol
  subst h1 h2
  have HS := Lib.hid h
  have HR := Lib.hid hr
  have HG := Lib.hid hg
  have HL : Hid (Lone (⟨⟨ob, oc, ox, oA, ocap, oes⟩, ⟨ab, ac, ax, aA, acap, aes⟩, false, true, due, chg, rep⟩ : Sch)) := ⟨rfl, rfl, hg, hol⟩
  have hd0 := hg.b0
  have hd1 := hg.b1
  have hst : 0 ≤ Sch.steps (⟨⟨ob, oc, ox, oA, ocap, oes⟩, ⟨ab, ac, ax, aA, acap, aes⟩, false, true, due, chg, rep⟩ : Sch) ∧ Sch.steps (⟨⟨ob, oc, ox, oA, ocap, oes⟩, ⟨ab, ac, ax, aA, acap, aes⟩, false, true, due, chg, rep⟩ : Sch) ≤ 500 := by
    have : aes.length ≤ 64 := hg.len
    simp only [Sch.steps]
    omega
  clear h hr hg
  go_enter Try.func40, Try.ntmps40
  go_wp2_with fail
  go_loopg [2, 12] 2 (fun k t i wr => FitsInv w (⟨⟨ob, oc, ox, oA, ocap, oes⟩, ⟨ab, ac, ax, aA, acap, aes⟩, false, true, due, chg, rep⟩ : Sch) b need r k t i wr)
  case atStart => exact ⟨0, t, by omega, rfl, rfl, HR.out, Keeps.refl _ _⟩
  case round =>
    obtain ⟨j, t', hj, rfl, rfl, hfit, hk⟩ := hrel
    have HF := Lib.hid hfit
    have HK := Lib.hid hk
    have hB2 := HS.out.blk.keeps hk (fun h => h)
    have s8 : wr.cell? ⟨p, 8, none⟩ = some (.bool false) := hB2.cell 8
    have s9 : wr.cell? ⟨p, 9, none⟩ = some (.bool true) := hB2.cell 9
    have s10 : wr.cell? ⟨p, 10, none⟩ = some (.int .i64 due) := hB2.cell 10
    have C2 := fun v (hv : Keeps Nothing wr v) => steps_ok ((HS.out.same HK.out).same hv) HL.out.none HL.out.good.len
    clear hfit hk hB2
    have hj3 : j = 0 ∨ j = 1 ∨ j = 2 := by omega
    rcases hj3 with rfl | rfl | rfl
    · obtain ⟨v, t1, hX, hv1, hv2⟩ : ∃ v t1, Sch.fitGo (⟨⟨ob, oc, ox, oA, ocap, oes⟩, ⟨ab, ac, ax, aA, acap, aes⟩, false, true, due, chg, rep⟩ : Sch) b need (2 * Sch.steps (⟨⟨ob, oc, ox, oA, ocap, oes⟩, ⟨ab, ac, ax, aA, acap, aes⟩, false, true, due, chg, rep⟩ : Sch)).toNat t' = some (v, t1) ∧ (v = true → t1 = r) ∧ (v = false → Sch.fitAt (⟨⟨ob, oc, ox, oA, ocap, oes⟩, ⟨ab, ac, ax, aA, acap, aes⟩, false, true, due, chg, rep⟩ : Sch) b need 1 t1 r) := HF.out
      have hVX := Lib.hid hX
      have hV1 := Lib.hid hv1
      have hV2 := Lib.hid hv2
      have hw1 : IntKind.i64.wrap (2 * Sch.steps (⟨⟨ob, oc, ox, oA, ocap, oes⟩, ⟨ab, ac, ax, aA, acap, aes⟩, false, true, due, chg, rep⟩ : Sch)) = 2 * Sch.steps (⟨⟨ob, oc, ox, oA, ocap, oes⟩, ⟨ab, ac, ax, aA, acap, aes⟩, false, true, due, chg, rep⟩ : Sch) := by rw [IntKind.wrap_i64]; omega
      clear hX hv1 hv2 HF
      go_wp2_with (go_at_call 65; refine (C2 _ (Keeps.refl _ _)).mono ?_; rintro e w2 ⟨rfl, hk2⟩; clear C2)
      have HK2 := Lib.hid (HK.out.same hk2)
      clear hk2 s8 s9 s10
      obtain ⟨wq, rfl⟩ : ∃ wq : World, wq = wr := ⟨_, rfl⟩
      obtain ⟨gq, rfl⟩ : ∃ gq : Nat, gq = gk := ⟨_, rfl⟩
      go_loopg [2, 49] (2 * Sch.steps (⟨⟨ob, oc, ox, oA, ocap, oes⟩, ⟨ab, ac, ax, aA, acap, aes⟩, false, true, due, chg, rep⟩ : Sch)).toNat (fun k t i wr => FitInv w (⟨⟨ob, oc, ox, oA, ocap, oes⟩, ⟨ab, ac, ax, aA, acap, aes⟩, false, true, due, chg, rep⟩ : Sch) b need (v, t1) (2 * Sch.steps (⟨⟨ob, oc, ox, oA, ocap, oes⟩, ⟨ab, ac, ax, aA, acap, aes⟩, false, true, due, chg, rep⟩ : Sch)).toNat k t i wr)
      case atStart => exact ⟨0, t', by omega, rfl, rfl, hVX.out, HK2.out⟩
      case round =>
        obtain ⟨j2, t2, hj2, rfl, rfl, hgo, hk⟩ := hrel
        have HKi := Lib.hid hk
        clear hk
        by_cases hlt : gk = 0
        · rw [hlt, Sch.fitGo] at hgo
          have hgo' : (false, t2) = (v, t1) := by injection hgo
          injection hgo' with e1 e2
          subst e1 e2
          have hlt' : ¬ (j2 : Int) < 2 * Sch.steps (⟨⟨ob, oc, ox, oA, ocap, oes⟩, ⟨ab, ac, ax, aA, acap, aes⟩, false, true, due, chg, rep⟩ : Sch) := by omega
          clear hgo
          go_wp2_with fail
          go_roundg (gq - 1)
          case measure => omega
          case rel => exact ⟨1, t2, by omega, rfl, rfl, hV2.out (by trivial), HKi.out⟩
        · obtain ⟨k0, hk0⟩ : ∃ k0, gk = k0 + 1 := ⟨gk - 1, by omega⟩
          rw [hk0, Sch.fitGo] at hgo
          have hlt' : (j2 : Int) < 2 * Sch.steps (⟨⟨ob, oc, ox, oA, ocap, oes⟩, ⟨ab, ac, ax, aA, acap, aes⟩, false, true, due, chg, rep⟩ : Sch) := by omega
          cases hA : Sch.walkTo (⟨⟨ob, oc, ox, oA, ocap, oes⟩, ⟨ab, ac, ax, aA, acap, aes⟩, false, true, due, chg, rep⟩ : Sch) (fun s => !(bits .and .i64 s b == 0)) 40 t2 (Sch.steps (⟨⟨ob, oc, ox, oA, ocap, oes⟩, ⟨ab, ac, ax, aA, acap, aes⟩, false, true, due, chg, rep⟩ : Sch)) with
          | none => rw [hA] at hgo; cases hgo
          | some f =>
            rw [hA] at hgo
            simp only at hgo
            have C3 := fun v (hv : Keeps Nothing wr v) => from_ok ((HS.out.same HKi.out).same hv) HL.out c b hc hb t2 f 40 hA
            by_cases hf : f < 0
            · rw [if_pos hf] at hgo
              have hgo' : (false, t2) = (v, t1) := by injection hgo
              injection hgo' with e1 e2
              subst e1 e2
              clear hgo hA
              go_wp2_with (go_at_call 56; refine (C3 _ (Keeps.refl _ _)).mono ?_; rintro e w3 ⟨rfl, hk3⟩; clear C3)
              go_roundg (gq - 1)
              case measure => omega
              case rel => exact ⟨1, t2, by omega, rfl, rfl, hV2.out (by trivial), HKi.out.same hk3⟩
            · rw [if_neg hf] at hgo
              cases hU : Sch.walkTo (⟨⟨ob, oc, ox, oA, ocap, oes⟩, ⟨ab, ac, ax, aA, acap, aes⟩, false, true, due, chg, rep⟩ : Sch) (fun s => bits .and .i64 s b == 0) 40 f (Sch.steps (⟨⟨ob, oc, ox, oA, ocap, oes⟩, ⟨ab, ac, ax, aA, acap, aes⟩, false, true, due, chg, rep⟩ : Sch)) with
              | none => rw [hU] at hgo; cases hgo
              | some u =>
                rw [hU] at hgo
                simp only at hgo
                have C4 := fun v (hv : Keeps Nothing wr v) => until_ok ((HS.out.same HKi.out).same hv) HL.out c b hc hb f u 40 hU
                by_cases hu : u < 0
                · rw [if_pos (.inl hu)] at hgo
                  have hgo' : (true, f) = (v, t1) := by injection hgo
                  injection hgo' with e1 e2
                  subst e1 e2
                  have hfr := hV1.out rfl
                  subst hfr
                  clear hgo hA hU
                  go_wp2_with (first | (go_at_call 56; refine (C3 _ (Keeps.refl _ _)).mono ?_; rintro e w3 ⟨rfl, hk3⟩; clear C3) | (go_at_call 55; refine (C4 _ hk3).mono ?_; rintro e w4 ⟨rfl, hk4⟩; clear C4))
                  go_ret
                  exact ⟨rfl, (HKi.out.same hk3).same hk4⟩
                · have hu' : decide (u < 0) = false := by simp; omega
                  by_cases hq : f < 1000000000000000 ∧ u < 1000000000000000 ∧ need ≤ u - f
                  · rw [if_pos (.inr hq)] at hgo
                    have hgo' : (true, f) = (v, t1) := by injection hgo
                    injection hgo' with e1 e2
                    subst e1 e2
                    have hfr := hV1.out rfl
                    subst hfr
                    obtain ⟨q1, q2, q3⟩ := hq
                    clear hgo hA hU
                    go_wp2_with (first | (go_at_call 56; refine (C3 _ (Keeps.refl _ _)).mono ?_; rintro e w3 ⟨rfl, hk3⟩; clear C3) | (go_at_call 55; refine (C4 _ hk3).mono ?_; rintro e w4 ⟨rfl, hk4⟩; clear C4))
                    go_ret
                    exact ⟨rfl, (HKi.out.same hk3).same hk4⟩
                  · rw [if_neg (by omega)] at hgo
                    by_cases hz : 1000000000000000 ≤ u ∨ 1000000000000000 ≤ f
                    · rw [if_pos hz] at hgo; cases hgo
                    · rw [if_neg hz] at hgo
                      have HGO := Lib.hid hgo
                      have q3 : decide (need ≤ u - f) = false := by simp; omega
                      clear hgo hA hU hq
                      go_wp2_with (first | (go_at_call 56; refine (C3 _ (Keeps.refl _ _)).mono ?_; rintro e w3 ⟨rfl, hk3⟩; clear C3) | (go_at_call 55; refine (C4 _ hk3).mono ?_; rintro e w4 ⟨rfl, hk4⟩; clear C4))
                      go_roundg (gk - 1)
                      case measure => omega
                      case rel => exact ⟨j2 + 1, u, by omega, by go_num, rfl, (by rw [show gk - 1 = k0 by omega]; exact HGO.out), (HKi.out.same hk3).same hk4⟩
    · obtain ⟨hm, v, t1, hX, hv1, hv2⟩ : due - 2000000000 ≤ t' ∧ ∃ v t1, Sch.fitGo (⟨⟨ob, oc, ox, oA, ocap, oes⟩, ⟨ab, ac, ax, aA, acap, aes⟩, false, true, due, chg, rep⟩ : Sch) b need (2 * Sch.steps (⟨⟨ob, oc, ox, oA, ocap, oes⟩, ⟨ab, ac, ax, aA, acap, aes⟩, false, true, due, chg, rep⟩ : Sch)).toNat t' = some (v, t1) ∧ (v = true → t1 = r) ∧ (v = false → r = -1) := HF.out
      have hVX := Lib.hid hX
      have hV1 := Lib.hid hv1
      have hV2 := Lib.hid hv2
      have hw1 : IntKind.i64.wrap (2 * Sch.steps (⟨⟨ob, oc, ox, oA, ocap, oes⟩, ⟨ab, ac, ax, aA, acap, aes⟩, false, true, due, chg, rep⟩ : Sch)) = 2 * Sch.steps (⟨⟨ob, oc, ox, oA, ocap, oes⟩, ⟨ab, ac, ax, aA, acap, aes⟩, false, true, due, chg, rep⟩ : Sch) := by rw [IntKind.wrap_i64]; omega
      clear hX hv1 hv2 HF
      go_wp2_with (go_at_call 65; refine (C2 _ (Keeps.refl _ _)).mono ?_; rintro e w2 ⟨rfl, hk2⟩; clear C2)
      have HK2 := Lib.hid (HK.out.same hk2)
      clear hk2 s8 s9 s10
      obtain ⟨wq, rfl⟩ : ∃ wq : World, wq = wr := ⟨_, rfl⟩
      obtain ⟨gq, rfl⟩ : ∃ gq : Nat, gq = gk := ⟨_, rfl⟩
      go_loopg [2, 49] (2 * Sch.steps (⟨⟨ob, oc, ox, oA, ocap, oes⟩, ⟨ab, ac, ax, aA, acap, aes⟩, false, true, due, chg, rep⟩ : Sch)).toNat (fun k t i wr => FitInv w (⟨⟨ob, oc, ox, oA, ocap, oes⟩, ⟨ab, ac, ax, aA, acap, aes⟩, false, true, due, chg, rep⟩ : Sch) b need (v, t1) (2 * Sch.steps (⟨⟨ob, oc, ox, oA, ocap, oes⟩, ⟨ab, ac, ax, aA, acap, aes⟩, false, true, due, chg, rep⟩ : Sch)).toNat k t i wr)
      case atStart => exact ⟨0, t', by omega, rfl, rfl, hVX.out, HK2.out⟩
      case round =>
        obtain ⟨j2, t2, hj2, rfl, rfl, hgo, hk⟩ := hrel
        have HKi := Lib.hid hk
        clear hk
        by_cases hlt : gk = 0
        · rw [hlt, Sch.fitGo] at hgo
          have hgo' : (false, t2) = (v, t1) := by injection hgo
          injection hgo' with e1 e2
          subst e1 e2
          have hlt' : ¬ (j2 : Int) < 2 * Sch.steps (⟨⟨ob, oc, ox, oA, ocap, oes⟩, ⟨ab, ac, ax, aA, acap, aes⟩, false, true, due, chg, rep⟩ : Sch) := by omega
          clear hgo
          go_wp2_with fail
          go_roundg (gq - 1)
          case measure => omega
          case rel => exact ⟨2, t2, by omega, rfl, rfl, hV2.out (by trivial), HKi.out⟩
        · obtain ⟨k0, hk0⟩ : ∃ k0, gk = k0 + 1 := ⟨gk - 1, by omega⟩
          rw [hk0, Sch.fitGo] at hgo
          have hlt' : (j2 : Int) < 2 * Sch.steps (⟨⟨ob, oc, ox, oA, ocap, oes⟩, ⟨ab, ac, ax, aA, acap, aes⟩, false, true, due, chg, rep⟩ : Sch) := by omega
          cases hA : Sch.walkTo (⟨⟨ob, oc, ox, oA, ocap, oes⟩, ⟨ab, ac, ax, aA, acap, aes⟩, false, true, due, chg, rep⟩ : Sch) (fun s => !(bits .and .i64 s b == 0)) 40 t2 (Sch.steps (⟨⟨ob, oc, ox, oA, ocap, oes⟩, ⟨ab, ac, ax, aA, acap, aes⟩, false, true, due, chg, rep⟩ : Sch)) with
          | none => rw [hA] at hgo; cases hgo
          | some f =>
            rw [hA] at hgo
            simp only at hgo
            have C3 := fun v (hv : Keeps Nothing wr v) => from_ok ((HS.out.same HKi.out).same hv) HL.out c b hc hb t2 f 40 hA
            by_cases hf : f < 0
            · rw [if_pos hf] at hgo
              have hgo' : (false, t2) = (v, t1) := by injection hgo
              injection hgo' with e1 e2
              subst e1 e2
              clear hgo hA
              go_wp2_with (go_at_call 56; refine (C3 _ (Keeps.refl _ _)).mono ?_; rintro e w3 ⟨rfl, hk3⟩; clear C3)
              go_roundg (gq - 1)
              case measure => omega
              case rel => exact ⟨2, t2, by omega, rfl, rfl, hV2.out (by trivial), HKi.out.same hk3⟩
            · rw [if_neg hf] at hgo
              cases hU : Sch.walkTo (⟨⟨ob, oc, ox, oA, ocap, oes⟩, ⟨ab, ac, ax, aA, acap, aes⟩, false, true, due, chg, rep⟩ : Sch) (fun s => bits .and .i64 s b == 0) 40 f (Sch.steps (⟨⟨ob, oc, ox, oA, ocap, oes⟩, ⟨ab, ac, ax, aA, acap, aes⟩, false, true, due, chg, rep⟩ : Sch)) with
              | none => rw [hU] at hgo; cases hgo
              | some u =>
                rw [hU] at hgo
                simp only at hgo
                have C4 := fun v (hv : Keeps Nothing wr v) => until_ok ((HS.out.same HKi.out).same hv) HL.out c b hc hb f u 40 hU
                by_cases hu : u < 0
                · rw [if_pos (.inl hu)] at hgo
                  have hgo' : (true, f) = (v, t1) := by injection hgo
                  injection hgo' with e1 e2
                  subst e1 e2
                  have hfr := hV1.out rfl
                  subst hfr
                  clear hgo hA hU
                  go_wp2_with (first | (go_at_call 56; refine (C3 _ (Keeps.refl _ _)).mono ?_; rintro e w3 ⟨rfl, hk3⟩; clear C3) | (go_at_call 55; refine (C4 _ hk3).mono ?_; rintro e w4 ⟨rfl, hk4⟩; clear C4))
                  go_ret
                  exact ⟨rfl, (HKi.out.same hk3).same hk4⟩
                · have hu' : decide (u < 0) = false := by simp; omega
                  by_cases hq : f < 1000000000000000 ∧ u < 1000000000000000 ∧ need ≤ u - f
                  · rw [if_pos (.inr hq)] at hgo
                    have hgo' : (true, f) = (v, t1) := by injection hgo
                    injection hgo' with e1 e2
                    subst e1 e2
                    have hfr := hV1.out rfl
                    subst hfr
                    obtain ⟨q1, q2, q3⟩ := hq
                    clear hgo hA hU
                    go_wp2_with (first | (go_at_call 56; refine (C3 _ (Keeps.refl _ _)).mono ?_; rintro e w3 ⟨rfl, hk3⟩; clear C3) | (go_at_call 55; refine (C4 _ hk3).mono ?_; rintro e w4 ⟨rfl, hk4⟩; clear C4))
                    go_ret
                    exact ⟨rfl, (HKi.out.same hk3).same hk4⟩
                  · rw [if_neg (by omega)] at hgo
                    by_cases hz : 1000000000000000 ≤ u ∨ 1000000000000000 ≤ f
                    · rw [if_pos hz] at hgo; cases hgo
                    · rw [if_neg hz] at hgo
                      have HGO := Lib.hid hgo
                      have q3 : decide (need ≤ u - f) = false := by simp; omega
                      clear hgo hA hU hq
                      go_wp2_with (first | (go_at_call 56; refine (C3 _ (Keeps.refl _ _)).mono ?_; rintro e w3 ⟨rfl, hk3⟩; clear C3) | (go_at_call 55; refine (C4 _ hk3).mono ?_; rintro e w4 ⟨rfl, hk4⟩; clear C4))
                      go_roundg (gk - 1)
                      case measure => omega
                      case rel => exact ⟨j2 + 1, u, by omega, by go_num, rfl, (by rw [show gk - 1 = k0 by omega]; exact HGO.out), (HKi.out.same hk3).same hk4⟩
    · have hr1 : r = -1 := HF.out
      subst hr1
      go_wp2_with fail
      go_ret
      exact ⟨rfl, HK.out⟩

end Go.Proofs.Ytpgmkekdgchkfaa
