/- ChangeFits: the walk. -/
import Derived.Test.YtpgmkekdgchkfaaPFits
import Derived.Test.YtpgmkekdgchkfaaChN
namespace Go.Proofs.Ytpgmkekdgchkfaa
open Go.RowKit

set_option maxRecDepth 100000 in
theorem fitGo_top {S : Sch} (hg : SchGood S) {now : Int} (hx : Ext S now) (p : Int → Bool) (need : Int) {B : Int} (hB : 4611686018427387904 ≤ B) : ∀ (k : Nat) {t : Int} {v : Bool} {r : Int}, (S.sys now).fitGo p need k t = some (v, r) → t ≤ B → r ≤ B + k * 2200000000000
  | 0, t, v, r, h, ht => by
    rw [Fit.Sys.fitGo] at h
    injection h with h
    injection h with h1 h2
    omega
  | k + 1, t, v, r, h, ht => by
    have hst := steps_le hx
    rw [Fit.Sys.fitGo] at h
    cases hA : (S.sys now).walk p (4 * (S.sys now).steps) t (S.sys now).steps with
    | none => rw [hA] at h; cases h
    | some f =>
      rw [hA] at h
      simp only at h
      have h1 := walk_top hg now p hB _ hA ht
      by_cases hf : f < 0
      · rw [if_pos hf] at h
        have h2 : t = r := congrArg Prod.snd (Option.some.inj h)
        have hk : (0 : Int) ≤ ((k + 1 : Nat) : Int) * 2200000000000 := Int.mul_nonneg (Int.natCast_nonneg _) (by decide)
        omega
      · rw [if_neg hf] at h
        cases hU : (S.sys now).walk (fun x => !p x) (4 * (S.sys now).steps) f (S.sys now).steps with
        | none => rw [hU] at h; cases h
        | some u =>
          rw [hU] at h
          simp only at h
          have h2 := walk_top hg now _ (B := B + 1056000000000) (by omega) _ hU (by omega)
          by_cases hq : u < 0 ∨ need ≤ u - f
          · rw [if_pos hq] at h
            have h4 : f = r := congrArg Prod.snd (Option.some.inj h)
            omega
          · rw [if_neg hq] at h
            have := fitGo_top hg hx p need (B := B + 2200000000000) (by omega) k h (by omega)
            omega

set_option maxRecDepth 100000 in
theorem fits_top {S : Sch} (hg : SchGood S) {now : Int} (hx : Ext S now) (p : Int → Bool) (need : Int) {t r : Int} (ht : t ≤ 4620000000000000000) (h : (S.sys now).fits p need t = some r) : r ≤ 4640000000000000000 := by
  have hst := steps_le hx
  unfold Fit.Sys.fits at h
  split at h
  · cases h
  · rename_i r1 hf
    have := fitGo_top hg hx p need (B := 4620000000000000000) (by omega) _ hf ht
    injection h with h
    omega
  · rename_i t1 hf
    have h1 := fitGo_top hg hx p need (B := 4620000000000000000) (by omega) _ hf ht
    split at h
    · rename_i hw
      have h2 := late_top hg now (t := t1) (B := 4625000000000000000) hw (by omega) (by omega)
      split at h
      · cases h
      · rename_i r1 hf2
        have := fitGo_top hg hx p need (B := 4625000000000000000) (by omega) _ hf2 h2
        injection h with h
        omega
      · injection h with h
        omega
    · injection h with h
      omega

theorem chf_pack {w0 w : World} {p q : Nat} {S : Sch} {P : Par} {j : Nat} {n cn : Int} (hP : PlayAt w0 w p q S P j n cn) (hj : j ≤ 30) {c : Nat} (hc : c < 8) {need : Int} (h0 : 1 ≤ need) (h1 : need ≤ 500) :
    ∃ got want : Int, (∀ v, Keeps Nothing w v → Calls Try.prog 40 #[.pointer (some ⟨p, 0, none⟩), .int .i64 (c : Nat), .int .i64 n, .int .i64 need] v (fun e w' => e = .returned (.int .i64 got) ∧ Keeps Nothing v w')) ∧
      (∀ v, Keeps Nothing w v → Calls Try.prog 41 #[.pointer (some ⟨q, 0, none⟩), .int .i64 (c : Nat), .int .i64 n, .int .i64 need, .int .i64 600] v (fun e w' => e = .returned (.int .i64 want) ∧ Keeps Nothing v w')) ∧
      (0 ≤ want → got = want) ∧ (want < 0 → got < 0 ∨ (P.waits = true ∧ ∀ v, Keeps Nothing w v → Calls Try.prog 42 #[.pointer (some ⟨q, 0, none⟩), .int .i64 (c : Nat), .int .i64 got, .int .i64 need, .int .i64 600] v (fun e w' => e = .returned (.bool true) ∧ Keeps Nothing v w'))) := by
  have hn1 := hP.n1
  have hn : n ≤ 4620000000000000000 := by omega
  obtain ⟨b, hb⟩ : ∃ b, b = wrap64 ((2 : Int) ^ c) := ⟨_, rfl⟩
  obtain ⟨got, g1, g2, g3⟩ := Fit.law (Sch.sys_ok hP.good hP.n0 hP.ex) (opn b) h0 h1
  have e : (S.sys n).now = n := rfl
  rw [e] at g1 g2 g3
  have htop := fits_top hP.good hP.ex (opn b) need hn g1
  refine ⟨got, (S.sys n).fitsR (opn b) need 600 n, fun v hv => gfits_ok (hP.sch.same hv) hP.good hP.ex c b hc hb.symm n need got hn h0 h1 g1, fun v hv => pfits_ok (hP.par.same hv) hP.alike hP.good c b hc hb.symm n need hn h0 h1, g2, fun hw => ?_⟩
  rcases g3 hw with g | ⟨k1, k2, k3⟩
  · exact .inl g
  · refine .inr ⟨by rw [← hP.alike.waits]; exact k1, fun v hv => ?_⟩
    have := popen_ok (now := n) (hP.par.same hv) hP.alike hP.good c b hc hb.symm got need (by have := hP.n0; omega) (by omega) h0 h1
    rw [k3] at this
    exact this

theorem chf_case {got want : Int} {W : Prop} {b : Bool} (hX : 0 ≤ want → got = want) (hY : want < 0 → got < 0 ∨ (b = true ∧ W)) : (0 ≤ want ∧ got = want) ∨ (decide (0 ≤ want) = false ∧ got < 0) ∨ (decide (0 ≤ want) = false ∧ decide (got < 0) = false ∧ b = true ∧ W) := by
  by_cases h : 0 ≤ want
  · exact .inl ⟨h, hX h⟩
  · by_cases g : got < 0
    · exact .inr (.inl ⟨decide_eq_false h, g⟩)
    · exact .inr (.inr ⟨decide_eq_false h, decide_eq_false g, (hY (by omega)).resolve_left g⟩)

set_option maxRecDepth 100000 in
set_option maxHeartbeats 8000000 in
theorem chf_in {w : World} {A : Option Addr} {acts : List KAct} {cc : Nat} (h : KActs w A acts cc) (hs : Sm acts) (c : Nat) (hc : c < 8) (need : Int) (h0 : 1 ≤ need) (h1 : need ≤ 500) :
    Calls Try.prog 11 #[.slice A acts.length cc, .int .i64 (c : Nat), .int .i64 need] w (TrueKept w) := by
  have HA := Lib.hid h
  have h30 : acts.length ≤ 30 := hs.1
  have HSm := Lib.hid hs
  have q1 : decide ((c : Int) < 0) = false := decide_eq_false (by omega)
  have q2 : decide ((7 : Int) < (c : Int)) = false := decide_eq_false (by omega)
  have q3 : decide (need < 1) = false := by simpa using h0
  have q4 : decide ((500 : Int) < need) = false := by simpa using h1
  have C := fun v (hv : Keeps Nothing w v) => small_yes (HA.out.same hv) (by omega) HSm.out
  have C2 := fun v (hv : Keeps Nothing w v) => play_ok (HA.out.same hv) h30
  clear h hs
  go_enter Try.func11, Try.ntmps11
  go_wp2_with (first
    | (go_at_call 34; refine (turns_ok _).mono ?_; rintro e w1 ⟨rfl, k1⟩)
    | (go_at_call 35; refine (C _ k1).mono ?_; clear C; rintro e w2 ⟨rfl, k2⟩)
    | (go_at_call 36; refine (C2 _ (k1.same k2)).mono ?_; clear C2; rintro e w3 ⟨p, q, n, cn, S, P, rfl, hP⟩; have K3 := Lib.hid ((k1.same k2).same hP.keeps); have p9 : w3.cell? ⟨q, 9, none⟩ = some (.bool P.waits) := hP.par.blk.cell 9; obtain ⟨got, want, D1, D2, hX, hY⟩ := chf_pack hP h30 hc h0 h1; have HC := Lib.hid (chf_case hX hY); clear hX hY hP)
    | (go_at_call 40; refine (D1 _ (Keeps.refl _ _)).mono ?_; clear D1; rintro e w4 ⟨rfl, k4⟩)
    | (go_at_call 41; refine (D2 _ k4).mono ?_; clear D2; rintro e w5 ⟨rfl, k5⟩; have z9 : w5.cell? ⟨q, 9, none⟩ = some (.bool P.waits) := ((k4.same k5).cell (World.block_lt_of_cell? _ _ p9) (fun h => h)).trans p9; clear p9; rcases HC.out with ⟨hw, rfl⟩ | ⟨hw, hg⟩ | ⟨hw, hg, g1, D3⟩ <;> clear HC)
    | (go_at_call 42; refine (D3 _ (k4.same k5)).mono ?_; clear D3; rintro e w6 ⟨rfl, k6⟩))
  all_goals go_ret
  all_goals exact ⟨by simp, by first | exact K3.out.same ((k4.same k5).same k6) | exact K3.out.same (k4.same k5)⟩

set_option maxRecDepth 100000 in
set_option maxHeartbeats 4000000 in
theorem chf_out {w : World} {A : Option Addr} {acts : List KAct} {cc : Nat} (h : KActs w A acts cc) (hl : acts.length ≤ 9223372036854775807) (c need : Int) (ho : ¬ Sm acts ∨ c < 0 ∨ 7 < c ∨ need < 1 ∨ 500 < need) :
    Calls Try.prog 11 #[.slice A acts.length cc, .int .i64 c, .int .i64 need] w (TrueKept w) := by
  have HA := Lib.hid h
  by_cases hs : Sm acts
  · have C := fun v (hv : Keeps Nothing w v) => small_yes (HA.out.same hv) hl hs
    have ho2 : c < 0 ∨ (decide (c < 0) = false ∧ 7 < c) ∨ (decide (c < 0) = false ∧ decide (7 < c) = false ∧ need < 1) ∨ (decide (c < 0) = false ∧ decide (7 < c) = false ∧ decide (need < 1) = false ∧ 500 < need) := by
      have : c < 0 ∨ 7 < c ∨ need < 1 ∨ 500 < need := ho.resolve_left (fun x => x hs)
      simp only [decide_eq_false_iff_not]
      omega
    clear h hs ho
    rcases ho2 with o1 | ⟨o1, o2⟩ | ⟨o1, o2, o3⟩ | ⟨o1, o2, o3, o4⟩
    all_goals
      go_enter Try.func11, Try.ntmps11
      go_wp2_with (first | (go_at_call 34; refine (turns_ok _).mono ?_; rintro e w1 ⟨rfl, k1⟩) | (go_at_call 35; refine (C _ k1).mono ?_; clear C; rintro e w2 ⟨rfl, k2⟩))
      go_ret
      exact ⟨rfl, k1.same k2⟩
  · have C := fun v (hv : Keeps Nothing w v) => small_no (HA.out.same hv) hl hs
    clear h hs ho
    go_enter Try.func11, Try.ntmps11
    go_wp2_with (first | (go_at_call 34; refine (turns_ok _).mono ?_; rintro e w1 ⟨rfl, k1⟩) | (go_at_call 35; refine (C _ k1).mono ?_; clear C; rintro e w2 ⟨rfl, k2⟩))
    go_ret
    exact ⟨rfl, k1.same k2⟩

end Go.Proofs.Ytpgmkekdgchkfaa
