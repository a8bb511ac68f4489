/- The schedule's leap; until when, and from when on. -/
import Derived.Test.YtpgmkekdgchkfaaLink
import Derived.Test.YtpgmkekdgchkfaaSched6
import Derived.Deep.RegionWith
namespace Go.Proofs.Ytpgmkekdgchkfaa
open Go.RowKit

theorem steps_eq (S : Sch) (now : Int) : S.steps = (((S.sys now).steps : Nat) : Int) := by
  unfold Sch.steps Fit.Sys.steps Sch.sys
  simp only
  omega

theorem steps_le {S : Sch} {now : Int} (hx : Ext S now) : (S.sys now).steps ≤ 264 := by
  have h1 := hx.ol
  have h2 := hx.al
  unfold Fit.Sys.steps Sch.sys
  simp only
  omega

theorem gnx_top {base cyc ext : Int} {es : List Ent} (g : Good base cyc ext es) {t : Int} : gnx base cyc es t ≤ max t 4611686018427387904 + 1000000000 := by
  have h1 := g.b1
  have h2 := g.c1
  by_cases h : t < base
  · unfold gnx; rw [if_pos h]; omega
  · have := (gnx_range (es := es) g.c0 (Int.not_lt.1 h)).2
    omega

theorem Sch.next_top {S : Sch} (hg : SchGood S) (t : Int) : S.next t ≤ max t 4611686018427387904 + 1000000000 := by
  have hp : S.pre t ≤ max t 4611686018427387904 + 1000000000 := by
    unfold Sch.pre
    cases hT : S.tail with
    | none =>
      simp only
      by_cases hh : S.has = true
      · rw [if_pos hh]; exact gnx_top (hg.oper hh)
      · rw [if_neg hh]; omega
    | some f =>
      have hh := (Sch.tail_some hT).2
      have h1 := gnx_top (hg.oper hh) (t := t)
      simp only
      by_cases hf : f ≤ t
      · rw [if_pos hf]; omega
      · rw [if_neg hf, if_pos hh]
        split <;> omega
  unfold Sch.next
  by_cases hw : S.waits = true
  · have g := hg.admin hw
    have h1 := g.b1
    by_cases hd : S.due ≤ t
    · rw [if_pos ⟨hw, hd⟩]; exact gnx_top g
    · rw [if_neg (fun x => hd x.2)]
      split <;> omega
  · rw [if_neg (fun x => hw x.1), if_neg (fun x => hw x.1)]; exact hp

theorem leapT_top {S : Sch} (hg : SchGood S) (now t : Int) (n : Nat) : (S.sys now).leapT t n ≤ max t 4611686018427387904 + 1000000000 := by
  have h1 := Sch.next_top hg t
  have h2 : S.waits = true → S.due < 4611686018427387904 := fun hw => (hg.admin hw).b1
  unfold Fit.Sys.leapT
  split
  · rename_i h
    have := h2 h.1
    show S.due ≤ _
    omega
  · split
    · rename_i h
      have := h2 h.2.1
      split
      · rename_i f hf
        have h3 := Sch.tail_at hg hf
        split
        · omega
        · show S.due ≤ _
          omega
      · show S.due ≤ _
        omega
    · exact h1

theorem walk_top {S : Sch} (hg : SchGood S) (now : Int) (p : Int → Bool) {B : Int} (hB : 4611686018427387904 ≤ B) : ∀ (k : Nat) {t : Int} {n : Nat} {r : Int}, (S.sys now).walk p k t n = some r → t ≤ B → r ≤ B + k * 1000000000
  | 0, t, n, r, h, _ => by rw [Fit.Sys.walk] at h; cases h
  | k + 1, t, n, r, h, ht => by
    rw [Fit.Sys.walk] at h
    split at h
    · split at h
      · injection h with h; omega
      · have h1 := leapT_top hg now t n
        have h2 := walk_top hg now p (B := B + 1000000000) (by omega) k h (by omega)
        omega
    · injection h with h; omega

theorem tailc {w : World} {p : Nat} {S : Sch} (h : SchAt w p S) (hg : SchGood S) {f : Int} (hT : S.tail = some f) :
    Calls Try.prog 61 #[.pointer (some ⟨p, 0, none⟩)] w (fun e w' => ∃ o, e = .returned (.tuple #[.int .i64 f, .int .i64 o, .bool true]) ∧ Keeps Nothing w w') :=
  (tail_ok h hg).mono fun e w' ⟨f', o, b, he, hb, _, hk⟩ => by
    cases b
    · rw [hT] at hb; cases hb
    · rw [hT] at hb
      simp at hb
      subst hb
      exact ⟨o, he, hk⟩

theorem tailn {w : World} {p : Nat} {S : Sch} (h : SchAt w p S) (hg : SchGood S) (hT : S.tail = none) :
    Calls Try.prog 61 #[.pointer (some ⟨p, 0, none⟩)] w (fun e w' => ∃ f o, e = .returned (.tuple #[.int .i64 f, .int .i64 o, .bool false]) ∧ Keeps Nothing w w') :=
  (tail_ok h hg).mono fun e w' ⟨f', o, b, he, hb, _, hk⟩ => by
    cases b
    · exact ⟨f', o, he, hk⟩
    · rw [hT] at hb; simp at hb

set_option maxRecDepth 100000 in
set_option maxHeartbeats 8000000 in
theorem gleap_ok {w : World} {p : Nat} {S : Sch} (h : SchAt w p S) (hg : SchGood S) {now : Int} (hx : Ext S now) (t : Int) (n : Nat) (ht : t ≤ 9000000000000000000) (hn : 0 < n ∧ n ≤ 1000) :
    Calls Try.prog 72 #[.pointer (some ⟨p, 0, none⟩), .int .i64 t, .int .i64 (n : Nat)] w (fun e w' => e = .returned (.tuple #[.int .i64 ((S.sys now).leapT t n), .int .i64 ((S.sys now).leapN t n : Nat)]) ∧ Keeps Nothing w w') := by
  have HS := Lib.hid h
  have HG := Lib.hid hg
  have C1 := fun v (hv : Keeps Nothing w v) => next_ok (HS.out.same hv) HG.out t ht
  have C2 := fun v (hv : Keeps Nothing w v) => steps_ok (HS.out.same hv) hx.ol hx.al
  rw [steps_eq S now] at C2
  obtain ⟨hn0, hn1⟩ := hn
  have hd0 : S.waits = true → 0 ≤ S.due := fun hw => (hg.admin hw).b0
  have hT0 : (S.sys now).leapT t n = if S.waits = true ∧ t < S.due ∧ S.next t = S.due then S.due else if n = 1 ∧ S.waits = true ∧ 0 ≤ S.next t ∧ S.next t < S.due then (match S.tail with | some f => if S.next t < f then f else S.due | none => S.due) else S.next t := rfl
  have hN0 : (S.sys now).leapN t n = if S.waits = true ∧ t < S.due ∧ S.next t = S.due then (S.sys now).steps else if n = 1 ∧ S.waits = true ∧ 0 ≤ S.next t ∧ S.next t < S.due then (S.sys now).steps else n - 1 := rfl
  have hpos : ¬ 0 ≤ S.next t → S.waits = false := fun hneg => by
    cases hw : S.waits with
    | false => rfl
    | true => exact absurd (Sch.next_pos hg (.inr hw) t) hneg
  clear h hg hx
  generalize S.next t = N at *
  generalize (S.sys now).steps = ST at *
  generalize (S.sys now).leapT t n = RT at *
  generalize (S.sys now).leapN t n = RN at *
  have q1 : (n : Int) = 1 ∨ ((n : Int) == 1) = false := by
    by_cases e : (n : Int) = 1
    · exact .inl e
    · exact .inr (by simpa using e)
  have hnm : ((n : Int) - 1) = ((n - 1 : Nat) : Int) := by omega
  cases hw : S.waits with
  | false =>
    have hwn : ∀ {x : Prop}, S.waits = true → x := fun x => by rw [hw] at x; cases x
    have HT : Hid (RT = N ∧ RN = n - 1) := ⟨hT0.trans (by rw [if_neg (fun x => hwn x.1), if_neg (fun x => hwn x.2.1)]), hN0.trans (by rw [if_neg (fun x => hwn x.1), if_neg (fun x => hwn x.2.1)])⟩
    clear hT0 hN0 hpos
    clear hwn
    rcases q1 with q1 | q1
    · obtain rfl : n = 1 := by omega
      go_enter Try.func72, Try.ntmps72
      go_wp2_with (go_at_call 37; refine (C1 _ (Keeps.refl _ _)).mono ?_; rintro e w2 ⟨rfl, hk2⟩; clear C1; have hB2 := HS.out.blk.keeps hk2 (fun h => h); have s9 : w2.cell? ⟨p, 9, none⟩ = some (.bool S.waits) := hB2.cell 9; rw [hw] at s9; have s10 : w2.cell? ⟨p, 10, none⟩ = some (.int .i64 S.due) := hB2.cell 10; clear hB2)
      go_ret2
      exact ⟨by rw [HT.out.1, HT.out.2]; try rfl, hk2⟩
    · go_enter Try.func72, Try.ntmps72
      go_wp2_with (go_at_call 37; refine (C1 _ (Keeps.refl _ _)).mono ?_; rintro e w2 ⟨rfl, hk2⟩; clear C1; have hB2 := HS.out.blk.keeps hk2 (fun h => h); have s9 : w2.cell? ⟨p, 9, none⟩ = some (.bool S.waits) := hB2.cell 9; rw [hw] at s9; have s10 : w2.cell? ⟨p, 10, none⟩ = some (.int .i64 S.due) := hB2.cell 10; clear hB2)
      go_ret2
      exact ⟨by rw [HT.out.1, HT.out.2]; try rfl, hk2⟩
  | true =>
    have hd1 := hd0 hw
    have hN1 : 0 ≤ N := Classical.byContradiction fun x => by have := hpos x; rw [hw] at this; cases this
    clear hpos hd0
    by_cases hA : t < S.due ∧ N = S.due
    · obtain ⟨hA1, hA2⟩ := hA
      have HT : Hid (RT = N ∧ RN = ST) := ⟨hT0.trans (by rw [if_pos ⟨hw, hA1, hA2⟩, hA2]), hN0.trans (by rw [if_pos ⟨hw, hA1, hA2⟩])⟩
      clear hT0 hN0
      subst hA2
      clear q1
      go_enter Try.func72, Try.ntmps72
      go_wp2_with (first | (go_at_call 37; refine (C1 _ (Keeps.refl _ _)).mono ?_; rintro e w2 ⟨rfl, hk2⟩; clear C1; have hB2 := HS.out.blk.keeps hk2 (fun h => h); have s9 : w2.cell? ⟨p, 9, none⟩ = some (.bool S.waits) := hB2.cell 9; rw [hw] at s9; have s10 : w2.cell? ⟨p, 10, none⟩ = some (.int .i64 S.due) := hB2.cell 10; clear hB2) | (go_at_call 65; refine (C2 _ hk2).mono ?_; rintro e w3 ⟨rfl, hk3⟩; clear C2))
      go_ret2
      exact ⟨by rw [HT.out.1, HT.out.2]; try rfl, hk2.same hk3⟩
    · have hA' : ¬ (S.waits = true ∧ t < S.due ∧ N = S.due) := fun x => hA x.2
      have hc1 : (t < S.due ∧ (N == S.due) = false) ∨ decide (t < S.due) = false := by
        by_cases e : t < S.due
        · exact .inl ⟨e, by simp; omega⟩
        · exact .inr (by simpa using e)
      rcases q1 with q1 | q1
      · obtain rfl : n = 1 := by omega
        by_cases hB : N < S.due
        · cases hT : S.tail with
          | none =>
            have HT : Hid (RT = S.due ∧ RN = ST) := ⟨hT0.trans (by rw [if_neg hA', if_pos ⟨rfl, hw, hN1, hB⟩, hT]), hN0.trans (by rw [if_neg hA', if_pos ⟨rfl, hw, hN1, hB⟩])⟩
            have C3 := fun v (hv : Keeps Nothing w v) => tailn (HS.out.same hv) HG.out hT
            clear hT0 hN0 hA hA' hT
            rcases hc1 with ⟨hc1, hc2⟩ | hc1
            · go_enter Try.func72, Try.ntmps72
              go_upto_region 8 with (first | (go_at_call 37; refine (C1 _ (Keeps.refl _ _)).mono ?_; rintro e w2 ⟨rfl, hk2⟩; clear C1; have hB2 := HS.out.blk.keeps hk2 (fun h => h); have s9 : w2.cell? ⟨p, 9, none⟩ = some (.bool S.waits) := hB2.cell 9; rw [hw] at s9; have s10 : w2.cell? ⟨p, 10, none⟩ = some (.int .i64 S.due) := hB2.cell 10; clear hB2) | (go_at_call 61; refine (C3 _ hk2).mono ?_; rintro e w4 ⟨f1, o1, rfl, hk4⟩; clear C3; have hB4 := HS.out.blk.keeps (hk2.same hk4) (fun h => h); have z10 : w4.cell? ⟨p, 10, none⟩ = some (.int .i64 S.due) := hB4.cell 10; clear hB4))
              have C5 := fun v (hv : Keeps Nothing w4 v) => C2 v ((hk2.same hk4).same hv)
              clear C2 s9 s10
              go_region_held3 (fun v => v.cell? ⟨p, 10, none⟩ = some (.int .i64 S.due)) (first | exact z10 | exact k0) (first | (go_at_call 65; refine (C5 _ ((Keeps.refl _ _).drew)).mono ?_; rintro e w3 ⟨rfl, hk3⟩; have k0 := (hk3.cell (World.block_lt_of_cell? w4 _ z10) (fun h => h)).trans z10))
              go_wp2_with fail
              go_ret2
              exact ⟨by rw [HT.out.1, HT.out.2]; try rfl, (hk2.same hk4).same ((Keeps.refl _ _).drew.same hk3)⟩
            · go_enter Try.func72, Try.ntmps72
              go_upto_region 8 with (first | (go_at_call 37; refine (C1 _ (Keeps.refl _ _)).mono ?_; rintro e w2 ⟨rfl, hk2⟩; clear C1; have hB2 := HS.out.blk.keeps hk2 (fun h => h); have s9 : w2.cell? ⟨p, 9, none⟩ = some (.bool S.waits) := hB2.cell 9; rw [hw] at s9; have s10 : w2.cell? ⟨p, 10, none⟩ = some (.int .i64 S.due) := hB2.cell 10; clear hB2) | (go_at_call 61; refine (C3 _ hk2).mono ?_; rintro e w4 ⟨f1, o1, rfl, hk4⟩; clear C3; have hB4 := HS.out.blk.keeps (hk2.same hk4) (fun h => h); have z10 : w4.cell? ⟨p, 10, none⟩ = some (.int .i64 S.due) := hB4.cell 10; clear hB4))
              have C5 := fun v (hv : Keeps Nothing w4 v) => C2 v ((hk2.same hk4).same hv)
              clear C2 s9 s10
              go_region_held3 (fun v => v.cell? ⟨p, 10, none⟩ = some (.int .i64 S.due)) (first | exact z10 | exact k0) (first | (go_at_call 65; refine (C5 _ ((Keeps.refl _ _).drew)).mono ?_; rintro e w3 ⟨rfl, hk3⟩; have k0 := (hk3.cell (World.block_lt_of_cell? w4 _ z10) (fun h => h)).trans z10))
              go_wp2_with fail
              go_ret2
              exact ⟨by rw [HT.out.1, HT.out.2]; try rfl, (hk2.same hk4).same ((Keeps.refl _ _).drew.same hk3)⟩
          | some f =>
            have C3 := fun v (hv : Keeps Nothing w v) => tailc (HS.out.same hv) HG.out hT
            by_cases hf : N < f
            · have HT : Hid (RT = f ∧ RN = ST) := ⟨hT0.trans (by rw [if_neg hA', if_pos ⟨rfl, hw, hN1, hB⟩, hT]; exact if_pos hf), hN0.trans (by rw [if_neg hA', if_pos ⟨rfl, hw, hN1, hB⟩])⟩
              clear hT0 hN0 hA hA' hT
              rcases hc1 with ⟨hc1, hc2⟩ | hc1
              · go_enter Try.func72, Try.ntmps72
                go_wp2_with (first | (go_at_call 37; refine (C1 _ (Keeps.refl _ _)).mono ?_; rintro e w2 ⟨rfl, hk2⟩; clear C1; have hB2 := HS.out.blk.keeps hk2 (fun h => h); have s9 : w2.cell? ⟨p, 9, none⟩ = some (.bool S.waits) := hB2.cell 9; rw [hw] at s9; have s10 : w2.cell? ⟨p, 10, none⟩ = some (.int .i64 S.due) := hB2.cell 10; clear hB2) | (go_at_call 61; refine (C3 _ hk2).mono ?_; rintro e w4 ⟨o1, rfl, hk4⟩; clear C3; have hB4 := HS.out.blk.keeps (hk2.same hk4) (fun h => h); have z10 : w4.cell? ⟨p, 10, none⟩ = some (.int .i64 S.due) := hB4.cell 10; clear hB4) | (go_at_call 65; refine (C2 _ (hk2.same hk4)).mono ?_; rintro e w3 ⟨rfl, hk3⟩; clear C2))
                go_ret2
                exact ⟨by rw [HT.out.1, HT.out.2]; try rfl, (hk2.same hk4).same hk3⟩
              · go_enter Try.func72, Try.ntmps72
                go_wp2_with (first | (go_at_call 37; refine (C1 _ (Keeps.refl _ _)).mono ?_; rintro e w2 ⟨rfl, hk2⟩; clear C1; have hB2 := HS.out.blk.keeps hk2 (fun h => h); have s9 : w2.cell? ⟨p, 9, none⟩ = some (.bool S.waits) := hB2.cell 9; rw [hw] at s9; have s10 : w2.cell? ⟨p, 10, none⟩ = some (.int .i64 S.due) := hB2.cell 10; clear hB2) | (go_at_call 61; refine (C3 _ hk2).mono ?_; rintro e w4 ⟨o1, rfl, hk4⟩; clear C3; have hB4 := HS.out.blk.keeps (hk2.same hk4) (fun h => h); have z10 : w4.cell? ⟨p, 10, none⟩ = some (.int .i64 S.due) := hB4.cell 10; clear hB4) | (go_at_call 65; refine (C2 _ (hk2.same hk4)).mono ?_; rintro e w3 ⟨rfl, hk3⟩; clear C2))
                go_ret2
                exact ⟨by rw [HT.out.1, HT.out.2]; try rfl, (hk2.same hk4).same hk3⟩
            · have HT : Hid (RT = S.due ∧ RN = ST) := ⟨hT0.trans (by rw [if_neg hA', if_pos ⟨rfl, hw, hN1, hB⟩, hT]; exact if_neg hf), hN0.trans (by rw [if_neg hA', if_pos ⟨rfl, hw, hN1, hB⟩])⟩
              have hf' : decide (N < f) = false := by simpa using hf
              clear hT0 hN0 hA hA' hT
              rcases hc1 with ⟨hc1, hc2⟩ | hc1
              · go_enter Try.func72, Try.ntmps72
                go_upto_region 8 with (first | (go_at_call 37; refine (C1 _ (Keeps.refl _ _)).mono ?_; rintro e w2 ⟨rfl, hk2⟩; clear C1; have hB2 := HS.out.blk.keeps hk2 (fun h => h); have s9 : w2.cell? ⟨p, 9, none⟩ = some (.bool S.waits) := hB2.cell 9; rw [hw] at s9; have s10 : w2.cell? ⟨p, 10, none⟩ = some (.int .i64 S.due) := hB2.cell 10; clear hB2) | (go_at_call 61; refine (C3 _ hk2).mono ?_; rintro e w4 ⟨o1, rfl, hk4⟩; clear C3; have hB4 := HS.out.blk.keeps (hk2.same hk4) (fun h => h); have z10 : w4.cell? ⟨p, 10, none⟩ = some (.int .i64 S.due) := hB4.cell 10; clear hB4))
                have C5 := fun v (hv : Keeps Nothing w4 v) => C2 v ((hk2.same hk4).same hv)
                clear C2 s9 s10
                go_region_held3 (fun v => v.cell? ⟨p, 10, none⟩ = some (.int .i64 S.due)) (first | exact z10 | exact k0) (first | (go_at_call 65; refine (C5 _ ((Keeps.refl _ _).drew)).mono ?_; rintro e w3 ⟨rfl, hk3⟩; have k0 := (hk3.cell (World.block_lt_of_cell? w4 _ z10) (fun h => h)).trans z10))
                go_wp2_with fail
                go_ret2
                exact ⟨by rw [HT.out.1, HT.out.2]; try rfl, (hk2.same hk4).same ((Keeps.refl _ _).drew.same hk3)⟩
              · go_enter Try.func72, Try.ntmps72
                go_upto_region 8 with (first | (go_at_call 37; refine (C1 _ (Keeps.refl _ _)).mono ?_; rintro e w2 ⟨rfl, hk2⟩; clear C1; have hB2 := HS.out.blk.keeps hk2 (fun h => h); have s9 : w2.cell? ⟨p, 9, none⟩ = some (.bool S.waits) := hB2.cell 9; rw [hw] at s9; have s10 : w2.cell? ⟨p, 10, none⟩ = some (.int .i64 S.due) := hB2.cell 10; clear hB2) | (go_at_call 61; refine (C3 _ hk2).mono ?_; rintro e w4 ⟨o1, rfl, hk4⟩; clear C3; have hB4 := HS.out.blk.keeps (hk2.same hk4) (fun h => h); have z10 : w4.cell? ⟨p, 10, none⟩ = some (.int .i64 S.due) := hB4.cell 10; clear hB4))
                have C5 := fun v (hv : Keeps Nothing w4 v) => C2 v ((hk2.same hk4).same hv)
                clear C2 s9 s10
                go_region_held3 (fun v => v.cell? ⟨p, 10, none⟩ = some (.int .i64 S.due)) (first | exact z10 | exact k0) (first | (go_at_call 65; refine (C5 _ ((Keeps.refl _ _).drew)).mono ?_; rintro e w3 ⟨rfl, hk3⟩; have k0 := (hk3.cell (World.block_lt_of_cell? w4 _ z10) (fun h => h)).trans z10))
                go_wp2_with fail
                go_ret2
                exact ⟨by rw [HT.out.1, HT.out.2]; try rfl, (hk2.same hk4).same ((Keeps.refl _ _).drew.same hk3)⟩
        · have hB' : decide (N < S.due) = false := by simpa using hB
          have HT : Hid (RT = N ∧ RN = 1 - 1) := ⟨hT0.trans (by rw [if_neg (hA'), if_neg (fun x => hB x.2.2.2)]), hN0.trans (by rw [if_neg (hA'), if_neg (fun x => hB x.2.2.2)])⟩
          clear hT0 hN0
          clear hA hA'
          rcases hc1 with ⟨hc1, hc2⟩ | hc1
          · go_enter Try.func72, Try.ntmps72
            go_wp2_with (go_at_call 37; refine (C1 _ (Keeps.refl _ _)).mono ?_; rintro e w2 ⟨rfl, hk2⟩; clear C1; have hB2 := HS.out.blk.keeps hk2 (fun h => h); have s9 : w2.cell? ⟨p, 9, none⟩ = some (.bool S.waits) := hB2.cell 9; rw [hw] at s9; have s10 : w2.cell? ⟨p, 10, none⟩ = some (.int .i64 S.due) := hB2.cell 10; clear hB2)
            go_ret2
            exact ⟨by rw [HT.out.1, HT.out.2]; try rfl, hk2⟩
          · go_enter Try.func72, Try.ntmps72
            go_wp2_with (go_at_call 37; refine (C1 _ (Keeps.refl _ _)).mono ?_; rintro e w2 ⟨rfl, hk2⟩; clear C1; have hB2 := HS.out.blk.keeps hk2 (fun h => h); have s9 : w2.cell? ⟨p, 9, none⟩ = some (.bool S.waits) := hB2.cell 9; rw [hw] at s9; have s10 : w2.cell? ⟨p, 10, none⟩ = some (.int .i64 S.due) := hB2.cell 10; clear hB2)
            go_ret2
            exact ⟨by rw [HT.out.1, HT.out.2]; try rfl, hk2⟩
      · have hn1' : ¬ n = 1 := fun e => by rw [e] at q1; simp at q1
        have HT : Hid (RT = N ∧ RN = n - 1) := ⟨hT0.trans (by rw [if_neg (hA'), if_neg (fun x => hn1' x.1)]), hN0.trans (by rw [if_neg (hA'), if_neg (fun x => hn1' x.1)])⟩
        clear hT0 hN0
        clear hA hA' hn1'
        rcases hc1 with ⟨hc1, hc2⟩ | hc1
        · go_enter Try.func72, Try.ntmps72
          go_wp2_with (go_at_call 37; refine (C1 _ (Keeps.refl _ _)).mono ?_; rintro e w2 ⟨rfl, hk2⟩; clear C1; have hB2 := HS.out.blk.keeps hk2 (fun h => h); have s9 : w2.cell? ⟨p, 9, none⟩ = some (.bool S.waits) := hB2.cell 9; rw [hw] at s9; have s10 : w2.cell? ⟨p, 10, none⟩ = some (.int .i64 S.due) := hB2.cell 10; clear hB2)
          go_ret2
          exact ⟨by rw [HT.out.1, HT.out.2]; try rfl, hk2⟩
        · go_enter Try.func72, Try.ntmps72
          go_wp2_with (go_at_call 37; refine (C1 _ (Keeps.refl _ _)).mono ?_; rintro e w2 ⟨rfl, hk2⟩; clear C1; have hB2 := HS.out.blk.keeps hk2 (fun h => h); have s9 : w2.cell? ⟨p, 9, none⟩ = some (.bool S.waits) := hB2.cell 9; rw [hw] at s9; have s10 : w2.cell? ⟨p, 10, none⟩ = some (.int .i64 S.due) := hB2.cell 10; clear hB2)
          go_ret2
          exact ⟨by rw [HT.out.1, HT.out.2]; try rfl, hk2⟩

end Go.Proofs.Ytpgmkekdgchkfaa
