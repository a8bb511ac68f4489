/- Until when, and from when on; where no list is in force and one waits. -/
import Derived.Test.YtpgmkekdgchkfaaSched5
namespace Go.Proofs.Ytpgmkekdgchkfaa
open Go.RowKit

def Sch.steps (S : Sch) : Int := 2 * ((S.oper.es.length : Int) + (S.admin.es.length : Int)) + 8

set_option maxRecDepth 100000 in
theorem steps_ok {w : World} {p : Nat} {S : Sch} (h : SchAt w p S) (h1 : S.oper.es.length ≤ 64) (h2 : S.admin.es.length ≤ 64) :
    Calls Try.prog 65 #[.pointer (some ⟨p, 0, none⟩)] w (fun e w' => e = .returned (.int .i64 S.steps) ∧ Keeps Nothing w w') := by
  obtain ⟨⟨ob, oc, ox, oA, ocap, oes⟩, ⟨ab, ac, ax, aA, acap, aes⟩, has, waits, due, chg, rep⟩ := S
  have hB : Blk w p [.int .i64 ob, .int .i64 oc, .int .i64 ox, .slice oA oes.length ocap, .int .i64 ab, .int .i64 ac, .int .i64 ax, .slice aA aes.length acap, .bool has, .bool waits, .int .i64 due, .int .i64 chg, .int .i64 rep] 79 := h.blk
  have s3 : w.cell? ⟨p, 3, none⟩ = some (.slice oA oes.length ocap) := hB.cell 3
  have s7 : w.cell? ⟨p, 7, none⟩ = some (.slice aA aes.length acap) := hB.cell 7
  simp only at h1 h2
  have hw1 : IntKind.i64.wrap ((oes.length : Int) + aes.length) = (oes.length : Int) + aes.length := by rw [IntKind.wrap_i64]; omega
  have hw2 : IntKind.i64.wrap (2 * ((oes.length : Int) + aes.length)) = 2 * ((oes.length : Int) + aes.length) := by rw [IntKind.wrap_i64]; omega
  have hw3 : IntKind.i64.wrap (2 * ((oes.length : Int) + aes.length) + 8) = 2 * ((oes.length : Int) + aes.length) + 8 := by rw [IntKind.wrap_i64]; omega
  clear h hB
  go_enter Try.func65, Try.ntmps65
  go_upto_region 1 with fail
  go_quiet (fail)
  go_wp2_with fail
  go_ret
  exact ⟨rfl, (Keeps.refl _ _).drewN _⟩

/-- A schedule with no list in force, and one that waits. -/
structure Lone (S : Sch) : Prop where
  has : S.has = false
  waits : S.waits = true
  good : Good S.due S.admin.cyc S.admin.ext S.admin.es
  none : S.oper.es.length ≤ 64

def Sch.leapT (S : Sch) (t : Int) : Int := if t < S.due then S.due else gnx S.due S.admin.cyc S.admin.es t
def Sch.leapN (S : Sch) (t n : Int) : Int := if t < S.due then S.steps else n - 1

set_option maxRecDepth 100000 in
set_option maxHeartbeats 2000000 in
theorem leap_ok {w : World} {p : Nat} {S : Sch} (h : SchAt w p S) (hl : Lone S) (t n : Int) (ht : t ≤ 1000000000000000) (hn : 0 < n ∧ n ≤ 1000) :
    Calls Try.prog 72 #[.pointer (some ⟨p, 0, none⟩), .int .i64 t, .int .i64 n] w (fun e w' => e = .returned (.tuple #[.int .i64 (S.leapT t), .int .i64 (S.leapN t n)]) ∧ Keeps Nothing w w') := by
  obtain ⟨⟨ob, oc, ox, oA, ocap, oes⟩, ⟨ab, ac, ax, aA, acap, aes⟩, has, waits, due, chg, rep⟩ := S
  obtain ⟨h1, h2, hg, hol⟩ := hl
  simp only at h1 h2 hg hol
  subst h1 h2
  have HS := Lib.hid h
  have C1 := fun v (hv : Keeps Nothing w v) => next_ok (HS.out.same hv) ⟨(fun h => by cases h), fun _ => hg⟩ t (by omega)
  have C2 := fun v (hv : Keeps Nothing w v) => steps_ok (HS.out.same hv) hol hg.len
  have hnone : Sch.tail (⟨⟨ob, oc, ox, oA, ocap, oes⟩, ⟨ab, ac, ax, aA, acap, aes⟩, false, true, due, chg, rep⟩ : Sch) = none := by simp [Sch.tail]
  obtain ⟨hn0, hn1⟩ := hn
  have hd0 := hg.b0
  have hd1 := hg.b1
  by_cases hd : t < due
  · have hx : Sch.next (⟨⟨ob, oc, ox, oA, ocap, oes⟩, ⟨ab, ac, ax, aA, acap, aes⟩, false, true, due, chg, rep⟩ : Sch) t = due := by
      rw [Sch.next_n (fun _ => by show ¬ due ≤ t; omega) hnone rfl, if_pos ⟨rfl, .inl (by decide)⟩]
    have HT : Hid (Sch.leapT (⟨⟨ob, oc, ox, oA, ocap, oes⟩, ⟨ab, ac, ax, aA, acap, aes⟩, false, true, due, chg, rep⟩ : Sch) t = due ∧ Sch.leapN (⟨⟨ob, oc, ox, oA, ocap, oes⟩, ⟨ab, ac, ax, aA, acap, aes⟩, false, true, due, chg, rep⟩ : Sch) t n = Sch.steps (⟨⟨ob, oc, ox, oA, ocap, oes⟩, ⟨ab, ac, ax, aA, acap, aes⟩, false, true, due, chg, rep⟩ : Sch)) := ⟨if_pos hd, if_pos hd⟩
    rw [hx] at C1
    clear h hg
    go_enter Try.func72, Try.ntmps72
    go_wp2_with (first | (go_at_call 37; refine (C1 _ (Keeps.refl _ _)).mono ?_; rintro e w2 ⟨rfl, hk2⟩; clear C1; have hB2 := HS.out.blk.keeps hk2 (fun h => h); have s9 : w2.cell? ⟨p, 9, none⟩ = some (.bool true) := hB2.cell 9; have s10 : w2.cell? ⟨p, 10, none⟩ = some (.int .i64 due) := hB2.cell 10; clear hB2) | (go_at_call 65; refine (C2 _ hk2).mono ?_; rintro e w3 ⟨rfl, hk3⟩; clear C2))
    go_ret2
    exact ⟨by rw [HT.out.1, HT.out.2]; rfl, hk2.same hk3⟩
  · have hd' : decide (t < due) = false := by simp; omega
    have hx : Sch.next (⟨⟨ob, oc, ox, oA, ocap, oes⟩, ⟨ab, ac, ax, aA, acap, aes⟩, false, true, due, chg, rep⟩ : Sch) t = gnx due ac aes t := by unfold Sch.next; rw [if_pos ⟨rfl, by show due ≤ t; omega⟩]
    have hr := gnx_range (es := aes) hg.c0 (by omega : due ≤ t)
    have HT1 : Hid (Sch.leapT (⟨⟨ob, oc, ox, oA, ocap, oes⟩, ⟨ab, ac, ax, aA, acap, aes⟩, false, true, due, chg, rep⟩ : Sch) t = gnx due ac aes t) := if_neg hd
    have HT2 : Hid (Sch.leapN (⟨⟨ob, oc, ox, oA, ocap, oes⟩, ⟨ab, ac, ax, aA, acap, aes⟩, false, true, due, chg, rep⟩ : Sch) t n = n - 1) := if_neg hd
    rw [hx] at C1
    generalize gnx due ac aes t = N at *
    have q3 : decide (N < due) = false := by simp; omega
    have q4 : (N == due) = false := by simp; omega
    clear h hg
    by_cases hone : n = 1
    · subst hone
      have HT3 : Hid (Sch.leapN (⟨⟨ob, oc, ox, oA, ocap, oes⟩, ⟨ab, ac, ax, aA, acap, aes⟩, false, true, due, chg, rep⟩ : Sch) t 1 = 0) := HT2.out.trans (by decide)
      go_enter Try.func72, Try.ntmps72
      go_wp2_with (go_at_call 37; refine (C1 _ (Keeps.refl _ _)).mono ?_; rintro e w2 ⟨rfl, hk2⟩; clear C1; have hB2 := HS.out.blk.keeps hk2 (fun h => h); have s9 : w2.cell? ⟨p, 9, none⟩ = some (.bool true) := hB2.cell 9; have s10 : w2.cell? ⟨p, 10, none⟩ = some (.int .i64 due) := hB2.cell 10; clear hB2)
      go_ret2
      exact ⟨by rw [HT1.out, HT3.out]; rfl, hk2⟩
    · have q5 : (n == 1) = false := by simpa using hone
      go_enter Try.func72, Try.ntmps72
      go_wp2_with (go_at_call 37; refine (C1 _ (Keeps.refl _ _)).mono ?_; rintro e w2 ⟨rfl, hk2⟩; clear C1; have hB2 := HS.out.blk.keeps hk2 (fun h => h); have s9 : w2.cell? ⟨p, 9, none⟩ = some (.bool true) := hB2.cell 9; have s10 : w2.cell? ⟨p, 10, none⟩ = some (.int .i64 due) := hB2.cell 10; clear hB2)
      go_ret2
      exact ⟨by rw [HT1.out, HT2.out]; rfl, hk2⟩

def Sch.walkTo (S : Sch) (stop : Int → Bool) : Nat → Int → Int → Option Int
  | 0, _, _ => none
  | k + 1, t, n =>
    if 1000 < n ∨ 100000000000000 < t then none
    else if 0 < n ∧ 0 ≤ t then (if stop (S.state t) = true then some t else S.walkTo stop k (S.leapT t) (S.leapN t n))
    else some (-1)

def WalkInv (w : World) (S : Sch) (stop : Int → Bool) (r : Int) (k : Nat) (t n : Value) (wr : World) : Prop :=
  ∃ t' n' : Int, t = .int .i64 t' ∧ n = .int .i64 n' ∧ S.walkTo stop k t' n' = some r ∧ Keeps Nothing w wr

set_option maxRecDepth 100000 in
set_option maxHeartbeats 2000000 in
theorem until_ok {w : World} {p : Nat} {S : Sch} (h : SchAt w p S) (hl : Lone S) (c : Nat) (b : Int) (hc : c < 8) (hb : wrap64 ((2 : Int) ^ c) = b) (t r : Int) (K : Nat) (hr : S.walkTo (fun s => bits .and .i64 s b == 0) K t S.steps = some r) :
    Calls Try.prog 55 #[.pointer (some ⟨p, 0, none⟩), .int .i64 (c : Nat), .int .i64 t] w (fun e w' => e = .returned (.int .i64 r) ∧ Keeps Nothing w w') := by
  have HS := Lib.hid h
  have HL := Lib.hid hl
  have HR := Lib.hid hr
  have C2 := fun v (hv : Keeps Nothing w v) => steps_ok (HS.out.same hv) hl.none hl.good.len
  clear h hl hr
  go_enter Try.func55, Try.ntmps55
  go_wp2_with (go_at_call 65; refine (C2 _ (Keeps.refl _ _)).mono ?_; rintro e w2 ⟨rfl, hk2⟩; clear C2)
  go_loopg [2, 8] K (fun k t n wr => WalkInv w S (fun s => bits .and .i64 s b == 0) r k t n wr)
  case atStart => exact ⟨_, _, rfl, rfl, HR.out, hk2⟩
  case round =>
    obtain ⟨t', n', rfl, rfl, hw, hk⟩ := hrel
    have HK := Lib.hid hk
    clear hk
    obtain ⟨k0, hk0⟩ : ∃ k0, gk = k0 + 1 := by
      cases gk with
      | zero => simp [Sch.walkTo] at hw
      | succ k0 => exact ⟨k0, rfl⟩
    rw [hk0, Sch.walkTo] at hw
    by_cases h1 : 1000 < n' ∨ 100000000000000 < t'
    · rw [if_pos h1] at hw; cases hw
    · rw [if_neg h1] at hw
      by_cases h2 : 0 < n' ∧ 0 ≤ t'
      · rw [if_pos h2] at hw
        have C3 := fun v (hv : Keeps Nothing w v) => state_ok (HS.out.same hv) ⟨(fun h => by rw [HL.out.has] at h; cases h), fun _ => HL.out.good⟩ t' (by omega)
        have C4 := fun v (hv : Keeps Nothing w v) => leap_ok (HS.out.same hv) HL.out t' n' (by omega) (by omega)
        obtain ⟨h3, h4⟩ := h2
        by_cases hs : (bits .and .i64 (S.state t') b == 0) = true
        · rw [if_pos hs] at hw
          have he : t' = r := by injection hw
          subst he
          clear hw C4
          go_wp2_with (go_at_call 39; refine (C3 _ HK.out).mono ?_; rintro e w3 ⟨rfl, hk3⟩; clear C3)
          go_ret
          exact ⟨rfl, HK.out.same hk3⟩
        · rw [if_neg hs] at hw
          have HW := Lib.hid hw
          have hs' : (bits .and .i64 (S.state t') b == 0) = false := by simpa using hs
          clear hw hs
          go_wp2_with (first | (go_at_call 39; refine (C3 _ HK.out).mono ?_; rintro e w3 ⟨rfl, hk3⟩; clear C3) | (go_at_call 72; refine (C4 _ (HK.out.same hk3)).mono ?_; rintro e w4 ⟨rfl, hk4⟩; clear C4))
          go_roundg (gk - 1)
          case measure => omega
          case rel => exact ⟨_, _, rfl, rfl, (by rw [show gk - 1 = k0 by omega]; exact HW.out), (HK.out.same hk3).same hk4⟩
      · rw [if_neg h2] at hw
        have he : r = -1 := by injection hw with hw; exact hw.symm
        subst he
        clear hw
        by_cases h3 : 0 < n'
        · have q3 : decide (0 ≤ t') = false := by simp; omega
          go_wp2_with fail
          go_ret
          exact ⟨rfl, HK.out⟩
        · have q3 : decide (0 < n') = false := by simp; omega
          go_wp2_with fail
          go_ret
          exact ⟨rfl, HK.out⟩

set_option maxRecDepth 100000 in
set_option maxHeartbeats 2000000 in
theorem from_ok {w : World} {p : Nat} {S : Sch} (h : SchAt w p S) (hl : Lone S) (c : Nat) (b : Int) (hc : c < 8) (hb : wrap64 ((2 : Int) ^ c) = b) (t r : Int) (K : Nat) (hr : S.walkTo (fun s => !(bits .and .i64 s b == 0)) K t S.steps = some r) :
    Calls Try.prog 56 #[.pointer (some ⟨p, 0, none⟩), .int .i64 (c : Nat), .int .i64 t] w (fun e w' => e = .returned (.int .i64 r) ∧ Keeps Nothing w w') := by
  have HS := Lib.hid h
  have HL := Lib.hid hl
  have HR := Lib.hid hr
  have C2 := fun v (hv : Keeps Nothing w v) => steps_ok (HS.out.same hv) hl.none hl.good.len
  clear h hl hr
  go_enter Try.func56, Try.ntmps56
  go_wp2_with (go_at_call 65; refine (C2 _ (Keeps.refl _ _)).mono ?_; rintro e w2 ⟨rfl, hk2⟩; clear C2)
  go_loopg [2, 8] K (fun k t n wr => WalkInv w S (fun s => !(bits .and .i64 s b == 0)) r k t n wr)
  case atStart => exact ⟨_, _, rfl, rfl, HR.out, hk2⟩
  case round =>
    obtain ⟨t', n', rfl, rfl, hw, hk⟩ := hrel
    have HK := Lib.hid hk
    clear hk
    obtain ⟨k0, hk0⟩ : ∃ k0, gk = k0 + 1 := by
      cases gk with
      | zero => simp [Sch.walkTo] at hw
      | succ k0 => exact ⟨k0, rfl⟩
    rw [hk0, Sch.walkTo] at hw
    by_cases h1 : 1000 < n' ∨ 100000000000000 < t'
    · rw [if_pos h1] at hw; cases hw
    · rw [if_neg h1] at hw
      by_cases h2 : 0 < n' ∧ 0 ≤ t'
      · rw [if_pos h2] at hw
        have C3 := fun v (hv : Keeps Nothing w v) => state_ok (HS.out.same hv) ⟨(fun h => by rw [HL.out.has] at h; cases h), fun _ => HL.out.good⟩ t' (by omega)
        have C4 := fun v (hv : Keeps Nothing w v) => leap_ok (HS.out.same hv) HL.out t' n' (by omega) (by omega)
        obtain ⟨h3, h4⟩ := h2
        by_cases hs : (!(bits .and .i64 (S.state t') b == 0)) = true
        · have hs2 : (bits .and .i64 (S.state t') b == 0) = false := by simpa using hs
          have hs3 : (bits .and .i64 (S.state t') b != 0) = true := by simp only [bne, hs2]; rfl
          rw [if_pos hs] at hw
          clear hs
          have he : t' = r := by injection hw
          subst he
          clear hw C4
          go_wp2_with (go_at_call 39; refine (C3 _ HK.out).mono ?_; rintro e w3 ⟨rfl, hk3⟩; clear C3)
          go_ret
          exact ⟨rfl, HK.out.same hk3⟩
        · have hs2 : (bits .and .i64 (S.state t') b == 0) = true := by simpa using hs
          have hs3 : (bits .and .i64 (S.state t') b != 0) = false := by simp only [bne, hs2]; rfl
          rw [if_neg hs] at hw
          have HW := Lib.hid hw
          clear hw hs
          go_wp2_with (first | (go_at_call 39; refine (C3 _ HK.out).mono ?_; rintro e w3 ⟨rfl, hk3⟩; clear C3) | (go_at_call 72; refine (C4 _ (HK.out.same hk3)).mono ?_; rintro e w4 ⟨rfl, hk4⟩; clear C4))
          go_roundg (gk - 1)
          case measure => omega
          case rel => exact ⟨_, _, rfl, rfl, (by rw [show gk - 1 = k0 by omega]; exact HW.out), (HK.out.same hk3).same hk4⟩
      · rw [if_neg h2] at hw
        have he : r = -1 := by injection hw with hw; exact hw.symm
        subst he
        clear hw
        by_cases h3 : 0 < n'
        · have q3 : decide (0 ≤ t') = false := by simp; omega
          go_wp2_with fail
          go_ret
          exact ⟨rfl, HK.out⟩
        · have q3 : decide (0 < n') = false := by simp; omega
          go_wp2_with fail
          go_ret
          exact ⟨rfl, HK.out⟩

end Go.Proofs.Ytpgmkekdgchkfaa
