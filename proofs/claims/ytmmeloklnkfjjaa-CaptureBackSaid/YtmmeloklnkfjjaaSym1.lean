/- The merging of one frame with a sorted range behind it. -/
import Derived.Test.YtmmeloklnkfjjaaSym
namespace Go.Proofs.Ytmmeloklnkfjjaa
open Go.RowKit

def Find1 (w : World) (g n a b : Nat) (c : Con) (k : Nat) (i j : Value) (wr : World) : Prop :=
  ∃ x y : Nat, y = x + k ∧ i = .int .i64 (x : Nat) ∧ j = .int .i64 (y : Nat) ∧ a + 1 ≤ x ∧ y ≤ b ∧ (∀ q, a + 1 ≤ q → q < x → Lt (c q) (c a)) ∧ (∀ q, y ≤ q → q < b → ¬ Lt (c q) (c a)) ∧ RowC wr g n c ∧ Keeps (fun k => k = g) w wr

def Shift1 (w : World) (g n a t : Nat) (c : Con) (k : Nat) (i : Value) (wr : World) : Prop :=
  ∃ x : Nat, x + k = t ∧ i = .int .i64 (x : Nat) ∧ a ≤ x ∧ RowC wr g n (shUp a x c) ∧ Keeps (fun k => k = g) w wr

set_option maxRecDepth 100000 in
set_option maxHeartbeats 16000000 in
theorem sm_one {w : World} {g n cap : Nat} {c : Con} (hr : RowC w g n c) (hn : n ≤ 1000000) (a m b : Nat) (hm : m = a + 1) (h2 : m < b) (h3 : b ≤ n) (hs : Srt m b c) :
    Calls Try.prog 41 #[.slice (some ⟨g, 0, none⟩) n cap, .int .i64 (a : Nat), .int .i64 (m : Nat), .int .i64 (b : Nat), .func (.func 31) #[] #[]] w (SortRes w g n a b c) := by
  have HR := Lib.hid hr
  have HS := Lib.hid hs
  have hma : (m : Int) - (a : Int) = 1 := by omega
  have HM := Lib.hid hm
  have ham : a < m := by omega
  clear hr hs hm
  go_enter Try.func41, Try.ntmps41
  go_wp2_with fail
  go_loopg [10, 11] (b - m) (fun k i j wr => Find1 w g n a b c k i j wr)
  case atStart =>
    have hm := HM.out
    refine ⟨m, b, by omega, rfl, rfl, by omega, Nat.le_refl _, fun q h1 h2 => by omega, fun q h1 h2 => by omega, HR.out, Keeps.refl _ _⟩
  case round =>
    clear HR
    obtain ⟨x, y, hxy, rfl, rfl, hax, hyb, hlo, hhi, hr, hk⟩ := hrel
    have HRr := Lib.hid hr
    have HK := Lib.hid hk
    have HLo := Lib.hid hlo
    have HHi := Lib.hid hhi
    by_cases hlt : x < y
    · obtain ⟨h, hh⟩ : ∃ h : Nat, h = (x + y) / 2 := ⟨_, rfl⟩
      have hhi2 : ((x : Int) + (y : Int)) / 2 = (h : Int) := by omega
      have hxh : x ≤ h := by omega
      have hhy : h < y := by omega
      have hhn : h < n := by omega
      have han : a < n := by omega
      obtain ⟨x0, x1, x2, x3, x4⟩ := hr.cell hhn
      obtain ⟨y0, y1, y2, y3, y4⟩ := hr.cell han
      obtain ⟨f, hf⟩ : ∃ f, f = c h := ⟨_, rfl⟩
      obtain ⟨g', hg'⟩ : ∃ f, f = c a := ⟨_, rfl⟩
      rw [← hf] at x0 x1 x2 x3 x4
      rw [← hg'] at y0 y1 y2 y3 y4
      obtain ⟨R, hR⟩ : ∃ R, ordI f g' = R := ⟨_, rfl⟩
      have C := fun v => order_ok (w := v) f g' R hR
      have HLT := Lib.hid (show Lt (c h) (c a) ↔ R < 0 from by rw [← hR, ordI_lt, hf, hg'])
      obtain ⟨fp, fc, ff, ft, fA, fcap, fbs⟩ := f
      obtain ⟨gp, gc, gf, gt, gA, gcap, gbs⟩ := g'
      unfold Fr.val at C
      simp only at x0 x1 x2 x3 x4 y0 y1 y2 y3 y4 C
      have HH := Lib.hid hh
      have HXY := Lib.hid hxy
      clear hr hk hR hf hg' hh hxy hlo hhi
      go_upto_region 5 with fail
      go_still_tail 9, (by kernel_rfl)
      change wpList _ _ _ _ _ wr.drew
      have HRd := Lib.hid (HRr.out.drew)
      have HKd := Lib.hid (HK.out.drew)
      clear HRr HK x0 x1 x2 x3 x4 y0 y1 y2 y3 y4
      generalize wr.drew = w1 at *
      by_cases hneg : R < 0
      · have hL := HLT.out.2 hneg
        have HL := Lib.hid hL
        clear hL
        go_wp2_with (go_at_call 31; refine (C _).mono ?_; clear C; rintro e' w2 ⟨rfl, hk2⟩; have HR2 := Lib.hid (HRd.out.keeps hk2 (fun h => h)); have HK2 := Lib.hid (HKd.out.trans hk2 (fun _ h _ => h.elim)); clear hk2 HRd HKd)
        go_roundg (y - (h + 1))
        case measure => have := HXY.out; omega
        case rel =>
          refine ⟨h + 1, y, by omega, by go_num, rfl, by omega, hyb, fun q h1 h2 => ?_, HHi.out, HR2.out, HK2.out⟩
          have hms := HM.out
          by_cases e : q = h
          · subst e; exact HL.out
          · exact le_lt (HS.out q h (by omega) (by omega) (by omega)) HL.out
      · have hneg' : decide (R < 0) = false := by simpa using hneg
        have hL : ¬ Lt (c h) (c a) := fun h => hneg (HLT.out.1 h)
        have HL := Lib.hid hL
        clear hL
        go_wp2_with (go_at_call 31; refine (C _).mono ?_; clear C; rintro e' w2 ⟨rfl, hk2⟩; have HR2 := Lib.hid (HRd.out.keeps hk2 (fun h => h)); have HK2 := Lib.hid (HKd.out.trans hk2 (fun _ h _ => h.elim)); clear hk2 HRd HKd)
        go_roundg (h - x)
        case measure => have := HXY.out; omega
        case rel =>
          refine ⟨x, h, by omega, rfl, rfl, hax, by omega, HLo.out, fun q h1 h2 => ?_, HR2.out, HK2.out⟩
          have hms := HM.out
          exact le_trans' HL.out (HS.out.le (by omega) h1 h2)
    · obtain rfl : y = x := by omega
      clear hr hk hxy hlo hhi
      have hy1 : (y : Int) - 1 = ((y - 1 : Nat) : Int) := by omega
      have hsrt := shUp_srt (a := a) (b := b) (i := y) (by have h := HS.out; rwa [HM.out] at h) hax hyb HLo.out HHi.out
      have hsw := shUp_sw (a := a) (b := b) c (y - 1 - a) (by omega)
      rw [show a + (y - 1 - a) = y - 1 by omega] at hsw
      have hid : Srt a b c → shUp a (y - 1) c = c := fun hs => by
        have : y = a + 1 := by
          by_cases e : y = a + 1
          · exact e
          · exact absurd (HLo.out (a + 1) (by omega) (by omega)) (hs a (a + 1) (by omega) (by omega) (by omega))
        rw [this, Nat.add_sub_cancel, shUp_start]
      have HSrt := Lib.hid hsrt
      have HSw := Lib.hid hsw
      have HId := Lib.hid hid
      clear hsrt hsw hid
      obtain ⟨z, hz⟩ : ∃ z, z = y - 1 := ⟨_, rfl⟩
      rw [← hz] at hy1 HSrt HSw HId
      have HZ := Lib.hid hz
      have hzy : z < y := by omega
      have haz : a ≤ z := by omega
      clear hz
      obtain ⟨wo, rfl⟩ : ∃ wo, wo = wr := ⟨_, rfl⟩
      go_wp2_with fail
      go_loopg [13] (z - a) (fun k i wr => Shift1 w g n a z c k i wr)
      case atStart => exact ⟨a, by omega, rfl, Nat.le_refl _, by rw [shUp_start]; exact HRr.out, HK.out⟩
      case round =>
        clear HRr HK
        obtain ⟨x, hxk, rfl, hax2, hr, hk⟩ := hrel
        have HRr := Lib.hid hr
        have HK := Lib.hid hk
        by_cases hlt2 : x < z
        · obtain ⟨p, hp⟩ : ∃ p, p = x + 1 := ⟨_, rfl⟩
          have hpi : (x : Int) + 1 = (p : Int) := by omega
          have hxn : x < n := by omega
          have hpn : p < n := by omega
          have hxp : x < p := by omega
          have hs := shUp_succ a x c hax2
          rw [← hp] at hs
          have HSucc := Lib.hid hs
          obtain ⟨x0, x1, x2, x3, x4⟩ := hr.cell hxn
          obtain ⟨y0, y1, y2, y3, y4⟩ := hr.cell hpn
          have hfz := fun o => hr.frozen o
          have HP := Lib.hid hp
          clear hr hk hs hp
          generalize shUp a x c = d at *
          obtain ⟨f, hf⟩ : ∃ f, f = d x := ⟨_, rfl⟩
          obtain ⟨g', hg'⟩ : ∃ f, f = d p := ⟨_, rfl⟩
          rw [← hf] at x0 x1 x2 x3 x4
          rw [← hg'] at y0 y1 y2 y3 y4
          have HF := Lib.hid hf
          have HG := Lib.hid hg'
          obtain ⟨fp, fc, ff, ft, fA, fcap, fbs⟩ := f
          obtain ⟨gp, gc, gf, gt, gA, gcap, gbs⟩ := g'
          simp only at x0 x1 x2 x3 x4 y0 y1 y2 y3 y4
          clear hf hg'
          go_upto_region 11 with fail
          go_region
          obtain ⟨hx1, hx2⟩ := HRr.out.exch hxn hpn HF.out HG.out
          simp only [put5] at hx1 hx2
          have HX1 := Lib.hid hx1
          have HX2 := Lib.hid (HK.out.trans hx2 (fun _ h _ => h))
          clear hx1 hx2 x0 x1 x2 x3 x4 y0 y1 y2 y3 y4 hfz
          generalize (((((((((((wr.setCell ⟨g, x * 5, none⟩ (.int .i64 gp)).setCell ⟨g, x * 5 + 1, none⟩ (.int .i64 gc)).setCell ⟨g, x * 5 + 2, none⟩ (.int .i64 gf)).setCell ⟨g, x * 5 + 3, none⟩ (.int .i64 gt)).setCell ⟨g, x * 5 + 4, none⟩ (.slice gA gbs.length gcap)).setCell ⟨g, p * 5, none⟩ (.int .i64 fp)).setCell ⟨g, p * 5 + 1, none⟩ (.int .i64 fc)).setCell ⟨g, p * 5 + 2, none⟩ (.int .i64 ff)).setCell ⟨g, p * 5 + 3, none⟩ (.int .i64 ft)).setCell ⟨g, p * 5 + 4, none⟩ (.slice fA fbs.length fcap)).drew) = w3 at *
          go_wp2_with fail
          go_roundg (gk - 1)
          case measure => omega
          case rel => exact ⟨p, by omega, rfl, by omega, by rw [HSucc.out]; exact HX1.out, HX2.out⟩
        · obtain rfl : x = z := by omega
          clear hr hk
          go_wp2_with fail
          go_end0
          exact ⟨_, rfl, HRr.out, HSw.out, HSrt.out, HId.out, HK.out⟩

end Go.Proofs.Ytmmeloklnkfjjaa
