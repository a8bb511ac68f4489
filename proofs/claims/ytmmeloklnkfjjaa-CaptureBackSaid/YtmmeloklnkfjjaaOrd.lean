/- Which of two frames goes out first: capture.order, and what it calls. -/
import Derived.Test.YtmmeloklnkfjjaaCap5
namespace Go.Proofs.Ytmmeloklnkfjjaa
open Go.RowKit

def cmpI (a b : Int) : Int := if a < b then -1 else if b < a then 1 else 0
def ordI (f g : Fr) : Int := if cmpI f.frm g.frm ≠ 0 then cmpI f.frm g.frm else cmpI f.port g.port

theorem nan42 {w : World} (n : Int) : Calls Try.prog 42 #[.int .i64 n] w (fun e w' => e = .returned (.bool false) ∧ w = w') := by
  go_enter Try.func42, Try.ntmps42
  go_wp2
  go_ret
  exact ⟨by simp, rfl⟩

theorem nan43 {w : World} (n : Int) : Calls Try.prog 43 #[.int .i64 n] w (fun e w' => e = .returned (.bool false) ∧ w = w') := by
  go_enter Try.func43, Try.ntmps43
  go_wp2
  go_ret
  exact ⟨by simp, rfl⟩

theorem cmp37 {w : World} (a b : Int) : Calls Try.prog 37 #[.int .i64 a, .int .i64 b] w (fun e w' => e = .returned (.int .i64 (cmpI a b)) ∧ w' = w) := by
  unfold cmpI
  by_cases h1 : a < b
  · rw [if_pos h1]
    go_enter Try.func37, Try.ntmps37
    go_wp2_with (go_at_call 42; refine (nan42 _).mono ?_; rintro e w' ⟨rfl, rfl⟩)
    go_ret
    exact ⟨rfl, rfl⟩
  · rw [if_neg h1]
    have h1' : decide (a < b) = false := by simpa using h1
    by_cases h2 : b < a
    · rw [if_pos h2]
      go_enter Try.func37, Try.ntmps37
      go_wp2_with (go_at_call 42; refine (nan42 _).mono ?_; rintro e w' ⟨rfl, rfl⟩)
      go_ret
      exact ⟨rfl, rfl⟩
    · rw [if_neg h2]
      have h2' : decide (b < a) = false := by simpa using h2
      go_enter Try.func37, Try.ntmps37
      go_wp2_with (go_at_call 42; refine (nan42 _).mono ?_; rintro e w' ⟨rfl, rfl⟩)
      go_ret
      exact ⟨rfl, rfl⟩

theorem cmp38 {w : World} (a b : Int) : Calls Try.prog 38 #[.int .i64 a, .int .i64 b] w (fun e w' => e = .returned (.int .i64 (cmpI a b)) ∧ w' = w) := by
  unfold cmpI
  by_cases h1 : a < b
  · rw [if_pos h1]
    go_enter Try.func38, Try.ntmps38
    go_wp2_with (go_at_call 43; refine (nan43 _).mono ?_; rintro e w' ⟨rfl, rfl⟩)
    go_ret
    exact ⟨rfl, rfl⟩
  · rw [if_neg h1]
    have h1' : decide (a < b) = false := by simpa using h1
    by_cases h2 : b < a
    · rw [if_pos h2]
      go_enter Try.func38, Try.ntmps38
      go_wp2_with (go_at_call 43; refine (nan43 _).mono ?_; rintro e w' ⟨rfl, rfl⟩)
      go_ret
      exact ⟨rfl, rfl⟩
    · rw [if_neg h2]
      have h2' : decide (b < a) = false := by simpa using h2
      go_enter Try.func38, Try.ntmps38
      go_wp2_with (go_at_call 43; refine (nan43 _).mono ?_; rintro e w' ⟨rfl, rfl⟩)
      go_ret
      exact ⟨rfl, rfl⟩

set_option maxRecDepth 100000 in
theorem or_ok {w : World} {g : Nat} (a b : Int) (h0 : w.cell? ⟨g, 0, none⟩ = some (.int .i64 a)) (h1 : w.cell? ⟨g, 1, none⟩ = some (.int .i64 b)) :
    Calls Try.prog 36 #[.slice (some ⟨g, 0, none⟩) 2 2] w (fun e w' => e = .returned (.int .i64 (if a ≠ 0 then a else b)) ∧ w = w') := by
  by_cases ha : a = 0
  · subst ha
    rw [if_neg (by simp)]
    by_cases hb : b = 0
    · subst hb
      go_enter Try.func36, Try.ntmps36
      go_wp2_with fail
      refine wp_loop_rounds 3 ?_
      rw [rounds_succ]
      go_wp2_with fail
      rw [rounds_succ]
      go_wp2_with fail
      rw [rounds_succ]
      go_wp2_with fail
      go_ret
      exact ⟨rfl, rfl⟩
    · have hb' : (b != 0) = true := by simpa using hb
      clear hb
      go_enter Try.func36, Try.ntmps36
      go_wp2_with fail
      refine wp_loop_rounds 2 ?_
      rw [rounds_succ]
      go_wp2_with fail
      rw [rounds_succ]
      go_wp2_with fail
      go_ret
      exact ⟨rfl, rfl⟩
  · have ha' : (a != 0) = true := by simpa using ha
    rw [if_pos ha]
    clear ha
    go_enter Try.func36, Try.ntmps36
    go_wp2_with fail
    refine wp_loop_rounds 1 ?_
    rw [rounds_succ]
    go_wp2_with fail
    go_ret
    exact ⟨rfl, rfl⟩

set_option maxRecDepth 100000 in
set_option maxHeartbeats 4000000 in
theorem order_ok {w : World} (f g : Fr) (R : Int) (hR : ordI f g = R) : Calls Try.prog 31 #[f.val, g.val] w (fun e w' => e = .returned (.int .i64 R) ∧ Keeps Nothing w w') := by
  have HR := Lib.hid hR
  clear hR
  obtain ⟨p1, c1, r1, t1, B1, k1, b1⟩ := f
  obtain ⟨p2, c2, r2, t2, B2, k2, b2⟩ := g
  unfold Fr.val
  unfold ordI at HR
  simp only at HR ⊢
  have HK := Lib.hid (((Keeps.refl Nothing w).alloc (.cells #[.int .i64 p1, .int .i64 c1, .int .i64 r1, .int .i64 t1, .slice B1 b1.length k1] 27)).alloc (.cells #[.int .i64 p2, .int .i64 c2, .int .i64 r2, .int .i64 t2, .slice B2 b2.length k2] 27))
  have hb1 := Lib.hid ((Blk.new w [.int .i64 p1, .int .i64 c1, .int .i64 r1, .int .i64 t1, .slice B1 b1.length k1] 27).alloc (.cells #[.int .i64 p2, .int .i64 c2, .int .i64 r2, .int .i64 t2, .slice B2 b2.length k2] 27))
  have hb2 := Blk.new (w.alloc (.cells #[.int .i64 p1, .int .i64 c1, .int .i64 r1, .int .i64 t1, .slice B1 b1.length k1] 27)) [.int .i64 p2, .int .i64 c2, .int .i64 r2, .int .i64 t2, .slice B2 b2.length k2] 27
  have hs : (w.alloc (.cells #[.int .i64 p1, .int .i64 c1, .int .i64 r1, .int .i64 t1, .slice B1 b1.length k1] 27)).heap.size = w.heap.size + 1 := by simp
  rw [hs] at hb2
  have x2 := hb1.out.cell 2
  have x0 := hb1.out.cell 0
  have y2 := hb2.cell 2
  have y0 := hb2.cell 0
  simp only [List.getElem?_cons_succ, List.getElem?_cons_zero] at x2 x0 y2 y0
  clear hb1 hb2 hs
  go_enter Try.func31, Try.ntmps31
  go_upto_region 1 with fail
  generalize ((w.alloc (.cells #[.int .i64 p1, .int .i64 c1, .int .i64 r1, .int .i64 t1, .slice B1 b1.length k1] 27)).alloc (.cells #[.int .i64 p2, .int .i64 c2, .int .i64 r2, .int .i64 t2, .slice B2 b2.length k2] 27)) = w1 at *
  refine wp_region_still_tail 10 (by kernel_rfl) (by kernel_rfl) ?_
  simp only [List.take_succ_cons, List.take_zero, List.drop_succ_cons, List.drop_zero]
  repeat still_step
  still_call (cmp37 _ _)
  repeat still_step
  still_call (cmp38 _ _)
  refine wpStill_nil ?_
  change wpList _ _ _ _ _ w1.drew
  have HKd := Lib.hid (HK.out.drew)
  generalize w1.drew = w2 at *
  generalize hX : cmpI r1 r2 = X at *
  generalize hY : cmpI p1 p2 = Y at *
  have HX := Lib.hid hX
  have HY := Lib.hid hY
  clear hX hY
  have hn := Blk.new w2 [.int .i64 X, .int .i64 Y] 3
  have n0 := hn.cell 0
  have n1 := hn.cell 1
  have C := or_ok (w := w2.alloc (.cells #[.int .i64 X, .int .i64 Y] 3)) X Y n0 n1
  clear hn n0 n1
  generalize hO : (if X ≠ 0 then X else Y) = O at *
  have HO := Lib.hid hO
  clear hO
  go_wp2_with (go_at_call 36; refine C.mono ?_; clear C; rintro e w' ⟨rfl, rfl⟩)
  go_ret
  have hr := HR.out
  subst hr
  exact ⟨rfl, HKd.out.alloc _⟩

end Go.Proofs.Ytmmeloklnkfjjaa
