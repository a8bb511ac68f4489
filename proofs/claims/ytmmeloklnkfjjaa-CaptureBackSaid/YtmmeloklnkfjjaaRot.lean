/- Two neighbouring ranges of a row, exchanged. -/
import Derived.Test.YtmmeloklnkfjjaaSwapR
namespace Go.Proofs.Ytmmeloklnkfjjaa
open Go.RowKit

def rot (a m b : Nat) (c : Con) : Con := fun k => if a ≤ k ∧ k < a + (b - m) then c (k + (m - a)) else if a + (b - m) ≤ k ∧ k < b then c (k - (b - m)) else c k

theorem rot_gt (c : Con) (m i j : Nat) (h : j < i) (hm : i ≤ m) : rot (m - (i - j)) m (m + j) (swapR (m - i) m j c) = rot (m - i) m (m + j) c := by
  funext k
  simp only [rot, swapR]
  repeat' split
  all_goals first | omega | rfl | (congr 1; omega)

theorem rot_lt (c : Con) (m i j : Nat) (h : i < j) (hm : i ≤ m) : rot (m - i) m (m + (j - i)) (swapR (m - i) (m + j - i) i c) = rot (m - i) m (m + j) c := by
  funext k
  simp only [rot, swapR]
  repeat' split
  all_goals first | omega | rfl | (congr 1; omega)

theorem rot_eq (c : Con) (m i : Nat) (hm : i ≤ m) : swapR (m - i) m i c = rot (m - i) m (m + i) c := by
  funext k
  simp only [rot, swapR]
  repeat' split
  all_goals first | omega | rfl | (congr 1; omega)

def RotInv (w : World) (g n a m b : Nat) (c : Con) (k : Nat) (i j : Value) (wr : World) : Prop :=
  ∃ (x y : Nat) (d : Con), x + y = k ∧ i = .int .i64 (x : Nat) ∧ j = .int .i64 (y : Nat) ∧ 1 ≤ x ∧ 1 ≤ y ∧ a + x ≤ m ∧ m + y ≤ b ∧ rot (m - x) m (m + y) d = rot a m b c ∧ Sw a b c d ∧ RowC wr g n d ∧ Keeps (fun k => k = g) w wr

set_option maxRecDepth 100000 in
set_option maxHeartbeats 8000000 in
theorem rotate_ok {w : World} {g n cap : Nat} {c : Con} (hr : RowC w g n c) (hn : n ≤ 1000000) (a m b : Nat) (h1 : a < m) (h2 : m < b) (h3 : b ≤ n) (fv : Value) :
    Calls Try.prog 44 #[.slice (some ⟨g, 0, none⟩) n cap, .int .i64 (a : Nat), .int .i64 (m : Nat), .int .i64 (b : Nat), fv] w (fun e w' => e = .returned (.tuple #[]) ∧ RowC w' g n (rot a m b c) ∧ Sw a b c (rot a m b c) ∧ Keeps (fun k => k = g) w w') := by
  have HR := Lib.hid hr
  clear hr
  go_enter Try.func44, Try.ntmps44
  go_wp2_with fail
  go_loopg [10, 11] (b - a) (fun k i j wr => RotInv w g n a m b c k i j wr)
  case atStart =>
    refine ⟨m - a, b - m, c, by omega, by rw [Int.natCast_sub (by omega)], by rw [Int.natCast_sub (by omega)], by omega, by omega, by omega, by omega, ?_, .refl _, HR.out, Keeps.refl _ _⟩
    rw [show m - (m - a) = a by omega, show m + (b - m) = b by omega]
  case round =>
    obtain ⟨x, y, d, hxy, rfl, rfl, hx, hy, hax, hmy, hrot, hsw, hr, hk⟩ := hrel
    have HRr := Lib.hid hr
    have HK := Lib.hid hk
    have HRot := Lib.hid hrot
    have HSw := Lib.hid hsw
    clear hr hk hrot hsw
    have e1 : (m : Int) - (x : Int) = ((m - x : Nat) : Int) := by omega
    have e3 : (b : Int) - (a : Int) = ((b - a : Nat) : Int) := by omega
    by_cases hgt : y < x
    · have hne : ((x : Int) != (y : Int)) = true := by simp; omega
      have C := swapRange_ok (cap := cap) HRr.out hn (m - x) m y (by omega) (by omega) fv
      have hsw2 := swapR_sw (lo := a) (hi := b) (a := m - x) (b := m) d y (by omega) (by omega) (by omega)
      have HS2 := Lib.hid (HSw.out.trans hsw2)
      have HE := Lib.hid ((rot_gt d m x y hgt (by omega)).trans HRot.out)
      clear hsw2
      generalize swapR (m - x) m y d = d2 at *
      go_wp2_with (go_at_call 45; refine C.mono ?_; clear C; rintro e w2 ⟨rfl, hr2, hk2⟩)
      go_roundg (gk - y)
      case measure => omega
      case rel => exact ⟨x - y, y, d2, by omega, by rw [Int.natCast_sub (by omega)], rfl, by omega, hy, by omega, hmy, HE.out, HS2.out, hr2, HK.out.trans hk2 (fun _ h _ => h)⟩
    · by_cases hlt : x < y
      · have hne : ((x : Int) != (y : Int)) = true := by simp; omega
        have hng : decide ((y : Int) < (x : Int)) = false := by simp; omega
        have e2 : (m : Int) + (y : Int) - (x : Int) = ((m + y - x : Nat) : Int) := by omega
        have C := swapRange_ok (cap := cap) HRr.out hn (m - x) (m + y - x) x (by omega) (by omega) fv
        have hsw2 := swapR_sw (lo := a) (hi := b) (a := m - x) (b := m + y - x) d x (by omega) (by omega) (by omega)
        have HS2 := Lib.hid (HSw.out.trans hsw2)
        have HE := Lib.hid ((rot_lt d m x y hlt (by omega)).trans HRot.out)
        clear hsw2
        generalize swapR (m - x) (m + y - x) x d = d2 at *
        go_wp2_with (go_at_call 45; refine C.mono ?_; clear C; rintro e w2 ⟨rfl, hr2, hk2⟩)
        go_roundg (gk - x)
        case measure => omega
        case rel => exact ⟨x, y - x, d2, by omega, rfl, by rw [Int.natCast_sub (by omega)], hx, by omega, hax, by omega, HE.out, HS2.out, hr2, HK.out.trans hk2 (fun _ h _ => h)⟩
      · obtain rfl : x = y := by omega
        have C := swapRange_ok (cap := cap) HRr.out hn (m - x) m x (by omega) (by omega) fv
        have hsw2 := swapR_sw (lo := a) (hi := b) (a := m - x) (b := m) d x (by omega) (by omega) (by omega)
        have HS2 := Lib.hid (HSw.out.trans hsw2)
        have HE := Lib.hid ((rot_eq d m x (by omega)).trans HRot.out)
        clear hsw2
        generalize swapR (m - x) m x d = d2 at *
        obtain rfl : d2 = rot a m b c := HE.out
        clear hgt hlt
        go_wp2_with (go_at_call 45; refine C.mono ?_; clear C; rintro e w2 ⟨rfl, hr2, hk2⟩)
        go_end0
        exact ⟨rfl, hr2, HS2.out, HK.out.trans hk2 (fun _ h _ => h)⟩

end Go.Proofs.Ytmmeloklnkfjjaa
