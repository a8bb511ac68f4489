/- Two ranges of a row, exchanged. -/
import Derived.Test.YtmmeloklnkfjjaaRow
namespace Go.Proofs.Ytmmeloklnkfjjaa
open Go.RowKit

def swapR (a b m : Nat) (c : Con) : Con := fun k => if a ≤ k ∧ k < a + m then c (k + (b - a)) else if b ≤ k ∧ k < b + m then c (k - (b - a)) else c k

theorem swapR_zero (a b : Nat) (c : Con) : swapR a b 0 c = c := by
  funext k
  unfold swapR
  rw [if_neg (by omega), if_neg (by omega)]

theorem swapR_succ (a b m : Nat) (c : Con) (h : a + m < b) : swapR a b (m + 1) c = swp (swapR a b m c) (a + m) (b + m) := by
  funext k
  unfold swp
  by_cases h1 : k = a + m
  · subst h1
    rw [if_pos rfl]
    unfold swapR
    rw [if_pos (by omega), if_neg (by omega), if_neg (by omega)]
    congr 1
    omega
  · rw [if_neg h1]
    by_cases h2 : k = b + m
    · subst h2
      rw [if_pos rfl]
      unfold swapR
      rw [if_neg (by omega), if_pos (by omega), if_neg (by omega), if_neg (by omega)]
      congr 1
      omega
    · rw [if_neg h2]
      unfold swapR
      by_cases h3 : a ≤ k ∧ k < a + m
      · rw [if_pos h3, if_pos (by omega)]
      · rw [if_neg h3, if_neg (by omega)]
        by_cases h4 : b ≤ k ∧ k < b + m
        · rw [if_pos h4, if_pos (by omega)]
        · rw [if_neg h4, if_neg (by omega)]

theorem swapR_sw {lo hi a b : Nat} (c : Con) : ∀ (m : Nat), lo ≤ a → a + m ≤ b → b + m ≤ hi → Sw lo hi c (swapR a b m c)
  | 0, _, _, _ => by rw [swapR_zero]; exact .refl _
  | m + 1, h1, h2, h3 => by
    rw [swapR_succ a b m c (by omega)]
    exact (swapR_sw c m h1 (by omega) (by omega)).step _ _ (by omega) (by omega)

def SwInv (w : World) (g n a b m : Nat) (c : Con) (k : Nat) (i : Value) (wr : World) : Prop :=
  ∃ j : Nat, j + k = m ∧ i = .int .i64 (j : Nat) ∧ RowC wr g n (swapR a b j c) ∧ Keeps (fun k => k = g) w wr

set_option maxRecDepth 100000 in
set_option maxHeartbeats 8000000 in
theorem swapRange_ok {w : World} {g n cap : Nat} {c : Con} (hr : RowC w g n c) (hn : n ≤ 1000000) (a b m : Nat) (h1 : a + m ≤ b) (h2 : b + m ≤ n) (fv : Value) :
    Calls Try.prog 45 #[.slice (some ⟨g, 0, none⟩) n cap, .int .i64 (a : Nat), .int .i64 (b : Nat), .int .i64 (m : Nat), fv] w (fun e w' => e = .returned (.tuple #[]) ∧ RowC w' g n (swapR a b m c) ∧ Keeps (fun k => k = g) w w') := by
  have HR := Lib.hid hr
  clear hr
  go_enter Try.func45, Try.ntmps45
  go_wp2_with fail
  go_loopg [10] m (fun k i wr => SwInv w g n a b m c k i wr)
  case atStart => exact ⟨0, by omega, rfl, by rw [swapR_zero]; exact HR.out, Keeps.refl _ _⟩
  case round =>
    obtain ⟨j, hj, rfl, hr, hk⟩ := hrel
    have HRr := Lib.hid hr
    have HK := Lib.hid hk
    by_cases hlt : j < m
    · obtain ⟨p, hp⟩ : ∃ p, p = a + j := ⟨_, rfl⟩
      obtain ⟨q, hq⟩ : ∃ q, q = b + j := ⟨_, rfl⟩
      have hpi : (a : Int) + (j : Int) = (p : Int) := by omega
      have hqi : (b : Int) + (j : Int) = (q : Int) := by omega
      have hpn : p < n := by omega
      have hqn : q < n := by omega
      have hpq : p < q := by omega
      have hs := swapR_succ a b j c (by omega)
      rw [← hp, ← hq] at hs
      have HSucc := Lib.hid hs
      obtain ⟨x0, x1, x2, x3, x4⟩ := hr.cell hpn
      obtain ⟨y0, y1, y2, y3, y4⟩ := hr.cell hqn
      have hfz := fun o => hr.frozen o
      clear hr hk hs hp hq
      generalize swapR a b j c = d at *
      obtain ⟨f, hf⟩ : ∃ f, f = d p := ⟨_, rfl⟩
      obtain ⟨g', hg'⟩ : ∃ f, f = d q := ⟨_, rfl⟩
      rw [← hf] at x0 x1 x2 x3 x4
      rw [← hg'] at y0 y1 y2 y3 y4
      have HF := Lib.hid hf
      have HG := Lib.hid hg'
      obtain ⟨fp, fc, ff, ft, fA, fcap, fbs⟩ := f
      obtain ⟨gp, gc, gf, gt, gA, gcap, gbs⟩ := g'
      simp only at x0 x1 x2 x3 x4 y0 y1 y2 y3 y4
      clear hf hg'
      go_upto_region 3 with fail
      go_region
      obtain ⟨hx1, hx2⟩ := HRr.out.exch hpn hqn HF.out HG.out
      simp only [put5] at hx1 hx2
      have HX1 := Lib.hid hx1
      have HX2 := Lib.hid (HK.out.trans hx2 (fun _ h _ => h))
      clear hx1 hx2 x0 x1 x2 x3 x4 y0 y1 y2 y3 y4 hfz
      generalize (((((((((((wr.setCell ⟨g, p * 5, none⟩ (.int .i64 gp)).setCell ⟨g, p * 5 + 1, none⟩ (.int .i64 gc)).setCell ⟨g, p * 5 + 2, none⟩ (.int .i64 gf)).setCell ⟨g, p * 5 + 3, none⟩ (.int .i64 gt)).setCell ⟨g, p * 5 + 4, none⟩ (.slice gA gbs.length gcap)).setCell ⟨g, q * 5, none⟩ (.int .i64 fp)).setCell ⟨g, q * 5 + 1, none⟩ (.int .i64 fc)).setCell ⟨g, q * 5 + 2, none⟩ (.int .i64 ff)).setCell ⟨g, q * 5 + 3, none⟩ (.int .i64 ft)).setCell ⟨g, q * 5 + 4, none⟩ (.slice fA fbs.length fcap)).drew) = w2 at *
      go_wp2_with fail
      go_roundg (gk - 1)
      case measure => omega
      case rel => exact ⟨j + 1, by omega, by go_num, by rw [HSucc.out]; exact HX1.out, HX2.out⟩
    · obtain rfl : j = m := by omega
      clear hr hk
      go_wp2_with fail
      go_end0
      exact ⟨rfl, HRr.out, HK.out⟩

end Go.Proofs.Ytmmeloklnkfjjaa
