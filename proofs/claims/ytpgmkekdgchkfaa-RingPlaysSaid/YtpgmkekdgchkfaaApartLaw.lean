/- RingApart: for all numbers the law returns true, and what was there is as it was. -/
import Derived.Test.YtpgmkekdgchkfaaKeep7
import Derived.BigQuiet
import Derived.Deep.DeepCutAuto
import Derived.Deep.CutBlock
namespace Go.Proofs.Ytpgmkekdgchkfaa
open Go.RowKit

/-- All rows empty of bound 0, but for one of 200 and one of 1. -/
def bndAt (a b : Nat) (l : Nat) : Int := if l = b then 1 else if l = a then 200 else 0

def rsA (a b : Nat) (q : List Int) (t : List Int) (lost : Nat) : List RSt := (List.range 8).map fun l => if l = b then ⟨1, t, lost⟩ else if l = a then ⟨200, q, 0⟩ else ⟨0, [], 0⟩

theorem rsA_get {a b l : Nat} {q t : List Int} {lost : Nat} (h : l < 8) : (rsA a b q t lost)[l]? = some (if l = b then ⟨1, t, lost⟩ else if l = a then ⟨200, q, 0⟩ else ⟨0, [], 0⟩) := by
  simp [rsA, h]

theorem rsA_one {a b : Nat} {q t : List Int} {lost : Nat} (ha : a < 8) (hne : a ≠ b) : (rsA a b q t lost)[a]? = some ⟨200, q, 0⟩ := by
  rw [rsA_get ha, if_neg hne, if_pos rfl]

theorem rsA_two {a b : Nat} {q t : List Int} {lost : Nat} (hb : b < 8) : (rsA a b q t lost)[b]? = some ⟨1, t, lost⟩ := by
  rw [rsA_get hb, if_pos rfl]

theorem rsA_set_one {a b : Nat} {q t q' : List Int} {lost : Nat} (ha : a < 8) (hne : a ≠ b) : (rsA a b q t lost).set a ⟨200, q', 0⟩ = rsA a b q' t lost := by
  apply List.ext_getElem?
  intro i
  by_cases hi : i < 8
  · by_cases e : a = i
    · subst e
      rw [List.getElem?_set_self (by simp [rsA]; exact hi), rsA_one hi hne]
    · rw [List.getElem?_set_ne e, rsA_get hi, rsA_get hi]
      simp only [if_neg (Ne.symm e)]
  · rw [List.getElem?_eq_none (by simp [rsA]; omega), List.getElem?_eq_none (by simp [rsA]; omega)]

theorem rsA_set_two {a b : Nat} {q t t' : List Int} {lost lost' : Nat} (hb : b < 8) : (rsA a b q t lost).set b ⟨1, t', lost'⟩ = rsA a b q t' lost' := by
  apply List.ext_getElem?
  intro i
  by_cases hi : i < 8
  · by_cases e : b = i
    · subst e
      rw [List.getElem?_set_self (by simp [rsA]; exact hi), rsA_two hi]
    · rw [List.getElem?_set_ne e, rsA_get hi, rsA_get hi]
      simp only [if_neg (Ne.symm e)]
  · rw [List.getElem?_eq_none (by simp [rsA]; omega), List.getElem?_eq_none (by simp [rsA]; omega)]

set_option maxRecDepth 100000 in
set_option maxHeartbeats 1000000 in
theorem apart_out (a b : Int) (A : Option Addr) (n c : Nat) (w : World) (hn : n ≤ 9223372036854775807) (h : a < 0 ∨ 7 < a ∨ b < 0 ∨ 7 < b ∨ a = b ∨ 100 < n) : Calls Try.prog 9 #[.int .i64 a, .int .i64 b, .slice A n c] w (TrueKept w) := by
  have hc : a < 0 ∨ 0 ≤ a ∧ 7 < a ∨ 0 ≤ a ∧ a ≤ 7 ∧ b < 0 ∨ 0 ≤ a ∧ a ≤ 7 ∧ 0 ≤ b ∧ 7 < b ∨ 0 ≤ a ∧ a ≤ 7 ∧ 0 ≤ b ∧ b ≤ 7 ∧ a = b ∨ 0 ≤ a ∧ a ≤ 7 ∧ 0 ≤ b ∧ b ≤ 7 ∧ a ≠ b ∧ 100 < n := by omega
  rcases hc with h | ⟨h, h2⟩ | ⟨h, h2, h3⟩ | ⟨h, h2, h3, h4⟩ | ⟨h, h2, h3, h4, rfl⟩ | ⟨h, h2, h3, h4, h5, h6⟩
  · go_enter Try.func9, Try.ntmps9
    go_wp2_with (go_at_call 23; refine (keeps7 _).mono ?_; rintro e w1 ⟨rfl, hk1⟩)
    go_ret
    exact ⟨rfl, hk1⟩
  · go_enter Try.func9, Try.ntmps9
    go_wp2_with (go_at_call 23; refine (keeps7 _).mono ?_; rintro e w1 ⟨rfl, hk1⟩)
    go_ret
    exact ⟨rfl, hk1⟩
  · go_enter Try.func9, Try.ntmps9
    go_wp2_with (go_at_call 23; refine (keeps7 _).mono ?_; rintro e w1 ⟨rfl, hk1⟩)
    go_ret
    exact ⟨rfl, hk1⟩
  · go_enter Try.func9, Try.ntmps9
    go_wp2_with (go_at_call 23; refine (keeps7 _).mono ?_; rintro e w1 ⟨rfl, hk1⟩)
    go_ret
    exact ⟨rfl, hk1⟩
  · go_enter Try.func9, Try.ntmps9
    go_wp2_with (go_at_call 23; refine (keeps7 _).mono ?_; rintro e w1 ⟨rfl, hk1⟩)
    go_ret
    exact ⟨rfl, hk1⟩
  · have h7 : (a == b) = false := by simpa using h5
    go_enter Try.func9, Try.ntmps9
    go_wp2_with (go_at_call 23; refine (keeps7 _).mono ?_; rintro e w1 ⟨rfl, hk1⟩)
    go_ret
    exact ⟨rfl, hk1⟩

theorem new_ring_L (L : List Value) (b0 b1 b2 b3 b4 b5 b6 b7 : Int) (hL : L = [.int .i64 b0, .int .i64 b1, .int .i64 b2, .int .i64 b3, .int .i64 b4, .int .i64 b5, .int .i64 b6, .int .i64 b7])
    (h0 : 0 < L.length) (h1 : 1 < L.length) (h2 : 2 < L.length) (h3 : 3 < L.length) (h4 : 4 < L.length) (h5 : 5 < L.length) (h6 : 6 < L.length) (h7 : 7 < L.length) (w : World) :
    Calls Try.prog 24 #[.agg #[L[0], L[1], L[2], L[3], L[4], L[5], L[6], L[7]]] w (MadeRing [b0, b1, b2, b3, b4, b5, b6, b7] w) := by
  subst hL
  exact new_ring b0 b1 b2 b3 b4 b5 b6 b7 w

theorem set_bnd {a b : Nat} (ha : a < 8) (hb : b < 8) : (([Value.int IntKind.i64 0, Value.int IntKind.i64 0, Value.int IntKind.i64 0, Value.int IntKind.i64 0, Value.int IntKind.i64 0, Value.int IntKind.i64 0, Value.int IntKind.i64 0, Value.int IntKind.i64 0].set a (Value.int IntKind.i64 200)).set b (Value.int IntKind.i64 1)) =
    [.int .i64 (bndAt a b 0), .int .i64 (bndAt a b 1), .int .i64 (bndAt a b 2), .int .i64 (bndAt a b 3), .int .i64 (bndAt a b 4), .int .i64 (bndAt a b 5), .int .i64 (bndAt a b 6), .int .i64 (bndAt a b 7)] := by
  obtain rfl | rfl | rfl | rfl | rfl | rfl | rfl | rfl : a = 0 ∨ a = 1 ∨ a = 2 ∨ a = 3 ∨ a = 4 ∨ a = 5 ∨ a = 6 ∨ a = 7 := by omega
  all_goals
    obtain rfl | rfl | rfl | rfl | rfl | rfl | rfl | rfl : b = 0 ∨ b = 1 ∨ b = 2 ∨ b = 3 ∨ b = 4 ∨ b = 5 ∨ b = 6 ∨ b = 7 := by omega
    all_goals rfl

theorem rsA_start {a b : Nat} (ha : a < 8) (hb : b < 8) : ([bndAt a b 0, bndAt a b 1, bndAt a b 2, bndAt a b 3, bndAt a b 4, bndAt a b 5, bndAt a b 6, bndAt a b 7].map fun x => (⟨bnd x, [], 0⟩ : RSt)) = rsA a b [] [] 0 := by
  obtain rfl | rfl | rfl | rfl | rfl | rfl | rfl | rfl : a = 0 ∨ a = 1 ∨ a = 2 ∨ a = 3 ∨ a = 4 ∨ a = 5 ∨ a = 6 ∨ a = 7 := by omega
  all_goals
    obtain rfl | rfl | rfl | rfl | rfl | rfl | rfl | rfl : b = 0 ∨ b = 1 ∨ b = 2 ∨ b = 3 ∨ b = 4 ∨ b = 5 ∨ b = 6 ∨ b = 7 := by omega
    all_goals rfl

def PushInv (w : World) (p a b : Nat) (F : Nat → Prop) (ids : List Int) (k : Nat) (i : Value) (wr : World) : Prop :=
  ∃ j : Nat, j + k = ids.length ∧ i = .int .i64 (j : Nat) ∧ RingAt wr p F (rsA a b (ids.take j) [77] 1) ∧ Keeps Nothing w wr

def PopInv (w : World) (p a b : Nat) (F : Nat → Prop) (ids : List Int) (k : Nat) (i : Value) (wr : World) : Prop :=
  ∃ j : Nat, j + k = ids.length ∧ i = .int .i64 (j : Nat) ∧ RingAt wr p F (rsA a b (ids.drop j) [77] 1) ∧ Keeps Nothing w wr

/-- Numbers that came in, ids, in a row of cells. -/
def IntsR (w : World) (A : Option Addr) (ids : List Int) (c : Nat) : Prop :=
  ids = [] ∨ ∃ b o, A = some ⟨b, o, none⟩ ∧ ids.length ≤ c ∧ ∀ (j : Nat) (x : Int), ids[j]? = some x → w.cell? ⟨b, o + j, none⟩ = some (.int .i64 x)

theorem apart_bits {a b : Nat} (ha : a < 8) (hb : b < 8) : bitsTo (rsA a b [] [77] 1) 8 = 2 ^ b := by
  obtain rfl | rfl | rfl | rfl | rfl | rfl | rfl | rfl : a = 0 ∨ a = 1 ∨ a = 2 ∨ a = 3 ∨ a = 4 ∨ a = 5 ∨ a = 6 ∨ a = 7 := by omega
  all_goals
    obtain rfl | rfl | rfl | rfl | rfl | rfl | rfl | rfl : b = 0 ∨ b = 1 ∨ b = 2 ∨ b = 3 ∨ b = 4 ∨ b = 5 ∨ b = 6 ∨ b = 7 := by omega
    all_goals rfl

theorem two_wrap {b : Nat} (hb : b < 8) : ((2 : Int) ^ b == wrap64 (2 ^ b)) = true := by
  obtain rfl | rfl | rfl | rfl | rfl | rfl | rfl | rfl : b = 0 ∨ b = 1 ∨ b = 2 ∨ b = 3 ∨ b = 4 ∨ b = 5 ∨ b = 6 ∨ b = 7 := by omega
  all_goals decide +kernel

set_option maxRecDepth 100000 in
set_option maxHeartbeats 8000000 in
theorem apart_in (a b : Nat) (A : Option Addr) (c : Nat) (ids : List Int) (w : World) (ha : a < 8) (hb : b < 8) (hne : a ≠ b) (hn : ids.length ≤ 100) (hv : IntsR w A ids c) :
    Calls Try.prog 9 #[.int .i64 a, .int .i64 b, .slice A ids.length c] w (TrueKept w) := by
  have HV := Lib.hid hv
  have hq : ((a : Int) == (b : Int)) = false := by simp; omega
  clear hv
  go_enter Try.func9, Try.ntmps9
  go_wp2_with (first | (go_at_call 23; refine (keeps7 _).mono ?_; rintro e w1 ⟨rfl, hk1⟩) | (go_at_call 24; refine (new_ring_L _ _ _ _ _ _ _ _ _ (set_bnd ha hb) _ _ _ _ _ _ _ _ _).mono ?_; rintro e w2 ⟨p, F, rfl, hP, hF, hk2⟩; rw [rsA_start ha hb] at hP; have C1 := push_ok hP b 77 ⟨1, [], 0⟩ (rsA_two hb) (by decide)) | (go_at_call 25; refine C1.mono ?_; rintro e w3 ⟨rfl, hP3, hk3⟩; clear C1 hP; have hP3 : RingAt w3 p F (rsA a b [] [77] 0) := (by have h : RingAt w3 p F ((rsA a b [] [] 0).set b ⟨1, [77], 0⟩) := hP3; rwa [rsA_set_two hb] at h); have C2 := push_full hP3 b 78 ⟨1, [77], 0⟩ (rsA_two hb) rfl (by decide)) | (go_at_call 25; refine C2.mono ?_; rintro e w4 ⟨rfl, hP4, hk4⟩; clear C2))
  have HP4 : Hid (RingAt w4 p F (rsA a b [] [77] 1)) := by
    have h : RingAt w4 p F ((rsA a b [] [77] 0).set b ⟨1, [77], 1⟩) := hP4
    rwa [rsA_set_two hb] at h
  have HF : Hid (∀ x, F x → w.heap.size ≤ x) := fun x hx => by have := hF x hx; have h1 := hk1.size; simp at this; omega
  have K4 : Hid (Keeps Nothing w w4) := (((hk1.alloc _).same hk2).up hk3 HF.out).up hk4 HF.out
  clear hP4 hP3 hk1 hk2 hk3 hk4 hF
  go_loopg [61] ids.length (fun k i wr => PushInv w p a b F ids k i wr)
  case atStart => exact ⟨0, by omega, rfl, HP4.out, K4.out⟩
  case round =>
    obtain ⟨j, hj, rfl, hR, hk⟩ := hrel
    have HR := Lib.hid hR
    have HK := Lib.hid hk
    clear hR hk
    by_cases hlt : j < ids.length
    · obtain ⟨x, hx⟩ : ∃ x, ids[j]? = some x := ⟨_, List.getElem?_eq_getElem hlt⟩
      obtain ⟨ab, ao, hA, hcell⟩ : ∃ b o, A = some ⟨b, o, none⟩ ∧ w.cell? ⟨b, o + j, none⟩ = some (.int .i64 x) := by
        rcases HV.out with h | ⟨b, o, h1, h2, h3⟩
        · subst h; simp at hlt
        · exact ⟨b, o, h1, h3 j x hx⟩
      subst hA
      have d0 := (HK.out.cell (World.block_lt_of_cell? w _ hcell) (fun h => h)).trans hcell
      have htk : Hid (ids.take j ++ [x] = ids.take (j + 1)) := by rw [List.take_add_one, hx]; rfl
      have C := push_ok HR.out a x ⟨200, ids.take j, 0⟩ (rsA_one ha hne) (by simp; omega)
      clear hcell hx
      go_wp2_with (go_at_call 25; refine C.mono ?_; rintro e w5 ⟨rfl, hP5, hk5⟩; clear C)
      go_roundg (gk - 1)
      case measure => omega
      case rel =>
        have h : RingAt w5 p F ((rsA a b (ids.take j) [77] 1).set a ⟨200, ids.take j ++ [x], 0⟩) := hP5
        rw [rsA_set_one ha hne, htk.out] at h
        exact ⟨j + 1, by omega, by go_num, h, HK.out.up hk5 HF.out⟩
    · have hjl : j = ids.length := by omega
      have HR1 : Hid (RingAt wr p F (rsA a b ids [77] 1)) := by
        have := HR.out
        rwa [hjl, List.take_length] at this
      clear HR HP4 K4
      subst hjl
      go_wp2_with fail
      obtain ⟨wm, rfl⟩ : ∃ wm : World, wm = wr := ⟨_, rfl⟩
      go_loopg [73] ids.length (fun k i wr => PopInv w p a b F ids k i wr)
      case atStart => exact ⟨0, by omega, rfl, HR1.out, HK.out⟩
      case round =>
        obtain ⟨j, hj, rfl, hR, hk⟩ := hrel
        have HR := Lib.hid hR
        have HK := Lib.hid hk
        clear hR hk HR1
        by_cases hlt : j < ids.length
        · obtain ⟨x, hx⟩ : ∃ x, ids[j]? = some x := ⟨_, List.getElem?_eq_getElem hlt⟩
          obtain ⟨ab, ao, hA, hcell⟩ : ∃ b o, A = some ⟨b, o, none⟩ ∧ w.cell? ⟨b, o + j, none⟩ = some (.int .i64 x) := by
            rcases HV.out with h | ⟨b, o, h1, h2, h3⟩
            · subst h; simp at hlt
            · exact ⟨b, o, h1, h3 j x hx⟩
          subst hA
          have d0 := (HK.out.cell (World.block_lt_of_cell? w _ hcell) (fun h => h)).trans hcell
          have htk : ids.drop j = x :: ids.drop (j + 1) := by
            rw [List.drop_eq_getElem_cons hlt]
            congr 1
            exact (List.getElem?_eq_some_iff.1 hx).2
          have C := pop_some HR.out a x (ids.drop (j + 1)) ⟨200, ids.drop j, 0⟩ (rsA_one ha hne) htk
          clear hcell hx htk
          go_wp2_with (go_at_call 27; refine C.mono ?_; rintro e w5 ⟨rfl, hP5, hk5⟩; clear C)
          go_roundg (gk - 1)
          case measure => omega
          case rel =>
            have h : RingAt w5 p F ((rsA a b (ids.drop j) [77] 1).set a ⟨200, ids.drop (j + 1), 0⟩) := hP5
            rw [rsA_set_one ha hne] at h
            exact ⟨j + 1, by omega, by go_num, h, HK.out.up hk5 HF.out⟩
        · have hjl : j = ids.length := by omega
          have HR1 : RingAt wr p F (rsA a b [] [77] 1) := by
            have := HR.out
            rwa [hjl, List.drop_length] at this
          clear HR
          subst hjl
          have C := head_some HR1 b 77 [] ⟨1, [77], 1⟩ (rsA_two hb) rfl
          have HK2 := Lib.hid HK.out
          clear HK
          go_upto_region 24 with (go_at_call 26; refine C.mono ?_; rintro e w5 ⟨rfl, hk5⟩; have HR5 : ∀ n, RingAt (w5.drewN n) p F (rsA a b [] [77] 1) := fun n => (HR1.same hk5).same ((Keeps.refl _ _).drewN n); have D1 : ∀ n, Calls Try.prog 30 #[.pointer (some ⟨p, 0, none⟩), .int .i64 (b : Nat)] (w5.drewN n) (fun e w' => e = .returned (.int .i64 1) ∧ w' = w5.drewN n) := fun n => Calls.mono (len_in (HR5 n) b ⟨1, [77], 1⟩ (rsA_two hb)) (fun _ _ h => ⟨h.1, h.2.symm⟩); have D2 : ∀ n, Calls Try.prog 31 #[.pointer (some ⟨p, 0, none⟩), .int .i64 (b : Nat)] (w5.drewN n) (fun e w' => e = .returned (.int .i64 1) ∧ w' = w5.drewN n) := fun n => Calls.mono (lost_in (HR5 n) b ⟨1, [77], 1⟩ (rsA_two hb)) (fun _ _ h => ⟨h.1, h.2.symm⟩); have D3 : ∀ n, Calls Try.prog 31 #[.pointer (some ⟨p, 0, none⟩), .int .i64 (a : Nat)] (w5.drewN n) (fun e w' => e = .returned (.int .i64 0) ∧ w' = w5.drewN n) := fun n => Calls.mono (lost_in (HR5 n) a ⟨200, [], 0⟩ (rsA_one ha hne)) (fun _ _ h => ⟨h.1, h.2.symm⟩); have D4 : ∀ n, Calls Try.prog 33 #[.pointer (some ⟨p, 0, none⟩)] (w5.drewN n) (fun e w' => e = .returned (.int .i64 (2 ^ b : Nat)) ∧ w' = w5.drewN n) := fun n => (by have h4 := waits_any (HR5 n); rw [apart_bits ha hb] at h4; exact h4.mono (fun _ _ h => ⟨h.1, h.2.symm⟩)))
          go_quiet ((first | (go_at_call 30; with_reducible exact Calls.quiet_of_same (D1 _)) | (go_at_call 31; with_reducible exact Calls.quiet_of_same (D2 _)) | (go_at_call 31; with_reducible exact Calls.quiet_of_same (D3 _)) | (go_at_call 33; with_reducible exact Calls.quiet_of_same (D4 _))))
          go_wp2
          go_ret
          refine ⟨?_, (HK2.out.trans hk5 (fun _ h _ => h)).drewN _⟩
          exact congrArg (fun x => Ending.returned (Value.bool x)) (two_wrap hb)

end Go.Proofs.Ytpgmkekdgchkfaa
