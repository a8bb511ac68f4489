/- CommandChecks: the walk. -/
import Derived.Test.YtdncojofilnhnaaGreatDoorReads
import Derived.Laws.MakeOwn
namespace Go.Proofs.YtdncojofilnhnaaGreatDoor
open Go.RowKit Go.Lib

theorem size3' (w : World) : (sizeOf 3).run Tryz.prog w = .ok 1 w := by kernel_rfl
theorem isAgg3' (w : World) : (isAgg 3).run Tryz.prog w = .ok false w := by kernel_rfl

abbrev leastV : Value := .agg #[.int .i64 3, .int .i64 5, .int .i64 2, .int .i64 4, .int .i64 3, .int .i64 3, .int .i64 2, .int .i64 4, .int .i64 5, .int .i64 4]
abbrev moreV : Value := .agg #[.int .i64 0, .int .i64 0, .int .i64 0, .int .i64 2, .int .i64 0, .int .i64 0, .int .i64 0, .int .i64 3, .int .i64 0, .int .i64 0]

theorem least_index (k : Int) (h0 : 0 ≤ k) (h1 : k < 10) (w : World) : (Instr.index 40 leastV (.int .i64 k)).run Tryz.prog w = .ok (.int .i64 (leastOf k)) w := by
  obtain ⟨n, rfl⟩ : ∃ n : Nat, k = (n : Int) := ⟨k.toNat, by omega⟩
  have hn : n < 10 := by omega
  refine run_index_arr (P := Tryz.prog) w Tryz.underlying40 (size3' w) (isAgg3' w) hn ?_ (by omega)
  match n, hn with
  | 0, _ | 1, _ | 2, _ | 3, _ | 4, _ | 5, _ | 6, _ | 7, _ | 8, _ | 9, _ => rfl

theorem more_index (k : Int) (h0 : 0 ≤ k) (h1 : k < 10) (w : World) : (Instr.index 40 moreV (.int .i64 k)).run Tryz.prog w = .ok (.int .i64 (moreOf k)) w := by
  obtain ⟨n, rfl⟩ : ∃ n : Nat, k = (n : Int) := ⟨k.toNat, by omega⟩
  have hn : n < 10 := by omega
  refine run_index_arr (P := Tryz.prog) w Tryz.underlying40 (size3' w) (isAgg3' w) hn ?_ (by omega)
  match n, hn with
  | 0, _ | 1, _ | 2, _ | 3, _ | 4, _ | 5, _ | 6, _ | 7, _ | 8, _ | 9, _ => rfl

abbrev macOf (ad : Bool) : List Int := [if ad then 1 else 0, 0, 0, 0, 0, 0]

theorem make_some (m : Nat) (hm : m ≤ 300) : ∃ o, ∀ w, (Instr.makeSlice 24 (.int .i64 (m : Int)) (.int .i64 (m : Int))).run Tryz.prog w = .ok (.slice (some ⟨w.heap.size, 0, none⟩) m m) (w.alloc (.cells o 2)) := by
  obtain ⟨i, hi, h0⟩ := Option.map_eq_some_iff.1 info2
  injection h0 with hz h2
  injection h2 with h1 h2
  refine ⟨madeCells (Value.cells (.int .i64 0)) (m * i.size), fun w => ?_⟩
  have hrun := run_make (P := Tryz.prog) w 24 2 i (.int .i64 0) Tryz.underlying24 hi hz .i64 .i64 m m (by omega) (Int.le_refl _) (by rw [h2]; omega) (by omega)
  simp only [Int.toNat_natCast] at hrun
  exact hrun

/-- What is wrong with a command of so many noughts. -/
def chkQ (kind : Int) (ad : Bool) (L M : Int) (m : Nat) : Option (Int × Int) :=
  if (m : Int) < L then some (m + 1, 2)
  else if 200 < (m : Int) then some (201, 3)
  else if (M = 0 ∧ L < m) ∨ (0 < M ∧ ((m : Int) - L) % M ≠ 0) then some (m, 3)
  else if addrOf kind = false ∧ ad = true then some (0, 4)
  else none

def chkP (kind : Int) (ad : Bool) (m : Nat) : Option (Int × Int) :=
  if kind < 0 ∨ 10 ≤ kind then some (0, 11) else chkQ kind ad (leastOf kind) (moreOf kind) m

theorem chk_eq (kind : Int) (ad : Bool) (m : Nat) : checkP ⟨kind, macOf ad, List.replicate m 0⟩ = chkP kind ad m := by
  have hm : (macOf ad ≠ mac0) = (ad = true) := by cases ad <;> simp [macOf, mac0]
  unfold checkP chkP chkQ
  simp only [List.length_replicate, hm]


set_option maxRecDepth 100000 in
set_option maxHeartbeats 16000000 in
theorem checks_walk (kind n : Int) (hk : -9223372036854775808 ≤ kind ∧ kind ≤ 9223372036854775807) (hn : -9223372036854775808 ≤ n ∧ n ≤ 9223372036854775807) (ad : Bool) {w : World} (hg : Gl w) :
    Calls Tryz.prog 4 #[.int .i64 kind, .int .i64 n, .bool ad] w (TrueKept w) := by
  have HR := Lib.hid (reads_ok hg)
  have HG := Lib.hid hg
  clear hg
  by_cases hbig : n < 0 ∨ 300 < n
  · rcases hbig with hbig | hbig
    · go_enter Tryz.func4, Tryz.ntmps4
      go_wp2_with (go_at_call 12; refine HR.out.mono ?_; rintro e w1 ⟨rfl, k1⟩; have K1 := Lib.hid k1; clear k1)
      go_ret
      exact ⟨rfl, K1.out⟩
    · have hb0 : ¬ n < 0 := by omega
      go_enter Tryz.func4, Tryz.ntmps4
      go_wp2_with (go_at_call 12; refine HR.out.mono ?_; rintro e w1 ⟨rfl, k1⟩; have K1 := Lib.hid k1; clear k1)
      go_ret
      exact ⟨rfl, K1.out⟩
  · obtain ⟨m, rfl⟩ : ∃ m : Nat, n = (m : Int) := ⟨n.toNat, by omega⟩
    have hm : m ≤ 300 := by omega
    have hd0 : decide ((m : Int) < 0) = false := by simp
    have hd1 : decide (300 < (m : Int)) = false := by simp; omega
    have hlm : (List.replicate m (0 : Int)).length = m := List.length_replicate
    obtain ⟨o, hmk⟩ := make_some m hm
    have hC := fun (A : Option Addr) (c : Nat) (w' : World) (hg : Gl w') => check_ok ⟨kind, macOf ad, List.replicate m 0⟩ ⟨rfl, by intro x hx; cases ad <;> simp [macOf] at hx <;> omega⟩ hk (by simp only [hlm]; omega) A c hg.big
    simp only [hlm] at hC
    have hP : checkP ⟨kind, macOf ad, List.replicate m 0⟩ = chkP kind ad m := chk_eq kind ad m
    obtain ⟨q, hq⟩ : ∃ q : Int, q = if ad then 1 else 0 := ⟨_, rfl⟩
    have HC : Hid (∀ (A : Option Addr) (c : Nat) (w' : World) (hg : Gl w'), Calls Tryz.prog 14 #[.agg #[.int .i64 kind, .int .u8 q, .int .u8 0, .int .u8 0, .int .u8 0, .int .u8 0, .int .u8 0, .slice A m c]] w' (fun ev w'' => ∃ v, ev = .returned v ∧ WrErr w'' v (chkP kind ad m) ∧ Keeps Nothing w' w'')) := by rw [hq, ← hP]; exact hC
    clear hC hP hlm
    have HN := Lib.hid hn
    have HK := Lib.hid hk
    clear hn hk hbig
    go_enter Tryz.func4, Tryz.ntmps4
    go_upto_region 6 with (go_at_call 12; refine HR.out.mono ?_; rintro e w1 ⟨rfl, k1⟩; have HG1 := Lib.hid (HG.out.same k1); have K1 := Lib.hid k1; clear k1)
    clear hd0 hd1 hmk
    have ka := (Keeps.refl Nothing w1).alloc (.cells o 2)
    have kb := ka.alloc (.cells #[.int .i64 kind, .int .u8 0, .int .u8 0, .int .u8 0, .int .u8 0, .int .u8 0, .int .u8 0, .slice (some ⟨w1.heap.size, 0, none⟩) m m] 26)
    have HB := Lib.hid (Blk.new (w1.alloc (.cells o 2)) [.int .i64 kind, .int .u8 0, .int .u8 0, .int .u8 0, .int .u8 0, .int .u8 0, .int .u8 0, .slice (some ⟨w1.heap.size, 0, none⟩) m m] 26)
    have hcb : (w1.alloc (.cells o 2)).heap.size = w1.heap.size + 1 := by simp
    rw [hcb] at HB
    have KB := Lib.hid kb
    clear ka kb hcb
    have HB : Hid (Blk ((w1.alloc (.cells o 2)).alloc (.cells #[.int .i64 kind, .int .u8 0, .int .u8 0, .int .u8 0, .int .u8 0, .int .u8 0, .int .u8 0, .slice (some ⟨w1.heap.size, 0, none⟩) m m] 26)) (w1.heap.size + 1) [.int .i64 kind, .int .u8 0, .int .u8 0, .int .u8 0, .int .u8 0, .int .u8 0, .int .u8 0, .slice (some ⟨w1.heap.size, 0, none⟩) m m] 26) := HB
    generalize hw2 : (w1.alloc (.cells o 2)).alloc (.cells #[.int .i64 kind, .int .u8 0, .int .u8 0, .int .u8 0, .int .u8 0, .int .u8 0, .int .u8 0, .slice (some ⟨w1.heap.size, 0, none⟩) m m] 26) = w2 at *
    clear hw2
    generalize hA : some (Addr.mk w1.heap.size 0 none) = AA at *
    generalize hcb : w1.heap.size + 1 = cb at *
    have HCB : Hid (w1.heap.size < cb) := by show _ < _; omega
    clear hA hcb
    cases ad with
    | true =>
      obtain rfl : q = 1 := hq
      obtain ⟨c0, c1, c2, c3, c4, c5, c6, c7⟩ := Blk.eight HB.out
      obtain ⟨f0, f1, f2, f3, f4, f5, f6, f7⟩ := Blk.fr8 HB.out
      go_upto_region 8 with fail
      clear c0 c1 c2 c3 c4 c5 c6 c7 f0 f1 f2 f3 f4 f5 f6 f7
      have HB2 := Lib.hid (Blk.putMac HB.out (.int .u8 1) (.int .u8 0) (.int .u8 0) (.int .u8 0) (.int .u8 0) (.int .u8 0))
      have kp := keeps_putMac (F := fun k => k = cb) (Keeps.refl _ w2) (b := cb) rfl (.int .u8 1) (.int .u8 0) (.int .u8 0) (.int .u8 0) (.int .u8 0) (.int .u8 0)
      have k2 : Keeps Nothing w1 _ := KB.out.up kp (fun x hx => by have := HCB.out; omega)
      obtain ⟨c0, c1, c2, c3, c4, c5, c6, c7⟩ := Blk.eight HB2.out
      have HG2 := Lib.hid (HG1.out.same k2)
      have K2 := Lib.hid (K1.out.same k2)
      clear k2 kp
      generalize ((((((w2.setCell ⟨cb, 1, none⟩ (.int .u8 1)).setCell ⟨cb, 2, none⟩ (.int .u8 0)).setCell ⟨cb, 3, none⟩ (.int .u8 0)).setCell ⟨cb, 4, none⟩ (.int .u8 0)).setCell ⟨cb, 5, none⟩ (.int .u8 0)).setCell ⟨cb, 6, none⟩ (.int .u8 0)) = wx at *
      by_cases hin : kind < 0 ∨ 9 < kind
      · have hcp : chkP kind true m = some (0, 11) := if_pos (by omega)
        rw [hcp] at HC
        clear hcp
        rcases hin with hin | hin
        · skip
          go_wp2_with (first | (go_at_call 14; refine (HC.out _ _ _ HG2.out).mono ?_; rintro e w3 ⟨v, rfl, ⟨b3, hb3, rfl, hx3⟩, k3⟩; have H3 : Hid (WrB w3 b3 0 11) := hx3; have K3 := Lib.hid (K2.out.same k3); have HG3 := Lib.hid (HG2.out.same k3); clear k3 hx3) | (go_at_call 18; refine (is_wr H3.out _).mono ?_; rintro e w4 ⟨rfl, rfl⟩) | (go_at_call 16; refine (where_wr HG3.out H3.out).mono ?_; rintro e w5 ⟨rfl, k5⟩; have K5 := Lib.hid (K3.out.same k5); clear k5))
          go_ret
          exact ⟨rfl, K5.out⟩
        · have hin2 : ¬ kind < 0 := by omega
          go_wp2_with (first | (go_at_call 14; refine (HC.out _ _ _ HG2.out).mono ?_; rintro e w3 ⟨v, rfl, ⟨b3, hb3, rfl, hx3⟩, k3⟩; have H3 : Hid (WrB w3 b3 0 11) := hx3; have K3 := Lib.hid (K2.out.same k3); have HG3 := Lib.hid (HG2.out.same k3); clear k3 hx3) | (go_at_call 18; refine (is_wr H3.out _).mono ?_; rintro e w4 ⟨rfl, rfl⟩) | (go_at_call 16; refine (where_wr HG3.out H3.out).mono ?_; rintro e w5 ⟨rfl, k5⟩; have K5 := Lib.hid (K3.out.same k5); clear k5))
          go_ret
          exact ⟨rfl, K5.out⟩
      · have hk0 : decide (kind < 0) = false := by simp; omega
        have hk9 : decide (9 < kind) = false := by simp; omega
        have hI1 : ∀ w, (Instr.index 40 (.agg #[.int .i64 3, .int .i64 5, .int .i64 2, .int .i64 4, .int .i64 3, .int .i64 3, .int .i64 2, .int .i64 4, .int .i64 5, .int .i64 4]) (.int .i64 kind)).run Tryz.prog w = .ok (.int .i64 (leastOf kind)) w := least_index kind (by omega) (by omega)
        have hI2 : ∀ w, (Instr.index 40 (.agg #[.int .i64 0, .int .i64 0, .int .i64 0, .int .i64 2, .int .i64 0, .int .i64 0, .int .i64 0, .int .i64 3, .int .i64 0, .int .i64 0]) (.int .i64 kind)).run Tryz.prog w = .ok (.int .i64 (moreOf kind)) w := more_index kind (by omega) (by omega)
        have hlr := least_range kind
        have hmr := more_range kind
        have hch : chkP kind true m = chkQ kind true (leastOf kind) (moreOf kind) m := if_neg (by omega)
        rw [hch] at HC
        clear hch hin
        generalize leastOf kind = L at *
        generalize moreOf kind = M at *
        obtain ⟨hl2, hl5⟩ := hlr
        unfold chkQ at HC
        by_cases z1 : (m : Int) < L
        · rw [if_pos z1] at HC
          go_wp2_with (first | (go_at_call 14; refine (HC.out _ _ _ HG2.out).mono ?_; rintro e w3 ⟨v, rfl, ⟨b3, hb3, rfl, hx3⟩, k3⟩; have H3 : Hid (WrB w3 b3 ((m : Int) + 1) 2) := hx3; have K3 := Lib.hid (K2.out.same k3); have HG3 := Lib.hid (HG2.out.same k3); clear k3 hx3) | (go_at_call 18; refine (is_wr H3.out _).mono ?_; rintro e w4 ⟨rfl, rfl⟩) | (go_at_call 16; refine (where_wr HG3.out H3.out).mono ?_; rintro e w5 ⟨rfl, k5⟩; have K5 := Lib.hid (K3.out.same k5); clear k5))
          go_ret
          exact ⟨rfl, K5.out⟩
        · rw [if_neg z1] at HC
          by_cases z2 : 200 < (m : Int)
          · rw [if_pos z2] at HC
            go_wp2_with (first | (go_at_call 14; refine (HC.out _ _ _ HG2.out).mono ?_; rintro e w3 ⟨v, rfl, ⟨b3, hb3, rfl, hx3⟩, k3⟩; have H3 : Hid (WrB w3 b3 201 3) := hx3; have K3 := Lib.hid (K2.out.same k3); have HG3 := Lib.hid (HG2.out.same k3); clear k3 hx3) | (go_at_call 18; refine (is_wr H3.out _).mono ?_; rintro e w4 ⟨rfl, rfl⟩) | (go_at_call 16; refine (where_wr HG3.out H3.out).mono ?_; rintro e w5 ⟨rfl, k5⟩; have K5 := Lib.hid (K3.out.same k5); clear k5))
            go_ret
            exact ⟨rfl, K5.out⟩
          · rw [if_neg z2] at HC
            by_cases z3 : M = 0 ∧ L < (m : Int)
            · rw [if_pos (.inl z3)] at HC
              obtain ⟨rfl, z3⟩ := z3
              have z4 : ¬ (m : Int) = L := by omega
              go_wp2_with (first | (go_at_call 14; refine (HC.out _ _ _ HG2.out).mono ?_; rintro e w3 ⟨v, rfl, ⟨b3, hb3, rfl, hx3⟩, k3⟩; have H3 : Hid (WrB w3 b3 (m : Int) 3) := hx3; have K3 := Lib.hid (K2.out.same k3); have HG3 := Lib.hid (HG2.out.same k3); clear k3 hx3) | (go_at_call 18; refine (is_wr H3.out _).mono ?_; rintro e w4 ⟨rfl, rfl⟩) | (go_at_call 16; refine (where_wr HG3.out H3.out).mono ?_; rintro e w5 ⟨rfl, k5⟩; have K5 := Lib.hid (K3.out.same k5); clear k5))
              go_ret
              exact ⟨rfl, K5.out⟩
            · by_cases z4 : 0 < M ∧ ((m : Int) - L) % M ≠ 0
              · rw [if_pos (.inr z4)] at HC
                obtain ⟨z4, z5⟩ := z4
                have hM0 : ¬ M = 0 := by omega
                have hb1 : (M != 0) = true := by simp [hM0]
                have hb2 : (((m : Int) - L) % M != 0) = true := by simp [z5]
                clear z3
                go_wp2_with (first | (go_at_call 14; refine (HC.out _ _ _ HG2.out).mono ?_; rintro e w3 ⟨v, rfl, ⟨b3, hb3, rfl, hx3⟩, k3⟩; have H3 : Hid (WrB w3 b3 (m : Int) 3) := hx3; have K3 := Lib.hid (K2.out.same k3); have HG3 := Lib.hid (HG2.out.same k3); clear k3 hx3) | (go_at_call 18; refine (is_wr H3.out _).mono ?_; rintro e w4 ⟨rfl, rfl⟩) | (go_at_call 16; refine (where_wr HG3.out H3.out).mono ?_; rintro e w5 ⟨rfl, k5⟩; have K5 := Lib.hid (K3.out.same k5); clear k5))
                go_ret
                exact ⟨rfl, K5.out⟩
              · rw [if_neg (fun h => h.elim z3 z4)] at HC
                have hrem : (M = 0 ∧ (m : Int) = L) ∨ (((m : Int) - L) % M = 0 ∧ ¬ M = 0 ∧ (M != 0) = true ∧ (((m : Int) - L) % M != 0) = false) := by
                  rcases hmr with h | h
                  · exact .inl ⟨h, by omega⟩
                  · have hM : 0 < M := by omega
                    have hz : ((m : Int) - L) % M = 0 := by omega
                    exact .inr ⟨hz, by omega, by simp; omega, by rw [hz]; rfl⟩
                clear z3 z4
                by_cases z6 : kind = 5 ∨ kind = 6
                · rw [if_neg (by simp [addrOf]; omega)] at HC
                  skip
                  rcases z6 with rfl | rfl
                  all_goals
                    rcases hrem with ⟨rfl, h1⟩ | ⟨h0, h1, h2, h3⟩
                    all_goals
                      go_wp2_with ((go_at_call 14; refine (HC.out _ _ _ HG2.out).mono ?_; rintro e w3 ⟨v, rfl, hv, k3⟩; obtain rfl : v = .nilIface := hv; have K3 := Lib.hid (K2.out.same k3); clear k3))
                      go_ret
                      exact ⟨rfl, K3.out⟩
                · rw [if_pos (by simp [addrOf]; omega)] at HC
                  have z7 : ¬ kind = 5 := by omega
                  have z8 : ¬ kind = 6 := by omega
                  have z9 : (kind != 5) = true := by simp [z7]
                  have z0 : (kind != 6) = true := by simp [z8]
                  clear z6
                  rcases hrem with ⟨rfl, h1⟩ | ⟨h0, h1, h2, h3⟩
                  all_goals
                    go_wp2_with (first | (go_at_call 14; refine (HC.out _ _ _ HG2.out).mono ?_; rintro e w3 ⟨v, rfl, ⟨b3, hb3, rfl, hx3⟩, k3⟩; have H3 : Hid (WrB w3 b3 0 4) := hx3; have K3 := Lib.hid (K2.out.same k3); have HG3 := Lib.hid (HG2.out.same k3); clear k3 hx3) | (go_at_call 18; refine (is_wr H3.out _).mono ?_; rintro e w4 ⟨rfl, rfl⟩) | (go_at_call 16; refine (where_wr HG3.out H3.out).mono ?_; rintro e w5 ⟨rfl, k5⟩; have K5 := Lib.hid (K3.out.same k5); clear k5))
                    go_ret
                    exact ⟨rfl, K5.out⟩
    | false =>
      obtain rfl : q = 0 := hq
      go_upto_region 8 with fail
      have HB2 := HB
      have k2 := KB.out
      obtain ⟨c0, c1, c2, c3, c4, c5, c6, c7⟩ := Blk.eight HB2.out
      have HG2 := Lib.hid (HG1.out.same k2)
      have K2 := Lib.hid (K1.out.same k2)
      clear k2
      by_cases hin : kind < 0 ∨ 9 < kind
      · have hcp : chkP kind false m = some (0, 11) := if_pos (by omega)
        rw [hcp] at HC
        clear hcp
        rcases hin with hin | hin
        · skip
          go_wp2_with (first | (go_at_call 14; refine (HC.out _ _ _ HG2.out).mono ?_; rintro e w3 ⟨v, rfl, ⟨b3, hb3, rfl, hx3⟩, k3⟩; have H3 : Hid (WrB w3 b3 0 11) := hx3; have K3 := Lib.hid (K2.out.same k3); have HG3 := Lib.hid (HG2.out.same k3); clear k3 hx3) | (go_at_call 18; refine (is_wr H3.out _).mono ?_; rintro e w4 ⟨rfl, rfl⟩) | (go_at_call 16; refine (where_wr HG3.out H3.out).mono ?_; rintro e w5 ⟨rfl, k5⟩; have K5 := Lib.hid (K3.out.same k5); clear k5))
          go_ret
          exact ⟨rfl, K5.out⟩
        · have hin2 : ¬ kind < 0 := by omega
          go_wp2_with (first | (go_at_call 14; refine (HC.out _ _ _ HG2.out).mono ?_; rintro e w3 ⟨v, rfl, ⟨b3, hb3, rfl, hx3⟩, k3⟩; have H3 : Hid (WrB w3 b3 0 11) := hx3; have K3 := Lib.hid (K2.out.same k3); have HG3 := Lib.hid (HG2.out.same k3); clear k3 hx3) | (go_at_call 18; refine (is_wr H3.out _).mono ?_; rintro e w4 ⟨rfl, rfl⟩) | (go_at_call 16; refine (where_wr HG3.out H3.out).mono ?_; rintro e w5 ⟨rfl, k5⟩; have K5 := Lib.hid (K3.out.same k5); clear k5))
          go_ret
          exact ⟨rfl, K5.out⟩
      · have hk0 : decide (kind < 0) = false := by simp; omega
        have hk9 : decide (9 < kind) = false := by simp; omega
        have hI1 : ∀ w, (Instr.index 40 (.agg #[.int .i64 3, .int .i64 5, .int .i64 2, .int .i64 4, .int .i64 3, .int .i64 3, .int .i64 2, .int .i64 4, .int .i64 5, .int .i64 4]) (.int .i64 kind)).run Tryz.prog w = .ok (.int .i64 (leastOf kind)) w := least_index kind (by omega) (by omega)
        have hI2 : ∀ w, (Instr.index 40 (.agg #[.int .i64 0, .int .i64 0, .int .i64 0, .int .i64 2, .int .i64 0, .int .i64 0, .int .i64 0, .int .i64 3, .int .i64 0, .int .i64 0]) (.int .i64 kind)).run Tryz.prog w = .ok (.int .i64 (moreOf kind)) w := more_index kind (by omega) (by omega)
        have hlr := least_range kind
        have hmr := more_range kind
        have hch : chkP kind false m = chkQ kind false (leastOf kind) (moreOf kind) m := if_neg (by omega)
        rw [hch] at HC
        clear hch hin
        generalize leastOf kind = L at *
        generalize moreOf kind = M at *
        obtain ⟨hl2, hl5⟩ := hlr
        unfold chkQ at HC
        by_cases z1 : (m : Int) < L
        · rw [if_pos z1] at HC
          go_wp2_with (first | (go_at_call 14; refine (HC.out _ _ _ HG2.out).mono ?_; rintro e w3 ⟨v, rfl, ⟨b3, hb3, rfl, hx3⟩, k3⟩; have H3 : Hid (WrB w3 b3 ((m : Int) + 1) 2) := hx3; have K3 := Lib.hid (K2.out.same k3); have HG3 := Lib.hid (HG2.out.same k3); clear k3 hx3) | (go_at_call 18; refine (is_wr H3.out _).mono ?_; rintro e w4 ⟨rfl, rfl⟩) | (go_at_call 16; refine (where_wr HG3.out H3.out).mono ?_; rintro e w5 ⟨rfl, k5⟩; have K5 := Lib.hid (K3.out.same k5); clear k5))
          go_ret
          exact ⟨rfl, K5.out⟩
        · rw [if_neg z1] at HC
          by_cases z2 : 200 < (m : Int)
          · rw [if_pos z2] at HC
            go_wp2_with (first | (go_at_call 14; refine (HC.out _ _ _ HG2.out).mono ?_; rintro e w3 ⟨v, rfl, ⟨b3, hb3, rfl, hx3⟩, k3⟩; have H3 : Hid (WrB w3 b3 201 3) := hx3; have K3 := Lib.hid (K2.out.same k3); have HG3 := Lib.hid (HG2.out.same k3); clear k3 hx3) | (go_at_call 18; refine (is_wr H3.out _).mono ?_; rintro e w4 ⟨rfl, rfl⟩) | (go_at_call 16; refine (where_wr HG3.out H3.out).mono ?_; rintro e w5 ⟨rfl, k5⟩; have K5 := Lib.hid (K3.out.same k5); clear k5))
            go_ret
            exact ⟨rfl, K5.out⟩
          · rw [if_neg z2] at HC
            by_cases z3 : M = 0 ∧ L < (m : Int)
            · rw [if_pos (.inl z3)] at HC
              obtain ⟨rfl, z3⟩ := z3
              have z4 : ¬ (m : Int) = L := by omega
              go_wp2_with (first | (go_at_call 14; refine (HC.out _ _ _ HG2.out).mono ?_; rintro e w3 ⟨v, rfl, ⟨b3, hb3, rfl, hx3⟩, k3⟩; have H3 : Hid (WrB w3 b3 (m : Int) 3) := hx3; have K3 := Lib.hid (K2.out.same k3); have HG3 := Lib.hid (HG2.out.same k3); clear k3 hx3) | (go_at_call 18; refine (is_wr H3.out _).mono ?_; rintro e w4 ⟨rfl, rfl⟩) | (go_at_call 16; refine (where_wr HG3.out H3.out).mono ?_; rintro e w5 ⟨rfl, k5⟩; have K5 := Lib.hid (K3.out.same k5); clear k5))
              go_ret
              exact ⟨rfl, K5.out⟩
            · by_cases z4 : 0 < M ∧ ((m : Int) - L) % M ≠ 0
              · rw [if_pos (.inr z4)] at HC
                obtain ⟨z4, z5⟩ := z4
                have hM0 : ¬ M = 0 := by omega
                have hb1 : (M != 0) = true := by simp [hM0]
                have hb2 : (((m : Int) - L) % M != 0) = true := by simp [z5]
                clear z3
                go_wp2_with (first | (go_at_call 14; refine (HC.out _ _ _ HG2.out).mono ?_; rintro e w3 ⟨v, rfl, ⟨b3, hb3, rfl, hx3⟩, k3⟩; have H3 : Hid (WrB w3 b3 (m : Int) 3) := hx3; have K3 := Lib.hid (K2.out.same k3); have HG3 := Lib.hid (HG2.out.same k3); clear k3 hx3) | (go_at_call 18; refine (is_wr H3.out _).mono ?_; rintro e w4 ⟨rfl, rfl⟩) | (go_at_call 16; refine (where_wr HG3.out H3.out).mono ?_; rintro e w5 ⟨rfl, k5⟩; have K5 := Lib.hid (K3.out.same k5); clear k5))
                go_ret
                exact ⟨rfl, K5.out⟩
              · rw [if_neg (fun h => h.elim z3 z4)] at HC
                have hrem : (M = 0 ∧ (m : Int) = L) ∨ (((m : Int) - L) % M = 0 ∧ ¬ M = 0 ∧ (M != 0) = true ∧ (((m : Int) - L) % M != 0) = false) := by
                  rcases hmr with h | h
                  · exact .inl ⟨h, by omega⟩
                  · have hM : 0 < M := by omega
                    have hz : ((m : Int) - L) % M = 0 := by omega
                    exact .inr ⟨hz, by omega, by simp; omega, by rw [hz]; rfl⟩
                clear z3 z4
                rw [if_neg (by simp)] at HC
                rcases hrem with ⟨rfl, h1⟩ | ⟨h0, h1, h2, h3⟩
                all_goals
                  go_wp2_with ((go_at_call 14; refine (HC.out _ _ _ HG2.out).mono ?_; rintro e w3 ⟨v, rfl, hv, k3⟩; obtain rfl : v = .nilIface := hv; have K3 := Lib.hid (K2.out.same k3); clear k3))
                  go_ret
                  exact ⟨rfl, K3.out⟩
end Go.Proofs.YtdncojofilnhnaaGreatDoor
