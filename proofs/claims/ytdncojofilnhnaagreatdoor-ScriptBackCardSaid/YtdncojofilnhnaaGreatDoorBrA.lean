/- mac.Group, vector.Id, wire.Speed: the walks. -/
import Derived.Test.YtdncojofilnhnaaGreatDoorMacW
import Derived.Test.YtdncojofilnhnaaGreatDoorScrP
namespace Go.Proofs.YtdncojofilnhnaaGreatDoor
open Go.RowKit Go.Lib

theorem and1 : ∀ k : Fin 256, bits .and .u8 (k.val : Int) 1 = ((k.val % 2 : Nat) : Int) := by decide +kernel

theorem and1' {x : Int} (h0 : 0 ≤ x) (h1 : x ≤ 255) : bits .and .u8 x 1 = x % 2 := by
  have := and1 ⟨x.toNat, by omega⟩
  simp only at this
  rw [show ((x.toNat : Nat) : Int) = x by omega] at this
  rw [this]
  omega

set_option maxRecDepth 100000 in
set_option maxHeartbeats 4000000 in
theorem group_ok (m : List Int) (hm : MacIs m) (w : World) :
    Calls Tryz.prog 60 #[macV m] w fun ev w' => ev = .returned (.bool (decide (m.headD 0 % 2 ≠ 0))) ∧ Keeps Nothing w w' := by
  obtain ⟨hl, hb⟩ := hm
  match m, hl with
  | [q0, q1, q2, q3, q4, q5], _ =>
    obtain ⟨h0, h1⟩ := hb q0 (by simp)
    clear hb
    by_cases hq : q0 % 2 = 0
    · have hd : decide (List.headD [q0, q1, q2, q3, q4, q5] 0 % 2 ≠ 0) = false := by simp [hq]
      have hq1 : (q0 % 2 == 1) = false := by simp; omega
      have hq2 : ¬ q0 % 2 = 1 := by omega
      rw [hd]
      clear hd hq
      go_enter Tryz.func60, Tryz.ntmps60
      go_wp2
      go_ret
      exact ⟨by simp [and1' h0 h1, hq2], (Keeps.refl _ _).alloc _⟩
    · have hd : decide (List.headD [q0, q1, q2, q3, q4, q5] 0 % 2 ≠ 0) = true := by simp; omega
      have hq1 : (q0 % 2 == 1) = true := by simp; omega
      have hq2 : q0 % 2 = 1 := by omega
      rw [hd]
      clear hd hq
      go_enter Tryz.func60, Tryz.ntmps60
      go_wp2
      go_ret
      exact ⟨by simp [and1' h0 h1, hq2], (Keeps.refl _ _).alloc _⟩

theorem speedOk_or (n : Int) : speedOk n = (decide (n = 10) || decide (n = 100) || decide (n = 1000) || decide (n = 10000)) := rfl

set_option maxRecDepth 100000 in
set_option maxHeartbeats 4000000 in
theorem speed_ok (n : Int) (w : World) :
    Calls Tryz.prog 64 #[.int .i64 n] w fun ev w' => ev = .returned (.bool (speedOk n)) ∧ w' = w := by
  rw [speedOk_or]
  by_cases h1 : n = 10
  · subst h1
    go_enter Tryz.func64, Tryz.ntmps64
    go_wp2
    go_ret
    exact ⟨rfl, rfl⟩
  · by_cases h2 : n = 100
    · subst h2
      go_enter Tryz.func64, Tryz.ntmps64
      go_wp2
      go_ret
      exact ⟨rfl, rfl⟩
    · by_cases h3 : n = 1000
      · subst h3
        go_enter Tryz.func64, Tryz.ntmps64
        go_wp2
        go_ret
        exact ⟨rfl, rfl⟩
      · by_cases h4 : n = 10000
        · subst h4
          go_enter Tryz.func64, Tryz.ntmps64
          go_wp2
          go_ret
          exact ⟨rfl, rfl⟩
        · have e1 : decide (n = 10) = false := decide_eq_false h1
          have e2 : decide (n = 100) = false := decide_eq_false h2
          have e3 : decide (n = 1000) = false := decide_eq_false h3
          have e4 : decide (n = 10000) = false := decide_eq_false h4
          rw [e1, e2, e3, e4]
          go_enter Tryz.func64, Tryz.ntmps64
          go_wp2
          go_ret
          exact ⟨by simp [h1, h2, h3, h4], rfl⟩

set_option maxRecDepth 100000 in
set_option maxHeartbeats 8000000 in
theorem id_ok (p : Int) (m : List Int) (hm : MacIs m) (w : World) :
    Calls Tryz.prog 61 #[.int .i64 p, macV m] w fun ev w' => (∃ v, ev = .returned (.tuple #[v, .int .i64 (if 0 ≤ p ∧ p ≤ 61440 ∧ p % 4096 = 0 then 0 else 1)])) ∧ Keeps Nothing w w' := by
  obtain ⟨hl, hb⟩ := hm
  match m, hl with
  | [q0, q1, q2, q3, q4, q5], _ =>
    have HB := Lib.hid hb
    clear hb
    have K1 := Lib.hid ((Keeps.refl Nothing w).alloc (.cells #[.int .u8 q0, .int .u8 q1, .int .u8 q2, .int .u8 q3, .int .u8 q4, .int .u8 q5] 23))
    by_cases h0 : p < 0
    · rw [if_neg (by omega)]
      go_enter Tryz.func61, Tryz.ntmps61
      go_wp2
      go_ret2
      exact ⟨⟨_, rfl⟩, K1.out⟩
    · by_cases h1 : 61440 < p
      · rw [if_neg (by omega)]
        go_enter Tryz.func61, Tryz.ntmps61
        go_wp2
        go_ret2
        exact ⟨⟨_, rfl⟩, K1.out⟩
      · by_cases h2 : p % 4096 = 0
        · rw [if_pos ⟨by omega, by omega, h2⟩]
          have h2' : (p % 4096 != 0) = false := by simp [h2]
          go_enter Tryz.func61, Tryz.ntmps61
          go_wp2
          generalize (w.alloc (.cells #[.int .u8 q0, .int .u8 q1, .int .u8 q2, .int .u8 q3, .int .u8 q4, .int .u8 q5] 23)) = w1 at *
          go_loopw [23, 6] (fun vi va wr => ∃ (k : Nat) (a : Int), vi = .int .i64 k ∧ k ≤ 6 ∧ va = .int .u64 a ∧ wr = w1) (fun vi _ _ => 6 - (RowKit.intOf vi).toNat)
          case atStart => exact ⟨0, _, rfl, by omega, rfl, rfl⟩
          case round =>
            obtain ⟨k, a, rfl, hk, rfl, rfl⟩ := hrel
            by_cases hlt : k < 6
            · obtain ⟨x, hx⟩ : ∃ x, [q0, q1, q2, q3, q4, q5][k]? = some x := ⟨_, List.getElem?_eq_getElem hlt⟩
              have hxb := HB.out x (List.mem_of_getElem? hx)
              have hv : (#[Value.int .u8 q0, .int .u8 q1, .int .u8 q2, .int .u8 q3, .int .u8 q4, .int .u8 q5] : Array Value)[k]? = some (.int .u8 x) := by
                have : (#[Value.int .u8 q0, .int .u8 q1, .int .u8 q2, .int .u8 q3, .int .u8 q4, .int .u8 q5] : Array Value) = ([q0, q1, q2, q3, q4, q5].map (Value.int .u8)).toArray := rfl
                rw [this, List.getElem?_toArray, List.getElem?_map, hx]; rfl
              have hix := fun w => run_index_arr (P := Tryz.prog) w Tryz.underlying23 (size5 w) (isAgg5 w) hlt hv (by omega)
              clear hx hv
              obtain ⟨hx0, hx1⟩ := hxb
              go_wp2
              exact ⟨⟨k + 1, _, by go_num, by omega, rfl, trivial⟩, by simp [RowKit.intOf]; omega⟩
            · have hk6 : k = 6 := by omega
              subst hk6
              go_wp2
              go_ret2
              exact ⟨⟨_, rfl⟩, K1.out⟩
        · rw [if_neg (by omega)]
          have h2' : (p % 4096 != 0) = true := by simp [h2]
          go_enter Tryz.func61, Tryz.ntmps61
          go_wp2
          go_ret2
          exact ⟨⟨_, rfl⟩, K1.out⟩
end Go.Proofs.YtdncojofilnhnaaGreatDoor
