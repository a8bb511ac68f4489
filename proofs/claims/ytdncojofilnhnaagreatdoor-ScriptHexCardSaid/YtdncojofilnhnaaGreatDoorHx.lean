/- Bytes in digits and back: the plain part; ToLower of digits; ScriptHex' walk. -/
import Derived.Test.YtdncojofilnhnaaGreatDoorRd5
namespace Go.Proofs.YtdncojofilnhnaaGreatDoor
open Go.RowKit Go.Lib

/-- "bridge 0 02:00:00:00:00:01 1 1 0 1000" -/
abbrev H0 : Str := [98, 114, 105, 100, 103, 101, 32, 48, 32, 48, 50, 58, 48, 48, 58, 48, 48, 58, 48, 48, 58, 48, 48, 58, 48, 49, 32, 49, 32, 49, 32, 48, 32, 49, 48, 48, 48]
abbrev HF : Str := H0 ++ [10, 102, 114, 97, 109, 101, 32, 48, 32]
abbrev C0 : Cf := ⟨0, [2, 0, 0, 0, 0, 1], [⟨1000, false⟩], 1, [1, 1, 1, 1, 1, 1, 1, 1], 0⟩

theorem config_H0 : configP H0 = .ok C0 := by kernel_rfl

theorem hex_script (b : Str) : ∃ a, scriptP (HF ++ hexS b) = .ok (C0, [a]) ∧ a.bytes = b := by
  obtain ⟨⟨a, h1, -, -, h4⟩, -, h6⟩ := line_act (a := ⟨0, 0, b, 0, cm0⟩) (l := [102, 114, 97, 109, 101, 32, 48, 32] ++ hexS b) ⟨show -9223372036854775808 ≤ (0 : Int) ∧ (0 : Int) ≤ 9223372036854775807 by decide, show -9223372036854775808 ≤ (0 : Int) ∧ (0 : Int) ≤ 9223372036854775807 by decide, ⟨rfl, show ∀ x ∈ mac0, 0 ≤ x ∧ x ≤ 255 by decide⟩, show ∀ x ∈ ([] : List Int), -9223372036854775808 ≤ x ∧ x ≤ 9223372036854775807 by decide⟩ (by
    unfold lineP
    rw [if_neg (show ¬ (0 : Int) = 4 by decide), if_neg (show ¬ ((0 : Int) = 3 ∧ 0 ≤ (0 : Int)) by decide), if_neg (show ¬ ((0 : Int) < 0 ∨ 8 ≤ (0 : Int)) by decide), if_pos rfl, itoa_F]
    rfl)
  refine ⟨a, ?_, h4 rfl⟩
  have hs : splitOn 10 (HF ++ hexS b) = [H0, [102, 114, 97, 109, 101, 32, 48, 32] ++ hexS b] := by
    have := splitOn_joinOn 10 [H0, [102, 114, 97, 109, 101, 32, 48, 32] ++ hexS b] (by simp) (by
      intro w hw
      simp only [List.mem_cons, List.not_mem_nil, or_false] at hw
      rcases hw with rfl | rfl
      · decide
      · exact h6)
    rw [← this]
    congr 1
  have hne : [102, 114, 97, 109, 101, 32, 48, 32] ++ hexS b ≠ [] := by simp
  have hg : scriptP (HF ++ hexS b) = match actsP 1 [[102, 114, 97, 109, 101, 32, 48, 32] ++ hexS b] with | .error e => .error e | .ok r => .ok (C0, r) := script_go hs (by rw [hs]; simp) config_H0
  rw [hg]
  unfold actsP
  rw [if_neg hne, h1]
  simp only [actsP]

theorem lower_hexS (b : Str) : toLowerA (hexS b) = hexS b := by
  unfold toLowerA
  conv => rhs; rw [← List.map_id (hexS b)]
  apply List.map_congr_left
  intro c hc
  have := hexS_byte b c hc
  refine lowerB_of_not c ?_
  unfold isUpperB
  rcases this with h | h
  · simp [UInt8.le_iff_toNat_le]; omega
  · simp [UInt8.le_iff_toNat_le]; omega

theorem run_index_str (s : Str) (k : Nat) (c : UInt8) (h : s[k]? = some c) (w : World) : (Instr.index 9 (strV s) (.int .i64 (k : Int))).run Tryz.prog w = .ok (.int .u8 c.toNat) w := by
  have hk : k < s.length := (List.getElem?_eq_some_iff.1 h).1
  have hb : (⟨s.toArray⟩ : ByteArray)[k]? = some c := by
    rw [getElem?_pos (⟨s.toArray⟩ : ByteArray) k (by simpa [ByteArray.size] using hk)]
    have := (List.getElem?_eq_some_iff.1 h).2
    rw [← this]
    rfl
  simp [Instr.index, asIntOf, Sem.run_bind, run_underlying Tryz.underlying9, hb]

set_option maxRecDepth 100000 in
set_option maxHeartbeats 4000000 in
theorem lower_same (s : Str) (hs : s.length ≤ 140737488355328) (hd : ∀ c ∈ s, (48 ≤ c.toNat ∧ c.toNat ≤ 57) ∨ (97 ≤ c.toNat ∧ c.toNat ≤ 102)) (w : World) :
    Calls Tryz.prog 36 #[strV s] w fun ev w' => ev = .returned (strV s) ∧ w' = w := by
  have HD := Lib.hid hd
  have HIX := Lib.hid (run_index_str s)
  obtain ⟨n, hn⟩ : ∃ n, n = s.length := ⟨_, rfl⟩
  have HN := Lib.hid hn
  have hn2 : n ≤ 140737488355328 := by omega
  clear hd hs hn
  go_enter Tryz.func36, Tryz.ntmps36
  go_wp2
  go_loop [5, 3, 4] (fun vi va vu => ∃ k : Nat, vi = .int .i64 k ∧ va = .bool true ∧ vu = .bool false ∧ k ≤ s.length) (fun vi _ _ => s.length - (RowKit.intOf vi).toNat)
  case atStart => exact ⟨0, rfl, rfl, rfl, by omega⟩
  case round =>
    obtain ⟨k, rfl, rfl, rfl, hk⟩ := hrel
    by_cases hkn : k < s.length
    · obtain ⟨c, hc⟩ : ∃ c, s[k]? = some c := ⟨_, List.getElem?_eq_getElem hkn⟩
      have hb := HD.out c (List.mem_of_getElem? hc)
      have hix := HIX.out k c hc w
      have hle : s.length ≤ 140737488355328 := by have := HN.out; omega
      clear hc
      have hc1 : ¬ (128 : Int) ≤ (c.toNat : Int) := by omega
      by_cases h65 : (65 : Int) ≤ (c.toNat : Int)
      · have h90 : ¬ (c.toNat : Int) ≤ 90 := by omega
        clear hb
        go_wp2
        exact ⟨⟨k + 1, by go_num, rfl, rfl, by omega⟩, by simp [RowKit.intOf]; omega⟩
      · clear hb
        go_wp2
        exact ⟨⟨k + 1, by go_num, rfl, rfl, by omega⟩, by simp [RowKit.intOf]; omega⟩
    · go_wp2
      go_ret
      exact ⟨rfl, rfl⟩
end Go.Proofs.YtdncojofilnhnaaGreatDoor
