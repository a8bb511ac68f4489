/- script.number: the walk. -/
import Derived.Test.YtdncojofilnhnaaGreatDoorErrT
import Derived.Test.YtdncojofilnhnaaGreatDoorScrLaw
namespace Go.Proofs.YtdncojofilnhnaaGreatDoor
open Go.RowKit Go.Lib

/-- What number comes to. -/
def NumIs (s : Str) (ev : Ending) : Prop := ∃ (v : Int) (b : Bool), ev = .returned (.tuple #[.int .i64 v, .bool b]) ∧ numP s = if b then some v else none

theorem parseInt_range {s : Str} {v : Int} (h : parseIntB 64 s = .ok v) : -9223372036854775808 ≤ v ∧ v ≤ 9223372036854775807 := by
  have hb := parseIntB_bounds h
  have e : ((2 ^ (64 - 1) : Nat) : Int) = 9223372036854775808 := by decide
  rw [e] at hb
  omega

set_option maxRecDepth 100000 in
set_option maxHeartbeats 4000000 in
theorem number_ok (s : Str) (hl : s.length ≤ 281474976710656) {w : World} (hg : Gl w) :
    Calls Tryz.prog 82 #[strV s] w fun ev w' => NumIs s ev ∧ Keeps Nothing w w' := by
  have HP := Lib.hid (parseInt_ok s hl hg)
  have HG := Lib.hid hg
  clear hg
  unfold ParsedInt at HP
  cases hp : parseIntB 64 s with
  | ok v =>
    rw [hp] at HP
    obtain ⟨v0, v1⟩ := parseInt_range hp
    have HF := Lib.hid (fun (w' : World) (hg : Gl w') => fmt_ok v v0 v1 hg)
    by_cases hv : 0 ≤ v
    · by_cases he : itoa v = s
      · have hn : numP s = some v := by unfold numP; rw [hp]; exact if_pos ⟨hv, he⟩
        have HN := Lib.hid hn
        have hq : (itoa v == s) = true := by simp [he]
        clear hn hp
        generalize itoa v = t at *
        clear he
        go_enter Tryz.func82, Tryz.ntmps82
        go_wp2_with (first | (go_at_call 45; refine HP.out.mono ?_; rintro e w1 ⟨rfl, k1⟩; have K1 := Lib.hid k1; have HG1 := Lib.hid (HG.out.same k1); clear k1) | (go_at_call 37; refine (HF.out _ HG1.out).mono ?_; rintro e w2 ⟨rfl, k2⟩; have K2 := Lib.hid (K1.out.same k2); clear k2))
        go_ret2
        exact ⟨⟨v, true, rfl, HN.out⟩, K2.out⟩
      · have hn : numP s = none := by unfold numP; rw [hp]; exact if_neg (fun x => he x.2)
        have HN := Lib.hid hn
        have hq : (itoa v == s) = false := by simp [he]
        clear hn hp he
        generalize itoa v = t at *
        go_enter Tryz.func82, Tryz.ntmps82
        go_wp2_with (first | (go_at_call 45; refine HP.out.mono ?_; rintro e w1 ⟨rfl, k1⟩; have K1 := Lib.hid k1; have HG1 := Lib.hid (HG.out.same k1); clear k1) | (go_at_call 37; refine (HF.out _ HG1.out).mono ?_; rintro e w2 ⟨rfl, k2⟩; have K2 := Lib.hid (K1.out.same k2); clear k2))
        go_ret2
        exact ⟨⟨v, false, rfl, HN.out⟩, K2.out⟩
    · have hn : numP s = none := by unfold numP; rw [hp]; exact if_neg (fun x => hv x.1)
      have HN := Lib.hid hn
      clear hn hp
      go_enter Tryz.func82, Tryz.ntmps82
      go_wp2_with (first | (go_at_call 45; refine HP.out.mono ?_; rintro e w1 ⟨rfl, k1⟩; have K1 := Lib.hid k1; have HG1 := Lib.hid (HG.out.same k1); clear k1))
      go_ret2
      exact ⟨⟨v, false, rfl, HN.out⟩, K1.out⟩
  | _ =>
    rw [hp] at HP
    have hn : numP s = none := by unfold numP; rw [hp]
    have HN := Lib.hid hn
    clear hn hp
    go_enter Tryz.func82, Tryz.ntmps82
    go_wp2_with (first | (go_at_call 45; refine HP.out.mono ?_; rintro e w1 ⟨⟨x, N, rfl⟩, k1⟩; have K1 := Lib.hid k1; clear k1))
    go_ret2
    exact ⟨⟨x, false, rfl, HN.out⟩, K1.out⟩
end Go.Proofs.YtdncojofilnhnaaGreatDoor
