/- Where a rune stands among the digits: the walk at a rune that is no byte of ASCII. -/
import Derived.Test.YtdncojofilnhnaaGreatDoorHexP
import Derived.Test.YtdncojofilnhnaaGreatDoorShelf
import Derived.Test.YtdncojofilnhnaaGreatDoorBase
import Derived.BigQuiet
import Derived.Deep.QuietTactic
import Derived.Lib.OthersKept
import Derived.WalkSmall
import Derived.Laws.Strings3
import Derived.Deep.RegionLaw
import Derived.Deep.DeepCutAuto
import Derived.Laws.Runes
import Derived.WalkMore
namespace Go.Proofs.YtdncojofilnhnaaGreatDoor
open Go.RowKit Go.Lib

theorem byte_none : ∀ (l : List UInt8) (c : UInt8), c ∉ l → Lib.indexByte l c = -1
  | [], c, _ => rfl
  | b :: l, c, h => by
    have h1 : b ≠ c := fun e => h (by simp [e])
    have h2 := byte_none l c (fun e => h (by simp [e]))
    simp [Lib.indexByte, h1, h2]

def digS : ByteArray := ⟨#[48, 49, 50, 51, 52, 53, 54, 55, 56, 57, 97, 98, 99, 100, 101, 102]⟩

theorem dig_low : ∀ (pos : Nat) (h : pos < digS.size), (digS[pos]'h).toNat < 128 := by
  have h : ∀ k : Fin 16, (digS[k.val]'(k.isLt)).toNat < 128 := by decide +kernel
  exact fun pos hp => h ⟨pos, hp⟩

set_option maxRecDepth 100000 in
set_option maxHeartbeats 8000000 in
theorem index_error_of (s : ByteArray) (hsz : s.size = 16) (hlow : ∀ (pos : Nat) (h : pos < s.size), (s[pos]'h).toNat < 128) (w : World) :
    Calls Tryz.prog 109 #[.string s, .int .i32 65533] w fun e w' => e = .returned (.int .i64 (-1)) ∧ Keeps Nothing w w' := by
  have HL := Lib.hid hlow
  clear hlow
  go_enter Tryz.func109, Tryz.ntmps109
  go_wp2
  go_loopw [5, 6] (fun a b w' => ∃ (pos : Nat), w' = w.iter s pos) (fun _ _ w' => s.size - w'.iterPos w.heap.size)
  case atStart => exact ⟨0, rfl⟩
  case round =>
    obtain ⟨pos, rfl⟩ := hrel
    by_cases hp : pos < s.size
    · have ha := HL.out pos hp
      have hnx : ∀ ty, (Instr.next (.pointer (some ⟨w.heap.size, 0, none⟩)) true ty).run Tryz.prog (w.iter s pos) = _ := fun ty => run_next_ascii w s pos ty hp ha
      generalize (s[pos]'hp).toNat = d at *
      go_wp2
      go_roundw
      case rel => exact ⟨pos + 1, rfl⟩
      case measure => simp; omega
    · have hnx : ∀ ty, (Instr.next (.pointer (some ⟨w.heap.size, 0, none⟩)) true ty).run Tryz.prog (w.iter s pos) = _ := fun ty => run_next_end w s pos ty hp
      go_wp2
      go_ret
      exact ⟨rfl, (Keeps.refl _ _).alloc _⟩

/-- A row of two to four bytes, the last of which is no byte of ASCII. -/
def LastHigh (t : ByteArray) (n : Nat) (b : Nat) : Prop := t.size = n + 1 ∧ 128 ≤ b ∧ b ≤ 255 ∧ ∀ w, (Instr.index 9 (.string t) (.int .i64 (n : Int))).run Tryz.prog w = .ok (.int .u8 (b : Nat)) w

theorem last_high {r : Int} (hv : Utf8.valid r = true) (h : 128 ≤ r) : ∃ n b, (n = 1 ∨ n = 2 ∨ n = 3) ∧ LastHigh (Utf8.encode r) n b := by
  obtain ⟨h2, h4, hl⟩ := encode_facts r hv h
  generalize Utf8.encode r = t at *
  have hlt : t.size - 1 < t.size := by omega
  refine ⟨t.size - 1, (t[t.size - 1]'hlt).toNat, by omega, by omega, hl hlt, by have := (t[t.size - 1]'hlt).toNat_lt; omega, fun w => ?_⟩
  rw [run_index_string w 9 _ .i64 _ Tryz.underlying9, dif_pos ⟨by omega, by omega⟩]
  rfl

theorem rest_none (k : Nat) (b : Nat) (h0 : 128 ≤ b) (h1 : b ≤ 255) (w : World) (s : ByteArray) (hs : ∀ x ∈ s.data.toList, x.toNat < 128) :
    Calls Tryz.prog 129 #[.string s, .int .u8 (b : Nat)] w fun e w' => e = .returned (.int .i64 (-1)) ∧ w' = w := by
  refine (Tryz.strings_IndexByte s (b : Nat) w).mono ?_
  rintro e w' ⟨rfl, rfl⟩
  refine ⟨?_, rfl⟩
  rw [byte_none]
  intro hm
  have := hs _ hm
  have e : (((b : Nat) : Int).toNat.toUInt8).toNat = b := by
    show (UInt8.ofNat ((b : Int).toNat)).toNat = b
    rw [UInt8.toNat_ofNat']
    simp
    omega
  omega

set_option maxRecDepth 100000 in
set_option maxHeartbeats 8000000 in
theorem index_rune (r : Int) (h0 : 128 ≤ r) (h1 : r ≤ 2147483647) (hne : r ≠ 65533) (w : World) :
    Calls Tryz.prog 109 #[.string ⟨#[48, 49, 50, 51, 52, 53, 54, 55, 56, 57, 97, 98, 99, 100, 101, 102]⟩, .int .i32 r] w fun e w' => e = .returned (.int .i64 (-1)) ∧ Keeps Nothing w w' := by
  have HV : ∀ w, Calls Tryz.prog 130 #[.int .i32 r] w fun e w' => e = .returned (.bool (Lib.validRune r)) ∧ w' = w := fun w => Tryz.utf8_ValidRune r w
  have hn : ¬ r < 128 := by omega
  cases hv : Lib.validRune r with
  | false =>
    rw [hv] at HV
    have HVH := Lib.hid HV
    clear HV
    go_enter Tryz.func109, Tryz.ntmps109
    go_wp2_with (go_at_call 130; refine (HVH.out _).mono ?_; rintro e w1 ⟨rfl, rfl⟩)
    go_ret
    exact ⟨rfl, Keeps.refl _ _⟩
  | true =>
    rw [hv] at HV
    have HVH := Lib.hid HV
    clear HV
    have hval : Utf8.valid r = true := by
      unfold Lib.validRune at hv
      simp only [decide_eq_true_eq] at hv
      unfold Utf8.valid
      simp
      omega
    obtain ⟨n, b, hnn, ht, hb0, hb1, hI⟩ := last_high hval h0
    have HIB := Lib.hid (rest_none n b hb0 hb1)
    obtain ⟨u, hu⟩ : ∃ u, u = Utf8.encode r := ⟨_, rfl⟩
    have hconv : ∀ w, (convert 21 9 (.int .i32 r)).run Tryz.prog w = .ok (.string u) w := fun w => by rw [hu]; exact run_convert_int_string w 21 9 .i32 r (by rw [Tryz.underlying21]; rfl) Tryz.underlying9
    rw [← hu] at ht hI
    clear hu hval hv
    have hD1 : ∀ w, (Instr.index 9 (.string ⟨#[48, 49, 50, 51, 52, 53, 54, 55, 56, 57, 97, 98, 99, 100, 101, 102]⟩) (.int .i64 1)).run Tryz.prog w = .ok (.int .u8 49) w := fun w => by kernel_rfl
    have hS1 : ∀ w, (Instr.slice 9 (.string ⟨#[48, 49, 50, 51, 52, 53, 54, 55, 56, 57, 97, 98, 99, 100, 101, 102]⟩) (some (.int .i64 (IntKind.i64.wrap 2))) none none).run Tryz.prog w = .ok (.string ⟨#[50, 51, 52, 53, 54, 55, 56, 57, 97, 98, 99, 100, 101, 102]⟩) w := fun w => by kernel_rfl
    have hB1 : ∀ w, Calls Tryz.prog 129 #[.string ⟨#[50, 51, 52, 53, 54, 55, 56, 57, 97, 98, 99, 100, 101, 102]⟩, .int .u8 (b : Nat)] w fun e w' => e = .returned (.int .i64 (-1)) ∧ w' = w := fun w => HIB.out w _ (by decide)
    have hn1 : ¬ (49 : Int) = b := by omega
    have hD2 : ∀ w, (Instr.index 9 (.string ⟨#[48, 49, 50, 51, 52, 53, 54, 55, 56, 57, 97, 98, 99, 100, 101, 102]⟩) (.int .i64 2)).run Tryz.prog w = .ok (.int .u8 50) w := fun w => by kernel_rfl
    have hS2 : ∀ w, (Instr.slice 9 (.string ⟨#[48, 49, 50, 51, 52, 53, 54, 55, 56, 57, 97, 98, 99, 100, 101, 102]⟩) (some (.int .i64 (IntKind.i64.wrap 3))) none none).run Tryz.prog w = .ok (.string ⟨#[51, 52, 53, 54, 55, 56, 57, 97, 98, 99, 100, 101, 102]⟩) w := fun w => by kernel_rfl
    have hB2 : ∀ w, Calls Tryz.prog 129 #[.string ⟨#[51, 52, 53, 54, 55, 56, 57, 97, 98, 99, 100, 101, 102]⟩, .int .u8 (b : Nat)] w fun e w' => e = .returned (.int .i64 (-1)) ∧ w' = w := fun w => HIB.out w _ (by decide)
    have hn2 : ¬ (50 : Int) = b := by omega
    have hD3 : ∀ w, (Instr.index 9 (.string ⟨#[48, 49, 50, 51, 52, 53, 54, 55, 56, 57, 97, 98, 99, 100, 101, 102]⟩) (.int .i64 3)).run Tryz.prog w = .ok (.int .u8 51) w := fun w => by kernel_rfl
    have hS3 : ∀ w, (Instr.slice 9 (.string ⟨#[48, 49, 50, 51, 52, 53, 54, 55, 56, 57, 97, 98, 99, 100, 101, 102]⟩) (some (.int .i64 (IntKind.i64.wrap 4))) none none).run Tryz.prog w = .ok (.string ⟨#[52, 53, 54, 55, 56, 57, 97, 98, 99, 100, 101, 102]⟩) w := fun w => by kernel_rfl
    have hB3 : ∀ w, Calls Tryz.prog 129 #[.string ⟨#[52, 53, 54, 55, 56, 57, 97, 98, 99, 100, 101, 102]⟩, .int .u8 (b : Nat)] w fun e w' => e = .returned (.int .i64 (-1)) ∧ w' = w := fun w => HIB.out w _ (by decide)
    have hn3 : ¬ (51 : Int) = b := by omega
    rcases hnn with rfl | rfl | rfl
    · have hI1 : ∀ w, (Instr.index 9 (.string u) (.int .i64 1)).run Tryz.prog w = .ok (.int .u8 (b : Nat)) w := hI
      have ht2 : u.size = 2 := ht
      clear hI ht HIB hD2 hS2 hB2 hn2 hD3 hS3 hB3 hn3
      go_enter Tryz.func109, Tryz.ntmps109
      go_wp2_with (first | (go_at_call 130; refine (HVH.out _).mono ?_; rintro e w1 ⟨rfl, rfl⟩))
      go_step3
      go_wp2
      refine wp_loop_rounds 1 ?_
      rw [rounds_succ]
      go_wp2
      go_step3
      go_wp2
      go_quiet (fail)
      go_wp2
      go_quiet (first | (go_at_call 129; refine (hB1 _).mono (fun e w2 h => ⟨h.1, _, h.2⟩)))
      go_wp2
      simp only [Exit.noGoto_ret, Exit.inBlock, Exit.then]
      go_ret
      exact ⟨rfl, rfl, rfl, rfl, Nat.le_refl _, fun _ _ _ => rfl⟩
    · have hI1 : ∀ w, (Instr.index 9 (.string u) (.int .i64 2)).run Tryz.prog w = .ok (.int .u8 (b : Nat)) w := hI
      have ht2 : u.size = 3 := ht
      clear hI ht HIB hD1 hS1 hB1 hn1 hD3 hS3 hB3 hn3
      go_enter Tryz.func109, Tryz.ntmps109
      go_wp2_with (first | (go_at_call 130; refine (HVH.out _).mono ?_; rintro e w1 ⟨rfl, rfl⟩))
      go_step3
      go_wp2
      refine wp_loop_rounds 1 ?_
      rw [rounds_succ]
      go_wp2
      go_step3
      go_wp2
      go_quiet (fail)
      go_wp2
      go_quiet (first | (go_at_call 129; refine (hB2 _).mono (fun e w2 h => ⟨h.1, _, h.2⟩)))
      go_wp2
      simp only [Exit.noGoto_ret, Exit.inBlock, Exit.then]
      go_ret
      exact ⟨rfl, rfl, rfl, rfl, Nat.le_refl _, fun _ _ _ => rfl⟩
    · have hI1 : ∀ w, (Instr.index 9 (.string u) (.int .i64 3)).run Tryz.prog w = .ok (.int .u8 (b : Nat)) w := hI
      have ht2 : u.size = 4 := ht
      clear hI ht HIB hD1 hS1 hB1 hn1 hD2 hS2 hB2 hn2
      go_enter Tryz.func109, Tryz.ntmps109
      go_wp2_with (first | (go_at_call 130; refine (HVH.out _).mono ?_; rintro e w1 ⟨rfl, rfl⟩))
      go_step3
      go_wp2
      refine wp_loop_rounds 1 ?_
      rw [rounds_succ]
      go_wp2
      go_step3
      go_wp2
      go_quiet (fail)
      go_wp2
      go_quiet (first | (go_at_call 129; refine (hB3 _).mono (fun e w2 h => ⟨h.1, _, h.2⟩)))
      go_wp2
      simp only [Exit.noGoto_ret, Exit.inBlock, Exit.then]
      go_ret
      exact ⟨rfl, rfl, rfl, rfl, Nat.le_refl _, fun _ _ _ => rfl⟩

theorem index_high (r : Int) (h0 : 128 ≤ r) (h1 : r ≤ 2147483647) (w : World) :
    Calls Tryz.prog 109 #[.string ⟨#[48, 49, 50, 51, 52, 53, 54, 55, 56, 57, 97, 98, 99, 100, 101, 102]⟩, .int .i32 r] w fun e w' => e = .returned (.int .i64 (-1)) ∧ Keeps Nothing w w' := by
  by_cases h : r = 65533
  · subst h; exact index_error_of digS rfl dig_low w
  · exact index_rune r h0 h1 h w
end Go.Proofs.YtdncojofilnhnaaGreatDoor
