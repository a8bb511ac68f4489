/- CommandNames: the walk. -/
import Derived.Test.YtdncojofilnhnaaGreatDoorReads
import Derived.Laws.Strings3
namespace Go.Proofs.YtdncojofilnhnaaGreatDoor
open Go.RowKit Go.Lib

theorem name_what : ∀ k : Fin 10, ∃ e : Int × Int, parseP addrP (wordOf k.val ++ [32, 119, 104, 97, 116]) = .error e := by
  intro k
  have h : ∀ k : Fin 10, (match parseF (wordOf k.val ++ [32, 119, 104, 97, 116]) with | .error _ => true | .ok _ => false) = true := by decide +kernel
  have hk := h k
  rw [parse_F]
  split at hk
  · rename_i e he; exact ⟨e, he⟩
  · cases hk

theorem textP_prefix {c : Cm} (hc : checkP c = none) : hasPrefix (textP c) (wordOf c.kind.toNat ++ [32]) = true := by
  obtain ⟨h1, h2, h3, h4⟩ := check_len hc
  have hne : argWords (addrOf c.kind) (macText c.mac) c.args ≠ [] := by
    have := least_range c.kind
    cases ha : c.args with
    | nil => rw [ha] at h4; simp at h4; omega
    | cons a r => cases addrOf c.kind <;> simp [argWords]
  unfold textP wordsOf hasPrefix
  rw [joinOn_cons 32 _ hne]
  rw [List.isPrefixOf_iff_prefix]
  exact ⟨joinOn 32 (argWords (addrOf c.kind) (macText c.mac) c.args), by simp⟩

theorem name_eq (k j : Nat) (hk : k < 10) (hj : j < 10) : (wordOf j == wordOf k) = decide ((j : Int) = (k : Int)) := by
  by_cases h : j = k
  · subst h; simp
  · have : wordOf j ≠ wordOf k := fun e => h (congrArg Fin.val (word_inj ⟨j, hj⟩ ⟨k, hk⟩ e))
    have h2 : ¬ (j : Int) = (k : Int) := by omega
    simp [this, h2]

theorem cat_str (a b : Str) : (⟨a.toArray⟩ ++ ⟨b.toArray⟩ : ByteArray) = ⟨(a ++ b).toArray⟩ := by
  apply ByteArray.ext
  rw [ByteArray.data_append]
  simp

set_option maxRecDepth 100000 in
set_option maxHeartbeats 8000000 in
theorem names_walk (kind : Int) (hk : -9223372036854775808 ≤ kind ∧ kind ≤ 9223372036854775807) {A : Option Addr} {c : Nat} {args : List Int} (hl : args.length ≤ 9223372036854775807) (ha : ∀ a ∈ args, -9223372036854775808 ≤ a ∧ a ≤ 9223372036854775807) {w : World} (hg : Gl w) (hs : SlR w (.slice A args.length c) (icells args)) :
    Calls Tryz.prog 7 #[.int .i64 kind, .slice A args.length c] w (TrueKept w) := by
  have HR := Lib.hid (reads_ok hg)
  have HG := Lib.hid hg
  have HS := Lib.hid hs
  have HA := Lib.hid ha
  have t1 : True := trivial
  clear hg hs ha
  by_cases hbig : 250 < (args.length : Int)
  · go_enter Tryz.func7, Tryz.ntmps7
    go_wp2_with (go_at_call 12; refine HR.out.mono ?_; rintro e w1 ⟨rfl, k1⟩; have K1 := Lib.hid k1; clear k1)
    go_ret
    exact ⟨rfl, K1.out⟩
  · have hl2 : args.length ≤ 140737488355328 := by omega
    by_cases hin : 0 ≤ kind ∧ kind < 10
    · obtain ⟨k, rfl⟩ : ∃ k : Nat, kind = (k : Int) := ⟨kind.toNat, by omega⟩
      have hk10 : k < 10 := by omega
      have hd1 : decide ((k : Int) < 0) = false := by simp
      have hd2 : decide (9 < (k : Int)) = false := by simp; omega
      have hd3 : decide (250 < (args.length : Int)) = false := by simp; omega
      have hnm : nameOf (k : Int) = wordOf k := by unfold nameOf; rw [if_pos ⟨by omega, by omega⟩, Int.toNat_natCast]
      have hne := name_eq k
      obtain ⟨⟨en, ek⟩, hpe⟩ := name_what ⟨k, hk10⟩
      simp only at hpe
      have HPE := Lib.hid hpe
      have HWL : Hid ((wordOf k ++ [32, 119, 104, 97, 116]).length < 4294967280) := by
        have := word_len k
        show _ < _
        simp
        omega
      have HBIG := Lib.hid hbig
      clear hin hpe hbig
      go_enter Tryz.func7, Tryz.ntmps7
      go_wp2_with (first | (go_at_call 12; refine HR.out.mono ?_; rintro e w1 ⟨rfl, k1⟩; have HG1 := Lib.hid (HG.out.same k1); have HS1 := Lib.hid (HS.out.same k1); have K1 := Lib.hid k1; clear k1) | (clear t1; go_at_call 24; refine (name_ok _ HG1.out).mono ?_; rw [hnm]; rintro e w2 ⟨rfl, k2⟩; have HG2 := Lib.hid (HG1.out.same k2); have HS2 := Lib.hid (HS1.out.same k2); have K2 := Lib.hid (K1.out.same k2); clear k2))
      go_loopg [26] 10 (fun n i wr => ∃ j : Nat, j + n = 10 ∧ i = .int .i64 (j : Nat) ∧ Keeps Nothing w2 wr)
      case atStart => exact ⟨0, by omega, rfl, Keeps.refl _ _⟩
      case round =>
        obtain ⟨j, hj, rfl, hk⟩ := hrel
        have HKr := Lib.hid hk
        have HGr := Lib.hid (HG2.out.same hk)
        have HSr := Lib.hid (HS2.out.same hk)
        clear hk
        by_cases hlt : j < 10
        · have hnj : nameOf (j : Int) = wordOf j := by unfold nameOf; rw [if_pos ⟨by omega, by omega⟩, Int.toNat_natCast]
          have hq := hne j hk10 hlt
          have hjl : (j : Int) < 10 := by omega
          by_cases hjk : (j : Int) = (k : Int)
          · obtain rfl : j = k := by omega
            clear hq hne hjk
            go_wp2_with (go_at_call 24; refine (name_ok _ HGr.out).mono ?_; rw [hnj]; rintro e w3 ⟨rfl, k3⟩; have K3 := Lib.hid (HKr.out.same k3); clear k3)
            go_roundg (gk - 1)
            case measure => omega
            case rel => exact ⟨j + 1, by omega, by go_num, K3.out⟩
          · have hq1 : (wordOf j == wordOf k) = false := by rw [hq]; simp [hjk]
            clear hq
            go_wp2_with (go_at_call 24; refine (name_ok _ HGr.out).mono ?_; rw [hnj]; rintro e w3 ⟨rfl, k3⟩; have K3 := Lib.hid (HKr.out.same k3); clear k3)
            go_roundg (gk - 1)
            case measure => omega
            case rel => exact ⟨j + 1, by omega, by go_num, K3.out⟩
        · obtain rfl : j = 10 := by omega
          have hT := text_ok ⟨k, mac0, args⟩ mac0_is (show -9223372036854775808 ≤ (k : Int) ∧ (k : Int) ≤ 9223372036854775807 from ⟨by omega, by omega⟩) hl2 HA.out HGr.out HSr.out
          have HT : Hid (Calls Tryz.prog 13 #[.agg #[.int .i64 (k : Int), .int .u8 0, .int .u8 0, .int .u8 0, .int .u8 0, .int .u8 0, .int .u8 0, .slice A args.length c]] wr (fun ev w' => TextIs w' ⟨k, mac0, args⟩ ev ∧ Keeps Nothing wr w')) := hT
          clear hT hne
          have hP := fun (w' : World) (hg : Gl w') => parse_no' (wordOf k ++ [32, 119, 104, 97, 116]) HWL.out HPE.out hg
          have HP := Lib.hid hP
          clear hP
          have hwk := word_len k
          have hlim5 : ¬ 9223372036854775807 < (wordOf k).length + 5 := by omega
          have hlim1 : ¬ 9223372036854775807 < (wordOf k).length + 1 := by omega
          have hcat : (⟨(wordOf k).toArray⟩ ++ ⟨#[32, 119, 104, 97, 116]⟩ : ByteArray) = ⟨(wordOf k ++ [32, 119, 104, 97, 116]).toArray⟩ := cat_str _ _
          have hcat1 : (⟨(wordOf k).toArray⟩ ++ ⟨#[32]⟩ : ByteArray) = ⟨(wordOf k ++ [32]).toArray⟩ := cat_str _ _
          unfold TextIs at HT
          cases hcp : checkP ⟨k, mac0, args⟩ with
          | some e =>
            rw [hcp] at HT
            clear hcp
            go_wp2_with (first | (go_at_call 13; refine HT.out.mono ?_; rintro e w3 ⟨⟨v, ⟨b, hb0, rfl, -⟩, rfl⟩, k3⟩; have HG3 := Lib.hid (HGr.out.same k3); have K3 := Lib.hid (K2.out.same (HKr.out.same k3)); clear k3) | (go_at_call 17; refine (HP.out _ HG3.out).mono ?_; rintro e w4 ⟨⟨b4, -, rfl⟩, k4⟩; have K4 := Lib.hid (K3.out.same (k4.alloc (.cells #[.int .i64 0, .int .u8 0, .int .u8 0, .int .u8 0, .int .u8 0, .int .u8 0, .int .u8 0, .slice none 0 0] 26))); clear k4))
            go_ret
            exact ⟨rfl, K4.out⟩
          | none =>
            rw [hcp] at HT
            have hpx := textP_prefix hcp
            simp only [Int.toNat_natCast] at hpx
            have hhp := fun w => hasPrefix_ok (textP ⟨k, mac0, args⟩) (wordOf k ++ [32]) w
            rw [hpx] at hhp
            clear hcp hpx
            go_wp2_with (first | (go_at_call 13; refine HT.out.mono ?_; rintro e w3 ⟨rfl, k3⟩; have HG3 := Lib.hid (HGr.out.same k3); have K3 := Lib.hid (K2.out.same (HKr.out.same k3)); clear k3) | (go_at_call 17; refine (HP.out _ HG3.out).mono ?_; rintro e w4 ⟨⟨b4, -, rfl⟩, k4⟩; have K4 := Lib.hid (K3.out.same (k4.alloc (.cells #[.int .i64 0, .int .u8 0, .int .u8 0, .int .u8 0, .int .u8 0, .int .u8 0, .int .u8 0, .slice none 0 0] 26))); clear k4) | (go_at_call 25; refine (hhp _).mono ?_; rintro e w5 ⟨rfl, rfl⟩))
            go_ret
            exact ⟨rfl, K4.out⟩
    · have hnm : nameOf kind = [] := by unfold nameOf; rw [if_neg (by omega)]
      obtain hb | hb : kind < 0 ∨ 9 < kind := by omega
      · clear hin
        go_enter Tryz.func7, Tryz.ntmps7
        go_wp2_with (first | (go_at_call 12; refine HR.out.mono ?_; rintro e w1 ⟨rfl, k1⟩; have HG1 := Lib.hid (HG.out.same k1); have K1 := Lib.hid k1; clear k1) | (go_at_call 24; refine (name_ok _ HG1.out).mono ?_; rw [hnm]; rintro e w2 ⟨rfl, k2⟩; have K2 := Lib.hid (K1.out.same k2); clear k2))
        go_ret
        exact ⟨rfl, K2.out⟩
      · have hb2 : ¬ kind < 0 := by omega
        clear hin
        go_enter Tryz.func7, Tryz.ntmps7
        go_wp2_with (first | (go_at_call 12; refine HR.out.mono ?_; rintro e w1 ⟨rfl, k1⟩; have HG1 := Lib.hid (HG.out.same k1); have K1 := Lib.hid k1; clear k1) | (go_at_call 24; refine (name_ok _ HG1.out).mono ?_; rw [hnm]; rintro e w2 ⟨rfl, k2⟩; have K2 := Lib.hid (K1.out.same k2); clear k2))
        go_ret
        exact ⟨rfl, K2.out⟩
end Go.Proofs.YtdncojofilnhnaaGreatDoor
