/- strconv.ParseUint at base 16 and 8 bits: the walk. -/
import Derived.Test.YtdncojofilnhnaaGreatDoorGl
import Derived.Lib.Walk
import Derived.Lib.ParseIntBMem
import Derived.Laws.Strings3
import Derived.Laws.Closers25
import Derived.Laws.Closers25b
import Derived.BigCall
import Derived.BigGuard
namespace Go.Proofs.YtdncojofilnhnaaGreatDoor
open Go.RowKit Go.Lib

theorem hexV_digit {c : UInt8} (h0 : 48 ≤ c.toNat) (h1 : c.toNat ≤ 57) : (hexV c : Int) = (c.toNat : Int) - 48 := by
  unfold hexV; rw [if_pos ⟨h0, h1⟩]; omega

theorem hexV_letter {c : UInt8} (hd : ¬ (48 ≤ c.toNat ∧ c.toNat ≤ 57)) (h0 : 97 ≤ lowZ c) (h1 : lowZ c ≤ 122) : (hexV c : Int) = lowZ c - 87 := by
  unfold hexV; rw [if_neg hd, if_pos ⟨h0, h1⟩]; omega

theorem hexV_none {c : UInt8} (hd : ¬ (48 ≤ c.toNat ∧ c.toNat ≤ 57)) (h : ¬ (97 ≤ lowZ c ∧ lowZ c ≤ 122)) : hexV c = 99 := by
  unfold hexV; rw [if_neg hd, if_neg h]

set_option maxHeartbeats 32000000 in
set_option maxRecDepth 100000 in
theorem pu_in (l : List UInt8) (hne : l ≠ []) (hmax : l.length ≤ 9223372036854775806) (w : World) :
    Calls Tryz.prog 100 #[strV l, .int .i64 16, .int .i64 8] w fun e w' => e = .returned (uintTupleM 182 255 (hexM 0 l)) ∧ Keeps Nothing w w' := by
  obtain ⟨t, ht⟩ : ∃ t : ByteArray, t = ⟨l.toArray⟩ := ⟨_, rfl⟩
  have hbs : t.data.toList = l := by rw [ht]
  have hsz : t.size = l.length := by rw [ht, str_size]
  show Calls Tryz.prog 100 #[.string ⟨l.toArray⟩, .int .i64 16, .int .i64 8] w _
  rw [← ht]
  have e125 : ∀ args w, (callFunc 125 args).run Tryz.prog w = .ok (.enter 125 args) w := enters_of Tryz.func125 (by kernel_rfl) rfl
  have hemp : t.toList.isEmpty = false := by
    rw [← decide_eq_emptyBytes]
    exact decide_eq_false (fun h => hne (by rw [h] at hbs; rw [← hbs]; rfl))
  have hcv := Lib.run_convert_string_bytes (P := Tryz.prog) w 9 71 5 t (u := .string) Tryz.underlying9 Tryz.underlying71 Tryz.underlying5
  have hB : ∀ j, j < t.size → (Lib.bytesWorld w 5 t).cell? ⟨w.heap.size, j, none⟩ = some (.int .u8 (t.data.toList.getD j 0).toNat) := fun j hj => Lib.bytesWorld_cell w 5 t j hj
  have hK := keeps_bytes w 5 t
  obtain ⟨W1, hW1⟩ : ∃ W1, W1 = Lib.bytesWorld w 5 t := ⟨_, rfl⟩
  rw [← hW1] at hcv hB hK
  clear hW1
  rw [hbs] at hB
  have KK := Lib.hid hK
  rw [← hsz] at hmax
  have hLn := hsz.symm
  clear hbs hsz hK hne ht
  have hmv : IntKind.u64.wrap (IntKind.u64.wrap 256 - 1) = 255 := by
    rw [IntKind.wrap_u64, IntKind.wrap_u64]
    decide
  go_enter Tryz.func100, Tryz.ntmps100
  go_wp2
  go_loop [12, 13, 101] (fun vu vn vi => ∃ (k acc : Nat) (a : Int), vu = .bool false ∧ vn = .int .u64 a ∧ vi = .int .i64 k ∧ k ≤ t.size ∧ Hid (a = (acc : Int) ∧ acc ≤ 255 ∧ hexM 0 l = hexM acc (l.drop k)))
    (fun _ _ vi => t.size - (RowKit.intOf vi).toNat)
  case atStart => exact ⟨0, 0, 0, rfl, rfl, rfl, by omega, rfl, by omega, rfl⟩
  case round =>
    obtain ⟨k, acc, a, rfl, rfl, rfl, hk, hh⟩ := hrel
    obtain ⟨ha, hacc, hdec⟩ := hh.out
    clear hh
    have a0 : 0 ≤ a := by omega
    have a1 : a ≤ 255 := by omega
    by_cases hkn : k < t.size
    · have hc := hB k hkn
      have hdrop : l.drop k = l[k]'(by omega) :: l.drop (k + 1) := List.drop_eq_getElem_cons (by omega)
      have hget : l.getD k 0 = l[k]'(by omega) := by simp [List.getD, List.getElem?_eq_getElem (show k < l.length by omega)]
      rw [hdrop] at hdec
      rw [hget] at hc
      generalize l[k]'(by omega) = c at hc hdec
      have hc256 : c.toNat < 256 := c.toNat_lt
      clear hB hdrop hget
      by_cases hdig : 48 ≤ c.toNat ∧ c.toNat ≤ 57
      · obtain ⟨hd0, hd1⟩ := hdig
        have hv := hexV_digit hd0 hd1
        by_cases hov : 255 < acc * 16 + hexV c
        · have hF : hexM acc (c :: l.drop (k + 1)) = .range := by rw [hexM, if_neg (by omega), if_pos hov]
          rw [hF] at hdec
          have iov : 255 < a * 16 + ((c.toNat : Int) - 48) := by omega
          clear hacc hF hov ha hv
          go_wp2
          go_ret2
          first | exact ⟨rfl, KK.out⟩ | exact ⟨by rw [hdec]; rfl, KK.out⟩
        · have hF : hexM acc (c :: l.drop (k + 1)) = hexM (acc * 16 + hexV c) (l.drop (k + 1)) := by rw [hexM, if_neg (by omega), if_neg hov]
          have HN : Hid (a * 16 + ((c.toNat : Int) - 48) = ((acc * 16 + hexV c : Nat) : Int) ∧ acc * 16 + hexV c ≤ 255 ∧ hexM 0 l = hexM (acc * 16 + hexV c) (l.drop (k + 1))) := Lib.hid ⟨by omega, by omega, hdec.trans hF⟩
          have iov : a * 16 + ((c.toNat : Int) - 48) ≤ 255 := by omega
          clear hacc hF hov hdec ha hv
          go_wp2
          refine ⟨⟨k + 1, acc * 16 + hexV c, a * 16 + ((c.toNat : Int) - 48), rfl, (by first | rfl | (congr 1; omega)), (by first | rfl | (congr 1; omega)), by omega, HN⟩, by simp [RowKit.intOf]; omega⟩
      · have hv0 : 0 ≤ lowZ c := bits_lo_u8 .or (c.toNat : Int) 32
        have hv1 : lowZ c ≤ 255 := bits_hi_u8 .or (c.toNat : Int) 32
        have hlow : ∀ w, Calls Tryz.prog 125 #[.int .u8 (c.toNat : Int)] w fun e w' => e = .returned (.int .u8 (lowZ c)) ∧ w' = w := fun w => Tryz.internal_strconv_lower _ w
        have h95 : c.toNat = 95 → lowZ c = 127 := fun h => by
          have : c = 95 := UInt8.toNat_inj.1 (by rw [h]; rfl)
          rw [this]; decide
        have hvl := @hexV_letter c hdig
        have hvn := @hexV_none c hdig
        generalize lowZ c = z at hv0 hv1 hlow h95 hvl hvn
        by_cases hlet : 97 ≤ z ∧ z ≤ 102
        · obtain ⟨hl0, hl1⟩ := hlet
          have hv := hvl hl0 (by omega)
          by_cases hov : 255 < acc * 16 + hexV c
          · have hF : hexM acc (c :: l.drop (k + 1)) = .range := by rw [hexM, if_neg (by omega), if_pos hov]
            rw [hF] at hdec
            have iov : 255 < a * 16 + (z - 87) := by omega
            have hn95 : c.toNat ≠ 95 := fun h => by have := h95 h; omega
            clear hacc hF hov ha hv hvl hvn h95
            go_wp2_with (go_at_fn 125; refine (hlow _).mono ?_; rintro e w' ⟨rfl, rfl⟩)
            all_goals go_ret2
            all_goals (first | exact ⟨rfl, KK.out⟩ | exact ⟨by rw [hdec]; rfl, KK.out⟩)
          · have hF : hexM acc (c :: l.drop (k + 1)) = hexM (acc * 16 + hexV c) (l.drop (k + 1)) := by rw [hexM, if_neg (by omega), if_neg hov]
            have HN : Hid (a * 16 + (z - 87) = ((acc * 16 + hexV c : Nat) : Int) ∧ acc * 16 + hexV c ≤ 255 ∧ hexM 0 l = hexM (acc * 16 + hexV c) (l.drop (k + 1))) := Lib.hid ⟨by omega, by omega, hdec.trans hF⟩
            have iov : a * 16 + (z - 87) ≤ 255 := by omega
            have hn95 : c.toNat ≠ 95 := fun h => by have := h95 h; omega
            clear hacc hF hov hdec ha hv hvl hvn h95
            go_wp2_with (go_at_fn 125; refine (hlow _).mono ?_; rintro e w' ⟨rfl, rfl⟩)
            all_goals refine ⟨⟨k + 1, acc * 16 + hexV c, a * 16 + (z - 87), rfl, (by first | rfl | (congr 1; omega)), (by first | rfl | (congr 1; omega)), by omega, HN⟩, by simp [RowKit.intOf]; omega⟩
        · have hF : hexM acc (c :: l.drop (k + 1)) = .syntax := by
            rw [hexM, if_pos]
            by_cases h1 : 97 ≤ z ∧ z ≤ 122
            · have := hvl h1.1 h1.2; omega
            · rw [hvn h1]; decide
          rw [hF] at hdec
          by_cases h5 : c.toNat = 95
          · have hz := h95 h5
            subst hz
            have hlow' : ∀ w, Calls Tryz.prog 125 #[.int .u8 95] w fun e w' => e = .returned (.int .u8 127) ∧ w' = w := fun w => by
              have := hlow w
              rw [h5] at this
              exact this
            rw [h5] at hc
            clear hacc hF ha hvl hvn h95 hlow hlet
            go_wp2_with (go_at_fn 125; refine (hlow' _).mono ?_; rintro e w' ⟨rfl, rfl⟩)
            all_goals go_ret2
            all_goals (first | exact ⟨rfl, KK.out⟩ | exact ⟨by rw [hdec]; rfl, KK.out⟩)
          · clear hacc hF ha hvl hvn h95
            rcases (by omega : z < 97 ∨ (102 < z ∧ z ≤ 122) ∨ 122 < z) with hz | ⟨hz, hz2⟩ | hz
            all_goals clear hlet
            all_goals go_wp2_with (go_at_fn 125; refine (hlow _).mono ?_; rintro e w' ⟨rfl, rfl⟩)
            all_goals go_ret2
            all_goals (first | exact ⟨rfl, KK.out⟩ | exact ⟨by rw [hdec]; rfl, KK.out⟩)
    · have hkk : k = t.size := by omega
      subst hkk
      have hF : hexM acc (l.drop t.size) = .ok acc := by rw [List.drop_eq_nil_of_le (by omega)]; rfl
      rw [hF] at hdec
      subst ha
      clear hacc hF a0 a1
      go_wp2
      go_ret2
      first | exact ⟨rfl, KK.out⟩ | exact ⟨by rw [hdec]; rfl, KK.out⟩

theorem pu_any (l : List UInt8) (hmax : l.length ≤ 9223372036854775806) (w : World) :
    Calls Tryz.prog 100 #[strV l, .int .i64 16, .int .i64 8] w fun e w' => e = .returned (uintTupleM 182 255 (hexR l)) ∧ Keeps Nothing w w' := by
  unfold hexR
  by_cases h : l = []
  · subst h
    refine (Tryz.internal_strconv_ParseUint_empty 16 8 w).mono ?_
    rintro e w' ⟨rfl, rfl⟩
    exact ⟨rfl, Keeps.refl _ _⟩
  · rw [if_neg h]
    exact pu_in l h hmax w

/-- What strconv.ParseUint at base 16, 8 bits comes to: the number, or some error. -/
def ParsedHex (l : List UInt8) (e : Ending) : Prop := match hexR l with
  | .ok n => e = .returned (.tuple #[.int .u64 n, .nilIface])
  | _ => ∃ x N, e = .returned (.tuple #[.int .u64 x, .iface 183 (.pointer (some ⟨N, 0, none⟩))])

set_option maxHeartbeats 4000000 in
set_option maxRecDepth 100000 in
theorem parseHex_ok (l : List UInt8) (hl : l.length ≤ 281474976710656) {w : World} (hg : Gl w) :
    Calls Tryz.prog 74 #[strV l, .int .i64 16, .int .i64 8] w fun e w' => ParsedHex l e ∧ Keeps Nothing w w' := by
  have e100 : ∀ args w, (callFunc 100 args).run Tryz.prog w = .ok (.enter 100 args) w := enters_of Tryz.func100 (by kernel_rfl) rfl
  have e76 : ∀ args w, (callFunc 76 args).run Tryz.prog w = .ok (.enter 76 args) w := enters_of Tryz.func76 (by kernel_rfl) rfl
  have hI := pu_any l (by omega) w
  unfold ParsedHex
  cases h : hexR l
  next n =>
    rw [h] at hI
    have hI : Calls Tryz.prog 100 #[strV l, .int .i64 16, .int .i64 8] w fun e w' => e = .returned (.tuple #[.int .u64 n, .nilIface]) ∧ Keeps Nothing w w' := hI
    go_enter Tryz.func74, Tryz.ntmps74
    go_wp2_with (go_at_fn 100; refine hI.mono ?_)
    rintro e w' ⟨rfl, k⟩
    have K := Lib.hid k
    clear k
    go_wp2
    go_ret2
    exact ⟨rfl, K.out⟩
  next =>
    rw [h] at hI
    have hI : Calls Tryz.prog 100 #[strV l, .int .i64 16, .int .i64 8] w fun e w' => e = .returned (.tuple #[.int .u64 0, .iface 182 (.int .i64 2)]) ∧ Keeps Nothing w w' := hI
    go_enter Tryz.func74, Tryz.ntmps74
    go_wp2_with (go_at_fn 100; refine hI.mono ?_)
    rintro e w' ⟨rfl, k⟩
    have K := Lib.hid k
    obtain ⟨tt, pp, hv⟩ := (hg.same k).es
    clear k
    go_wp2_with (go_at_fn 76; refine (Tryz.strconv_toError_syntax ⟨#[80, 97, 114, 115, 101, 85, 105, 110, 116]⟩ ⟨l.toArray⟩ 16 8 _ _ (by rw [str_size]; omega) hv (.inr ⟨tt, pp, rfl⟩)).mono ?_)
    rintro e w2 ⟨N, rfl, -, -, hb⟩
    have K2 := Lib.hid (keeps_below hb)
    clear hb hv
    go_wp2
    go_ret2
    exact ⟨⟨_, N, rfl⟩, K.out.same K2.out⟩
  next =>
    rw [h] at hI
    have hI : Calls Tryz.prog 100 #[strV l, .int .i64 16, .int .i64 8] w fun e w' => e = .returned (.tuple #[.int .u64 255, .iface 182 (.int .i64 1)]) ∧ Keeps Nothing w w' := hI
    go_enter Tryz.func74, Tryz.ntmps74
    go_wp2_with (go_at_fn 100; refine hI.mono ?_)
    rintro e w' ⟨rfl, k⟩
    have K := Lib.hid k
    obtain ⟨tt, pp, hv⟩ := (hg.same k).er
    clear k
    go_wp2_with (go_at_fn 76; refine (Tryz.strconv_toError_range ⟨#[80, 97, 114, 115, 101, 85, 105, 110, 116]⟩ ⟨l.toArray⟩ 16 8 _ _ (by rw [str_size]; omega) hv (.inr ⟨tt, pp, rfl⟩)).mono ?_)
    rintro e w2 ⟨N, rfl, -, -, hb⟩
    have K2 := Lib.hid (keeps_below hb)
    clear hb hv
    go_wp2
    go_ret2
    exact ⟨⟨_, N, rfl⟩, K.out.same K2.out⟩

end Go.Proofs.YtdncojofilnhnaaGreatDoor
