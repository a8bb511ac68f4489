/- script.Hex: the walk. -/
import Derived.Test.YtdncojofilnhnaaGreatDoorHexR
namespace Go.Proofs.YtdncojofilnhnaaGreatDoor
open Go.RowKit Go.Lib

theorem write_byte (B b : Nat) (bs : List Value) (c : Int) (w : World) (h : Lib.IsBuilder 130 5 B b bs w) (hlen : bs.length + 1 ≤ 140737488355328) (hBw : B ≤ w.heap.size) :
    Calls Tryz.prog 65 #[.pointer (some ⟨b, 0, none⟩), .int .u8 c] w fun e w' => e = .returned .nilIface ∧ (Lib.BuilderAt 130 5 B b (.pointer (some ⟨b, 0, none⟩)) (bs ++ [.int .u8 c]) w' ∧ Below B w w') :=
  Any.Builder_WriteByte (ρ := Tryz.lays159_ren) { Tryz.lays159 with } Tryz.Builder_Extra_159 B b bs c w h hlen hBw

theorem hexS_snoc (a : Str) (c : UInt8) : hexS (a ++ [c]) = hexS a ++ hexB c := by
  induction a with
  | nil => simp [hexS]
  | cons x r ih => simp [hexS, ih]

theorem hexS_take {b : Str} {k : Nat} {c : UInt8} (h : b[k]? = some c) : hexS (b.take (k + 1)) = hexS (b.take k) ++ hexB c := by
  rw [List.take_add_one, h]; exact hexS_snoc _ _

theorem keeps_of_below {w a b : World} (h : Keeps Nothing w a) (hb : Below w.heap.size a b) : Keeps Nothing w b :=
  h.up (Keeps.ofBelow hb) (fun k hk => hk)

set_option maxRecDepth 100000 in
set_option maxHeartbeats 8000000 in
theorem hex_ok (b : Str) (hb : b.length ≤ 35184372088832) (v : Value) (w : World) (hR : SlR w v (bcells b)) :
    Calls Tryz.prog 35 #[v] w fun ev w' => ev = .returned (strV (hexS b)) ∧ Keeps Nothing w w' := by
  obtain ⟨A, n, c, rfl, hn, hcell⟩ : ∃ A n c, v = .slice A n c ∧ n = b.length ∧ ∀ k x, b[k]? = some x → ∃ ad, A = some ad ∧ ∀ w', Keeps Nothing w w' → w'.cell? (ad.add k) = some (.int .u8 (x.toNat : Nat)) := by
    rcases hR with ⟨c, rfl, hnil⟩ | ⟨ad, c, rfl, hc, hr⟩
    · have hb0 : b = [] := by simpa [bcells] using hnil
      subst hb0
      exact ⟨_, _, _, rfl, rfl, fun k x h => by simp at h⟩
    · refine ⟨_, _, _, rfl, by simp, fun k x h => ⟨ad, rfl, fun w' hk => ?_⟩⟩
      have hu : (bcells b)[k]? = some (.int .u8 (x.toNat : Nat)) := by simp [bcells, h]
      have := hr k _ hu
      rw [hk.cell (World.block_lt_of_cell? w _ this) (fun h => h)]
      exact this
  have HC := Lib.hid hcell
  subst hn
  clear hcell hR
  have K1 : Hid (Keeps Nothing w (w.alloc (.cells #[.pointer none, .slice none 0 0] 130))) := Lib.hid ((Keeps.refl _ _).alloc _)
  have HB1 : Hid (Lib.IsBuilder 130 5 w.heap.size w.heap.size [] (w.alloc (.cells #[.pointer none, .slice none 0 0] 130))) :=
    Lib.hid (.inl ⟨Nat.le_refl _, .slice none 0 0, heap_alloc_new w _, World.ownsRow_nil _ _ _ _, by simp [Value.ownBlock]⟩)
  go_enter Tryz.func35, Tryz.ntmps35
  go_wp2
  generalize (w.alloc (.cells #[.pointer none, .slice none 0 0] 130)) = w1 at *
  go_loopw [8] (fun vi wr => ∃ k : Nat, vi = .int .i64 k ∧ k ≤ b.length ∧ Hid (Lib.IsBuilder 130 5 w.heap.size w.heap.size (Lib.byteCells (hexS (b.take k))) wr) ∧ Hid (Keeps Nothing w wr)) (fun vi _ => b.length - (RowKit.intOf vi).toNat)
  case atStart => exact ⟨0, rfl, Nat.zero_le _, HB1, K1⟩
  case round =>
    obtain ⟨k, rfl, hk, HB, HK⟩ := hrel
    by_cases hkn : k < b.length
    · obtain ⟨ch, hch⟩ : ∃ ch, b[k]? = some ch := ⟨_, List.getElem?_eq_getElem hkn⟩
      obtain ⟨ad, rfl, hcl⟩ := HC.out k ch hch
      have hcell := hcl wr HK.out
      have HT := Lib.hid (hexS_take hch)
      have hlt : ch.toNat < 256 := ch.toNat_lt
      have hlen : (hexS (b.take k)).length = 2 * k := by rw [hexS_len, List.length_take]; omega
      obtain ⟨x, hx⟩ : ∃ x : Int, x = (ch.toNat : Nat) := ⟨_, rfl⟩
      have hx0 : 0 ≤ x := by omega
      have hx1 : x ≤ 255 := by omega
      have hxn : x.toNat = ch.toNat := by omega
      rw [← hx] at hcell
      have hI1 : ∀ w, (Instr.index 9 (.string ⟨#[48, 49, 50, 51, 52, 53, 54, 55, 56, 57, 97, 98, 99, 100, 101, 102]⟩) (.int .u8 (x / 16))).run Tryz.prog w = .ok (.int .u8 ((hexD (ch.toNat / 16)).toNat : Nat)) w := fun w => by
        have := hex_index (ch.toNat / 16) (by omega) w
        rw [show ((ch.toNat / 16 : Nat) : Int) = x / 16 by omega] at this
        exact this
      have hI2 : ∀ w, (Instr.index 9 (.string ⟨#[48, 49, 50, 51, 52, 53, 54, 55, 56, 57, 97, 98, 99, 100, 101, 102]⟩) (.int .u8 (x % 16))).run Tryz.prog w = .ok (.int .u8 ((hexD (ch.toNat % 16)).toNat : Nat)) w := fun w => by
        have := hex_index (ch.toNat % 16) (by omega) w
        rw [show ((ch.toNat % 16 : Nat) : Int) = x % 16 by omega] at this
        exact this
      have HE : Hid (Lib.byteCells (hexS (b.take (k + 1))) = (Lib.byteCells (hexS (b.take k)) ++ [.int .u8 ((hexD (ch.toNat / 16)).toNat : Nat)]) ++ [.int .u8 ((hexD (ch.toNat % 16)).toNat : Nat)]) := by
        show _ = _
        rw [HT.out]
        simp [Lib.byteCells, hexB]
      obtain ⟨d1, hd1⟩ : ∃ d1, d1 = (hexD (ch.toNat / 16)).toNat := ⟨_, rfl⟩
      obtain ⟨d2, hd2⟩ := (⟨_, rfl⟩ : ∃ d2, d2 = (hexD (ch.toNat % 16)).toNat)
      rw [← hd1] at hI1 HE
      rw [← hd2] at hI2 HE
      have hbl : (Lib.byteCells (hexS (b.take k))).length = 2 * k := by rw [Lib.byteCells_length, hlen]
      have HW1 := Lib.hid (write_byte w.heap.size w.heap.size _ (d1 : Nat) wr HB.out (by omega) HK.out.size)
      have HW2 := Lib.hid (fun (w2 : World) (h : Lib.BuilderAt 130 5 w.heap.size w.heap.size (.pointer (some ⟨w.heap.size, 0, none⟩)) (Lib.byteCells (hexS (b.take k)) ++ [.int .u8 (d1 : Nat)]) w2) (hs : w.heap.size ≤ w2.heap.size) => Lib.hid (write_byte w.heap.size w.heap.size _ (d2 : Nat) w2 (.inr h) (by rw [List.length_append, hbl]; simp; omega) hs))
      have t1 : True := trivial
      clear hcl hch hd1 hd2 hbl hlen hxn hx HB HC HT
      go_upto_region 6 with (go_at_call 65; refine HW1.out.mono ?_; rintro e w2 ⟨rfl, hb2, hk2⟩; have HB2 := Lib.hid hb2; have HK2 := Lib.hid (keeps_of_below HK.out hk2); clear hb2 hk2)
      have HW3 := HW2.out _ HB2.out HK2.out.size
      clear HW1 HW2 HB2 hcell
      go_wp2_with (go_at_call 65; refine HW3.out.mono ?_; rintro e w3 ⟨rfl, hb3, hk3⟩; have HB3 := Lib.hid hb3; have HK3 := Lib.hid (keeps_of_below HK2.out hk3); clear hb3 hk3)
      refine ⟨⟨k + 1, by go_num, by omega, ?_, HK3⟩, by simp [RowKit.intOf]; omega⟩
      exact Lib.hid (.inr (by rw [HE.out]; exact HB3.out))
    · have hk2 : k = b.length := by omega
      subst hk2
      rw [List.take_length] at HB
      have HS := Lib.hid (Tryz.Builder_String_any w.heap.size w.heap.size (hexS b) wr HB.out HK.out.size)
      clear HB
      go_wp2_with (go_at_call 66; refine HS.out.mono ?_; rintro e w2 ⟨rfl, hk2⟩; have HK2 := Lib.hid (keeps_of_below HK.out hk2); clear hk2)
      go_ret
      exact ⟨rfl, HK2.out⟩
end Go.Proofs.YtdncojofilnhnaaGreatDoor
