/- The sum's rows; what half a byte does to a sum. -/
import Derived.Test.YtmmeloklnkfjjaaCap7
namespace Go.Proofs.Ytmmeloklnkfjjaa
open Go.RowKit

theorem wrap_u32' (x : Int) : IntKind.u32.wrap x = x % 4294967296 := by simp [IntKind.wrap, IntKind.signed, IntKind.bits]
theorem wrap_u8' (x : Int) : IntKind.u8.wrap x = x % 256 := by simp [IntKind.wrap, IntKind.signed, IntKind.bits]

theorem bits_xor_u32 (a b : Nat) (ha : a < 4294967296) (hb : b < 4294967296) : bits .xor .u32 (a : Int) (b : Int) = ((a ^^^ b : Nat) : Int) := by
  have hx : a ^^^ b < 2 ^ 32 := Nat.xor_lt_two_pow (by omega) (by omega)
  have h1 : (BitVec.ofInt 32 (a : Int)).toNat = a := by
    rw [BitVec.ofInt_natCast, BitVec.toNat_ofNat]; exact Nat.mod_eq_of_lt (by omega)
  have h2 : (BitVec.ofInt 32 (b : Int)).toNat = b := by
    rw [BitVec.ofInt_natCast, BitVec.toNat_ofNat]; exact Nat.mod_eq_of_lt (by omega)
  show IntKind.u32.wrap ((BitVec.ofInt 32 (a : Int) ^^^ BitVec.ofInt 32 (b : Int)).toNat : Int) = _
  rw [BitVec.toNat_xor, h1, h2, wrap_u32']
  omega

theorem bits_and_u32 (a b : Nat) (ha : a < 4294967296) (hb : b < 4294967296) : bits .and .u32 (a : Int) (b : Int) = ((a &&& b : Nat) : Int) := by
  have hx : a &&& b < 2 ^ 32 := Nat.and_lt_two_pow _ (by omega)
  have h1 : (BitVec.ofInt 32 (a : Int)).toNat = a := by
    rw [BitVec.ofInt_natCast, BitVec.toNat_ofNat]; exact Nat.mod_eq_of_lt (by omega)
  have h2 : (BitVec.ofInt 32 (b : Int)).toNat = b := by
    rw [BitVec.ofInt_natCast, BitVec.toNat_ofNat]; exact Nat.mod_eq_of_lt (by omega)
  show IntKind.u32.wrap ((BitVec.ofInt 32 (a : Int) &&& BitVec.ofInt 32 (b : Int)).toNat : Int) = _
  rw [BitVec.toNat_and, h1, h2, wrap_u32']
  omega

theorem bits_xor_u8 (a b : Nat) (ha : a < 256) (hb : b < 256) : bits .xor .u8 (a : Int) (b : Int) = ((a ^^^ b : Nat) : Int) := by
  have hx : a ^^^ b < 2 ^ 8 := Nat.xor_lt_two_pow (by omega) (by omega)
  have h1 : (BitVec.ofInt 8 (a : Int)).toNat = a := by
    rw [BitVec.ofInt_natCast, BitVec.toNat_ofNat]; exact Nat.mod_eq_of_lt (by omega)
  have h2 : (BitVec.ofInt 8 (b : Int)).toNat = b := by
    rw [BitVec.ofInt_natCast, BitVec.toNat_ofNat]; exact Nat.mod_eq_of_lt (by omega)
  show IntKind.u8.wrap ((BitVec.ofInt 8 (a : Int) ^^^ BitVec.ofInt 8 (b : Int)).toNat : Int) = _
  rw [BitVec.toNat_xor, h1, h2, wrap_u8']
  omega

theorem bits_and_u8 (a b : Nat) (ha : a < 256) (hb : b < 256) : bits .and .u8 (a : Int) (b : Int) = ((a &&& b : Nat) : Int) := by
  have hx : a &&& b < 2 ^ 8 := Nat.and_lt_two_pow _ (by omega)
  have h1 : (BitVec.ofInt 8 (a : Int)).toNat = a := by
    rw [BitVec.ofInt_natCast, BitVec.toNat_ofNat]; exact Nat.mod_eq_of_lt (by omega)
  have h2 : (BitVec.ofInt 8 (b : Int)).toNat = b := by
    rw [BitVec.ofInt_natCast, BitVec.toNat_ofNat]; exact Nat.mod_eq_of_lt (by omega)
  show IntKind.u8.wrap ((BitVec.ofInt 8 (a : Int) &&& BitVec.ofInt 8 (b : Int)).toNat : Int) = _
  rw [BitVec.toNat_and, h1, h2, wrap_u8']
  omega

def rstep (n : Nat) : Nat := if n % 2 = 1 then (n / 2) ^^^ 3988292384 else n / 2
def rit : Nat → Nat → Nat
  | 0, n => n
  | m + 1, n => rstep (rit m n)
def rowN (i : Nat) : Nat := rit 4 i

theorem rstep_lt {n : Nat} (h : n < 4294967296) : rstep n < 4294967296 := by
  unfold rstep
  split
  · have := Nat.xor_lt_two_pow (n := 32) (x := n / 2) (y := 3988292384) (by omega) (by omega)
    omega
  · omega

theorem rit_lt {n : Nat} (h : n < 4294967296) : ∀ m, rit m n < 4294967296
  | 0 => h
  | m + 1 => rstep_lt (rit_lt h m)

def RowInv (w : World) (k : Nat) (i : Value) (wr : World) : Prop :=
  ∃ j : Nat, j + k = 16 ∧ i = .int .i64 (j : Nat) ∧ Blk wr w.heap.size (arrV .u32 16 fun _ => 0) 80 ∧ Blk wr (w.heap.size + 1) (arrV .u32 16 fun c => if c < j then ((rowN c : Nat) : Int) else 0) 80 ∧ Keeps Nothing w wr

def RowsRes (w : World) (e : Ending) (w' : World) : Prop := e = .returned (.agg (arrV .u32 16 fun c => ((rowN c : Nat) : Int)).toArray) ∧ Keeps Nothing w w'

set_option maxRecDepth 100000 in
set_option maxHeartbeats 8000000 in
theorem rows_ok {w : World} : Calls Try.prog 39 #[] w (RowsRes w) := by
  go_enter Try.func39, Try.ntmps39
  go_wp2_with fail
  go_loopg [4] 16 (fun k i wr => RowInv w k i wr)
  case atStart =>
    refine ⟨0, by omega, rfl, (Blk.new w (arrV .u32 16 fun _ => 0) 80).alloc _, ?_, ((Keeps.refl _ _).alloc _).alloc _⟩
    have := Blk.new (w.alloc (.cells (arrV .u32 16 fun _ => 0).toArray 80)) (arrV .u32 16 fun c => if c < 0 then ((rowN c : Nat) : Int) else 0) 80
    have hs : (w.alloc (.cells (arrV .u32 16 fun _ => 0).toArray 80)).heap.size = w.heap.size + 1 := by simp
    rw [hs] at this
    exact this
  case round =>
    obtain ⟨j, hj, rfl, hz, hv, hk⟩ := hrel
    have HK := Lib.hid hk
    have HZ := Lib.hid hz
    have HV := Lib.hid hv
    by_cases hlt : j < 16
    · have v1 : wr.cell? ⟨w.heap.size + 1, j, none⟩ = some (.int .u32 0) := by
        have := hv.cell j
        rw [arrV_get _ _ _ _ hlt, if_neg (Nat.lt_irrefl _)] at this
        exact this
      have v2 : wr.frozen? ⟨w.heap.size + 1, j, none⟩ = false := hv.frozen j
      clear hz hv hk
      obtain ⟨wo, rfl⟩ : ∃ wo, wo = wr := ⟨_, rfl⟩
      obtain ⟨gO, rfl⟩ : ∃ g, g = gk := ⟨_, rfl⟩
      go_wp2_with fail
      go_loopg [3, 9] 4 (fun k n i wx => ∃ m : Nat, ∃ x : Nat, n = .int .u32 (x : Nat) ∧ x < 4294967296 ∧ x = rit m j ∧ m + k = 4 ∧ i = .int .i64 (m : Nat) ∧ wx = wo)
      case atStart => exact ⟨0, j, rfl, by omega, rfl, by omega, rfl, rfl⟩
      case round =>
        obtain ⟨m, x, rfl, hx, hxe, hm, rfl, rfl⟩ := hrel
        have HX := Lib.hid hxe
        clear hxe
        by_cases hlt2 : m < 4
        · have hand : bits .and .u32 (x : Int) 1 = ((x % 2 : Nat) : Int) := by
            have := bits_and_u32 x 1 hx (by omega)
            rw [Nat.and_one_is_mod] at this
            exact this
          have hlt3 := Lib.hid (rstep_lt hx)
          by_cases hodd : x % 2 = 1
          · have hb : (bits .and .u32 (x : Int) 1 == 1) = true := by rw [hand, hodd]; rfl
            have hxor : bits .xor .u32 ((x : Int) / 2) 3988292384 = ((rstep x : Nat) : Int) := by
              have := bits_xor_u32 (x / 2) 3988292384 (by omega) (by omega)
              unfold rstep
              rw [if_pos hodd]
              exact this
            have HXor := Lib.hid hxor
            clear hand hxor
            go_wp2_with fail
            go_roundg (gk - 1)
            case measure => omega
            case rel => exact ⟨m + 1, rstep x, by rw [HXor.out], hlt3.out, by rw [HX.out]; rfl, by omega, by go_num, rfl⟩
          · have hb : (bits .and .u32 (x : Int) 1 == 1) = false := by
              rw [hand, show x % 2 = 0 by omega]; rfl
            have hr : ((x : Int) / 2) = ((rstep x : Nat) : Int) := by
              unfold rstep
              rw [if_neg hodd]
              rfl
            have HXor := Lib.hid hr
            clear hand hr
            go_wp2_with fail
            go_roundg (gk - 1)
            case measure => omega
            case rel => exact ⟨m + 1, rstep x, by rw [HXor.out], hlt3.out, by rw [HX.out]; rfl, by omega, by go_num, rfl⟩
        · obtain rfl : m = 4 := by omega
          go_wp2_with fail
          go_roundg (gO - 1)
          case measure => omega
          case rel =>
            refine ⟨j + 1, by omega, by go_num, HZ.out.set_ne _ _ (by simp), ?_, HK.out.setCell (p := ⟨w.heap.size + 1, j, none⟩) (fun h => by simp at h; omega) _⟩
            have h := HV.out.set j (.int .u32 ((x : Nat) : Int))
            rw [arrV_set] at h
            have e : arrV .u32 16 (fun c => if c < j + 1 then ((rowN c : Nat) : Int) else 0) = arrV .u32 16 (fun i => if i = j then ((x : Nat) : Int) else if i < j then ((rowN i : Nat) : Int) else 0) := by
              apply List.map_congr_left
              intro i hi
              by_cases hij : i = j
              · subst hij
                simp only [if_true, Nat.lt_succ_self]
                rw [HX.out]
                rfl
              · simp only [if_neg hij]
                by_cases hlt : i < j
                · rw [if_pos hlt, if_pos (by omega)]
                · rw [if_neg hlt, if_neg (by omega)]
            rw [e]
            exact h
    · obtain rfl : j = 16 := by omega
      have he : arrV .u32 16 (fun c => if c < 16 then ((rowN c : Nat) : Int) else 0) = arrV .u32 16 (fun c => ((rowN c : Nat) : Int)) := by
        apply List.map_congr_left
        intro i hi
        simp at hi
        simp only
        rw [if_pos hi]
      rw [he] at HV
      clear hz hv hk he
      have hone := arrV_one .u32 16 (fun c => ((rowN c : Nat) : Int))
      have hlen := arrV_length .u32 16 (fun c => ((rowN c : Nat) : Int))
      have hlen0 := arrV_length .u32 16 (fun _ => 0)
      have hi80 : (Try.prog.info? 80).map (·.size) = some 16 := by kernel_rfl
      generalize hcs : (arrV .u32 16 fun c => ((rowN c : Nat) : Int)) = cs at *
      have HCS := Lib.hid hcs
      generalize (arrV .u32 16 fun _ => 0) = zs at *
      have h1 : (Try.prog.info? 80).map (·.size) = some cs.toArray.size := by rw [hi80, List.size_toArray, hlen]
      have h2 : zs.toArray.size = cs.toArray.size := by rw [List.size_toArray, List.size_toArray, hlen, hlen0]
      have H1 := Lib.hid h1
      have H2 := Lib.hid h2
      have HO := Lib.hid hone
      clear hone hlen hlen0 hi80 h1 h2 hcs
      go_wp2_with (first | (refine wpList_load_row rfl 80 (.tmp 1) rfl (w.heap.size + 1) rfl 80 cs.toArray (0, 0) _ HV.out Try.underlying80 rfl H1.out ?_) | (refine wpList_store_row rfl 80 (.tmp 0) (.tmp 24) rfl w.heap.size cs.toArray rfl rfl 80 zs.toArray HZ.out H1.out H2.out HO.out ?_))
      refine bodyPost_ret (results_cell_row rfl _ _ w.heap.size 80 cs.toArray (0, 0) _ rfl (setRow_blk HZ.out) Try.underlying80 rfl H1.out) rfl ?_
      exact ⟨by rw [HCS.out], HK.out.up (setRow_keeps _ _ _) (fun x hx => by omega)⟩

end Go.Proofs.Ytmmeloklnkfjjaa
