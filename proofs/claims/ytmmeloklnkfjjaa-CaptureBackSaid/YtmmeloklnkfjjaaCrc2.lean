/- The sum of bytes. -/
import Derived.Test.YtmmeloklnkfjjaaCrc
namespace Go.Proofs.Ytmmeloklnkfjjaa
open Go.RowKit

def nib (n x : Nat) : Nat := rowN ((n % 16) ^^^ x) ^^^ (n / 16)
def crcB (n : Nat) (x : UInt8) : Nat := nib (nib n (x.toNat % 16)) (x.toNat / 16)
def crcR (bs : Bytes) : Nat := bs.foldl crcB 4294967295
def sumN (bs : Bytes) : Nat := 4294967295 ^^^ crcR bs

theorem rowN_lt {i : Nat} (h : i < 16) : rowN i < 4294967296 := rit_lt (by omega) 4

theorem xor16 {a b : Nat} (ha : a < 16) (hb : b < 16) : a ^^^ b < 16 := by
  have := Nat.xor_lt_two_pow (n := 4) (x := a) (y := b) (by omega) (by omega)
  omega

theorem nib_lt {n x : Nat} (hn : n < 4294967296) (hx : x < 16) : nib n x < 4294967296 := by
  have h1 := rowN_lt (xor16 (a := n % 16) (b := x) (by omega) hx)
  have := Nat.xor_lt_two_pow (n := 32) (x := rowN ((n % 16) ^^^ x)) (y := n / 16) (by omega) (by omega)
  unfold nib
  omega

theorem crcB_lt {n : Nat} (hn : n < 4294967296) (x : UInt8) : crcB n x < 4294967296 := by
  have h := x.toNat_lt
  exact nib_lt (nib_lt hn (by omega)) (by omega)

theorem foldl_lt : ∀ (bs : Bytes) {n : Nat}, n < 4294967296 → bs.foldl crcB n < 4294967296
  | [], _, h => h
  | x :: bs, _, h => foldl_lt bs (crcB_lt h x)

theorem crcR_lt (bs : Bytes) : crcR bs < 4294967296 := foldl_lt bs (by omega)

theorem SlR.byte {w : World} {A : Option Addr} {n c : Nat} {bs : Bytes} (h : SlR w (.slice A n c) (bcells bs)) {j : Nat} (hj : j < bs.length) :
    ∃ ad x, A = some ad ∧ bs[j]? = some x ∧ w.cell? (ad.add j) = some (.int .u8 x.toNat) := by
  rcases h with ⟨c', _, hn⟩ | ⟨ad, c', h1, h2, h3⟩
  · have : bs = [] := by simpa [bcells] using hn
    subst this
    simp at hj
  · injection h1 with h1
    refine ⟨ad, bs[j], h1, List.getElem?_eq_getElem hj, h3 j _ ?_⟩
    simp [bcells, hj]

def SumInv (w : World) (bs : Bytes) (k : Nat) (n i : Value) (wr : World) : Prop :=
  ∃ (j : Nat) (x : Nat), j + k = bs.length ∧ i = .int .i64 (j : Nat) ∧ n = .int .u32 (x : Nat) ∧ x < 4294967296 ∧ x = (bs.take j).foldl crcB 4294967295 ∧ wr = w

def SumOut (w : World) (tb : Nat) (bs : Bytes) (k : Nat) (n i : Value) (wr : World) : Prop :=
  ∃ (j : Nat) (x : Nat), j + k = 1 ∧ i = .int .i64 (j : Nat) ∧ n = .int .u32 (x : Nat) ∧ x < 4294967296 ∧ x = (if j = 0 then 4294967295 else crcR bs) ∧ Blk wr tb (arrV .u32 16 fun c => ((rowN c : Nat) : Int)) 80 ∧ Keeps Nothing w wr

set_option maxRecDepth 100000 in
set_option maxHeartbeats 8000000 in
theorem sum_ok {w : World} {g : Nat} {A : Option Addr} {c : Nat} {bs : Bytes} (hc : w.cell? ⟨g, 0, none⟩ = some (.slice A bs.length c)) (hs : SlR w (.slice A bs.length c) (bcells bs)) (hl : bs.length ≤ 9223372036854775807) :
    Calls Try.prog 32 #[.slice (some ⟨g, 0, none⟩) 1 1] w (fun e w' => e = .returned (.int .u32 (sumN bs : Nat)) ∧ Keeps Nothing w w') := by
  have HS := Lib.hid hs
  clear hs
  have HC := Lib.hid hc
  have hgl := World.block_lt_of_cell? _ _ hc
  simp only at hgl
  clear hc
  have h1 : (Try.prog.info? 80).map (·.size) = some (arrV .u32 16 fun c => ((rowN c : Nat) : Int)).toArray.size := by
    rw [List.size_toArray, arrV_length]; kernel_rfl
  have h2 : (arrV .u32 16 fun _ => 0).toArray.size = (arrV .u32 16 fun c => ((rowN c : Nat) : Int)).toArray.size := by
    rw [List.size_toArray, List.size_toArray, arrV_length, arrV_length]
  have H1 := Lib.hid h1
  have H2 := Lib.hid h2
  clear h1 h2
  go_enter Try.func32, Try.ntmps32
  go_wp2_with (first | (go_at_call 39; refine rows_ok.mono ?_; rintro e w1 ⟨rfl, k1⟩) | (refine wpList_store_row rfl 80 (.tmp 3) (.tmp 9) rfl w1.heap.size (arrV .u32 16 fun c => ((rowN c : Nat) : Int)).toArray rfl rfl 80 (arrV .u32 16 fun _ => 0).toArray (Blk.new w1 (arrV .u32 16 fun _ => 0) 80) H1.out H2.out (arrV_one _ _ _) ?_))
  have HT := Lib.hid (setRow_blk (cs' := arrV .u32 16 fun c => ((rowN c : Nat) : Int)) (Blk.new w1 (arrV .u32 16 fun _ => 0) 80))
  have HK := Lib.hid ((k1.alloc (.cells (arrV .u32 16 fun _ => 0).toArray 80)).up (setRow_keeps _ w1.heap.size (arrV .u32 16 fun c => ((rowN c : Nat) : Int)).toArray) (fun x hx => by have := k1.size; omega))
  go_loopg [4, 12] 1 (fun k n i wr => SumOut w w1.heap.size bs k n i wr)
  case atStart => exact ⟨0, 4294967295, by omega, rfl, rfl, by omega, rfl, HT.out, HK.out⟩
  case round =>
    clear HT HK H1 H2
    obtain ⟨j, x, hj, rfl, rfl, hx, hxe, ht, hk⟩ := hrel
    have HX := Lib.hid hxe
    have HT := Lib.hid ht
    have HK := Lib.hid hk
    by_cases hj0 : j = 0
    · subst hj0
      have hc1 : wr.cell? ⟨g, 0, none⟩ = some (.slice A bs.length c) := (hk.cell (p := ⟨g, 0, none⟩) hgl (fun h => h)).trans HC.out
      have HSR := Lib.hid (HS.out.same hk)
      clear hxe ht hk
      obtain ⟨wo, rfl⟩ : ∃ wo, wo = wr := ⟨_, rfl⟩
      obtain ⟨gO, rfl⟩ : ∃ g, g = gk := ⟨_, rfl⟩
      go_wp2_with fail
      go_loopg [4, 18] bs.length (fun k n i wx => SumInv wo bs k n i wx)
      case atStart => exact ⟨0, x, by omega, rfl, rfl, hx, HX.out, rfl⟩
      case round =>
        obtain ⟨m, n, hm, rfl, rfl, hn, hne, rfl⟩ := hrel
        have HN := Lib.hid hne
        clear hne
        by_cases hlt : m < bs.length
        · obtain ⟨ad, y, rfl, hy, hcell⟩ := HSR.out.byte hlt
          have HY := Lib.hid hy
          have hy8 := y.toNat_lt
          clear hy
          obtain ⟨i1, hi1⟩ : ∃ i, i = (n % 16) ^^^ (y.toNat % 16) := ⟨_, rfl⟩
          have b1 : i1 < 16 := by rw [hi1]; exact xor16 (by omega) (by omega)
          have x1 : bits .xor .u8 ((n : Int) % 16) ((y.toNat : Int) % 16) = ((i1 : Nat) : Int) := by
            rw [hi1]; exact bits_xor_u8 (n % 16) (y.toNat % 16) (by omega) (by omega)
          have t1 : wr.cell? ⟨w1.heap.size, i1, none⟩ = some (.int .u32 ((rowN i1 : Nat) : Int)) := by
            have := HT.out.cell i1
            rw [arrV_get _ _ _ _ b1] at this
            exact this
          have l1 := rowN_lt b1
          obtain ⟨n1, hn1⟩ : ∃ m, m = rowN i1 ^^^ (n / 16) := ⟨_, rfl⟩
          have y1 : bits .xor .u32 ((rowN i1 : Nat) : Int) ((n : Int) / 16) = ((n1 : Nat) : Int) := by
            rw [hn1]; exact bits_xor_u32 (rowN i1) (n / 16) l1 (by omega)
          have e1 : n1 = nib n (y.toNat % 16) := by rw [hn1, hi1]; rfl
          have z1 : n1 < 4294967296 := by rw [e1]; exact nib_lt hn (by omega)
          obtain ⟨i2, hi2⟩ : ∃ i, i = (n1 % 16) ^^^ (y.toNat / 16) := ⟨_, rfl⟩
          have b2 : i2 < 16 := by rw [hi2]; exact xor16 (by omega) (by omega)
          have x2 : bits .xor .u8 ((n1 : Int) % 16) ((y.toNat : Int) / 16) = ((i2 : Nat) : Int) := by
            rw [hi2]; exact bits_xor_u8 (n1 % 16) (y.toNat / 16) (by omega) (by omega)
          have t2 : wr.cell? ⟨w1.heap.size, i2, none⟩ = some (.int .u32 ((rowN i2 : Nat) : Int)) := by
            have := HT.out.cell i2
            rw [arrV_get _ _ _ _ b2] at this
            exact this
          have l2 := rowN_lt b2
          obtain ⟨n2, hn2⟩ : ∃ m, m = rowN i2 ^^^ (n1 / 16) := ⟨_, rfl⟩
          have y2 : bits .xor .u32 ((rowN i2 : Nat) : Int) ((n1 : Int) / 16) = ((n2 : Nat) : Int) := by
            rw [hn2]; exact bits_xor_u32 (rowN i2) (n1 / 16) l2 (by omega)
          have e2 : n2 = crcB n y := by rw [hn2, hi2, e1]; rfl
          have z2 : n2 < 4294967296 := by rw [e2]; exact crcB_lt hn y
          have E2 := Lib.hid e2
          clear hi1 hn1 hi2 hn2 e1 e2
          generalize rowN i1 = r1 at *
          generalize rowN i2 = r2 at *
          go_wp2_with fail
          go_roundg (gk - 1)
          case measure => omega
          case rel =>
            refine ⟨m + 1, n2, by omega, by go_num, rfl, z2, ?_, rfl⟩
            rw [take_snoc' HY.out, List.foldl_append, ← HN.out, E2.out]
            rfl
        · obtain rfl : m = bs.length := by omega
          go_wp2_with fail
          go_roundg (gO - 1)
          case measure => omega
          case rel =>
            refine ⟨1, n, by omega, by go_num, rfl, hn, ?_, HT.out, HK.out⟩
            rw [HN.out, List.take_length]
            rfl
    · obtain rfl : j = 1 := by omega
      clear hxe ht hk
      have hsg : IntKind.u32.signed = false := rfl
      have hxr : bits .xor .u32 IntKind.u32.max ((x : Nat) : Int) = ((sumN bs : Nat) : Int) := by
        have h := bits_xor_u32 4294967295 x (by omega) hx
        have e : x = crcR bs := HX.out
        unfold sumN
        rw [← e]
        exact h
      have HXR := Lib.hid hxr
      clear hxr
      go_wp2_with fail
      go_ret
      exact ⟨by rw [← HXR.out]; rfl, HK.out⟩

end Go.Proofs.Ytmmeloklnkfjjaa
