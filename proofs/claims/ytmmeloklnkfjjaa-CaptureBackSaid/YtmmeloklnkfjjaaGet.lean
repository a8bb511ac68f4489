/- The number of so many bytes: Get. -/
import Derived.Test.YtmmeloklnkfjjaaOpen
import Derived.Laws.Bits64b
namespace Go.Proofs.Ytmmeloklnkfjjaa
open Go.RowKit

def ofBE (l : Bytes) : Nat := l.foldl (fun n x => n * 256 + x.toNat) 0

theorem ofBE_snoc (l : Bytes) (x : UInt8) : ofBE (l ++ [x]) = ofBE l * 256 + x.toNat := by simp [ofBE]

theorem snoc_cases {α : Type} (l : List α) (h : l ≠ []) : ∃ k x, l = k ++ [x] := ⟨l.dropLast, l.getLast h, (List.dropLast_concat_getLast h).symm⟩

theorem ofBE_lt (l : Bytes) : ofBE l < 256 ^ l.length := by
  generalize hn : l.length = n
  induction n generalizing l with
  | zero =>
    have : l = [] := List.eq_nil_of_length_eq_zero hn
    subst this
    simp [ofBE]
  | succ n ih =>
    obtain ⟨k, x, rfl⟩ := snoc_cases l (fun h => by rw [h] at hn; simp at hn)
    have := ih k (by simpa using hn)
    have hx := x.toNat_lt
    rw [ofBE_snoc, Nat.pow_succ]
    omega

theorem or_add (n x : Nat) (hx : x < 256) : n * 256 ||| x = n * 256 + x := by
  have := Nat.two_pow_add_eq_or_of_lt (i := 8) (b := x) (by omega) n
  rw [Nat.mul_comm]
  exact this.symm

def getR (bs : Bytes) (at' size : Nat) : Nat × Nat := if bs.length - at' < size then (0, 2) else (ofBE ((bs.drop at').take size), 0)

def GetInv (w : World) (l : Bytes) (k : Nat) (n i : Value) (wr : World) : Prop :=
  ∃ (j x : Nat), j + k = l.length ∧ i = .int .i64 (j : Nat) ∧ n = .int .u64 (x : Nat) ∧ x = ofBE (l.take j) ∧ wr = w

set_option maxRecDepth 100000 in
set_option maxHeartbeats 8000000 in
theorem get_ok {w : World} {g c : Nat} {bs : Bytes} (hs : SlR w (.slice (some ⟨g, 0, none⟩) bs.length c) (bcells bs)) (hl : bs.length ≤ 1000000000) (hc : bs.length ≤ c) (at' size : Nat) (ha : at' ≤ bs.length) (h1 : 1 ≤ size) (h8 : size ≤ 8)
    (r e : Nat) (hr : getR bs at' size = (r, e)) :
    Calls Try.prog 33 #[.slice (some ⟨g, 0, none⟩) bs.length c, .int .i64 (at' : Nat), .int .i64 (size : Nat)] w (fun e' w' => e' = .returned (.tuple #[.int .u64 (r : Nat), .int .i64 (e : Nat)]) ∧ w' = w) := by
  have HS := Lib.hid hs
  clear hs
  have a1 : decide ((size : Int) < 1) = false := by simp; omega
  have a2 : decide ((8 : Int) < (size : Int)) = false := by simp; omega
  have a3 : decide ((at' : Int) < 0) = false := by simp
  have a4 : decide ((bs.length : Int) < (at' : Int)) = false := by simp; omega
  unfold getR at hr
  by_cases hb : (bs.length : Int) - at' < size
  · rw [if_pos (by omega)] at hr
    injection hr with hr he
    subst hr he
    go_enter Try.func33, Try.ntmps33
    go_wp2_with fail
    go_ret2
    exact ⟨rfl, rfl⟩
  · have hb' : decide ((bs.length : Int) - at' < size) = false := by simpa using hb
    rw [if_neg (by omega)] at hr
    injection hr with hr he
    subst he
    have HR := Lib.hid hr
    clear hr
    have hlen : ((bs.drop at').take size).length = size := by rw [List.length_take, List.length_drop]; omega
    have hsl : ∀ v, (Instr.sliceAt 25 (.slice (some ⟨g, 0, none⟩) bs.length c) (some (.int .i64 (at' : Nat))) (some (.int .i64 ((at' : Int) + (size : Int)))) none).run Try.prog v = .ok (.slice (some ⟨g, at', none⟩) size (c - at')) v := fun v => by
      have := run_sl (w := v) ⟨g, 0, none⟩ bs.length c at' (at' + size) (by omega) (by omega) (by omega)
      rwa [Nat.add_sub_cancel_left, Addr.add_lit, Nat.zero_add, Int.natCast_add] at this
    have hcell : ∀ j x, ((bs.drop at').take size)[j]? = some x → w.cell? ⟨g, at' + j, none⟩ = some (.int .u8 x.toNat) := fun j x hj => by
      have hlj : j < size := by have := (List.getElem?_eq_some_iff.1 hj).1; omega
      obtain ⟨ad, y, hA, hy, hcl⟩ := HS.out.byte (j := at' + j) (by omega)
      injection hA with hA
      subst hA
      rw [List.getElem?_take, if_pos hlj, List.getElem?_drop, hy] at hj
      injection hj with hj
      subst hj
      rwa [Addr.add_lit, Nat.zero_add] at hcl
    have HC := Lib.hid hcell
    clear hcell
    generalize (bs.drop at').take size = l at *
    subst hlen
    go_enter Try.func33, Try.ntmps33
    go_wp2_with fail
    go_loopg [8, 42] l.length (fun k n i wr => GetInv w l k n i wr)
    case atStart => exact ⟨0, 0, by omega, rfl, rfl, rfl, rfl⟩
    case round =>
      obtain ⟨j, x, hj, rfl, rfl, hx, rfl⟩ := hrel
      have HX := Lib.hid hx
      by_cases hlt : j < l.length
      · have hxl : x < 256 ^ j := by
          have := ofBE_lt (l.take j)
          rw [List.length_take, Nat.min_eq_left (by omega), ← hx] at this
          exact this
        have hx7 : x < 72057594037927936 := Nat.lt_of_lt_of_le hxl (Nat.le_trans (Nat.pow_le_pow_right (by omega) (show j ≤ 7 by omega)) (by decide))
        obtain ⟨y, hy⟩ : ∃ y, l[j]? = some y := ⟨_, List.getElem?_eq_getElem hlt⟩
        have hcl := HC.out j y hy
        have hy8 := y.toNat_lt
        have HY := Lib.hid hy
        clear hx hxl hy
        have hor : bits .or .u64 ((x : Int) * 256) (y.toNat : Int) = ((x * 256 + y.toNat : Nat) : Int) := by
          have h := bits_or_u64_nat (x * 256) y.toNat (by omega) (by omega)
          rw [or_add _ _ (by omega), Int.natCast_mul] at h
          exact h
        have HOR := Lib.hid hor
        clear hor
        go_wp2_with fail
        go_roundg (gk - 1)
        case measure => omega
        case rel => exact ⟨j + 1, x * 256 + y.toNat, by omega, by go_num, by rw [HOR.out], by rw [take_snoc' HY.out, ofBE_snoc, ← HX.out], rfl⟩
      · obtain rfl : j = l.length := by omega
        have hxr : x = r := by rw [HX.out, List.take_length, HR.out]
        subst hxr
        clear hx
        go_wp2_with fail
        go_ret2
        exact ⟨rfl, rfl⟩

end Go.Proofs.Ytmmeloklnkfjjaa
