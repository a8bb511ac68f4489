/- The rows of a port, the last: New, All, Waits, Flush. -/
import Derived.Test.YtpgmkekdgchkfaaRing2
import Derived.Deep.RegionLaw
namespace Go.Proofs.Ytpgmkekdgchkfaa
open Go.RowKit

def totalOf (rs : List RSt) : Nat := (rs.map (·.q.length)).sum

theorem totalOf_take_succ (rs : List RSt) (k : Nat) (r : RSt) (h : rs[k]? = some r) : totalOf (rs.take (k + 1)) = totalOf (rs.take k) + r.q.length := by
  obtain ⟨hl, he⟩ := List.getElem?_eq_some_iff.1 h
  unfold totalOf
  rw [List.take_succ_eq_append_getElem hl, List.map_append, List.sum_append_nat]
  simp [he]

theorem totalOf_take_le (rs : List RSt) (k : Nat) : totalOf (rs.take k) ≤ totalOf rs := by
  have : totalOf rs = totalOf (rs.take k) + totalOf (rs.drop k) := by
    unfold totalOf
    rw [← List.sum_append_nat, ← List.map_append, List.take_append_drop]
  omega

theorem RingAt.total_le {w : World} {p : Nat} {F : Nat → Prop} {rs : List RSt} (h : RingAt w p F rs) : totalOf rs ≤ 8192 := by
  obtain ⟨cs, gs, fs, ts, h⟩ := h
  have hb : ∀ r ∈ rs, r.q.length ≤ 1024 := by
    intro r hr
    obtain ⟨i, hi⟩ := List.getElem?_of_mem hr
    have R := h.rows i r hi
    have := R.fits; have := R.cap; omega
  have gen : ∀ l : List RSt, (∀ r ∈ l, r.q.length ≤ 1024) → totalOf l ≤ l.length * 1024 := by
    intro l
    induction l with
    | nil => intro _; simp [totalOf]
    | cons x l ih =>
      intro hl
      have h1 := hl x (by simp)
      have h2 := ih (fun r hr => hl r (by simp [hr]))
      simp only [totalOf, List.map_cons, List.sum_cons, List.length_cons] at h2 ⊢
      omega
  have := gen rs hb
  rw [h.eight] at this
  exact this

def AllInv (rs : List RSt) (w : World) (k : Nat) (n i : Value) (wr : World) : Prop := ∃ j : Nat, j + k = 8 ∧ i = .int .i64 (j : Nat) ∧ n = .int .i64 (totalOf (rs.take j) : Nat) ∧ w = wr

set_option maxRecDepth 100000 in
theorem all_any {w : World} {p : Nat} {F : Nat → Prop} {rs : List RSt} (h : RingAt w p F rs) :
    Calls Try.prog 50 #[.pointer (some ⟨p, 0, none⟩)] w fun e w' => e = .returned (.int .i64 (totalOf rs : Nat)) ∧ w = w' := by
  have ht := h.total_le
  obtain ⟨cs, gs, fs, ts, h⟩ := h
  have HH := Lib.hid h
  clear h
  go_enter Try.func50, Try.ntmps50
  go_wp2
  go_loopg [3, 5] 8 (fun k n i wr => AllInv rs w k n i wr)
  case atStart => exact ⟨0, by omega, rfl, rfl, rfl⟩
  case round =>
    obtain ⟨j, hj, rfl, rfl, rfl⟩ := hrel
    by_cases hlt : j < 8
    · obtain ⟨r, hr⟩ : ∃ r, rs[j]? = some r := ⟨_, List.getElem?_eq_getElem (by rw [HH.out.eight]; exact hlt)⟩
      have a2 := (HH.out.head.cell _).trans (HH.out.rows j r hr).c2
      have hs := Lib.hid (totalOf_take_succ rs j r hr)
      have h1 := totalOf_take_le rs (j + 1)
      rw [hs.out] at h1
      clear hr
      generalize totalOf (rs.take j) = S at *
      go_wp2
      go_roundg (gk - 1)
      case measure => omega
      case rel => exact ⟨j + 1, by omega, by go_num, by rw [hs.out]; go_num, rfl⟩
    · have he : Hid (totalOf (rs.take j) = totalOf rs) := by
        have e : rs.take j = rs := List.take_of_length_le (by rw [HH.out.eight]; omega)
        show _ = _
        rw [e]
      generalize totalOf (rs.take j) = S at *
      go_wp2
      go_ret
      exact ⟨ret_int (by have := he.out; omega), rfl⟩

theorem bits_or_i64_nat (a b : Nat) (ha : a < 4611686018427387904) (hb : b < 4611686018427387904) :
    bits .or .i64 (a : Int) (b : Int) = ((a ||| b : Nat) : Int) := by
  have hx : a ||| b < 2 ^ 62 := Nat.or_lt_two_pow (by omega) (by omega)
  have h1 : (BitVec.ofInt 64 (a : Int)).toNat = a := by
    rw [BitVec.ofInt_natCast, BitVec.toNat_ofNat]; exact Nat.mod_eq_of_lt (by omega)
  have h2 : (BitVec.ofInt 64 (b : Int)).toNat = b := by
    rw [BitVec.ofInt_natCast, BitVec.toNat_ofNat]; exact Nat.mod_eq_of_lt (by omega)
  show IntKind.i64.wrap ((BitVec.ofInt 64 (a : Int) ||| BitVec.ofInt 64 (b : Int)).toNat : Int) = _
  rw [BitVec.toNat_or, h1, h2, IntKind.wrap_i64]
  omega

theorem bits_or_add (a c : Nat) (hc : c < 60) (ha : a < 2 ^ c) : bits .or .i64 (a : Int) ((2 ^ c : Nat) : Int) = ((a + 2 ^ c : Nat) : Int) := by
  have h60 : 2 ^ c ≤ 2 ^ 60 := Nat.pow_le_pow_right (by omega) (by omega)
  rw [bits_or_i64_nat a (2 ^ c) (by omega) (by omega)]
  congr 1
  have := Nat.two_pow_add_eq_or_of_lt ha 1
  rw [Nat.mul_one] at this
  rw [Nat.or_comm, ← this, Nat.add_comm]

/-- A bit for each of the first rows in which something waits. -/
def bitsTo (rs : List RSt) : Nat → Nat
  | 0 => 0
  | j + 1 => bitsTo rs j + if 0 < ((rs[j]?).map (·.q.length)).getD 0 then 2 ^ j else 0

theorem bitsTo_lt (rs : List RSt) : ∀ j, bitsTo rs j < 2 ^ j
  | 0 => by simp [bitsTo]
  | j + 1 => by
    have := bitsTo_lt rs j
    have h2 : 2 ^ (j + 1) = 2 ^ j + 2 ^ j := by rw [Nat.pow_succ]; omega
    unfold bitsTo
    split <;> omega

def BitsInv (rs : List RSt) (w : World) (k : Nat) (n i : Value) (wr : World) : Prop := ∃ j : Nat, j + k = 8 ∧ i = .int .i64 (j : Nat) ∧ n = .int .i64 (bitsTo rs j : Nat) ∧ w = wr

set_option maxRecDepth 100000 in
set_option maxHeartbeats 2000000 in
theorem waits_any {w : World} {p : Nat} {F : Nat → Prop} {rs : List RSt} (h : RingAt w p F rs) :
    Calls Try.prog 33 #[.pointer (some ⟨p, 0, none⟩)] w fun e w' => e = .returned (.int .i64 (bitsTo rs 8 : Nat)) ∧ w = w' := by
  obtain ⟨cs, gs, fs, ts, h⟩ := h
  have HH := Lib.hid h
  clear h
  go_enter Try.func33, Try.ntmps33
  go_wp2
  go_loopg [3, 5] 8 (fun k n i wr => BitsInv rs w k n i wr)
  case atStart => exact ⟨0, by omega, rfl, rfl, rfl⟩
  case round =>
    obtain ⟨j, hj, rfl, rfl, rfl⟩ := hrel
    by_cases hlt : j < 8
    · obtain ⟨r, hr⟩ : ∃ r, rs[j]? = some r := ⟨_, List.getElem?_eq_getElem (by rw [HH.out.eight]; exact hlt)⟩
      have a2 := (HH.out.head.cell _).trans (HH.out.rows j r hr).c2
      have hb : Hid (bitsTo rs (j + 1) = bitsTo rs j + if 0 < r.q.length then 2 ^ j else 0) := by
        show _ = _
        simp [bitsTo, hr]
      have hfits := (HH.out.rows j r hr).fits
      have hcap := (HH.out.rows j r hr).cap
      have hor := bits_or_add (bitsTo rs j) j (by omega) (bitsTo_lt rs j)
      have hsml := bitsTo_lt rs j
      clear hr
      generalize bitsTo rs j = S at *
      obtain rfl | rfl | rfl | rfl | rfl | rfl | rfl | rfl : j = 0 ∨ j = 1 ∨ j = 2 ∨ j = 3 ∨ j = 4 ∨ j = 5 ∨ j = 6 ∨ j = 7 := by omega
      · have hor2 : bits .or .i64 (S : Int) 1 = (S : Int) + 1 := by rw [show ((S : Int) + 1) = ((S + 2 ^ 0 : Nat) : Int) by simp]; exact hor
        clear hor
        by_cases hq : 0 < r.q.length
        · go_wp2
          go_roundg (gk - 1)
          case measure => omega
          case rel => exact ⟨1, by omega, rfl, by rw [hb.out, if_pos hq]; simp, rfl⟩
        · go_wp2
          go_roundg (gk - 1)
          case measure => omega
          case rel => exact ⟨1, by omega, rfl, by rw [hb.out, if_neg hq]; simp, rfl⟩
      · have hor2 : bits .or .i64 (S : Int) 2 = (S : Int) + 2 := by rw [show ((S : Int) + 2) = ((S + 2 ^ 1 : Nat) : Int) by simp]; exact hor
        clear hor
        by_cases hq : 0 < r.q.length
        · go_wp2
          go_roundg (gk - 1)
          case measure => omega
          case rel => exact ⟨2, by omega, rfl, by rw [hb.out, if_pos hq]; simp, rfl⟩
        · go_wp2
          go_roundg (gk - 1)
          case measure => omega
          case rel => exact ⟨2, by omega, rfl, by rw [hb.out, if_neg hq]; simp, rfl⟩
      · have hor2 : bits .or .i64 (S : Int) 4 = (S : Int) + 4 := by rw [show ((S : Int) + 4) = ((S + 2 ^ 2 : Nat) : Int) by simp]; exact hor
        clear hor
        by_cases hq : 0 < r.q.length
        · go_wp2
          go_roundg (gk - 1)
          case measure => omega
          case rel => exact ⟨3, by omega, rfl, by rw [hb.out, if_pos hq]; simp, rfl⟩
        · go_wp2
          go_roundg (gk - 1)
          case measure => omega
          case rel => exact ⟨3, by omega, rfl, by rw [hb.out, if_neg hq]; simp, rfl⟩
      · have hor2 : bits .or .i64 (S : Int) 8 = (S : Int) + 8 := by rw [show ((S : Int) + 8) = ((S + 2 ^ 3 : Nat) : Int) by simp]; exact hor
        clear hor
        by_cases hq : 0 < r.q.length
        · go_wp2
          go_roundg (gk - 1)
          case measure => omega
          case rel => exact ⟨4, by omega, rfl, by rw [hb.out, if_pos hq]; simp, rfl⟩
        · go_wp2
          go_roundg (gk - 1)
          case measure => omega
          case rel => exact ⟨4, by omega, rfl, by rw [hb.out, if_neg hq]; simp, rfl⟩
      · have hor2 : bits .or .i64 (S : Int) 16 = (S : Int) + 16 := by rw [show ((S : Int) + 16) = ((S + 2 ^ 4 : Nat) : Int) by simp]; exact hor
        clear hor
        by_cases hq : 0 < r.q.length
        · go_wp2
          go_roundg (gk - 1)
          case measure => omega
          case rel => exact ⟨5, by omega, rfl, by rw [hb.out, if_pos hq]; simp, rfl⟩
        · go_wp2
          go_roundg (gk - 1)
          case measure => omega
          case rel => exact ⟨5, by omega, rfl, by rw [hb.out, if_neg hq]; simp, rfl⟩
      · have hor2 : bits .or .i64 (S : Int) 32 = (S : Int) + 32 := by rw [show ((S : Int) + 32) = ((S + 2 ^ 5 : Nat) : Int) by simp]; exact hor
        clear hor
        by_cases hq : 0 < r.q.length
        · go_wp2
          go_roundg (gk - 1)
          case measure => omega
          case rel => exact ⟨6, by omega, rfl, by rw [hb.out, if_pos hq]; simp, rfl⟩
        · go_wp2
          go_roundg (gk - 1)
          case measure => omega
          case rel => exact ⟨6, by omega, rfl, by rw [hb.out, if_neg hq]; simp, rfl⟩
      · have hor2 : bits .or .i64 (S : Int) 64 = (S : Int) + 64 := by rw [show ((S : Int) + 64) = ((S + 2 ^ 6 : Nat) : Int) by simp]; exact hor
        clear hor
        by_cases hq : 0 < r.q.length
        · go_wp2
          go_roundg (gk - 1)
          case measure => omega
          case rel => exact ⟨7, by omega, rfl, by rw [hb.out, if_pos hq]; simp, rfl⟩
        · go_wp2
          go_roundg (gk - 1)
          case measure => omega
          case rel => exact ⟨7, by omega, rfl, by rw [hb.out, if_neg hq]; simp, rfl⟩
      · have hor2 : bits .or .i64 (S : Int) 128 = (S : Int) + 128 := by rw [show ((S : Int) + 128) = ((S + 2 ^ 7 : Nat) : Int) by simp]; exact hor
        clear hor
        by_cases hq : 0 < r.q.length
        · go_wp2
          go_roundg (gk - 1)
          case measure => omega
          case rel => exact ⟨8, by omega, rfl, by rw [hb.out, if_pos hq]; simp, rfl⟩
        · go_wp2
          go_roundg (gk - 1)
          case measure => omega
          case rel => exact ⟨8, by omega, rfl, by rw [hb.out, if_neg hq]; simp, rfl⟩
    · obtain rfl : j = 8 := by omega
      go_wp2
      go_ret
      exact ⟨rfl, rfl⟩

/-! New. -/
theorem run_index_arr {P : Program} {T e n : Nat} {cs : Array Value} {j : Nat} {v : Value} (w : World) (hT : P.underlying T = some (.array n e)) (hs : (sizeOf e).run P w = .ok 1 w) (ha : (isAgg e).run P w = .ok false w)
    (hj : j < n) (hv : cs[j]? = some v) (hjb : j < 9223372036854775808) : (Instr.index T (.agg cs) (.int .i64 (j : Nat))).run P w = .ok v w := by
  have h1 : (0 : Int) ≤ (j : Int) ∧ (j : Int) < (n : Int) := by omega
  have hw : IntKind.i64.wrap (j : Int) = (j : Int) := by rw [IntKind.wrap_i64]; omega
  simp [Instr.index, asIntOf, run_underlying hT, hw, hj, hs, part, ha, hv, Result.andThen]

end Go.Proofs.Ytpgmkekdgchkfaa
