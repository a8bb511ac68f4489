/- One byte that is another one makes the sum another one: the plain law. -/
import Derived.Test.YtmmeloklnkfjjaaRead
namespace Go.Proofs.Ytmmeloklnkfjjaa
open Go.RowKit

theorem drop_at' (a x : Bytes) (m : Nat) (h : a.length = m) : (a ++ x).drop m = x := by
  rw [List.drop_append_of_le_length (by omega), List.drop_of_length_le (by omega), List.nil_append]

theorem take_at' (a x : Bytes) (m : Nat) (h : a.length = m) : (a ++ x).take m = a := by
  rw [List.take_append_of_le_length (by omega), List.take_of_length_le (by omega)]

theorem rowN_high : ∀ i, i < 16 → ∀ j, j < 16 → rowN i >>> 28 = rowN j >>> 28 → i = j := by decide

theorem xor_cancel {a b c : Nat} (h : a ^^^ b = a ^^^ c) : b = c := by
  have := congrArg (fun x => a ^^^ x) h
  simpa [← Nat.xor_assoc, Nat.xor_self, Nat.zero_xor] using this

theorem nib_eq {n x m y : Nat} (hn : n < 4294967296) (hx : x < 16) (hm : m < 4294967296) (hy : y < 16) (h : nib n x = nib m y) : (n % 16) ^^^ x = (m % 16) ^^^ y ∧ n / 16 = m / 16 := by
  unfold nib at h
  have h28 := congrArg (fun z => z >>> 28) h
  simp only [Nat.shiftRight_xor_distrib] at h28
  have e1 : (n / 16) >>> 28 = 0 := by rw [Nat.shiftRight_eq_div_pow]; omega
  have e2 : (m / 16) >>> 28 = 0 := by rw [Nat.shiftRight_eq_div_pow]; omega
  rw [e1, e2, Nat.xor_zero, Nat.xor_zero] at h28
  have hi := rowN_high _ (xor16 (by omega) hx) _ (xor16 (by omega) hy) h28
  refine ⟨hi, ?_⟩
  rw [hi] at h
  exact xor_cancel h

theorem nib_inj {n m x : Nat} (hn : n < 4294967296) (hm : m < 4294967296) (hx : x < 16) (h : nib n x = nib m x) : n = m := by
  obtain ⟨h1, h2⟩ := nib_eq hn hx hm hx h
  rw [Nat.xor_comm, Nat.xor_comm (m % 16)] at h1
  have := xor_cancel h1
  omega

theorem crcB_inj_state {n m : Nat} (hn : n < 4294967296) (hm : m < 4294967296) (x : UInt8) (h : crcB n x = crcB m x) : n = m := by
  have hx := x.toNat_lt
  unfold crcB at h
  have h1 := nib_inj (nib_lt hn (by omega)) (nib_lt hm (by omega)) (by omega) h
  exact nib_inj hn hm (by omega) h1

theorem crcB_inj_byte {n : Nat} (hn : n < 4294967296) (x y : UInt8) (h : crcB n x = crcB n y) : x = y := by
  have hx := x.toNat_lt
  have hy := y.toNat_lt
  unfold crcB at h
  obtain ⟨h1, h2⟩ := nib_eq (nib_lt hn (by omega)) (by omega) (nib_lt hn (by omega)) (by omega) h
  have h3 : nib n (x.toNat % 16) = nib n (y.toNat % 16) := by
    have k : ∀ u, nib n u / 16 = (rowN ((n % 16) ^^^ u) / 16) ^^^ (n / 16 / 16) := fun u => by
      unfold nib
      have := Nat.shiftRight_xor_distrib (a := rowN ((n % 16) ^^^ u)) (b := n / 16) (i := 4)
      simpa [Nat.shiftRight_eq_div_pow] using this
    rw [k, k, Nat.xor_comm, Nat.xor_comm (rowN ((n % 16) ^^^ (y.toNat % 16)) / 16)] at h2
    have h4 := xor_cancel h2
    have hi := rowN_high _ (xor16 (a := n % 16) (b := x.toNat % 16) (by omega) (by omega)) _ (xor16 (a := n % 16) (b := y.toNat % 16) (by omega) (by omega)) (by
      rw [Nat.shiftRight_eq_div_pow, Nat.shiftRight_eq_div_pow]
      omega)
    unfold nib
    rw [hi]
  have h5 : x.toNat % 16 = y.toNat % 16 := by
    obtain ⟨q1, -⟩ := nib_eq hn (by omega) hn (by omega) h3
    exact xor_cancel q1
  rw [h3] at h1
  have h6 := xor_cancel h1
  apply UInt8.toNat_inj.1
  omega

theorem foldl_inj : ∀ (bs : Bytes) {n m : Nat}, n < 4294967296 → m < 4294967296 → bs.foldl crcB n = bs.foldl crcB m → n = m
  | [], _, _, _, _, h => h
  | x :: bs, _, _, hn, hm, h => crcB_inj_state hn hm x (foldl_inj bs (crcB_lt hn x) (crcB_lt hm x) h)

theorem sumN_flip (bs : Bytes) (i : Nat) (hi : i < bs.length) (y : UInt8) (hy : y ≠ bs[i]) : sumN (bs.set i y) ≠ sumN bs := by
  intro h
  unfold sumN at h
  have h1 := xor_cancel h
  have e1 : bs = bs.take i ++ bs[i] :: bs.drop (i + 1) := by
    have := List.take_append_drop i bs
    rw [List.drop_eq_getElem_cons hi] at this
    exact this.symm
  have e2 : bs.set i y = bs.take i ++ y :: bs.drop (i + 1) := List.set_eq_take_append_cons_drop ▸ by rw [if_pos hi]
  unfold crcR at h1
  rw [e2] at h1
  conv at h1 => rhs; rw [e1]
  rw [List.foldl_append, List.foldl_append, List.foldl_cons, List.foldl_cons] at h1
  have hlt := foldl_lt (bs.take i) (n := 4294967295) (by omega)
  have h2 := foldl_inj _ (crcB_lt hlt _) (crcB_lt hlt _) h1
  exact hy (crcB_inj_byte hlt _ _ h2)

theorem sumN_lt (bs : Bytes) : sumN bs < 4294967296 := by
  have hn := crcR_lt bs
  have := Nat.xor_lt_two_pow (n := 32) (x := 4294967295) (y := crcR bs) (by omega) (by omega)
  unfold sumN
  omega

theorem le4_inj {n m : Nat} (hn : n < 4294967296) (hm : m < 4294967296) (h : le4 n = le4 m) : n = m := by
  unfold le4 at h
  simp only [List.cons.injEq, and_true] at h
  obtain ⟨h0, h1, h2, h3⟩ := h
  have q0 := congrArg UInt8.toNat h0
  have q1 := congrArg UInt8.toNat h1
  have q2 := congrArg UInt8.toNat h2
  have q3 := congrArg UInt8.toNat h3
  simp at q0 q1 q2 q3
  omega

/-- Bytes of which one is another one are no capture. -/
theorem openB_flip (x : Bytes) (i : Nat) (z : UInt8) (hz : (sealB x)[i]? = some z) (y : UInt8) (hy : y ≠ z) : openB ((sealB x).set i y) = 10 := by
  have hi : i < (sealB x).length := (List.getElem?_eq_some_iff.1 hz).1
  have hlen : (sealB x).length = x.length + 4 := by unfold sealB; rw [List.length_append]; rfl
  have hl4 : (le4 (sumN x)).length = 4 := rfl
  unfold openB
  rw [List.length_set, if_neg (by omega), hlen, Nat.add_sub_cancel]
  by_cases h : i < x.length
  · have hs : (sealB x).set i y = x.set i y ++ le4 (sumN x) := by
      unfold sealB
      rw [List.set_append_left _ _ h]
    have hyx : y ≠ x[i] := by
      intro e
      apply hy
      unfold sealB at hz
      rw [List.getElem?_append_left h, List.getElem?_eq_getElem h] at hz
      injection hz with hz
      rw [e, hz]
    rw [hs, take_at' _ _ _ (by simp), drop_at' _ _ _ (by simp)]
    rw [if_neg (fun e => sumN_flip x i h y hyx (le4_inj (sumN_lt _) (sumN_lt _) e))]
  · have hs : (sealB x).set i y = x ++ (le4 (sumN x)).set (i - x.length) y := by
      unfold sealB
      rw [List.set_append_right _ _ (by omega)]
    rw [hs, take_at' _ _ _ rfl, drop_at' _ _ _ rfl, if_neg]
    intro e
    have e2 : (le4 (sumN x))[i - x.length]? = ((le4 (sumN x)).set (i - x.length) y)[i - x.length]? := by rw [← e]
    rw [List.getElem?_set_self (by omega)] at e2
    unfold sealB at hz
    rw [List.getElem?_append_right (by omega), e2] at hz
    injection hz with hz
    exact hy hz

end Go.Proofs.Ytmmeloklnkfjjaa
