/- Digits to the base 16, one by one: plain. -/
import Derived.Test.YtdncojofilnhnaaGreatDoorScrLaw
import Derived.Lib.Bytealg
namespace Go.Proofs.YtdncojofilnhnaaGreatDoor
open Go.Lib

/-- What digits come to behind a first half. -/
def un2 (x : Nat) : Str → Option Str
  | [] => none
  | b :: r => match hexDig b with
    | none => none
    | some y => (unhex r).map (UInt8.ofNat (x * 16 + y) :: ·)

theorem unhex_cons (a : UInt8) (r : Str) : unhex (a :: r) = match hexDig a with | none => none | some x => un2 x r := by
  cases r with
  | nil => cases h : hexDig a <;> simp [unhex, un2]
  | cons b r =>
    cases h : hexDig a with
    | none => simp [unhex, h]
    | some x =>
      cases h2 : hexDig b with
      | none => simp [unhex, un2, h, h2]
      | some y =>
        cases h3 : unhex r with
        | none => simp [unhex, un2, h, h2, h3]
        | some t => simp [unhex, un2, h, h2, h3]

theorem unhex_odd : ∀ s : Str, s.length % 2 ≠ 0 → unhex s = none
  | [], h => by simp at h
  | [a], _ => rfl
  | a :: b :: r, h => by
    have := unhex_odd r (by simp only [List.length_cons] at h; omega)
    unfold unhex
    rw [this]
    cases hexDig a <;> simp
    cases hexDig b <;> simp

def digitsL : Str := [48, 49, 50, 51, 52, 53, 54, 55, 56, 57, 97, 98, 99, 100, 101, 102]

theorem dig_index : ∀ k : Fin 128, (Lib.indexByte digitsL (UInt8.ofNat k.val)) = (match hexDig (UInt8.ofNat k.val) with | some x => (x : Int) | none => -1) := by decide +kernel

theorem dig_is {c : UInt8} (h : c.toNat < 128) : Lib.indexByte digitsL c = (match hexDig c with | some x => (x : Int) | none => -1) := by
  have := dig_index ⟨c.toNat, h⟩
  simpa using this

theorem dig_high {c : UInt8} (h : 128 ≤ c.toNat) : hexDig c = none := by
  unfold hexDig
  rw [if_neg (by omega), if_neg (by omega)]

theorem dig_lt {c : UInt8} {x : Nat} (h : hexDig c = some x) : x < 16 := (hexDig_some h).1

theorem or_nibble : ∀ x y : Fin 16, bits .or .u8 ((x.val * 16 : Nat) : Int) (y.val : Int) = ((x.val * 16 + y.val : Nat) : Int) := by decide +kernel

theorem none_high : ∀ k : Fin 128, Lib.indexByte digitsL (UInt8.ofNat (k.val + 128)) = -1 := by decide +kernel

end Go.Proofs.YtdncojofilnhnaaGreatDoor
