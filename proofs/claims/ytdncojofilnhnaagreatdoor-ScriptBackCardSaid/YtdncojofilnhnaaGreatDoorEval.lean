/- Commands of single lines, computed. -/
import Derived.Test.YtdncojofilnhnaaGreatDoorMacP
import Derived.KernelRfl
namespace Go.Proofs.YtdncojofilnhnaaGreatDoor
open Go.Lib

def decF : Nat → Nat → List UInt8
  | 0, _ => []
  | f + 1, u => if u < 10 then [UInt8.ofNat (48 + u)] else decF f (u / 10) ++ [UInt8.ofNat (48 + u % 10)]

theorem decF_eq : ∀ f u, u < f → decDigits u = decF f u
  | 0, u, h => absurd h (Nat.not_lt_zero _)
  | f + 1, u, h => by
    rw [decDigits, decF]
    split
    · rfl
    · rw [decF_eq f (u / 10) (by omega)]

def itoaF (n : Int) : List UInt8 := if n < 0 then 45 :: decF (n.natAbs + 1) n.natAbs else decF (n.toNat + 1) n.toNat

theorem itoa_F (n : Int) : itoa n = itoaF n := by
  unfold itoa itoaF
  rw [decF_eq (n.natAbs + 1) n.natAbs (by omega), decF_eq (n.toNat + 1) n.toNat (by omega)]

def readF (addressed : Bool) (addr : Str → Option (List Int)) : Nat → List Str → List Int × List Int → Except (Int × Int) (List Int × List Int)
  | _, [], acc => .ok acc
  | i, w :: ws, acc =>
    if addressed = true ∧ i = 1 then
      match addr w with
      | none => .error ((i : Int) + 1, 4)
      | some m' => readF addressed addr (i + 1) ws (m', acc.2)
    else
      match parseIntB 64 w with
      | .ok n => if itoaF n = w then readF addressed addr (i + 1) ws (acc.1, acc.2 ++ [n]) else .error ((i : Int) + 1, 4)
      | _ => .error ((i : Int) + 1, 4)

theorem read_F (addressed : Bool) (addr : Str → Option (List Int)) : ∀ (ws : List Str) (i : Nat) (acc : List Int × List Int), readArgs addressed addr i ws acc = readF addressed addr i ws acc
  | [], i, (m, xs) => rfl
  | w :: ws, i, (m, xs) => by
    rw [readArgs, readF]
    split
    · split
      · rename_i h; rw [h]
      · rename_i m' h; rw [h]; exact read_F addressed addr ws (i + 1) (m', xs)
    · cases parseIntB 64 w
      next n =>
        simp only [itoa_F]
        split
        · exact read_F addressed addr ws (i + 1) (m, xs ++ [n])
        · rfl
      next => rfl
      next => rfl

def parseF (line : Str) : Except (Int × Int) Cm :=
  let ws := splitOn 32 line
  let kind := idxL (ws.headD []) namesL
  if kind < 0 then .error (0, 11)
  else match readF (addrOf kind) addrP 0 ws.tail (mac0, []) with
    | .error e => .error e
    | .ok acc =>
      if addrOf kind = true ∧ ws.length < 3 then .error (ws.length, 2)
      else match checkP ⟨kind, acc.1, acc.2⟩ with
        | some e => .error e
        | none => .ok ⟨kind, acc.1, acc.2⟩

theorem parse_F (line : Str) : parseP addrP line = parseF line := by
  unfold parseP parseF
  simp only
  split
  · rfl
  · rw [read_F]
    split
    · rename_i h; rw [h]
    · rename_i m xs h; rw [h]; rfl

abbrev L1 : Str := [118, 108, 97, 110, 32, 53, 32, 51, 32, 49]
abbrev L2 : Str := [115, 116, 114, 101, 97, 109, 32, 48, 32, 48, 50, 58, 48, 48, 58, 48, 48, 58, 48, 48, 58, 48, 48, 58, 48, 49, 32, 53, 32, 55]
abbrev L3 : Str := [118, 108, 97, 110, 32, 53]
abbrev L4 : Str := [119, 104, 97, 116, 32, 53]
abbrev L5 : Str := [114, 117, 108, 101, 32, 49, 32, 48, 50, 32, 51, 32, 52]

theorem parse_L1 : parseP addrP L1 = .ok ⟨0, mac0, [5, 3, 1]⟩ := by rw [parse_F]; kernel_rfl
theorem parse_L2 : parseP addrP L2 = .ok ⟨5, [2, 0, 0, 0, 0, 1], [0, 5, 7]⟩ := by rw [parse_F]; kernel_rfl
theorem parse_L3 : parseP addrP L3 = .error (2, 2) := by rw [parse_F]; kernel_rfl
theorem parse_L4 : parseP addrP L4 = .error (0, 11) := by rw [parse_F]; kernel_rfl
theorem parse_L5 : parseP addrP L5 = .error (2, 4) := by rw [parse_F]; kernel_rfl
theorem text_L2 : textP ⟨5, [2, 0, 0, 0, 0, 1], [0, 5, 7]⟩ = L2 := (parse_text' parse_L2).1
theorem check_L2 : checkP ⟨5, [2, 0, 0, 0, 0, 1], [0, 5, 7]⟩ = none := (parse_text' parse_L2).2

end Go.Proofs.YtdncojofilnhnaaGreatDoor
