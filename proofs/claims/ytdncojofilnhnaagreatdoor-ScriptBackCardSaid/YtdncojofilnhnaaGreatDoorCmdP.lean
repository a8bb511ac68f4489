/- Commands as lines: plain laws, no program. -/
import Derived.Test.YtdncojofilnhnaaGreatDoorWords
namespace Go.Proofs.YtdncojofilnhnaaGreatDoor
open Go.Lib

abbrev Str := List UInt8

/-- A command: its kind, address (six numbers), numbers. -/
structure Cm where
  kind : Int
  mac : List Int
  args : List Int

def mac0 : List Int := [0, 0, 0, 0, 0, 0]

/-- The kinds' words. -/
def wordOf : Nat → Str
  | 0 => [118, 108, 97, 110]
  | 1 => [112, 111, 114, 116]
  | 2 => [99, 108, 97, 115, 115]
  | 3 => [108, 105, 115, 116]
  | 4 => [115, 104, 97, 112, 101]
  | 5 => [115, 116, 114, 101, 97, 109]
  | 6 => [110, 111, 115, 116, 114, 101, 97, 109]
  | 7 => [103, 97, 116, 101]
  | 8 => [109, 101, 116, 101, 114]
  | 9 => [114, 117, 108, 101]
  | _ => []

def namesL : List Str := (List.range 10).map wordOf

/-- How many numbers a kind has, how many more may come, whether it has an address. -/
def leastOf (k : Int) : Int := if k = 0 ∨ k = 4 then 3 else if k = 1 ∨ k = 8 then 5 else if k = 2 then 2 else if k = 3 then 4 else if k = 7 then 4 else if k = 5 then 3 else if k = 6 then 2 else 4
def moreOf (k : Int) : Int := if k = 3 then 2 else if k = 7 then 3 else 0
def addrOf (k : Int) : Bool := decide (k = 5) || decide (k = 6)

/-- What is wrong with a command: the word, and why. -/
def checkP (c : Cm) : Option (Int × Int) :=
  if c.kind < 0 ∨ 10 ≤ c.kind then some (0, 11)
  else if (c.args.length : Int) < leastOf c.kind then some (c.args.length + 1, 2)
  else if 200 < (c.args.length : Int) then some (201, 3)
  else if (moreOf c.kind = 0 ∧ leastOf c.kind < c.args.length) ∨ (0 < moreOf c.kind ∧ ((c.args.length : Int) - leastOf c.kind) % moreOf c.kind ≠ 0) then some (c.args.length, 3)
  else if addrOf c.kind = false ∧ c.mac ≠ mac0 then some (0, 4)
  else none

def hexD (n : Nat) : UInt8 := if n < 10 then UInt8.ofNat (48 + n) else UInt8.ofNat (87 + n)

/-- An address in words. -/
def hex2 (x : Int) : Str := [hexD (x.toNat / 16), hexD (x.toNat % 16)]

def macText (m : List Int) : Str := joinOn 58 (m.map hex2)

/-- The words of a command. -/
def argWords (addressed : Bool) (mac : Str) (args : List Int) : List Str :=
  if addressed then (match args with | [] => [] | a :: r => itoa a :: mac :: r.map itoa) else args.map itoa

def wordsOf (c : Cm) : List Str := wordOf c.kind.toNat :: argWords (addrOf c.kind) (macText c.mac) c.args

def textP (c : Cm) : Str := joinOn 32 (wordsOf c)

/-- An address' six numbers. -/
def MacIs (m : List Int) : Prop := m.length = 6 ∧ ∀ x ∈ m, 0 ≤ x ∧ x ≤ 255

/-- What is read of the words behind the first: 'addr' the address of a word. -/
def readArgs (addressed : Bool) (addr : Str → Option (List Int)) : Nat → List Str → List Int × List Int → Except (Int × Int) (List Int × List Int)
  | _, [], acc => .ok acc
  | i, w :: ws, (m, as) =>
    if addressed = true ∧ i = 1 then
      match addr w with
      | none => .error ((i : Int) + 1, 4)
      | some m' => readArgs addressed addr (i + 1) ws (m', as)
    else
      match parseIntB 64 w with
      | .ok n => if itoa n = w then readArgs addressed addr (i + 1) ws (m, as ++ [n]) else .error ((i : Int) + 1, 4)
      | _ => .error ((i : Int) + 1, 4)

def idxL (w : Str) : List Str → Int
  | [] => -1
  | x :: r => if x = w then 0 else if idxL w r = -1 then -1 else idxL w r + 1

def parseP (addr : Str → Option (List Int)) (line : Str) : Except (Int × Int) Cm :=
  let ws := splitOn 32 line
  let kind := idxL (ws.headD []) namesL
  if kind < 0 then .error (0, 11)
  else match readArgs (addrOf kind) addr 0 ws.tail (mac0, []) with
    | .error e => .error e
    | .ok (m, as) =>
      if addrOf kind = true ∧ ws.length < 3 then .error (ws.length, 2)
      else match checkP ⟨kind, m, as⟩ with
        | some e => .error e
        | none => .ok ⟨kind, m, as⟩

end Go.Proofs.YtdncojofilnhnaaGreatDoor
