/- Scripts as texts: plain definitions, no program. -/
import Derived.Test.YtdncojofilnhnaaGreatDoorMacP
namespace Go.Proofs.YtdncojofilnhnaaGreatDoor
open Go.Lib

/-- An error: the word at which it is told, if it is wrapped so, and its number. -/
abbrev ErrD := Option Int × Int

structure Pt where
  speed : Int
  edge : Bool
deriving DecidableEq

structure Cf where
  prio : Int
  mac : List Int
  ports : List Pt
  places : Int
  bounds : List Int
  start : Int

structure Ac where
  kind : Int
  port : Int
  bytes : Str
  nanos : Int
  cmd : Cm

def cm0 : Cm := ⟨0, mac0, []⟩

def sBridge : Str := [98, 114, 105, 100, 103, 101]
def sFrame : Str := [102, 114, 97, 109, 101]
def sUp : Str := [117, 112]
def sDown : Str := [100, 111, 119, 110]
def sWait : Str := [119, 97, 105, 116]
def sNo0 : Str := [110, 111, 115, 116, 114, 101, 97, 109, 32, 48, 32]
def s0 : Str := [32, 48]

/-- A number from 0 on, in digits. -/
def numP (s : Str) : Option Int := match parseIntB 64 s with
  | .ok n => if 0 ≤ n ∧ itoa n = s then some n else none
  | _ => none

def hexDig (c : UInt8) : Option Nat :=
  if 48 ≤ c.toNat ∧ c.toNat ≤ 57 then some (c.toNat - 48) else if 97 ≤ c.toNat ∧ c.toNat ≤ 102 then some (c.toNat - 87) else none

/-- The bytes of digits, two each. -/
def unhex : Str → Option Str
  | [] => some []
  | [_] => none
  | a :: b :: r => match hexDig a with
    | none => none
    | some x => match hexDig b with
      | none => none
      | some y => match unhex r with
        | none => none
        | some t => some (UInt8.ofNat (x * 16 + y) :: t)

def hexB (x : UInt8) : Str := [hexD (x.toNat / 16), hexD (x.toNat % 16)]

/-- Bytes in digits. -/
def hexS : Str → Str
  | [] => []
  | x :: r => hexB x ++ hexS r

/-- What stands ahead of a byte, what behind it, and whether it is there. -/
def cutP (c : UInt8) : Str → Str × Str × Bool
  | [] => ([], [], false)
  | x :: r => if x = c then ([], r, true) else (x :: (cutP c r).1, (cutP c r).2.1, (cutP c r).2.2)

/-- A port's word: its speed, an e behind it. -/
def portW (p : Pt) : Str := itoa p.speed ++ (if p.edge then [101] else [])

def cutE (s : Str) : Str × Bool := if s.getLast? = some 101 then (s.dropLast, true) else (s, false)

def portP (s : Str) : Option Pt := match numP (cutE s).1 with
  | none => none
  | some x => if 1073741824 < x then none else some ⟨x, (cutE s).2⟩

def portsP : List Str → Option (List Pt)
  | [] => some []
  | w :: ws => match portP w with
    | none => none
    | some p => match portsP ws with
      | none => none
      | some r => some (p :: r)

def speedOk (n : Int) : Bool := decide (n = 10) || decide (n = 100) || decide (n = 1000) || decide (n = 10000)

/-- May a bridge be so? -/
def bridgeOk (c : Cf) : Bool :=
  decide (c.ports.length ≠ 0) && decide (c.ports.length ≤ 8) && decide ((c.mac.headD 0) % 2 = 0) && decide (0 ≤ c.places) && decide (c.places ≤ 4096) && decide (0 ≤ c.start) && decide (c.start < 4611686018427387904)
    && decide (0 ≤ c.prio) && decide (c.prio ≤ 61440) && decide (c.prio % 4096 = 0) && c.ports.all (fun p => speedOk p.speed)

def bridgeE (c : Cf) : Int := if bridgeOk c then 0 else 30

/-- The four numbers of the first line. -/
def numsP (ws : List Str) : Option (Int × Int × Int × Int) :=
  match numP (ws.getD 1 []) with
  | none => none
  | some a => if 1073741824 < a then none else match numP (ws.getD 3 []) with
    | none => none
    | some b => if 1073741824 < b then none else match numP (ws.getD 4 []) with
      | none => none
      | some d => if 1073741824 < d then none else match numP (ws.getD 5 []) with
        | none => none
        | some e => some (a, b, d, e)

/-- The switch that the first line tells. -/
def configP (l : Str) : Except ErrD Cf :=
  let ws := splitOn 32 l
  if ws.length < 7 ∨ ws.headD [] ≠ sBridge then .error (none, 4)
  else match parseP addrP (sNo0 ++ ws.getD 2 [] ++ s0) with
    | .error (n, k) => .error (some n, k)
    | .ok m => match numsP ws with
      | none => .error (none, 4)
      | some (a, b, d, e) => match portsP (ws.drop 6) with
        | none => .error (none, 4)
        | some ps =>
          let c : Cf := ⟨a, m.mac, ps, b, List.replicate 8 d, e⟩
          if bridgeOk c then .ok c else .error (none, 30)

/-- What a line tells to be done. -/
def actP (l : Str) : Except ErrD Ac :=
  let word := (cutP 32 l).1
  let rest := (cutP 32 l).2.1
  if word = sFrame then
    match numP (cutP 32 rest).1, unhex (cutP 32 rest).2.1 with
    | some n, some b => if (cutP 32 rest).2.2 = true ∧ n < 8 then .ok ⟨0, n, b, 0, cm0⟩ else .error (none, 4)
    | _, _ => .error (none, 4)
  else if word = sUp then
    match numP rest with
    | some n => if n < 8 then .ok ⟨1, n, [], 0, cm0⟩ else .error (none, 4)
    | none => .error (none, 4)
  else if word = sDown then
    match numP rest with
    | some n => if n < 8 then .ok ⟨2, n, [], 0, cm0⟩ else .error (none, 4)
    | none => .error (none, 4)
  else if word = sWait then
    match numP rest with
    | some n => .ok ⟨3, 0, [], n, cm0⟩
    | none => .error (none, 4)
  else match parseP addrP l with
    | .error (n, k) => .error (some n, k)
    | .ok c => .ok ⟨4, 0, [], 0, c⟩

/-- An act as a line. -/
def lineP (a : Ac) : Except ErrD Str :=
  if a.kind = 4 then match checkP a.cmd with
    | some (n, k) => .error (some n, k)
    | none => .ok (textP a.cmd)
  else if a.kind = 3 ∧ 0 ≤ a.nanos then .ok (sWait ++ 32 :: itoa a.nanos)
  else if a.port < 0 ∨ 8 ≤ a.port then .error (none, 1)
  else if a.kind = 0 then .ok (sFrame ++ 32 :: itoa a.port ++ 32 :: hexS a.bytes)
  else if a.kind = 1 then .ok (sUp ++ 32 :: itoa a.port)
  else if a.kind = 2 then .ok (sDown ++ 32 :: itoa a.port)
  else .error (none, 11)

/-- The acts of lines, the first of which is number i (from 0 on). -/
def actsP : Nat → List Str → Except (Int × ErrD) (List Ac)
  | _, [] => .ok []
  | i, l :: ls =>
    if l = [] then actsP (i + 1) ls
    else match actP l with
      | .error e => .error ((i : Int) + 1, e)
      | .ok a => match actsP (i + 1) ls with
        | .error e => .error e
        | .ok r => .ok (a :: r)

/-- A script, or what is wrong with it: the line, and why. -/
def scriptP (text : Str) : Except (Int × ErrD) (Cf × List Ac) :=
  let ls := splitOn 10 text
  if 2000 < ls.length then .error (2001, (none, 3))
  else match configP (ls.headD []) with
    | .error e => .error (1, e)
    | .ok c => match actsP 1 ls.tail with
      | .error e => .error e
      | .ok as => .ok (c, as)

def confW (c : Cf) : List Str := [sBridge, itoa c.prio, macText c.mac, itoa c.places, itoa (c.bounds.headD 0), itoa c.start] ++ c.ports.map portW

/-- The acts' lines, the first of which is number i (from 2 on). -/
def linesP : Nat → List Ac → Except (Int × ErrD) (List Str)
  | _, [] => .ok []
  | i, a :: r => match lineP a with
    | .error e => .error ((i : Int) + 2, e)
    | .ok l => match linesP (i + 1) r with
      | .error e => .error e
      | .ok ls => .ok (l :: ls)

/-- A script as text; the error: at a line, or at none. -/
def textS (c : Cf) (as : List Ac) : Except (Option Int × ErrD) Str :=
  if bridgeOk c = false then .error (none, (none, 30))
  else if c.bounds.headD 0 < 0 ∨ c.bounds ≠ List.replicate 8 (c.bounds.headD 0) ∨ 1073741824 < c.bounds.headD 0 then .error (none, (none, 30))
  else match linesP 0 as with
    | .error (n, e) => .error (some n, e)
    | .ok ls => if 2000 < ls.length + 1 then .error (none, (none, 3)) else .ok (joinOn 10 (joinOn 32 (confW c) :: ls))

end Go.Proofs.YtdncojofilnhnaaGreatDoor
