/- What a capture's bytes are read as; the words of Read's walk. -/
import Derived.Test.YtmmeloklnkfjjaaTake
import Derived.Test.YtmmeloklnkfjjaaWrite
namespace Go.Proofs.Ytmmeloklnkfjjaa
open Go.RowKit

structure Key where
  port : Int
  cls : Int
  frm : Int
  till : Int
  bs : Bytes

def Fr.key (f : Fr) : Key := ⟨f.port, f.cls, f.frm, f.till, f.bs⟩

def Key.Ok (f : Key) : Prop := 0 ≤ f.port ∧ f.port ≤ 255 ∧ 0 ≤ f.cls ∧ f.cls ≤ 7 ∧ 0 ≤ f.frm ∧ f.frm ≤ f.till ∧ f.bs.length ≤ 1522
instance (f : Key) : Decidable f.Ok := inferInstanceAs (Decidable (_ ∧ _))

/-- One frame, from a place on. -/
def oneR (bs : Bytes) (a : Nat) : Option (Key × Nat) :=
  if bs.length < a + 20 then none
  else
    let n := ofBE ((bs.drop (a + 18)).take 2)
    if bs.length < a + 20 + n then none
    else some (⟨ofBE ((bs.drop (a + 16)).take 1), ofBE ((bs.drop (a + 17)).take 1), wrap64 (ofBE ((bs.drop a).take 8) : Nat), wrap64 (ofBE ((bs.drop (a + 8)).take 8) : Nat), (bs.drop (a + 20)).take n⟩, a + 20 + n)

/-- So many frames, from a place on: the frames, and where they end. -/
def manyR (bs : Bytes) : Nat → Nat → Option (List Key × Nat)
  | 0, a => some ([], a)
  | j + 1, a => match manyR bs j a with
    | none => none
    | some (ks, b) => match oneR bs b with
      | none => none
      | some (k, c) => some (ks ++ [k], c)

def checkK (ks : List Key) : Nat := if ∀ k ∈ ks, k.Ok then 0 else 1

def readI (b : Bytes) : Nat ⊕ List Key :=
  if b.take 4 ≠ magicB then .inl 11
  else if b.length < 6 then .inl 2
  else match manyR b (ofBE ((b.drop 4).take 2)) 6 with
    | none => .inl 2
    | some (ks, a) => if a ≠ b.length then .inl 3 else if checkK ks ≠ 0 then .inl (checkK ks) else .inr ks

def readF (bs : Bytes) : Nat ⊕ List Key := if openB bs ≠ 0 then .inl (openB bs) else readI (bs.take (bs.length - 4))

/-- The chain of a frame's five numbers and its bytes. -/
structure Chain (bs : Bytes) (a : Nat) (n1 n2 n3 n4 n5 a1 a2 a3 a4 a5 a6 e1 e2 e3 e4 e5 e6 : Nat) (b6 : Bytes) : Prop where
  r1 : numR bs a 0 8 = (n1, a1, e1)
  r2 : numR bs a1 e1 8 = (n2, a2, e2)
  r3 : numR bs a2 e2 1 = (n3, a3, e3)
  r4 : numR bs a3 e3 1 = (n4, a4, e4)
  r5 : numR bs a4 e4 2 = (n5, a5, e5)
  r6 : takeR bs a5 e5 n5 = (b6, a6, e6)

theorem ofBE_take_lt (l : Bytes) (k : Nat) : ofBE (l.take k) < 256 ^ k := by
  have h := ofBE_lt (l.take k)
  have hl : (l.take k).length ≤ k := List.length_take_le _ _
  exact Nat.lt_of_lt_of_le h (Nat.pow_le_pow_right (by omega) hl)

theorem numR_lt {bs : Bytes} {a e k n a' e' : Nat} (h : numR bs a e k = (n, a', e')) : n < 256 ^ k := by
  have hp : 0 < 256 ^ k := Nat.pow_pos (by omega)
  unfold numR at h
  split at h
  · injection h with h; omega
  · split at h
    · injection h with h; omega
    · injection h with h
      unfold getR at h
      split at h
      · simp at h; omega
      · simp at h
        subst h
        exact ofBE_take_lt _ _

theorem numR_err {bs : Bytes} {a e k : Nat} (h : e ≠ 0) : numR bs a e k = (0, a, e) := by
  unfold numR
  rw [if_pos h]

theorem takeR_err {bs : Bytes} {a e k : Nat} (h : e ≠ 0) : takeR bs a e k = ([], a, e) := by
  unfold takeR
  rw [if_pos h]

theorem numR_any (bs : Bytes) (a k : Nat) (ha : a ≤ bs.length) : numR bs a 0 k = if a + k ≤ bs.length then (ofBE ((bs.drop a).take k), a + k, 0) else (0, a, 2) := by
  split
  · exact numR_ok (by assumption)
  · exact numR_short (by omega) ha

/-- What the chain comes to: the frame; or an error. -/
theorem Chain.one {bs : Bytes} {a n1 n2 n3 n4 n5 a1 a2 a3 a4 a5 a6 e1 e2 e3 e4 e5 e6 : Nat} {b6 : Bytes} (h : Chain bs a n1 n2 n3 n4 n5 a1 a2 a3 a4 a5 a6 e1 e2 e3 e4 e5 e6 b6) (ha : a ≤ bs.length) :
    (e6 = 2 ∧ oneR bs a = none) ∨ (e6 = 0 ∧ oneR bs a = some (⟨n3, n4, wrap64 n1, wrap64 n2, b6⟩, a6)) := by
  obtain ⟨r1, r2, r3, r4, r5, r6⟩ := h
  rw [numR_any bs a 8 ha] at r1
  split at r1
  · injection r1 with x1 r1
    injection r1 with y1 z1
    subst x1 y1 z1
    rw [numR_any bs (a + 8) 8 (by omega)] at r2
    split at r2
    · injection r2 with x1 r1
      injection r1 with y1 z1
      subst x1 y1 z1
      rw [numR_any bs (a + 8 + 8) 1 (by omega)] at r3
      split at r3
      · injection r3 with x1 r1
        injection r1 with y1 z1
        subst x1 y1 z1
        rw [numR_any bs (a + 8 + 8 + 1) 1 (by omega)] at r4
        split at r4
        · injection r4 with x1 r1
          injection r1 with y1 z1
          subst x1 y1 z1
          rw [numR_any bs (a + 8 + 8 + 1 + 1) 2 (by omega)] at r5
          split at r5
          · injection r5 with x1 r1
            injection r1 with y1 z1
            subst x1 y1 z1
            unfold takeR at r6
            rw [if_neg (by simp)] at r6
            split at r6
            · injection r6 with x1 r1
              injection r1 with y1 z1
              refine .inl ⟨z1.symm, ?_⟩
              unfold oneR
              rw [if_neg (by omega)]
              simp only
              rw [if_pos (by
                have : a + 8 + 8 + 1 + 1 = a + 18 := by omega
                rw [this] at *
                omega)]
            · injection r6 with x1 r1
              injection r1 with y1 z1
              subst x1 y1 z1
              refine .inr ⟨rfl, ?_⟩
              unfold oneR
              rw [if_neg (by omega)]
              have e18 : a + 8 + 8 + 1 + 1 = a + 18 := by omega
              simp only
              rw [e18] at *
              rw [if_neg (by omega)]
          · injection r5 with x1 r1
            injection r1 with y1 z1
            subst x1 y1 z1
            rw [takeR_err (by decide)] at r6
            injection r6 with x1 r1
            injection r1 with y1 z1
            refine .inl ⟨z1.symm, ?_⟩
            unfold oneR
            rw [if_pos (by omega)]
        · injection r4 with x1 r1
          injection r1 with y1 z1
          subst x1 y1 z1
          rw [numR_err (by decide)] at r5
          injection r5 with x1 r1
          injection r1 with y1 z1
          subst x1 y1 z1
          rw [takeR_err (by decide)] at r6
          injection r6 with x1 r1
          injection r1 with y1 z1
          refine .inl ⟨z1.symm, ?_⟩
          unfold oneR
          rw [if_pos (by omega)]
      · injection r3 with x1 r1
        injection r1 with y1 z1
        subst x1 y1 z1
        rw [numR_err (by decide)] at r4
        injection r4 with x1 r1
        injection r1 with y1 z1
        subst x1 y1 z1
        rw [numR_err (by decide)] at r5
        injection r5 with x1 r1
        injection r1 with y1 z1
        subst x1 y1 z1
        rw [takeR_err (by decide)] at r6
        injection r6 with x1 r1
        injection r1 with y1 z1
        refine .inl ⟨z1.symm, ?_⟩
        unfold oneR
        rw [if_pos (by omega)]
    · injection r2 with x1 r1
      injection r1 with y1 z1
      subst x1 y1 z1
      rw [numR_err (by decide)] at r3
      injection r3 with x1 r1
      injection r1 with y1 z1
      subst x1 y1 z1
      rw [numR_err (by decide)] at r4
      injection r4 with x1 r1
      injection r1 with y1 z1
      subst x1 y1 z1
      rw [numR_err (by decide)] at r5
      injection r5 with x1 r1
      injection r1 with y1 z1
      subst x1 y1 z1
      rw [takeR_err (by decide)] at r6
      injection r6 with x1 r1
      injection r1 with y1 z1
      refine .inl ⟨z1.symm, ?_⟩
      unfold oneR
      rw [if_pos (by omega)]
  · injection r1 with x1 r1
    injection r1 with y1 z1
    subst x1 y1 z1
    rw [numR_err (by decide)] at r2
    injection r2 with x1 r1
    injection r1 with y1 z1
    subst x1 y1 z1
    rw [numR_err (by decide)] at r3
    injection r3 with x1 r1
    injection r1 with y1 z1
    subst x1 y1 z1
    rw [numR_err (by decide)] at r4
    injection r4 with x1 r1
    injection r1 with y1 z1
    subst x1 y1 z1
    rw [numR_err (by decide)] at r5
    injection r5 with x1 r1
    injection r1 with y1 z1
    subst x1 y1 z1
    rw [takeR_err (by decide)] at r6
    injection r6 with x1 r1
    injection r1 with y1 z1
    refine .inl ⟨z1.symm, ?_⟩
    unfold oneR
    rw [if_pos (by omega)]

theorem Chain.any (bs : Bytes) (a : Nat) : ∃ n1 n2 n3 n4 n5 a1 a2 a3 a4 a5 a6 e1 e2 e3 e4 e5 e6 b6, Chain bs a n1 n2 n3 n4 n5 a1 a2 a3 a4 a5 a6 e1 e2 e3 e4 e5 e6 b6 :=
  ⟨_, _, _, _, _, _, _, _, _, _, _, _, _, _, _, _, _, _, ⟨rfl, rfl, rfl, rfl, rfl, rfl⟩⟩

end Go.Proofs.Ytmmeloklnkfjjaa
