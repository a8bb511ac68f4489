/- Hex numbers and addresses in words: plain laws, no program. -/
import Derived.Test.YtdncojofilnhnaaGreatDoorCmdLaw
namespace Go.Proofs.YtdncojofilnhnaaGreatDoor
open Go.Lib

/-- A letter made small. -/
def lowZ (c : UInt8) : Int := bits .or .u8 (c.toNat : Int) 32

/-- What a byte is worth as a digit; 99: nothing. -/
def hexV (c : UInt8) : Nat :=
  if 48 ≤ c.toNat ∧ c.toNat ≤ 57 then c.toNat - 48
  else if 97 ≤ lowZ c ∧ lowZ c ≤ 122 then (lowZ c).toNat - 87 else 99

/-- A number of hex digits, at most 255. -/
def hexM (acc : Nat) : List UInt8 → NumEnd Nat
  | [] => .ok acc
  | c :: r => if 16 ≤ hexV c then .syntax else if 255 < acc * 16 + hexV c then .range else hexM (acc * 16 + hexV c) r

def hexR (l : List UInt8) : NumEnd Nat := if l = [] then .syntax else hexM 0 l

/-- One word of an address. -/
def hexW (w : Str) : Option Int := match hexR w with
  | .ok n => if w.length = 2 then some (n : Int) else none
  | _ => none

def hexWs : List Str → Option (List Int)
  | [] => some []
  | w :: ws => match hexW w with
    | none => none
    | some n => match hexWs ws with
      | none => none
      | some r => some (n :: r)

/-- The address of a text. -/
def addrP (s : Str) : Option (List Int) :=
  if (splitOn 58 s).length = 6 then match hexWs (splitOn 58 s) with
    | none => none
    | some m => if macText m = s then some m else none
  else none

theorem addr_text (w : Str) (m : List Int) (h : addrP w = some m) : macText m = w := by
  unfold addrP at h
  split at h
  · split at h
    · cases h
    · split at h
      · injection h with h; subst h; assumption
      · cases h
  · cases h

theorem hexM_le : ∀ (l : List UInt8) (acc n : Nat), acc ≤ 255 → hexM acc l = .ok n → n ≤ 255
  | [], acc, n, ha, h => by simp only [hexM] at h; injection h with h; omega
  | c :: r, acc, n, ha, h => by
    simp only [hexM] at h
    split at h
    · cases h
    · split at h
      · cases h
      · exact hexM_le r _ n (by omega) h

theorem hexW_le {w : Str} {n : Int} (h : hexW w = some n) : 0 ≤ n ∧ n ≤ 255 := by
  unfold hexW at h
  split at h
  · rename_i k hk
    split at h
    · injection h with h
      unfold hexR at hk
      split at hk
      · cases hk
      · have := hexM_le w 0 k (by omega) hk
        omega
    · cases h
  · cases h

theorem hexWs_is : ∀ {l : List Str} {m : List Int}, hexWs l = some m → m.length = l.length ∧ ∀ x ∈ m, 0 ≤ x ∧ x ≤ 255
  | [], m, h => by simp only [hexWs] at h; injection h with h; subst h; exact ⟨rfl, fun x hx => by simp at hx⟩
  | w :: ws, m, h => by
    simp only [hexWs] at h
    split at h
    · cases h
    · rename_i n hn
      split at h
      · cases h
      · rename_i r hr
        injection h with h
        subst h
        obtain ⟨h1, h2⟩ := hexWs_is hr
        refine ⟨by simp [h1], fun x hx => ?_⟩
        rcases List.mem_cons.1 hx with rfl | hx
        · exact hexW_le hn
        · exact h2 x hx

theorem addr_is {w : Str} {m : List Int} (h : addrP w = some m) : MacIs m := by
  unfold addrP at h
  split at h
  · rename_i hl
    split at h
    · cases h
    · rename_i m' hm
      split at h
      · injection h with h
        subst h
        obtain ⟨h1, h2⟩ := hexWs_is hm
        exact ⟨by omega, h2⟩
      · cases h
  · cases h

theorem hexW_two : ∀ k : Fin 256, hexW (hex2 (k.val : Int)) = some (k.val : Int) := by decide +kernel

theorem hexW_hex2 {x : Int} (h0 : 0 ≤ x) (h1 : x ≤ 255) : hexW (hex2 x) = some x := by
  have := hexW_two ⟨x.toNat, by omega⟩
  have e : ((x.toNat : Nat) : Int) = x := by omega
  simp only [e] at this
  exact this

theorem hexWs_map : ∀ {m : List Int}, (∀ x ∈ m, 0 ≤ x ∧ x ≤ 255) → hexWs (m.map hex2) = some m
  | [], _ => rfl
  | x :: m, h => by
    have hx := h x List.mem_cons_self
    rw [List.map_cons, hexWs, hexW_hex2 hx.1 hx.2, hexWs_map (fun y hy => h y (List.mem_cons_of_mem _ hy))]

theorem hex2_free (x : Int) (hx : 0 ≤ x ∧ x ≤ 255) (c : UInt8) (hc : c.toNat < 48 ∨ (57 < c.toNat ∧ c.toNat < 97)) : c ∉ hex2 x := by
  have ha : ∀ n, n < 16 → c ≠ hexD n := fun n hn e => by
    have := hexD_toNat n hn
    rw [← e] at this
    split at this <;> omega
  intro h
  simp only [hex2, List.mem_cons, List.not_mem_nil, or_false] at h
  rcases h with h | h
  · exact ha _ (by omega) h
  · exact ha _ (by omega) h

theorem split_mac {m : List Int} (hm : MacIs m) : splitOn 58 (macText m) = m.map hex2 := by
  refine splitOn_joinOn 58 _ ?_ ?_
  · intro e
    have := hm.1
    rw [List.map_eq_nil_iff] at e
    rw [e] at this
    cases this
  · intro w hw
    obtain ⟨x, hx, rfl⟩ := List.mem_map.1 hw
    exact hex2_free x (hm.2 x hx) 58 (.inr ⟨by decide, by decide⟩)

theorem addr_mac (m : List Int) (hm : MacIs m) : addrP (macText m) = some m := by
  unfold addrP
  rw [split_mac hm, List.length_map, hm.1, if_pos rfl, hexWs_map hm.2]
  simp

/-! ## commands with this reading of addresses -/

theorem parse_text' {line : Str} {c : Cm} (h : parseP addrP line = .ok c) : textP c = line ∧ checkP c = none := parse_text addrP addr_text h

theorem text_parse' {c : Cm} (hm : MacIs c.mac) (ha : ∀ a ∈ c.args, -9223372036854775808 ≤ a ∧ a ≤ 9223372036854775807) (hc : checkP c = none) : parseP addrP (textP c) = .ok c := text_parse addrP addr_mac hm ha hc

end Go.Proofs.YtdncojofilnhnaaGreatDoor
