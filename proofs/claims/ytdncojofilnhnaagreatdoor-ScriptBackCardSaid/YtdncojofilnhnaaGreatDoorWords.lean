/- Lines of words, numbers in digits: plain laws, no program. -/
import Derived.Lib.SplitLaws
import Derived.Lib.Join
import Derived.Lib.ItoaLen
import Derived.Lib.ParseIntBTie
import Derived.Lib.ParseIntBCases
namespace Go.Proofs.YtdncojofilnhnaaGreatDoor
open Go.Lib

def splitOn (c : UInt8) : List UInt8 → List (List UInt8)
  | [] => [[]]
  | x :: r =>
    if x = c then [] :: splitOn c r
    else match splitOn c r with
      | [] => [[x]]
      | w :: ws => (x :: w) :: ws

def joinOn (c : UInt8) : List (List UInt8) → List UInt8
  | [] => []
  | [w] => w
  | w :: v :: ws => w ++ c :: joinOn c (v :: ws)

theorem splitOn_ne (c : UInt8) : ∀ s, splitOn c s ≠ []
  | [] => by simp [splitOn]
  | x :: r => by
    unfold splitOn
    split
    · simp
    · split <;> simp

theorem joinOn_cons (c : UInt8) (w : List UInt8) {ws : List (List UInt8)} (h : ws ≠ []) : joinOn c (w :: ws) = w ++ c :: joinOn c ws := by
  cases ws with
  | nil => exact absurd rfl h
  | cons v ws => rfl

theorem joinOn_splitOn (c : UInt8) : ∀ s, joinOn c (splitOn c s) = s
  | [] => rfl
  | x :: r => by
    have ih := joinOn_splitOn c r
    have hne := splitOn_ne c r
    unfold splitOn
    split
    · rename_i h
      rw [joinOn_cons c [] hne, ih, h]; rfl
    · split
      · rename_i h; exact absurd h hne
      · rename_i w ws h
        rw [h] at ih
        cases ws with
        | nil => simp only [joinOn] at ih ⊢; rw [ih]
        | cons v ws => simp only [joinOn] at ih ⊢; rw [← ih]; rfl

theorem splitOn_word (c : UInt8) : ∀ w : List UInt8, c ∉ w → splitOn c w = [w]
  | [], _ => rfl
  | x :: w, h => by
    have h1 : x ≠ c := fun e => h (by rw [e]; exact List.mem_cons_self)
    have h2 : c ∉ w := fun e => h (List.mem_cons_of_mem _ e)
    unfold splitOn
    rw [if_neg h1, splitOn_word c w h2]

theorem splitOn_app (c : UInt8) : ∀ (w r : List UInt8), c ∉ w → splitOn c (w ++ c :: r) = w :: splitOn c r
  | [], r, _ => by simp [splitOn]
  | x :: w, r, h => by
    have h1 : x ≠ c := fun e => h (by rw [e]; exact List.mem_cons_self)
    have h2 : c ∉ w := fun e => h (List.mem_cons_of_mem _ e)
    have e : splitOn c (x :: (w ++ c :: r)) = match splitOn c (w ++ c :: r) with | [] => [[x]] | w :: ws => (x :: w) :: ws := by
      conv => lhs; unfold splitOn
      rw [if_neg h1]
    rw [List.cons_append, e, splitOn_app c w r h2]

theorem splitOn_joinOn (c : UInt8) : ∀ ws : List (List UInt8), ws ≠ [] → (∀ w ∈ ws, c ∉ w) → splitOn c (joinOn c ws) = ws
  | [], h, _ => absurd rfl h
  | [w], _, h => splitOn_word c w (h w List.mem_cons_self)
  | w :: v :: ws, _, h => by
    rw [joinOn_cons c w (by simp), splitOn_app c w _ (h w List.mem_cons_self), splitOn_joinOn c (v :: ws) (by simp) (fun x hx => h x (List.mem_cons_of_mem _ hx))]

theorem splitOn_free (c : UInt8) : ∀ (s : List UInt8), ∀ w ∈ splitOn c s, c ∉ w
  | [], w, h => by simp [splitOn] at h; subst h; simp
  | x :: r, w, h => by
    have ih := splitOn_free c r
    unfold splitOn at h
    split at h
    · rcases List.mem_cons.1 h with rfl | h
      · simp
      · exact ih w h
    · rename_i hx
      split at h
      · rename_i e; exact absurd e (splitOn_ne c r)
      · rename_i v vs e
        rcases List.mem_cons.1 h with rfl | h
        · intro hc
          rcases List.mem_cons.1 hc with hc | hc
          · exact hx hc.symm
          · exact ih v (by rw [e]; exact List.mem_cons_self) hc
        · exact ih w (by rw [e]; exact List.mem_cons_of_mem _ h)

theorem splitOn_len (c : UInt8) : ∀ s : List UInt8, (splitOn c s).length ≤ s.length + 1
  | [] => by simp [splitOn]
  | x :: r => by
    have ih := splitOn_len c r
    unfold splitOn
    split
    · simp; omega
    · split
      · simp
      · rename_i h; rw [h] at ih; simp at ih ⊢; omega

/-! ## the library's words -/

theorem index_cons_ne {x c : UInt8} (r : List UInt8) (h : x ≠ c) : index (x :: r) [c] = if index r [c] = -1 then -1 else index r [c] + 1 := by
  have hp : ([c] : List UInt8).isPrefixOf (x :: r) = false := by simp [List.isPrefixOf, Ne.symm h]
  rw [index, hp]; simp

theorem splitK_cons_ne {x c : UInt8} (r : List UInt8) (h : x ≠ c) (k : Nat) :
    splitK [c] 0 k (x :: r) = match splitK [c] 0 k r with | [] => [[x]] | w :: ws => (x :: w) :: ws := by
  cases k with
  | zero => rfl
  | succ k =>
    have hi := index_cons_ne r h
    have hge := index_ge r [c]
    unfold splitK
    by_cases hm : index r [c] = -1
    · rw [if_pos hm] at hi
      rw [if_pos (beq_iff_eq.2 hi), if_pos (beq_iff_eq.2 hm)]
    · rw [if_neg hm] at hi
      rw [if_neg (fun e => by have := beq_iff_eq.1 e; omega), if_neg (fun e => hm (beq_iff_eq.1 e)), hi]
      have e1 : (index r [c] + 1).toNat = (index r [c]).toNat + 1 := by omega
      rw [e1]
      simp only [Nat.add_zero, List.take_succ_cons, List.length_cons, List.length_nil, Nat.zero_add, List.drop_succ_cons]

theorem split_on (c : UInt8) : ∀ s : List UInt8, splitK [c] 0 (count s [c]) s = splitOn c s
  | [] => by rw [count_miss (by simp [index])]; rfl
  | x :: r => by
    by_cases h : x = c
    · subst h
      rw [count_cons_eq]
      have hix : index (x :: r) [x] = 0 := by rw [index]; simp [List.isPrefixOf]
      rw [Nat.add_comm]
      unfold splitK splitOn
      rw [if_neg (by rw [hix]; decide), if_pos rfl, hix]
      show [] :: splitK [x] 0 (count r [x]) r = _
      rw [split_on x r]
    · rw [count_cons_ne x c r h, splitK_cons_ne r h, split_on c r]
      conv => rhs; unfold splitOn
      rw [if_neg h]

theorem join_on (c : UInt8) : ∀ ws : List (List UInt8), Go.Lib.join ws [c] = joinOn c ws
  | [] => rfl
  | [w] => by rw [Go.Lib.join_one]; rfl
  | w :: v :: ws => by
    rw [joinOn_cons c w (by simp), ← join_on c (v :: ws)]
    simp [Go.Lib.join, List.intercalate, List.intersperse]

/-! ## numbers -/

theorem parseUintM_app (M : Nat) : ∀ (l r : List UInt8) (acc a : Nat), parseUintM M acc l = .ok a → parseUintM M acc (l ++ r) = parseUintM M a r
  | [], r, acc, a, h => by simp only [parseUintM] at h; injection h with h; subst h; rfl
  | x :: l, r, acc, a, h => by
    rw [List.cons_append]
    simp only [parseUintM] at h ⊢
    split at h
    · rename_i h1
      rw [if_pos h1]
      split at h
      · cases h
      · rename_i h2
        rw [if_neg h2]
        split at h
        · cases h
        · rename_i h3
          rw [if_neg h3]
          exact parseUintM_app M l r _ a h
    · cases h

theorem digit_toNat (d : Nat) (h : d < 10) : (UInt8.ofNat (48 + d)).toNat = 48 + d := by
  rw [UInt8.toNat_ofNat']; omega

theorem parseUintM_dec (M : Nat) (hM : M ≤ 18446744073709551615) (u : Nat) (hu : u ≤ M) : parseUintM M 0 (decDigits u) = .ok u := by
  induction u using Nat.strongRecOn with
  | _ u ih =>
    rw [decDigits]
    split
    · rename_i h
      have hd := digit_toNat u h
      simp only [parseUintM, hd]
      rw [if_pos ⟨by omega, by omega⟩, if_neg (by omega), if_neg (by omega)]
      congr 1; omega
    · rename_i h
      rw [parseUintM_app M _ _ 0 (u / 10) (ih (u / 10) (by omega) (by omega))]
      have hd := digit_toNat (u % 10) (by omega)
      simp only [parseUintM, hd]
      rw [if_pos ⟨by omega, by omega⟩, if_neg (by omega), if_neg (by omega)]
      congr 1; omega

theorem decDigits_ne (u : Nat) : decDigits u ≠ [] := by
  rw [decDigits]; split <;> simp

theorem decDigits_digit (u : Nat) : ∀ b ∈ decDigits u, 48 ≤ b.toNat ∧ b.toNat ≤ 57 := by
  induction u using Nat.strongRecOn with
  | _ u ih =>
    intro b hb
    rw [decDigits] at hb
    split at hb
    · rename_i h
      rw [List.mem_singleton.1 hb, digit_toNat u h]; omega
    · rename_i h
      rcases List.mem_append.1 hb with hb | hb
      · exact ih (u / 10) (by omega) b hb
      · rw [List.mem_singleton.1 hb, digit_toNat (u % 10) (by omega)]; omega

theorem itoa_bytes (n : Int) : ∀ b ∈ itoa n, b.toNat = 45 ∨ (48 ≤ b.toNat ∧ b.toNat ≤ 57) := by
  intro b hb
  unfold itoa at hb
  split at hb
  · rcases List.mem_cons.1 hb with rfl | hb
    · exact .inl rfl
    · exact .inr (decDigits_digit _ b hb)
  · exact .inr (decDigits_digit _ b hb)

theorem itoa_ne (n : Int) : itoa n ≠ [] := by
  unfold itoa
  split
  · simp
  · exact decDigits_ne _

theorem itoa_free (n : Int) (c : UInt8) (h : c.toNat ≠ 45 ∧ (c.toNat < 48 ∨ 57 < c.toNat)) : c ∉ itoa n := fun hc => by
  have := itoa_bytes n c hc; omega

theorem parse_itoa (n : Int) (h0 : -9223372036854775808 ≤ n) (h1 : n ≤ 9223372036854775807) : parseIntB 64 (itoa n) = .ok n := by
  unfold itoa
  split
  · rename_i h
    rw [parseIntB_minus]
    unfold parseUintB
    rw [if_neg (decDigits_ne _), parseUintM_dec _ (by decide) _ (by omega)]
    unfold signedC
    simp only
    rw [if_neg (by omega)]
    congr 1; omega
  · rename_i h
    obtain ⟨x, r, e⟩ : ∃ x r, decDigits n.toNat = x :: r := by
      cases he : decDigits n.toNat with
      | nil => exact absurd he (decDigits_ne _)
      | cons x r => exact ⟨x, r, rfl⟩
    have hx := decDigits_digit n.toNat x (by rw [e]; exact List.mem_cons_self)
    rw [e, parseIntB_plain _ _ _ (by omega) (by omega), ← e]
    unfold parseUintB
    rw [if_neg (decDigits_ne _), parseUintM_dec _ (by decide) _ (by omega)]
    unfold signlessC
    simp only
    rw [if_neg (by omega)]
    congr 1; omega

end Go.Proofs.YtdncojofilnhnaaGreatDoor
