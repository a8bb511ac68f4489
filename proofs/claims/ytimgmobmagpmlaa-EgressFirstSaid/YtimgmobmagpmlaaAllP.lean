/- All go in the end: the plain law of a port at which frames of one class wait. All go in the end: the walk. What is known of a row of numbers that came in. -/
import Derived.Test.YtimgmobmagpmlaaPlain
import Derived.Lib.MinMax
import Derived.Test.YtimgmobmagpmlaaArg
namespace Go.Proofs.Ytimgmobmagpmlaa

section
open Go.RowKit

def mapN {α : Type} (n : Nat) (f : Nat → α) : List α := (List.range n).map f

theorem mapN_len {α : Type} (n : Nat) (f : Nat → α) : (mapN n f).length = n := by simp [mapN]
theorem mapN_get {α : Type} {n : Nat} (f : Nat → α) {i : Nat} (h : i < n) : (mapN n f)[i]? = some (f i) := by simp [mapN, h]
theorem mapN_getD {α : Type} {n : Nat} (f : Nat → α) {i : Nat} (h : i < n) (d : α) : (mapN n f).getD i d = f i := by
  rw [List.getD_eq_getElem?_getD, mapN_get f h]; rfl
theorem mapN_set {α : Type} (n : Nat) (f : Nat → α) (i : Nat) (x : α) : (mapN n f).set i x = mapN n (fun k => if k = i then x else f k) := by
  apply List.ext_getElem?
  intro j
  by_cases hj : j < n
  · rw [mapN_get _ hj]
    by_cases e : i = j
    · subst e
      rw [List.getElem?_set_self (by rw [mapN_len]; exact hj), if_pos rfl]
    · rw [List.getElem?_set_ne e, mapN_get _ hj, if_neg (fun h => e h.symm)]
  · rw [List.getElem?_eq_none (by rw [List.length_set, mapN_len]; omega), List.getElem?_eq_none (by rw [mapN_len]; omega)]
theorem mapN_congr {α : Type} {n : Nat} {f g : Nat → α} (h : ∀ i, i < n → f i = g i) : mapN n f = mapN n g := by
  unfold mapN
  exact List.map_congr_left (fun i hi => h i (by simpa using hi))
theorem mapN_mem {α : Type} {n : Nat} {f : Nat → α} {x : α} (h : x ∈ mapN n f) : ∃ i, i < n ∧ f i = x := by
  obtain ⟨i, hi, rfl⟩ := List.mem_map.1 h
  exact ⟨i, by simpa using hi, rfl⟩

def zN (k : Nat) : Bytes := List.replicate k 0

theorem heldOf_mapN {n : Nat} (f : Nat → Bytes × Nat) {i : Nat} (h : i < n) : heldOf (mapN n f) (i : Int) = (f i).2 := by
  unfold heldOf
  rw [if_pos (by omega), Int.toNat_natCast, mapN_get f h]; rfl

theorem sizeP_mapN {n : Nat} (f : Nat → Bytes × Nat) {i : Nat} (h : i < n) (hp : (f i).2 ≠ 0) : sizeP (mapN n f) (i : Int) = (f i).1.length := by
  unfold sizeP
  rw [heldOf_mapN f h, if_neg hp, Int.toNat_natCast, mapN_getD f h]

theorem freeP_is : ∀ {ps : PSt} {k : Nat} {b : Bytes}, ps[k]? = some (b, 0) → (∀ (j : Nat) (x : Bytes × Nat), j < k → ps[j]? = some x → x.2 ≠ 0) → freeP ps = some k
  | [], k, b, h, _ => by simp at h
  | x :: ps, 0, b, h, _ => by
    simp at h
    rw [freeP, h, if_pos rfl]
  | x :: ps, k + 1, b, h, hj => by
    rw [freeP, if_neg (hj 0 x (by omega) rfl), freeP_is (by simpa using h) (fun j y h1 h2 => hj (j + 1) y (by omega) (by simpa using h2))]
    rfl

/-! ## they come to wait -/

def fA (sz : Nat → Nat) (j i : Nat) : Bytes × Nat := if i < j then (zN (sz i), 1) else ([], 0)
def rA (c : Nat) (q : List Int) : List RSt := mapN 8 fun d => if d = c then ⟨9, q, 0⟩ else ⟨9, [], 0⟩

def aE (sz : Nat → Nat) (c j : Nat) : Eg :=
  { S := Sch.none, rs := rA c (mapN j fun i => (i : Int)), ps := mapN 20 (fA sz j), shaped := false, speed := 1000, up := true, busy := false, cls := 0, id := 0, frm := 0, till := 0, cnt := List.replicate 8 0 }

theorem rA_get {c : Nat} (q : List Int) (hc : c < 8) : (rA c q).getD c ⟨0, [], 0⟩ = ⟨9, q, 0⟩ := by
  unfold rA; rw [mapN_getD _ hc, if_pos rfl]

theorem rA_set {c : Nat} (q q' : List Int) : (rA c q).set c ⟨9, q', 0⟩ = rA c q' := by
  unfold rA
  rw [mapN_set]
  exact mapN_congr (fun i _ => by by_cases e : i = c <;> simp [e])

theorem zN_len (k : Nat) : (zN k).length = k := by simp [zN]

theorem a_take (sz : Nat → Nat) (c : Nat) {j : Nat} (hj : j < 9) : freeP (aE sz c j).ps = some j :=
  freeP_is (b := []) (by
    show (mapN 20 (fA sz j))[j]? = _
    rw [mapN_get _ (by omega)]
    unfold fA
    rw [if_neg (by omega)]) (fun i x hi hx => by
    have hx : (mapN 20 (fA sz j))[i]? = some x := hx
    rw [mapN_get _ (by omega)] at hx
    injection hx with hx
    subst hx
    unfold fA
    rw [if_pos hi]
    simp)

theorem mapN_succ {α : Type} (n : Nat) (f : Nat → α) : mapN (n + 1) f = mapN n f ++ [f n] := by
  unfold mapN
  rw [List.range_succ, List.map_append]
  rfl

def a1 (sz : Nat → Nat) (c j : Nat) : Eg := { aE sz c j with ps := mapN 20 (fun i => if i = j then (zN (sz j), 1) else fA sz j i) }
def a2 (sz : Nat → Nat) (c j : Nat) : Eg := { aE sz c j with rs := rA c (mapN (j + 1) fun i => (i : Int)), ps := mapN 20 (fun i => if i = j then (zN (sz j), 2) else fA sz j i) }

theorem a_steps {sz : Nat → Nat} (hs : ∀ i, 64 ≤ sz i ∧ sz i ≤ 1522) {c j : Nat} (hc : c < 8) (hj : j < 9) :
    takeV (aE sz c j).ps = .tuple #[.int .i64 (j : Nat), .int .i64 0] ∧ takeP (aE sz c j).ps (zN (sz j)) = (a1 sz c j).ps ∧ (a1 sz c j).pushErr c j = 0 ∧ (a1 sz c j).pushed c j = a2 sz c j ∧
    errP (a2 sz c j).ps j = 0 ∧ ({ a2 sz c j with ps := dropP (a2 sz c j).ps j } : Eg) = aE sz c (j + 1) := by
  have h20 : j < 20 := by omega
  have hsz := hs j
  have hsize : sizeP (a1 sz c j).ps j = sz j := by
    unfold a1
    simp only
    rw [sizeP_mapN _ h20 (by rw [if_pos rfl]; simp), if_pos rfl, zN_len]
  have hup : ¬ (a1 sz c j).up = false := by show ¬ true = false; decide
  have hz : ¬ sizeP (a1 sz c j).ps j = 0 := by rw [hsize]; omega
  have hql : (mapN j fun i => (i : Int)).length = j := mapN_len _ _
  have herr : errR (a1 sz c j).rs c = 0 := by
    unfold errR
    rw [if_neg (by omega), Int.toNat_natCast, show (a1 sz c j).rs = rA c (mapN j fun i => (i : Int)) from rfl, rA_get _ hc]
    simp only
    rw [hql, if_pos (by omega)]
  refine ⟨?_, ?_, ?_, ?_, ?_, ?_⟩
  · unfold takeV; rw [a_take sz c hj]
  · unfold takeP; rw [a_take sz c hj]
    show (mapN 20 (fA sz j)).set j (zN (sz j), 1) = _
    rw [mapN_set]; rfl
  · unfold Eg.pushErr
    rw [if_neg hup, if_neg hz, herr]
  · unfold Eg.pushed
    rw [if_neg hup, if_neg hz, if_pos herr]
    unfold a2
    have e1 : pushR (a1 sz c j).rs c j = rA c (mapN (j + 1) fun i => (i : Int)) := by
      unfold pushR
      rw [if_neg (by omega), Int.toNat_natCast, show (a1 sz c j).rs = rA c (mapN j fun i => (i : Int)) from rfl, rA_get _ hc]
      simp only
      rw [hql, if_pos (by omega), rA_set, mapN_succ]
    have e2 : holdP (a1 sz c j).ps j = mapN 20 (fun i => if i = j then (zN (sz j), 2) else fA sz j i) := by
      unfold holdP
      have hh : heldOf (a1 sz c j).ps j = 1 := by unfold a1; simp only; rw [heldOf_mapN _ h20, if_pos rfl]
      rw [hh, if_neg (by decide), Int.toNat_natCast]
      unfold a1
      simp only
      rw [mapN_getD _ h20, if_pos rfl, mapN_set]
      exact mapN_congr (fun i _ => by by_cases e : i = j <;> simp [e])
    rw [e1, e2]
    rfl
  · unfold errP a2
    simp only
    rw [heldOf_mapN _ h20, if_pos rfl, if_neg (by simp)]
  · have e : dropP (a2 sz c j).ps j = mapN 20 (fA sz (j + 1)) := by
      unfold dropP a2
      simp only
      rw [heldOf_mapN _ h20, if_pos rfl, if_neg (by simp), Int.toNat_natCast, mapN_getD _ h20, if_pos rfl]
      simp only
      rw [if_neg (by decide), mapN_set]
      refine mapN_congr (fun i _ => ?_)
      unfold fA
      by_cases e : i = j
      · subst e
        rw [if_pos rfl, if_pos (by omega)]
      · rw [if_neg e, if_neg e]
        by_cases h : i < j
        · rw [if_pos h, if_pos (by omega)]
        · rw [if_neg h, if_neg (by omega)]
    unfold a2 at e ⊢
    simp only at e ⊢
    rw [e]
    rfl

/-! ## they are sent -/

def fB (sz : Nat → Nat) (m i k : Nat) : Bytes × Nat := if k < i then ([], 0) else if k < m then (zN (sz k), 1) else ([], 0)

/-- The first i of m frames of class c have been sent; the last one is told by cl, idn, fr, ti. -/
def bE (sz : Nat → Nat) (c m i : Nat) (cl idn fr ti : Int) : Eg :=
  { S := Sch.none, rs := rA c (mapN (m - i) fun k => ((k + i : Nat) : Int)), ps := mapN 20 (fB sz m i), shaped := false, speed := 1000, up := true, busy := false, cls := cl, id := idn, frm := fr, till := ti, cnt := mapN 8 fun d => if d = c then (i : Int) else 0 }

/-- Frame i is being sent. -/
def bS (sz : Nat → Nat) (c m i : Nat) (now : Int) : Eg :=
  { bE sz c m i c i now (now + timeOf (sz i) 1000) with rs := rA c (mapN (m - (i + 1)) fun k => ((k + (i + 1) : Nat) : Int)), busy := true, cnt := mapN 8 fun d => if d = c then ((i + 1 : Nat) : Int) else 0 }

theorem aE_bE (sz : Nat → Nat) (c m : Nat) : aE sz c m = bE sz c m 0 0 0 0 0 := by
  have e1 : fB sz m 0 = fA sz m := by
    funext k
    unfold fB fA
    rw [if_neg (by omega)]
  have e2 : (mapN 8 fun d => if d = c then ((0 : Nat) : Int) else 0) = List.replicate 8 0 := by
    show mapN 8 _ = mapN 8 fun _ => (0 : Int)
    exact mapN_congr (fun i _ => by by_cases e : i = c <;> simp [e])
  unfold bE aE
  rw [e1, e2]
  rfl

theorem rA_top {c : Nat} (hc : c < 8) {x : Int} {q : List Int} : topC (rA c (x :: q)) 8 = some c := by
  have gen : ∀ n, n ≤ 8 → topC (rA c (x :: q)) n = if c < n then some c else none := by
    intro n
    induction n with
    | zero => intro _; rfl
    | succ n ih =>
      intro hn
      rw [topC]
      unfold rA
      rw [mapN_getD _ (by omega)]
      by_cases e : n = c
      · rw [if_pos e, if_neg (by simp), if_pos (by omega), e]
      · rw [if_neg e, if_pos rfl]
        have := ih (by omega)
        unfold rA at this
        rw [this]
        by_cases h : c < n
        · rw [if_pos h, if_pos (by omega)]
        · rw [if_neg h, if_neg (by omega)]
  rw [gen 8 (Nat.le_refl _), if_pos hc]

theorem rA_empty (c : Nat) : topC (rA c []) 8 = none := by
  have gen : ∀ n, n ≤ 8 → topC (rA c []) n = none := by
    intro n
    induction n with
    | zero => intro _; rfl
    | succ n ih =>
      intro hn
      rw [topC]
      have h : ((rA c []).getD n ⟨0, [], 0⟩).q = [] := by
        unfold rA
        rw [mapN_getD _ (by omega)]
        by_cases e : n = c <;> simp [e]
      rw [if_pos h]
      exact ih (by omega)
  exact gen 8 (Nat.le_refl _)

theorem b_ok {sz : Nat → Nat} (hs : ∀ i, 64 ≤ sz i ∧ sz i ≤ 1522) {c m i : Nat} (hc : c < 8) (hm : m ≤ 9) (hi : i ≤ m) (q : List Int) (hq : ∀ x ∈ q, ∃ k : Nat, x = (k : Int) ∧ i ≤ k ∧ k < m) (cnt : List Int) (hcn : ∀ n ∈ cnt, 0 ≤ n ∧ n ≤ 9) (busy : Bool) (cl idn fr ti : Int) {now : Int} (h0 : 0 ≤ now) (h1 : now ≤ 1000000000000000) :
    EgPl { bE sz c m i cl idn fr ti with rs := rA c q, busy := busy, cnt := cnt } now := by
  have hrs : ∀ r ∈ rA c q, r.lost = 0 ∧ ∀ x ∈ r.q, ∃ k : Nat, x = (k : Int) ∧ i ≤ k ∧ k < m := by
    intro r hr
    obtain ⟨d, -, rfl⟩ := mapN_mem hr
    by_cases e : d = c
    · rw [if_pos e]; exact ⟨rfl, hq⟩
    · rw [if_neg e]; exact ⟨rfl, fun x hx => by simp at hx⟩
  have hx : ∀ k : Nat, i ≤ k → k < m → 0 < heldOf (mapN 20 (fB sz m i)) (k : Int) ∧ sizeP (mapN 20 (fB sz m i)) (k : Int) = sz k := fun k h2 h3 => by
    have hk : k < 20 := by omega
    have e : fB sz m i k = (zN (sz k), 1) := by unfold fB; rw [if_neg (by omega), if_pos h3]
    rw [heldOf_mapN _ hk, sizeP_mapN _ hk (by rw [e]; simp), e]
    exact ⟨Nat.one_pos, by rw [zN_len]⟩
  exact
    { pl := ⟨rfl, rfl⟩
      ok :=
        { speed := .inr (.inr (.inl rfl))
          has := fun r hr x hxr => by
            obtain ⟨k, rfl, h2, h3⟩ := (hrs r hr).2 x hxr
            obtain ⟨a, b⟩ := hx k h2 h3
            have := hs k
            exact ⟨a, by show 0 ≤ sizeP (mapN 20 (fB sz m i)) _; rw [b]; omega, by show sizeP (mapN 20 (fB sz m i)) _ ≤ 1522; rw [b]; omega⟩
          good := none_good, ext := none_ext now, n0 := h0, n1 := h1, chg0 := by show (0 : Int) ≤ 0; decide, chg1 := by show Sch.none.cnt ≤ _; decide
          cnts := fun c' n hn => by have := hcn n (List.mem_of_getElem? hn); omega
          held := heldOf_le (fun x hxm => by
            obtain ⟨k, -, rfl⟩ := mapN_mem hxm
            unfold fB
            split
            · decide
            · split <;> simp)
          lost := fun r hr => by rw [(hrs r hr).1]; decide }
      pos := fun r hr x hxr => by
        obtain ⟨k, rfl, h2, h3⟩ := (hrs r hr).2 x hxr
        have := hs k
        show 0 < sizeP (mapN 20 (fB sz m i)) _
        rw [(hx k h2 h3).2]; omega
      r8 := mapN_len _ _ }

theorem mapN_cons {α : Type} (n : Nat) (f : Nat → α) : mapN (n + 1) f = f 0 :: mapN n fun k => f (k + 1) := by
  unfold mapN
  rw [List.range_succ_eq_map, List.map_cons, List.map_map]
  rfl

theorem b_row {m i : Nat} (hi : i < m) : (mapN (m - i) fun k => ((k + i : Nat) : Int)) = (i : Int) :: mapN (m - (i + 1)) fun k => ((k + (i + 1) : Nat) : Int) := by
  rw [show m - i = (m - (i + 1)) + 1 by omega, mapN_cons]
  congr 1
  · simp
  · exact mapN_congr (fun k _ => by congr 1; omega)

theorem b_steps {sz : Nat → Nat} (hs : ∀ i, 64 ≤ sz i ∧ sz i ≤ 1522) {c m i : Nat} (hc : c < 8) (hm : m ≤ 9) (hi : i < m) (cl idn fr ti now : Int) :
    (bE sz c m i cl idn fr ti).startP now = (.tuple #[sentV c i now (now + timeOf (sz i) 1000), .bool true], bS sz c m i now) ∧
    (bS sz c m i now).endP (now + timeOf (sz i) 1000) = (.tuple #[sentV c i now (now + timeOf (sz i) 1000), .bool true], bE sz c m (i + 1) c i now (now + timeOf (sz i) 1000)) := by
  have h20 : i < 20 := by omega
  have e0 : fB sz m i i = (zN (sz i), 1) := by unfold fB; rw [if_neg (by omega), if_pos hi]
  have hsize : sizeP (mapN 20 (fB sz m i)) (i : Int) = sz i := by rw [sizeP_mapN _ h20 (by rw [e0]; simp), e0, zN_len]
  constructor
  · unfold Eg.startP
    rw [if_neg (by unfold bE; simp)]
    have htop : topC (bE sz c m i cl idn fr ti).rs 8 = some c := by
      unfold bE
      simp only
      rw [b_row hi]
      exact rA_top hc
    have hq : ((bE sz c m i cl idn fr ti).rs.getD c ⟨0, [], 0⟩) = ⟨9, (i : Int) :: mapN (m - (i + 1)) fun k => ((k + (i + 1) : Nat) : Int), 0⟩ := by
      unfold bE
      simp only
      rw [rA_get _ hc, b_row hi]
    rw [htop]
    simp only
    rw [hq]
    simp only
    have e1 : sizeP (bE sz c m i cl idn fr ti).ps (i : Int) = sz i := hsize
    rw [e1]
    refine Prod.ext rfl ?_
    simp only
    unfold Eg.sends
    rw [hq, e1]
    unfold bS bE
    simp only
    rw [rA_set, mapN_set, mapN_getD _ hc]
    congr 1
    exact mapN_congr (fun k _ => by by_cases e : k = c <;> simp [e])
  · unfold Eg.endP
    rw [if_pos ⟨rfl, Int.le_refl _⟩]
    refine Prod.ext rfl ?_
    simp only
    unfold Eg.ended bS bE
    simp only
    have e : dropP (mapN 20 (fB sz m i)) (i : Int) = mapN 20 (fB sz m (i + 1)) := by
      unfold dropP
      rw [heldOf_mapN _ h20, e0, if_neg (by simp), Int.toNat_natCast, mapN_getD _ h20, e0]
      simp only
      rw [if_pos trivial, mapN_set]
      refine mapN_congr (fun k _ => ?_)
      unfold fB
      by_cases e : k = i
      · rw [if_pos e, if_pos (by omega)]
      · rw [if_neg e]
        by_cases h : k < i
        · rw [if_pos h, if_pos (show k < i + 1 by omega)]
        · rw [if_neg h, if_neg (show ¬ k < i + 1 by omega)]
    rw [e]

theorem b_end (sz : Nat → Nat) (c m : Nat) (cl idn fr ti now : Int) : (bE sz c m m cl idn fr ti).startP now = (noneV, bE sz c m m cl idn fr ti) ∧ usedOf (bE sz c m m cl idn fr ti).ps = 0 ∧ (bE sz c m m cl idn fr ti).wakeP = -1 := by
  refine ⟨?_, ?_, rfl⟩
  · unfold Eg.startP
    rw [if_neg (by unfold bE; simp)]
    have htop : topC (bE sz c m m cl idn fr ti).rs 8 = none := by
      unfold bE
      simp only
      rw [Nat.sub_self]
      exact rA_empty c
    rw [htop]
  · unfold usedOf
    rw [List.countP_eq_zero]
    intro x hx
    obtain ⟨k, -, rfl⟩ := mapN_mem hx
    unfold fB
    by_cases h : k < m
    · rw [if_pos h]; decide
    · rw [if_neg h, if_neg h]; decide
end

section
open Go.RowKit

/-- A row of numbers that can be read. -/
def IntsR (w : World) (A : Option Addr) (xs : List Int) (c : Nat) : Prop :=
  xs = [] ∨ ∃ b o, A = some ⟨b, o, none⟩ ∧ xs.length ≤ c ∧ ∀ (j : Nat) (x : Int), xs[j]? = some x → w.cell? ⟨b, o + j, none⟩ = some (.int .i64 x)

theorem IntsR.same {w w' : World} {A : Option Addr} {xs : List Int} {c : Nat} (h : IntsR w A xs c) (hk : Keeps Nothing w w') : IntsR w' A xs c := by
  rcases h with h | ⟨b, o, h1, h2, h3⟩
  · exact .inl h
  · exact .inr ⟨b, o, h1, h2, fun j x hj => by have := h3 j x hj; exact (hk.cell (World.block_lt_of_cell? _ _ this) (fun h => h)).trans this⟩

theorem IntsR.at_ {w : World} {A : Option Addr} {xs : List Int} {c j : Nat} (h : IntsR w A xs c) (hj : j < xs.length) : ∃ b o x, A = some ⟨b, o, none⟩ ∧ xs[j]? = some x ∧ w.cell? ⟨b, o + j, none⟩ = some (.int .i64 x) := by
  rcases h with h | ⟨b, o, h1, h2, h3⟩
  · rw [h] at hj; simp at hj
  · exact ⟨b, o, xs[j], h1, List.getElem?_eq_getElem hj, h3 j _ (List.getElem?_eq_getElem hj)⟩

def clamp (n : Int) : Int := min (max n 64) 1522
def szOf (ns : List Int) (i : Nat) : Nat := (clamp (ns.getD i 64)).toNat

theorem szOf_ok (ns : List Int) (i : Nat) : 64 ≤ szOf ns i ∧ szOf ns i ≤ 1522 := by unfold szOf clamp; omega

theorem szOf_at {ns : List Int} {i : Nat} {n : Int} (h : ns[i]? = some n) : clamp n = (szOf ns i : Int) := by
  unfold szOf
  rw [List.getD_eq_getElem?_getD, h]
  show clamp n = ((clamp n).toNat : Int)
  unfold clamp
  omega

theorem rep_z (k : Nat) : rep k [Value.int .u8 0] = bcells (zN k) := by
  rw [rep_one]
  unfold bcells zN
  rw [List.map_replicate]
  rfl

def y0 : Eg := Eg.new 1000 [9, 9, 9, 9, 9, 9, 9, 9] (List.replicate 20 ([], 0))

theorem y0_pl : EgPl y0 0 := EgPl.of rfl rfl (by kernel_rfl) (by decide) (by decide)
theorem y0_val : y0.linkN true = 0 := by kernel_rfl

theorem y0_link (sz : Nat → Nat) (c : Nat) : y0.linked true = aE sz c 0 := by
  have e1 : (aE sz c 0).rs = mapN 8 fun _ => ⟨9, [], 0⟩ := mapN_congr (fun i _ => by by_cases e : i = c <;> simp [e, mapN])
  have e2 : (aE sz c 0).ps = mapN 20 fun _ => ([], 0) := mapN_congr (fun i _ => by unfold fA; rw [if_neg (by omega)])
  have e3 : y0.linked true = { aE sz c 0 with rs := mapN 8 fun _ => ⟨9, [], 0⟩, ps := mapN 20 fun _ => ([], 0) } := by rfl
  rw [e3, ← e1, ← e2]

theorem a1_eq (sz : Nat → Nat) (c j : Nat) : ({ aE sz c j with ps := (a1 sz c j).ps } : Eg) = a1 sz c j := rfl

def AInv (w0 : World) (p pp : Nat) (ns : List Int) (c : Nat) (k : Nat) (i : Value) (wr : World) : Prop :=
  ∃ (j : Nat) (G : Geo), j + k = ns.length ∧ i = .int .i64 (j : Nat) ∧ G.p = p ∧ G.pp = pp ∧ Run w0 wr G (aE (szOf ns) c j)

def BInv (w0 : World) (G : Geo) (ns : List Int) (c : Nat) (k : Nat) (now i : Value) (wr : World) : Prop :=
  ∃ (j : Nat) (t cl idn fr ti : Int), j + k = ns.length ∧ i = .int .i64 (j : Nat) ∧ now = .int .i64 t ∧ 0 ≤ t ∧ t ≤ j * 1300000 ∧ Run w0 wr G (bE (szOf ns) c ns.length j cl idn fr ti)

theorem bE_pl {ns : List Int} {c j : Nat} (hc : c < 8) (hl : ns.length ≤ 9) (hj : j ≤ ns.length) (cl idn fr ti : Int) {t : Int} (h0 : 0 ≤ t) (h1 : t ≤ 1000000000000000) : EgPl (bE (szOf ns) c ns.length j cl idn fr ti) t :=
  b_ok (szOf_ok ns) hc hl hj (mapN (ns.length - j) fun k => ((k + j : Nat) : Int)) (fun x hx => by obtain ⟨k, hk, rfl⟩ := mapN_mem hx; exact ⟨k + j, rfl, by omega, by omega⟩)
    (mapN 8 fun d => if d = c then (j : Int) else 0) (fun n hn => by obtain ⟨k, -, rfl⟩ := mapN_mem hn; by_cases e : k = c <;> simp [e]; omega) false cl idn fr ti h0 h1

theorem bS_pl {ns : List Int} {c j : Nat} (hc : c < 8) (hl : ns.length ≤ 9) (hj : j < ns.length) {now t : Int} (h0 : 0 ≤ t) (h1 : t ≤ 1000000000000000) : EgPl (bS (szOf ns) c ns.length j now) t :=
  b_ok (szOf_ok ns) hc hl (Nat.le_of_lt hj) (mapN (ns.length - (j + 1)) fun k => ((k + (j + 1) : Nat) : Int)) (fun x hx => by obtain ⟨k, hk, rfl⟩ := mapN_mem hx; exact ⟨k + (j + 1), rfl, by omega, by omega⟩)
    (mapN 8 fun d => if d = c then ((j + 1 : Nat) : Int) else 0) (fun n hn => by obtain ⟨k, -, rfl⟩ := mapN_mem hn; by_cases e : k = c <;> simp [e] <;> omega) true c j now (now + timeOf (szOf ns j) 1000) h0 h1

set_option maxRecDepth 100000 in
set_option maxHeartbeats 8000000 in
theorem all_in {w : World} {A : Option Addr} {ns : List Int} {cap : Nat} (h : IntsR w A ns cap) (hl : ns.length ≤ 9) (c : Nat) (hc : c < 8) :
    Calls Try.prog 3 #[.slice A ns.length cap, .int .i64 c] w (TrueKept w) := by
  obtain ⟨i0, hi0, hz0, hz1, hz2⟩ := info_parts Try.info5
  have HN := Lib.hid h
  have q1 : decide ((9 : Int) < (ns.length : Nat)) = false := decide_eq_false (by omega)
  have q2 : decide ((c : Int) < 0) = false := decide_eq_false (by omega)
  have q3 : decide ((7 : Int) < (c : Int)) = false := decide_eq_false (by omega)
  clear h
  go_enter Try.func3, Try.ntmps3
  go_upto_region 6 with (first
    | (go_at_call 8; refine (sends_ok _).mono ?_; rintro e w1 ⟨rfl, k1⟩)
    | (go_at_call 9; refine (new_any 20 _ 20 (by decide)).mono ?_; rintro e w2 ⟨pp, F, rfl, hP, hF, k2⟩))
  have C10 := new_eg hP 1000 (.inr (.inr (.inl rfl))) 9 9 9 9 9 9 9 9
  go_upto_region 7 with (go_at_call 10; refine C10.mono ?_; rintro e w3 ⟨G, rfl, hpp, hE, hn, -, k3⟩; clear C10)
  have hE : EgIn w3 G y0 := hE
  have HR := Lib.hid (Run.start (pp := pp) (k1.same k2) (fun x hx => by have := hF x hx; have := k1.size; omega) hE hn k3)
  subst hpp
  clear hP hF k1 k2 hE hn k3
  go_upto_region 9 with (go_at_call 11; refine (link_plain HR.out.at_ y0_pl (by decide) y0_val (y0_link (szOf ns) c)).mono ?_; rintro e w4 ⟨rfl, hW⟩; have HR4 := Lib.hid (HR.out.went hW); clear HR hW)
  go_loopg [47] ns.length (fun k i wr => AInv w G.p G.pp ns c k i wr)
  case atStart => exact ⟨0, G, by omega, rfl, rfl, rfl, HR4.out⟩
  case round =>
    obtain ⟨j, G2, hj, rfl, hp1, hp2, hR⟩ := hrel
    have HP := Lib.hid (And.intro hp1 hp2)
    have HR5 := Lib.hid hR
    clear hR hp1 hp2
    by_cases hlt : j < ns.length
    · obtain ⟨b, o, n, rfl, hn, hcell⟩ := (HN.out.same HR5.out.keeps).at_ hlt
      have hcl := szOf_at hn
      have hj9 : j < 9 := by omega
      have HST := Lib.hid (a_steps (szOf_ok ns) hc hj9)
      have hsz := szOf_ok ns j
      clear hn
      have hlt' : (j : Int) < (ns.length : Nat) := by omega
      unfold clamp at hcl
      have hh : ∀ i, heldOf (a1 (szOf ns) c j).ps i ≤ 1000000000 := heldOf_le (fun x hx => by obtain ⟨k, -, rfl⟩ := mapN_mem hx; unfold fA; split <;> (try split) <;> simp)
      have hl1 : ∀ r ∈ (a1 (szOf ns) c j).rs, r.lost ≤ 1000000000 := fun r hr => by obtain ⟨k, -, rfl⟩ := mapN_mem hr; split <;> simp
      have hh2 : ∀ i, heldOf (a2 (szOf ns) c j).ps i ≤ 1000000000 := heldOf_le (fun x hx => by obtain ⟨k, -, rfl⟩ := mapN_mem hx; unfold fA; split <;> (try split) <;> simp)
      have HH := Lib.hid (And.intro hh (And.intro hl1 hh2))
      have HSZ : Hid (1 * szOf ns j ≤ 281474976710656 ∧ szOf ns j ≤ 281474976710656) := ⟨by omega, by omega⟩
      clear hh hl1 hh2
      go_upto_region 11 with fail
      go_wp2_with (refine wpList_mk rfl (.tmp 55) (.tmp 55) 34 rfl 5 i0 (.int .u8 0) [.int .u8 0] Try.underlying34 hi0 hz0 hz1 rfl .i64 .i64 (szOf ns j) (szOf ns j) (szOf ns j) rfl rfl rfl rfl 1 hz2 HSZ.out.1 HSZ.out.2 ?_)
      intro w6 hB6 k6 _
      have HR6 := Lib.hid (HR5.out.same k6)
      rw [rep_z] at hB6
      have C12 := take_eg HR6.out.at_ (zN (szOf ns j)) ⟨wr.heap.size, 0, none⟩ (szOf ns j) (by rw [zN_len]; omega) (by rw [zN_len]; omega) (fun i u hu => by rw [show (⟨wr.heap.size, 0, none⟩ : Addr).add i = ⟨wr.heap.size, i, none⟩ by simp [Addr.add_lit], hB6.cell i]; exact hu)
      rw [HST.out.1, HST.out.2.1, zN_len, a1_eq, HP.out.2] at C12
      clear hB6 k6 hcl hcell
      go_upto_region 12 with (go_at_call 12; refine C12.mono ?_; rintro e w7 ⟨rfl, G3, hW⟩; clear C12)
      have HR7 := Lib.hid (HR6.out.went hW)
      have HX := Lib.hid (And.intro (hW.ext.p.trans HP.out.1) (hW.ext.pp.trans HP.out.2))
      have C13 := push_eg HR7.out.at_ HH.out.1 HH.out.2.1 c j 0 (by decide)
      rw [HST.out.2.2.1, HST.out.2.2.2.1, HX.out.1] at C13
      clear hW
      go_wp2_with (first
        | (go_at_call 13; refine C13.mono ?_; rintro e w8 ⟨rfl, hW8⟩; clear C13; have HR8 := Lib.hid (HR7.out.went hW8); have C14 := drop_ok HR8.out.at_.pool j (HH.out.2.2 j); rw [HST.out.2.2.2.2.1, HX.out.2] at C14)
        | (go_at_call 14; refine C14.mono ?_; rintro e w9 ⟨rfl, hP9, k9⟩; clear C14; rw [← HX.out.2] at hP9; have HR9 := Lib.hid (HR8.out.went (Went.of (HR8.out.at_.frames k9 hP9) k9 (own_T (by decide) (by decide)))); rw [HST.out.2.2.2.2.2] at HR9))
      go_roundg (gk - 1)
      case measure => omega
      case rel => exact ⟨j + 1, G3, by omega, by go_num, HX.out.1, HX.out.2, HR9.out⟩
    · obtain rfl : j = ns.length := by omega
      rw [aE_bE] at HR5
      go_wp2_with fail
      go_loopg [12, 78] ns.length (fun k now i wr => BInv w G2 ns c k now i wr)
      case atStart => exact ⟨0, 0, 0, 0, 0, 0, by omega, rfl, rfl, by omega, by omega, HR5.out⟩
      case round =>
        obtain ⟨j, t, cl, idn, fr, ti, hj, rfl, rfl, ht0, ht1, hR⟩ := hrel
        have HR6 := Lib.hid hR
        clear hR
        have ht2 : t ≤ 20000000 := by omega
        by_cases hlt : j < ns.length
        · obtain ⟨b, o, n, rfl, hn, hcell⟩ := (HN.out.same HR6.out.keeps).at_ hlt
          have hcl := szOf_at hn
          have hsz := szOf_ok ns j
          have hst := b_steps (szOf_ok ns) hc hl hlt cl idn fr ti t
          have htm := timeOf_range (n := 1000) (b := (szOf ns j : Nat)) (.inr (.inr (.inl rfl))) (by omega) (by omega)
          have C16 := fun v => time_ok v (szOf ns j : Nat) 1000 (.inr (.inr (.inl rfl))) (by omega) (by omega)
          have P1 := Lib.hid (bE_pl hc hl (Nat.le_of_lt hlt) cl idn fr ti ht0 (by omega : t ≤ 1000000000000000))
          have P2 := Lib.hid (bS_pl hc hl hlt (now := t) ht0 (by omega : t ≤ 1000000000000000))
          clear hn
          unfold clamp at hcl
          generalize timeOf (szOf ns j : Nat) 1000 = tm at *
          have HST := Lib.hid hst
          obtain ⟨tm0, tm1⟩ := htm
          have hwt : IntKind.i64.wrap (t + tm) = t + tm := by rw [IntKind.wrap_i64]; omega
          have hlt' : (j : Int) < (ns.length : Nat) := by omega
          have C15 : Calls Try.prog 15 #[.pointer (some ⟨G.p, 0, none⟩), .int .i64 t] wr (PDid wr G2 (.tuple #[.agg #[.int .i64 (c : Nat), .int .i64 (j : Nat), .int .i64 t, .int .i64 (t + tm)], .bool true]) (bS (szOf ns) c ns.length j t)) := by
            rw [← HP.out.1]
            exact start_plain HR6.out.at_ P1.out HST.out.1
          clear hst
          go_upto_region 20 with (go_at_call 15; refine C15.mono ?_; rintro e w7 ⟨rfl, hW⟩; clear C15)
          have HR7 := Lib.hid (HR6.out.went hW)
          have HB8 := Lib.hid (Blk.new w7 [.int .i64 (c : Nat), .int .i64 (j : Nat), .int .i64 t, .int .i64 (t + tm)] 38)
          have HR8 := Lib.hid (HR7.out.same ((Keeps.refl Nothing w7).alloc (.cells #[.int .i64 (c : Nat), .int .i64 (j : Nat), .int .i64 t, .int .i64 (t + tm)] 38)))
          clear hW
          generalize (w7.alloc (.cells #[.int .i64 (c : Nat), .int .i64 (j : Nat), .int .i64 t, .int .i64 (t + tm)] 38)) = w8 at *
          generalize w7.heap.size = sb at *
          have s0 : w8.cell? ⟨sb, 0, none⟩ = some (.int .i64 (c : Nat)) := HB8.out.cell 0
          have s2 : w8.cell? ⟨sb, 2, none⟩ = some (.int .i64 t) := HB8.out.cell 2
          have s3 : w8.cell? ⟨sb, 3, none⟩ = some (.int .i64 (t + tm)) := HB8.out.cell 3
          have C17 : Calls Try.prog 17 #[.pointer (some ⟨G.p, 0, none⟩), .int .i64 (t + tm)] w8 (PDid w8 G2 (.tuple #[.agg #[.int .i64 (c : Nat), .int .i64 (j : Nat), .int .i64 t, .int .i64 (t + tm)], .bool true]) (bE (szOf ns) c ns.length (j + 1) c j t (t + tm))) := by
            rw [← HP.out.1]
            exact end_plain HR8.out.at_ P2.out (by omega) HST.out.2
          go_wp2_with (first | (go_at_call 16; refine (C16 _).mono ?_; rintro e w9 ⟨rfl, rfl⟩; clear C16) | (go_at_call 17; refine C17.mono ?_; rintro e w10 ⟨rfl, hW⟩; clear C17; have HR10 := Lib.hid (HR8.out.went hW)))
          go_roundg (gk - 1)
          case measure => omega
          case rel => exact ⟨j + 1, t + tm, c, j, t, t + tm, by omega, by go_num, by go_num, by omega, by omega, HR10.out.same ((Keeps.refl Nothing w10).alloc _)⟩
        · obtain rfl : j = ns.length := by omega
          have P1 := Lib.hid (bE_pl hc hl (Nat.le_refl _) cl idn fr ti ht0 (by omega : t ≤ 1000000000000000))
          obtain ⟨e1, e2, e3⟩ := b_end (szOf ns) c ns.length cl idn fr ti t
          have HE3 := Lib.hid e3
          have HE2 := Lib.hid e2
          have C15 : Calls Try.prog 15 #[.pointer (some ⟨G.p, 0, none⟩), .int .i64 t] wr (PDid wr G2 (.tuple #[.agg #[.int .i64 0, .int .i64 0, .int .i64 0, .int .i64 0], .bool false]) (bE (szOf ns) c ns.length ns.length cl idn fr ti)) := by
            rw [← HP.out.1]
            exact start_plain HR6.out.at_ P1.out e1
          clear e1 e2 e3
          go_upto_region 29 with (go_at_call 15; refine C15.mono ?_; rintro e w7 ⟨rfl, hW⟩; clear C15)
          have HR8 := Lib.hid ((HR6.out.went hW).same ((Keeps.refl Nothing w7).alloc (.cells #[.int .i64 0, .int .i64 0, .int .i64 0, .int .i64 0] 38)))
          clear hW
          generalize (w7.alloc (.cells #[.int .i64 0, .int .i64 0, .int .i64 0, .int .i64 0] 38)) = w8 at *
          have C18 : Calls Try.prog 18 #[.pointer (some ⟨G.pp, 0, none⟩)] w8 (fun e w' => e = .returned (.int .i64 (0 : Nat)) ∧ w8 = w') := by
            have := used_any HR8.out.at_.pool
            rw [HE2.out, HP.out.2] at this
            exact this
          obtain ⟨cs, hcs⟩ : ∃ cs, cs = ((bE (szOf ns) c ns.length ns.length cl idn fr ti).cnt.map (Value.int .i64)).toArray := ⟨_, rfl⟩
          have hcg : cs[c]? = some (Value.int .i64 (ns.length : Nat)) := by
            rw [hcs, List.getElem?_toArray, List.getElem?_map, show (bE (szOf ns) c ns.length ns.length cl idn fr ti).cnt = mapN 8 (fun d => if d = c then ((ns.length : Nat) : Int) else 0) from rfl, mapN_get _ hc, if_pos rfl]
            rfl
          have hix : ∀ v : World, (Instr.index 30 (.agg cs) (.int .i64 (c : Nat))).run Try.prog v = .ok (.int .i64 (ns.length : Nat)) v := fun v =>
            run_index_arr (P := Try.prog) v Try.underlying30 (by kernel_rfl) (by kernel_rfl) hc hcg (by omega)
          have C19 : Calls Try.prog 19 #[.pointer (some ⟨G.p, 0, none⟩)] w8 (Tells (.agg cs) w8) := by
            rw [← HP.out.1, hcs]
            exact sends_eg HR8.out.at_
          have C20 : ∀ v, Keeps Nothing w8 v → Calls Try.prog 20 #[.pointer (some ⟨G.p, 0, none⟩), .int .i64 t] v (PDid v G2 (.int .i64 (-1)) (bE (szOf ns) c ns.length ns.length cl idn fr ti)) := fun v hv => by
            rw [← HP.out.1]
            exact wake_plain (HR8.out.same hv).at_ P1.out HE3.out
          clear hcs hcg
          go_wp2_with (first
            | (go_at_call 18; refine C18.mono ?_; rintro e w9 ⟨rfl, rfl⟩; clear C18)
            | (go_at_call 19; refine C19.mono ?_; rintro e w10 ⟨rfl, k10⟩; clear C19)
            | (go_at_call 20; refine (C20 _ k10).mono ?_; rintro e w11 ⟨rfl, hW⟩; clear C20))
          go_ret
          exact ⟨by simp, ((HR8.out.same k10).went hW).keeps⟩

set_option maxRecDepth 100000 in
theorem all_out {w : World} {A : Option Addr} {n cap : Nat} (hn : n ≤ 9223372036854775807) (c : Int) (h : 9 < n ∨ c < 0 ∨ 7 < c) :
    Calls Try.prog 3 #[.slice A n cap, .int .i64 c] w (TrueKept w) := by
  have h2 : (9 : Int) < (n : Nat) ∨ (decide ((9 : Int) < (n : Nat)) = false ∧ c < 0) ∨ (decide ((9 : Int) < (n : Nat)) = false ∧ decide (c < 0) = false ∧ 7 < c) := by
    by_cases h1 : (9 : Int) < (n : Nat)
    · exact .inl h1
    · by_cases h2 : c < 0
      · exact .inr (.inl ⟨decide_eq_false h1, h2⟩)
      · exact .inr (.inr ⟨decide_eq_false h1, decide_eq_false h2, by omega⟩)
  clear h
  rcases h2 with h | ⟨h, h'⟩ | ⟨h, h', h''⟩
  all_goals
    go_enter Try.func3, Try.ntmps3
    go_wp2_with (go_at_call 8; refine (sends_ok _).mono ?_; rintro e w1 ⟨rfl, k1⟩)
    go_ret
    exact ⟨rfl, k1⟩
end

section
open Go.ChangeShapes Go.WideShapes Go.ChangeAt Go.RowKit

set_option maxRecDepth 100000 in
theorem open_ids {H : Type} {enc : TypeId × Value → H} {base : Nat} {v : Value} {d : DataW H} {p : List MemPlace} {W : World}
    (o : Value.okWide Try.prog W .any base 22 v) (h : DataW.Trod enc Try.prog W 0 (fun _ => true) true 22 v d p) :
    ∃ A c ids, v = .slice A ids.length c ∧ ids.length ≤ 9223372036854775807 ∧ IntsR W A ids c := by
  obtain ⟨a0, len0, cap0, rfl⟩ := okWide_slice Try.underlying22 o
  obtain ⟨l, hr, ⟨A, c, hv⟩, hm, hel⟩ := tr_slice (sz := 1) Try.underlying22 (by kernel_rfl) (by omega) (tr_of h)
  obtain ⟨ids, hl, hp⟩ := list_of_each (n := l.length) (p := fun i x => l[i]? = some [Value.int .i64 x]) (fun i hi => by
    obtain ⟨x, h1, -⟩ := tr_int Try.underlying3 (hel l[i] (List.getElem_mem hi))
    exact ⟨x, by rw [List.getElem?_eq_getElem hi, h1]⟩)
  injection hv with e1 e2 e3
  subst e1 e2 e3
  refine ⟨a0, cap0, ids, by rw [hl], by omega, ?_⟩
  rcases hr with ⟨h1, -⟩ | ⟨b, o', c', h1, h2, h3⟩
  · exact .inl (List.eq_nil_of_length_eq_zero (by rw [hl, h1]; rfl))
  · injection h1 with e1 e2 e3
    subst e3
    refine .inr ⟨b, o', e1, by omega, fun j x hj => ?_⟩
    have := (h3 j _ (hp j x hj)).2 0 _ rfl
    simpa using this
end

end Go.Proofs.Ytimgmobmagpmlaa
