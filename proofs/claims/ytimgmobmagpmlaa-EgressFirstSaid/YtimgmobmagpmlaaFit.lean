/- The plain law of ChangeFits: walks over edges, in the large. -/
import Derived.Test.YtimgmobmagpmlaaBase
namespace Go.Proofs.Ytimgmobmagpmlaa.Fit

def it (nx : Int → Int) : Nat → Int → Int
  | 0, t => t
  | k + 1, t => it nx k (nx t)

structure Sys where
  st : Int → Int
  nx : Int → Int
  has : Bool
  waits : Bool
  due : Int
  base : Int
  cyc : Int
  acyc : Int
  tl : Option Int
  o : Nat
  a : Nat
  now : Int

/-- Up to when the list in force is gone through as it is. -/
def Sys.upto (S : Sys) : Int := S.tl.getD S.due

structure Sys.Ok (S : Sys) : Prop where
  n0 : 0 ≤ S.now
  d0 : S.waits = true → 0 ≤ S.due
  gt : ∀ t, S.now ≤ t → 0 ≤ S.nx t → t < S.nx t
  neg : ∀ t, S.now ≤ t → S.nx t < 0 → S.nx t = -1 ∧ S.has = false ∧ S.waits = false
  stays : ∀ t t', S.now ≤ t → t ≤ t' → (S.nx t < 0 ∨ t' < S.nx t) → S.st t' = S.st t
  same : ∀ t t', S.now ≤ t → t ≤ t' → (S.nx t < 0 ∨ t' < S.nx t) → S.nx t' = S.nx t
  dle : S.waits = true → ∀ t, S.now ≤ t → t < S.due → S.nx t ≤ S.due
  tl : ∀ f, S.tl = some f → S.waits = true ∧ S.has = true ∧ S.base < f ∧ f < S.due ∧ S.due - f < S.cyc
  tlst : ∀ f, S.tl = some f → ∀ t, f ≤ t → t < S.due → S.st t = S.st (f - 1) ∧ S.nx t = S.due
  lone : S.has = false → ∀ t t', S.now ≤ t → S.now ≤ t' → (S.waits = true → t < S.due ∧ t' < S.due) → S.st t' = S.st t
  lonx : S.has = false → S.waits = true → ∀ t, S.now ≤ t → t < S.due → S.nx t = S.due
  base : S.has = true → S.base ≤ S.now
  c1 : S.has = true → 1 ≤ S.cyc
  c2 : S.has = true → S.cyc ≤ 1000000000
  o64 : S.o ≤ 64
  a1 : S.waits = true → 1 ≤ S.acyc
  per : S.has = true → ∀ t, S.now ≤ t → (S.waits = true → t + S.cyc < S.upto) → S.st (t + S.cyc) = S.st t
  aper : S.waits = true → ∀ t, S.now ≤ t → S.due ≤ t → S.st (t + S.acyc) = S.st t
  cnt : S.has = true → ∀ t, S.now ≤ t → (S.waits = true → t < S.upto) → t + S.cyc ≤ it S.nx (2 * S.o + 1) t ∨ (S.waits = true ∧ S.upto ≤ it S.nx (2 * S.o + 1) t)
  acnt : S.waits = true → ∀ t, S.now ≤ t → S.due ≤ t → t + S.acyc ≤ it S.nx (2 * S.a + 1) t

theorem ext {q : Int → Prop} {s cyc : Int} (hc : 1 ≤ cyc) (h : ∀ v, s ≤ v → v < s + cyc → q v) : ∀ (k : Nat) (u : Int), s ≤ u → u < s + k → (∀ t, s ≤ t → t + cyc ≤ u → q t → q (t + cyc)) → q u
  | 0, u, h1, h2, _ => by omega
  | k + 1, u, h1, h2, hp => by
    by_cases hu : u < s + cyc
    · exact h u h1 hu
    · have h3 := ext hc h k (u - cyc) (by omega) (by omega) (fun t a b c => hp t a (by omega) c)
      have h4 := hp (u - cyc) (by omega) (by omega) h3
      rwa [show u - cyc + cyc = u by omega] at h4

theorem extend {q : Int → Prop} {s cyc u : Int} (hc : 1 ≤ cyc) (h : ∀ v, s ≤ v → v < s + cyc → q v) (hu : s ≤ u) (hp : ∀ t, s ≤ t → t + cyc ≤ u → q t → q (t + cyc)) : q u :=
  ext hc h ((u - s).toNat + 1) u hu (by omega) hp

variable {S : Sys}

theorem Sys.Ok.upto_le (H : S.Ok) : S.upto ≤ S.due := by
  unfold Sys.upto
  cases h : S.tl with
  | none => simp
  | some f => have := (H.tl f h).2.2.2.1; simp; omega

theorem Sys.Ok.upto_ge (H : S.Ok) (hh : S.has = true) : S.due - S.cyc < S.upto := by
  have hc := H.c1 hh
  unfold Sys.upto
  cases h : S.tl with
  | none => simp; omega
  | some f => have := (H.tl f h).2.2.2.2; simp; omega

/-- What is so for a whole cycle of the list in force is so up to the change. -/
theorem Sys.Ok.whole (H : S.Ok) {p : Int → Prop} (hh : S.has = true) {s : Int} (hs : S.now ≤ s) (h : ∀ v, s ≤ v → v < s + S.cyc → p (S.st v)) (hu : S.waits = true → s < S.upto) :
    ∀ u, s ≤ u → (S.waits = true → u < S.due) → p (S.st u) := by
  intro u h1 h2
  have hc := H.c1 hh
  have pre : ∀ u, s ≤ u → (S.waits = true → u < S.upto) → p (S.st u) := fun u h1 h2 =>
    extend (q := fun t => p (S.st t)) hc h h1 (fun t ht hle hq => by
      have := H.per hh t (by omega) (fun hw => by have := h2 hw; omega)
      show p (S.st (t + S.cyc))
      rw [this]
      exact hq)
  by_cases hb : S.waits = true → u < S.upto
  · exact pre u h1 hb
  · have hw : S.waits = true := Classical.byContradiction fun g => hb (fun x => absurd x g)
    have hge : ¬ u < S.upto := fun x => hb (fun _ => x)
    have hu2 := h2 hw
    have hs2 := hu hw
    cases hT : S.tl with
    | none => unfold Sys.upto at hge; rw [hT] at hge; simp at hge; omega
    | some f =>
      have e : S.upto = f := by unfold Sys.upto; rw [hT]; rfl
      rw [e] at hge hs2 pre
      rw [(H.tlst f hT u (by omega) hu2).1]
      exact pre (f - 1) (by omega) (fun _ => by omega)

/-- What is so for a whole cycle of the list that waits is so for good. -/
theorem Sys.Ok.awhole (H : S.Ok) {p : Int → Prop} (hw : S.waits = true) {s : Int} (hs : S.now ≤ s) (hd : S.due ≤ s) (h : ∀ v, s ≤ v → v < s + S.acyc → p (S.st v)) :
    ∀ u, s ≤ u → p (S.st u) := fun u h1 =>
  extend (q := fun t => p (S.st t)) (H.a1 hw) h h1 (fun t ht _ hq => by
    have := H.aper hw t (by omega) (by omega)
    show p (S.st (t + S.acyc))
    rw [this]
    exact hq)

theorem Sys.Ok.lones (H : S.Ok) {p : Int → Prop} (hh : S.has = false) {s : Int} (hs : S.now ≤ s) (h : p (S.st s)) (hd : S.waits = true → s < S.due) : ∀ u, s ≤ u → (S.waits = true → u < S.due) → p (S.st u) := fun u h1 h2 => by
  rw [H.lone hh s u hs (by omega) (fun hw => ⟨hd hw, h2 hw⟩)]
  exact h

/-! ## the walk -/

def Sys.steps (S : Sys) : Nat := 2 * (S.o + S.a) + 8

def Sys.leapT (S : Sys) (t : Int) (n : Nat) : Int :=
  if S.waits = true ∧ t < S.due ∧ S.nx t = S.due then S.due
  else if n = 1 ∧ S.waits = true ∧ 0 ≤ S.nx t ∧ S.nx t < S.due then (match S.tl with | some f => if S.nx t < f then f else S.due | none => S.due)
  else S.nx t

def Sys.leapN (S : Sys) (t : Int) (n : Nat) : Nat :=
  if S.waits = true ∧ t < S.due ∧ S.nx t = S.due then S.steps
  else if n = 1 ∧ S.waits = true ∧ 0 ≤ S.nx t ∧ S.nx t < S.due then S.steps
  else n - 1

/-- The walk to the first time at which it may stop. -/
def Sys.walk (S : Sys) (p : Int → Bool) : Nat → Int → Nat → Option Int
  | 0, _, _ => none
  | k + 1, t, n => if 0 < n ∧ 0 ≤ t then (if p (S.st t) = true then some t else S.walk p k (S.leapT t n) (S.leapN t n)) else some (-1)

def First (S : Sys) (p : Int → Bool) (t r : Int) : Prop :=
  (t ≤ r ∧ p (S.st r) = true ∧ ∀ u, t ≤ u → u < r → p (S.st u) = false) ∨ (r = -1 ∧ ∀ u, t ≤ u → p (S.st u) = false)

theorem it_snoc (nx : Int → Int) : ∀ (k : Nat) (t : Int), it nx (k + 1) t = nx (it nx k t)
  | 0, _ => rfl
  | k + 1, t => it_snoc nx k (nx t)

theorem it_add (nx : Int → Int) : ∀ (j k : Nat) (t : Int), it nx (j + k) t = it nx k (it nx j t)
  | 0, k, t => by rw [Nat.zero_add]; rfl
  | j + 1, k, t => by rw [Nat.add_right_comm]; exact it_add nx j k (nx t)

theorem Sys.Ok.pos (H : S.Ok) (hl : ¬ (S.has = false ∧ S.waits = false)) {t : Int} (ht : S.now ≤ t) : t < S.nx t := by
  by_cases h : S.nx t < 0
  · exact absurd ⟨(H.neg t ht h).2.1, (H.neg t ht h).2.2⟩ hl
  · exact H.gt t ht (by omega)

theorem Sys.Ok.it_ge (H : S.Ok) (hl : ¬ (S.has = false ∧ S.waits = false)) : ∀ (k : Nat) {t : Int}, S.now ≤ t → t + k ≤ it S.nx k t
  | 0, t, _ => by simp [it]
  | k + 1, t, ht => by
    have h1 := H.pos hl ht
    have h2 := H.it_ge hl k (t := S.nx t) (by omega)
    rw [it]
    omega

theorem Sys.Ok.it_mono (H : S.Ok) (hl : ¬ (S.has = false ∧ S.waits = false)) {j k : Nat} (hjk : j ≤ k) {t : Int} (ht : S.now ≤ t) : it S.nx j t ≤ it S.nx k t := by
  obtain ⟨d, rfl⟩ : ∃ d, k = j + d := ⟨k - j, by omega⟩
  rw [it_add]
  have h1 := H.it_ge hl j ht
  have h2 := H.it_ge hl d (t := it S.nx j t) (by omega)
  omega

/-- The state of the walk: since when it counts; nothing found so far. -/
structure Inv (S : Sys) (p : Int → Bool) (t0 t : Int) (n : Nat) : Prop where
  n1 : n ≤ S.steps
  at_ : ∃ s j, S.now ≤ s ∧ t0 ≤ s ∧ n + j = S.steps ∧ it S.nx j s = t ∧ (S.waits = true → s < S.due → t < S.due)
  no : ∀ u, t0 ≤ u → u < t → p (S.st u) = false

def Sys.mu (S : Sys) (t : Int) (n : Nat) : Nat := n + (if S.waits = true ∧ t < S.upto then 2 * S.steps else if S.waits = true ∧ t < S.due then S.steps else 0)

theorem Sys.Ok.tail_nx (H : S.Ok) {t : Int} (hd : t < S.due) (hu : ¬ t < S.upto) : S.nx t = S.due := by
  cases hT : S.tl with
  | none => unfold Sys.upto at hu; rw [hT] at hu; simp at hu; omega
  | some f =>
    unfold Sys.upto at hu; rw [hT] at hu; simp at hu
    exact (H.tlst f hT t (by omega) hd).2

theorem walk_zero (S : Sys) (p : Int → Bool) (k : Nat) (t : Int) (n : Nat) (h : ¬ (0 < n ∧ 0 ≤ t)) : S.walk p (k + 1) t n = some (-1) := by
  rw [Sys.walk, if_neg h]

theorem walk_first (H : S.Ok) (p : Int → Bool) {t0 : Int} (h0 : S.now ≤ t0) : ∀ (K : Nat) (t : Int) (n : Nat), S.mu t n < K → 0 < n → t0 ≤ t → Inv S p t0 t n → ∃ r, S.walk p K t n = some r ∧ First S p t0 r
  | 0, t, n, hm, _, _, _ => by omega
  | K + 1, t, n, hm, hn, ht, hI => by
    have n0 := H.n0
    have hup := H.upto_le
    rw [Sys.walk, if_pos ⟨hn, by omega⟩]
    by_cases hp : p (S.st t) = true
    · rw [if_pos hp]
      exact ⟨t, rfl, .inl ⟨ht, hp, hI.no⟩⟩
    · rw [if_neg hp]
      have hpf : p (S.st t) = false := by simpa using hp
      obtain ⟨s, j, hs, hts, hj, hit, hsd⟩ := hI.at_
      have no1 : ∀ u, t0 ≤ u → u ≤ t → p (S.st u) = false := fun u a b => by
        by_cases e : u = t
        · rw [e]; exact hpf
        · exact hI.no u a (by omega)
      have no2 : ∀ u, t0 ≤ u → (S.nx t < 0 ∨ u < S.nx t) → p (S.st u) = false := fun u a b => by
        by_cases e : u ≤ t
        · exact no1 u a e
        · rw [H.stays t u (by omega) (by omega) b]; exact hpf
      have hst8 : 8 ≤ S.steps := by unfold Sys.steps; omega
      have hso : 2 * S.o + 2 ≤ S.steps := by unfold Sys.steps; omega
      have hsa : 2 * S.a + 2 ≤ S.steps := by unfold Sys.steps; omega
      by_cases hA : S.waits = true ∧ t < S.due ∧ S.nx t = S.due
      · obtain ⟨hw, hd, hx⟩ := hA
        have e1 : S.leapT t n = S.due := by unfold Sys.leapT; rw [if_pos ⟨hw, hd, hx⟩]
        have e2 : S.leapN t n = S.steps := by unfold Sys.leapN; rw [if_pos ⟨hw, hd, hx⟩]
        rw [e1, e2]
        refine walk_first H p h0 K S.due S.steps ?_ (by omega) (by omega) ⟨by omega, ⟨S.due, 0, by omega, by omega, by omega, rfl, fun _ h => h⟩, fun u a b => no2 u a (.inr (by omega))⟩
        unfold Sys.mu at hm ⊢
        rw [if_neg (by rintro ⟨-, h⟩; omega), if_neg (by rintro ⟨-, h⟩; omega)]
        by_cases hc : t < S.upto
        · rw [if_pos ⟨hw, hc⟩] at hm; omega
        · rw [if_neg (fun h => hc h.2), if_pos ⟨hw, hd⟩] at hm; omega
      · by_cases hB : n = 1 ∧ S.waits = true ∧ 0 ≤ S.nx t ∧ S.nx t < S.due
        · obtain ⟨rfl, hw, hx0, hxd⟩ := hB
          have hgt := H.gt t (by omega) hx0
          have hd : t < S.due := by omega
          have htu : t < S.upto := Classical.byContradiction fun g => by
            have := H.tail_nx hd g
            omega
          have hl : ¬ (S.has = false ∧ S.waits = false) := fun h => by rw [hw] at h; cases h.2
          have hh : S.has = true := by
            cases hh : S.has with
            | true => rfl
            | false => have := H.lonx hh hw t (by omega) hd; omega
          have hsj := H.it_ge hl j hs
          have hsu : s < S.upto := by omega
          have hcov : s + S.cyc ≤ t := by
            have hm1 : it S.nx (2 * S.o + 1) s ≤ it S.nx j s := H.it_mono hl (by omega) hs
            rcases H.cnt hh s hs (fun _ => hsu) with h | ⟨-, h⟩ <;> omega
          have hall := H.whole (p := fun x => p x = false) hh hs (fun v a b => no1 v (by omega) (by omega)) (fun _ => hsu)
          have no3 : ∀ u, t0 ≤ u → u < S.due → p (S.st u) = false := fun u a b => by
            by_cases e : u < s
            · exact no1 u a (by omega)
            · exact hall u (by omega) (fun _ => b)
          have e2 : S.leapN t 1 = S.steps := by unfold Sys.leapN; rw [if_neg hA, if_pos ⟨rfl, hw, hx0, hxd⟩]
          have e1 : S.leapT t 1 = S.due ∨ (S.leapT t 1 = S.upto ∧ S.upto < S.due ∧ t < S.upto) := by
            unfold Sys.leapT
            rw [if_neg hA, if_pos ⟨rfl, hw, hx0, hxd⟩]
            cases hT : S.tl with
            | none => exact .inl rfl
            | some f =>
              have := (H.tl f hT).2.2.2.1
              have e : S.upto = f := by unfold Sys.upto; rw [hT]; rfl
              simp only
              by_cases hf : S.nx t < f
              · rw [if_pos hf]; exact .inr ⟨e.symm, by omega, by omega⟩
              · rw [if_neg hf]; exact .inl rfl
          rw [e2]
          have hmu : S.mu t 1 = 1 + 2 * S.steps := by unfold Sys.mu; rw [if_pos ⟨hw, htu⟩]
          rcases e1 with e1 | ⟨e1, e3, e4⟩
          · rw [e1]
            refine walk_first H p h0 K S.due S.steps ?_ (by omega) (by omega) ⟨by omega, ⟨S.due, 0, by omega, by omega, by omega, rfl, fun _ h => h⟩, fun u a b => no3 u a b⟩
            unfold Sys.mu
            rw [if_neg (by rintro ⟨-, h⟩; omega), if_neg (by rintro ⟨-, h⟩; omega)]
            omega
          · rw [e1]
            refine walk_first H p h0 K S.upto S.steps ?_ (by omega) (by omega) ⟨by omega, ⟨S.upto, 0, by omega, by omega, by omega, rfl, fun _ h => h⟩, fun u a b => no3 u a (by omega)⟩
            unfold Sys.mu
            rw [if_neg (by rintro ⟨-, h⟩; omega), if_pos ⟨hw, e3⟩]
            omega
        · have e1 : S.leapT t n = S.nx t := by unfold Sys.leapT; rw [if_neg hA, if_neg hB]
          have e2 : S.leapN t n = n - 1 := by unfold Sys.leapN; rw [if_neg hA, if_neg hB]
          rw [e1, e2]
          obtain ⟨K', rfl⟩ : ∃ K', K = K' + 1 := ⟨K - 1, by unfold Sys.mu at hm; omega⟩
          by_cases hx : S.nx t < 0
          · rw [walk_zero S p K' _ _ (by omega)]
            exact ⟨-1, rfl, .inr ⟨rfl, fun u a => no2 u a (.inl hx)⟩⟩
          · have hgt := H.gt t (by omega) (by omega)
            by_cases h1 : n = 1
            · subst h1
              rw [walk_zero S p K' _ _ (by omega)]
              refine ⟨-1, rfl, .inr ⟨rfl, ?_⟩⟩
              cases hw : S.waits with
              | true =>
                have hl : ¬ (S.has = false ∧ S.waits = false) := fun h => by rw [hw] at h; cases h.2
                have htd : S.due ≤ t := Classical.byContradiction fun g => by
                  have h3 := H.dle hw t (by omega) (by omega)
                  have h4 : ¬ S.nx t < S.due := fun h => hB ⟨rfl, hw, by omega, h⟩
                  exact hA ⟨hw, by omega, by omega⟩
                have hsd2 : S.due ≤ s := Classical.byContradiction fun g => by have := hsd hw (by omega); omega
                have hm1 : it S.nx (2 * S.a + 1) s ≤ it S.nx j s := H.it_mono hl (by omega) hs
                have hcv := H.acnt hw s hs hsd2
                have hall := H.awhole (p := fun x => p x = false) hw hs hsd2 (fun v a b => no1 v (by omega) (by omega))
                intro u a
                by_cases e : u < s
                · exact no1 u a (by have := H.it_ge hl j hs; omega)
                · exact hall u (by omega)
              | false =>
                cases hh : S.has with
                | true =>
                  have hl : ¬ (S.has = false ∧ S.waits = false) := fun h => by rw [hh] at h; cases h.1
                  have hm1 : it S.nx (2 * S.o + 1) s ≤ it S.nx j s := H.it_mono hl (by omega) hs
                  have hcv : s + S.cyc ≤ it S.nx (2 * S.o + 1) s := by
                    rcases H.cnt hh s hs (fun h => by rw [hw] at h; cases h) with h | ⟨h, -⟩
                    · exact h
                    · rw [hw] at h; cases h
                  have hall := H.whole (p := fun x => p x = false) hh hs (fun v a b => no1 v (by omega) (by omega)) (fun h => by rw [hw] at h; cases h)
                  intro u a
                  by_cases e : u < s
                  · exact no1 u a (by have := H.it_ge hl j hs; omega)
                  · exact hall u (by omega) (fun h => by rw [hw] at h; cases h)
                | false =>
                  intro u a
                  by_cases e : u ≤ t
                  · exact no1 u a e
                  · rw [H.lone hh t u (by omega) (by omega) (fun h => by rw [hw] at h; cases h)]
                    exact hpf
            · refine walk_first H p h0 (K' + 1) (S.nx t) (n - 1) ?_ (by omega) (by omega) ⟨by have := hI.n1; omega, ⟨s, j + 1, hs, hts, by omega, by rw [it_snoc, hit], fun hw h => ?_⟩, fun u a b => no2 u a (.inr b)⟩
              · unfold Sys.mu at hm ⊢
                by_cases c1 : S.waits = true ∧ S.nx t < S.upto
                · rw [if_pos c1]
                  rw [if_pos ⟨c1.1, by omega⟩] at hm
                  omega
                · rw [if_neg c1]
                  by_cases c2 : S.waits = true ∧ S.nx t < S.due
                  · rw [if_pos c2]
                    by_cases c3 : t < S.upto
                    · rw [if_pos ⟨c2.1, c3⟩] at hm; omega
                    · rw [if_neg (fun h => c3 h.2), if_pos ⟨c2.1, by omega⟩] at hm; omega
                  · rw [if_neg c2]; omega
              · have h3 := hsd hw h
                have h4 := H.dle hw t (by omega) h3
                have h5 : S.nx t ≠ S.due := fun h => hA ⟨hw, h3, h⟩
                omega

/-- The walk finds the first time. -/
theorem walk_ok (H : S.Ok) (p : Int → Bool) {t : Int} (h : S.now ≤ t) : ∃ r, S.walk p (4 * S.steps) t S.steps = some r ∧ First S p t r := by
  have h8 : 8 ≤ S.steps := by unfold Sys.steps; omega
  refine walk_first H p h _ t S.steps ?_ (by omega) (Int.le_refl _) ⟨Nat.le_refl _, ⟨t, 0, h, Int.le_refl _, by omega, rfl, fun _ h => h⟩, fun u a b => by omega⟩
  unfold Sys.mu
  split
  · omega
  · split <;> omega

theorem Sys.Ok.nx_mono (H : S.Ok) (hl : ¬ (S.has = false ∧ S.waits = false)) {t t' : Int} (h : S.now ≤ t) (h1 : t ≤ t') : S.nx t ≤ S.nx t' := by
  by_cases e : t' < S.nx t
  · rw [H.same t t' h h1 (.inr e)]; exact Int.le_refl _
  · have := H.pos hl (t := t') (by omega)
    omega

theorem Sys.Ok.it_le (H : S.Ok) (hl : ¬ (S.has = false ∧ S.waits = false)) : ∀ (k : Nat) {t t' : Int}, S.now ≤ t → t ≤ t' → it S.nx k t ≤ it S.nx k t'
  | 0, t, t', _, h => h
  | k + 1, t, t', h, h1 => by
    have := H.pos hl h
    exact H.it_le hl k (by omega) (H.nx_mono hl h h1)

/-! ## the first time at which it fits -/

def Fits (S : Sys) (p : Int → Bool) (need v : Int) : Prop := ∀ x, v ≤ x → x < v + need → p (S.st x) = true

def Sys.fitGo (S : Sys) (p : Int → Bool) (need : Int) : Nat → Int → Option (Bool × Int)
  | 0, t => some (false, t)
  | k + 1, t =>
    match S.walk p (4 * S.steps) t S.steps with
    | none => none
    | some f =>
      if f < 0 then some (false, t)
      else match S.walk (fun x => !p x) (4 * S.steps) f S.steps with
        | none => none
        | some u => if u < 0 ∨ need ≤ u - f then some (true, f) else S.fitGo p need k u

theorem fitGo_ok (H : S.Ok) (p : Int → Bool) {need : Int} (hn : 1 ≤ need) : ∀ (k : Nat) {t : Int}, S.now ≤ t →
    (∃ f, S.fitGo p need k t = some (true, f) ∧ t ≤ f ∧ Fits S p need f ∧ ∀ v, t ≤ v → v < f → ¬ Fits S p need v) ∨
    (∃ t1, S.fitGo p need k t = some (false, t1) ∧ t ≤ t1 ∧ (∀ v, t ≤ v → v < t1 → ¬ Fits S p need v) ∧
      ((∀ x, t1 ≤ x → p (S.st x) = false) ∨ ((¬ (S.has = false ∧ S.waits = false) → it S.nx k t ≤ t1) ∧ (0 < k → p (S.st t1) = false ∧ ¬ (S.has = false ∧ S.waits = false)))))
  | 0, t, h => .inr ⟨t, rfl, Int.le_refl _, fun v a b => by omega, .inr ⟨fun _ => Int.le_refl _, fun h => by omega⟩⟩
  | k + 1, t, h => by
    have n0 := H.n0
    obtain ⟨f, hf, hf1⟩ := walk_ok H p h
    rw [Sys.fitGo, hf]
    simp only
    rcases hf1 with ⟨f1, f2, f3⟩ | ⟨rfl, f3⟩
    · rw [if_neg (by omega)]
      have nof : ∀ v, t ≤ v → v < f → ¬ Fits S p need v := fun v a b c => by
        have h1 := f3 v a b
        rw [c v (Int.le_refl _) (by omega)] at h1
        cases h1
      obtain ⟨u, hu, hu1⟩ := walk_ok H (fun x => !p x) (t := f) (by omega)
      rw [hu]
      simp only
      rcases hu1 with ⟨u1, u2, u3⟩ | ⟨rfl, u3⟩
      · by_cases hq : need ≤ u - f
        · rw [if_pos (.inr hq)]
          exact .inl ⟨f, rfl, f1, fun x a b => by simpa using u3 x a (by omega), nof⟩
        · rw [if_neg (by omega)]
          have hcl : p (S.st u) = false := by simpa using u2
          have hfu : f < u := by
            by_cases e : f = u
            · rw [e, hcl] at f2; cases f2
            · omega
          have nou : ∀ v, t ≤ v → v < u → ¬ Fits S p need v := fun v a b c => by
            by_cases e : v < f
            · exact nof v a e c
            · have := c u (by omega) (by omega)
              rw [hcl] at this
              cases this
          have hst : ¬ (S.st f = S.st u) := fun e => by rw [e, hcl] at f2; cases f2
          have hl : ¬ (S.has = false ∧ S.waits = false) := fun hl => hst (H.lone hl.1 u f (by omega) (by omega) (fun hw => by rw [hl.2] at hw; cases hw))
          have hnx : S.nx t ≤ u := Classical.byContradiction fun g => hst (by
            rw [H.stays t f h f1 (.inr (by omega)), H.stays t u h (by omega) (.inr (by omega))])
          rcases fitGo_ok H p hn k (t := u) (by omega) with ⟨f', g1, g2, g3, g4⟩ | ⟨t1, g1, g2, g3, g4⟩
          · refine .inl ⟨f', g1, by omega, g3, fun v a b => ?_⟩
            by_cases e : v < u
            · exact nou v a e
            · exact g4 v (by omega) b
          · refine .inr ⟨t1, g1, by omega, fun v a b => ?_, ?_⟩
            · by_cases e : v < u
              · exact nou v a e
              · exact g3 v (by omega) b
            · rcases g4 with g4 | ⟨g4, g5⟩
              · exact .inl g4
              · refine .inr ⟨fun _ => ?_, fun _ => ⟨?_, hl⟩⟩
                · have hp := H.pos hl h
                  exact Int.le_trans (H.it_le hl k (by omega) hnx) (g4 hl)
                · cases k with
                  | zero =>
                    rw [Sys.fitGo] at g1
                    have : u = t1 := by injection g1 with g1; injection g1
                    rw [← this]; exact hcl
                  | succ k => exact (g5 (by omega)).1
      · rw [if_pos (.inl (by omega))]
        exact .inl ⟨f, rfl, f1, fun x a b => by simpa using u3 x a, nof⟩
    · rw [if_pos (by omega)]
      exact .inr ⟨t, rfl, Int.le_refl _, fun v a b => by omega, .inl f3⟩

def Sys.late (S : Sys) (t : Int) : Int := if S.has = true then max (max t (S.due - 2000000000)) (S.due - 2 * S.cyc) else max t (S.due - 2000000000)

def Sys.fits (S : Sys) (p : Int → Bool) (need t : Int) : Option Int :=
  match S.fitGo p need (2 * S.steps) t with
  | none => none
  | some (true, r) => some r
  | some (false, t1) =>
    if S.waits = true then
      match S.fitGo p need (2 * S.steps) (S.late t1) with
      | none => none
      | some (true, r) => some r
      | some (false, _) => some (-1)
    else some (-1)

def FirstFit (S : Sys) (p : Int → Bool) (need r : Int) : Prop :=
  (S.now ≤ r ∧ Fits S p need r ∧ ∀ v, S.now ≤ v → v < r → ¬ Fits S p need v) ∨ (r = -1 ∧ ∀ v, S.now ≤ v → ¬ Fits S p need v)

theorem Sys.Ok.closed (H : S.Ok) (hh : S.has = true) (p : Int → Bool) : ∀ (k : Nat) {s y : Int}, S.now ≤ s → s < y + S.cyc → y < s + k → (S.waits = true → y + S.cyc ≤ S.upto) → p (S.st s) = false → ∃ x, y ≤ x ∧ x < y + S.cyc ∧ p (S.st x) = false
  | 0, s, y, hs, h1, h2, h3, hc => ⟨s, by omega, h1, hc⟩
  | k + 1, s, y, hs, h1, h2, h3, hc => by
    have c1 := H.c1 hh
    by_cases e : y ≤ s
    · exact ⟨s, e, h1, hc⟩
    · refine H.closed hh p k (s := s + S.cyc) (by omega) (by omega) (by omega) h3 ?_
      rw [H.per hh s hs (fun hw => by have := h3 hw; omega)]
      exact hc

theorem Fits.back (H : S.Ok) {p : Int → Bool} {need : Int} (hh : S.has = true) (hw : S.waits = false) {t : Int} (ht : S.now ≤ t) (h : Fits S p need (t + S.cyc)) : Fits S p need t := fun x a b => by
  have := h (x + S.cyc) (by omega) (by omega)
  rwa [H.per hh x (by omega) (fun h => by rw [hw] at h; cases h)] at this

theorem Fits.aback (H : S.Ok) {p : Int → Bool} {need : Int} (hw : S.waits = true) {t : Int} (ht : S.now ≤ t) (hd : S.due ≤ t) (h : Fits S p need (t + S.acyc)) : Fits S p need t := fun x a b => by
  have := h (x + S.acyc) (by omega) (by omega)
  rwa [H.aper hw x (by omega) (by omega)] at this

/-- Where none waits: what fits in no whole cycle fits never. -/
theorem none_ever (H : S.Ok) {p : Int → Bool} {need : Int} (hh : S.has = true) (hw : S.waits = false) (h : ∀ v, S.now ≤ v → v < S.now + S.cyc → ¬ Fits S p need v) : ∀ v, S.now ≤ v → ¬ Fits S p need v := fun v hv =>
  extend (q := fun v => ¬ Fits S p need v) (H.c1 hh) h hv (fun _ ht _ hq hf => hq (Fits.back H hh hw ht hf))

theorem cover (H : S.Ok) (hh : S.has = true) (hw : S.waits = false) {k : Nat} (hk : 2 * S.o + 1 ≤ k) : S.now + S.cyc ≤ it S.nx k S.now := by
  have hl : ¬ (S.has = false ∧ S.waits = false) := fun h => by rw [hh] at h; cases h.1
  have h1 := H.it_mono hl hk (t := S.now) (Int.le_refl _)
  rcases H.cnt hh S.now (Int.le_refl _) (fun h => by rw [hw] at h; cases h) with h | ⟨h, -⟩
  · omega
  · rw [hw] at h; cases h

theorem late_ge (S : Sys) (t : Int) : t ≤ S.late t := by
  unfold Sys.late
  split <;> omega

theorem late_ok (H : S.Ok) (p : Int → Bool) {need : Int} (hw : S.waits = true) {t1 : Int} (h1 : S.now ≤ t1) (hno : ∀ v, S.now ≤ v → v < t1 → ¬ Fits S p need v) (hit : it S.nx (2 * S.steps) S.now ≤ t1) (hcl : p (S.st t1) = false) :
    ∀ v, S.now ≤ v → v < S.late t1 → ¬ Fits S p need v := by
  have n0 := H.n0
  have hl : ¬ (S.has = false ∧ S.waits = false) := fun h => by rw [hw] at h; cases h.2
  have hst : 2 * S.o + 1 ≤ 2 * S.steps := by unfold Sys.steps; omega
  cases hh : S.has with
  | false =>
    have hd : S.due ≤ t1 := by
      by_cases e : S.now < S.due
      · have h2 := H.lonx hh hw S.now (Int.le_refl _) e
        have h3 := H.it_mono hl (j := 1) (k := 2 * S.steps) (by omega) (t := S.now) (Int.le_refl _)
        have h4 : it S.nx 1 S.now = S.due := h2
        omega
      · omega
    have e : S.late t1 = t1 := by unfold Sys.late; rw [hh]; simp; omega
    rw [e]
    exact hno
  | true =>
    have c1 := H.c1 hh
    have c2 := H.c2 hh
    have hup := H.upto_ge hh
    have hul := H.upto_le
    have e : S.late t1 = max t1 (S.due - 2 * S.cyc) := by unfold Sys.late; rw [hh]; simp; omega
    rw [e]
    by_cases hlt : S.due - 2 * S.cyc ≤ t1
    · rw [Int.max_eq_left hlt]; exact hno
    · rw [Int.max_eq_right (by omega)]
      have hcov : S.now + S.cyc ≤ t1 := by
        have h3 := H.it_mono hl hst (t := S.now) (Int.le_refl _)
        rcases H.cnt hh S.now (Int.le_refl _) (fun _ => by omega) with h | ⟨-, h⟩ <;> omega
      intro v hv hvd
      refine extend (q := fun v => ¬ Fits S p need v) (H.c1 hh) (fun v a b => hno v a (by omega)) hv (fun t ht hle hq hf => hq (fun x a b => ?_))
      have hx := hf (x + S.cyc) (by omega) (by omega)
      by_cases hxe : x + S.cyc < S.upto
      · rwa [H.per hh x (by omega) (fun _ => hxe)] at hx
      · exfalso
        have hop : ∀ y, t + S.cyc ≤ y → y < S.upto → p (S.st y) = true := fun y a2 b2 => hf y a2 (by omega)
        by_cases e2 : t + S.cyc ≤ t1
        · rw [hop t1 e2 (by omega)] at hcl; cases hcl
        · obtain ⟨y, y1, y2, y3⟩ := H.closed hh p ((t + S.cyc - t1).toNat + 1) (s := t1) (y := t + S.cyc) h1 (by omega) (by omega) (fun _ => by omega) hcl
          rw [hop y y1 (by omega)] at y3
          cases y3

theorem fits_ok (H : S.Ok) (p : Int → Bool) {need : Int} (hn : 1 ≤ need) : ∃ r, S.fits p need S.now = some r ∧ FirstFit S p need r := by
  have n0 := H.n0
  unfold Sys.fits
  rcases fitGo_ok H p hn (2 * S.steps) (t := S.now) (Int.le_refl _) with ⟨f, g1, g2, g3, g4⟩ | ⟨t1, g1, g2, g3, g4⟩
  · rw [g1]
    exact ⟨f, rfl, .inl ⟨g2, g3, g4⟩⟩
  · rw [g1]
    simp only
    have hnever : (∀ x, t1 ≤ x → p (S.st x) = false) → ∀ v, S.now ≤ v → ¬ Fits S p need v := fun hc v a b => by
      by_cases e : v < t1
      · exact g3 v a e b
      · have := b v (Int.le_refl _) (by omega)
        rw [hc v (by omega)] at this
        cases this
    cases hw : S.waits with
    | false =>
      simp only [Bool.false_eq_true, if_false]
      refine ⟨-1, rfl, .inr ⟨rfl, ?_⟩⟩
      rcases g4 with g4 | ⟨g4, g5⟩
      · exact hnever g4
      · have hst : 0 < 2 * S.steps := by unfold Sys.steps; omega
        obtain ⟨g6, hl⟩ := g5 hst
        have hh : S.has = true := by
          cases hh : S.has with
          | true => rfl
          | false => exact absurd ⟨hh, hw⟩ hl
        have hc := cover H hh hw (k := 2 * S.steps) (by unfold Sys.steps; omega)
        have := g4 hl
        exact none_ever H hh hw (fun v a b => g3 v a (by omega))
    | true =>
      simp only [if_true]
      have hlg := late_ge S t1
      have hl : ¬ (S.has = false ∧ S.waits = false) := fun h => by rw [hw] at h; cases h.2
      have hno2 : ∀ v, S.now ≤ v → v < S.late t1 → ¬ Fits S p need v := by
        rcases g4 with g4 | ⟨g4, g5⟩
        · exact fun v a _ => hnever g4 v a
        · exact late_ok H p hw g2 g3 (g4 hl) (g5 (by unfold Sys.steps; omega)).1
      have hdl : S.has = true → S.due - 2 * S.cyc ≤ S.late t1 := fun hh => by unfold Sys.late; rw [if_pos hh]; omega
      generalize S.late t1 = t2 at *
      rcases fitGo_ok H p hn (2 * S.steps) (t := t2) (by omega) with ⟨f, k1, k2, k3, k4⟩ | ⟨t3, k1, k2, k3, k4⟩
      · rw [k1]
        refine ⟨f, rfl, .inl ⟨by omega, k3, fun v a b => ?_⟩⟩
        by_cases e : v < t2
        · exact hno2 v a e
        · exact k4 v (by omega) b
      · rw [k1]
        refine ⟨-1, rfl, .inr ⟨rfl, ?_⟩⟩
        have hno3 : ∀ v, S.now ≤ v → v < t3 → ¬ Fits S p need v := fun v a b => by
          by_cases e : v < t2
          · exact hno2 v a e
          · exact k3 v (by omega) b
        rcases k4 with k4 | ⟨k4, -⟩
        · intro v a b
          by_cases e : v < t3
          · exact hno3 v a e b
          · have := b v (Int.le_refl _) (by omega)
            rw [k4 v (by omega)] at this
            cases this
        · have k4 := k4 hl
          have reach : S.due ≤ it S.nx (2 * (2 * S.o + 1) + 1) t2 := by
            by_cases hd2 : S.due ≤ t2
            · have := H.it_ge hl (2 * (2 * S.o + 1) + 1) (t := t2) (by omega)
              omega
            · cases hh : S.has with
              | false =>
                have h2 := H.lonx hh hw t2 (by omega) (by omega)
                have h3 := H.it_mono hl (j := 1) (k := 2 * (2 * S.o + 1) + 1) (by omega) (t := t2) (by omega)
                have h4 : it S.nx 1 t2 = S.due := h2
                omega
              | true =>
                have hd3 := hdl hh
                have step : ∀ y, S.now ≤ y → S.upto ≤ y → S.due ≤ S.nx y := fun y a b => by
                  by_cases e : y < S.due
                  · rw [H.tail_nx e (by omega)]; exact Int.le_refl _
                  · have := H.pos hl a; omega
                have up : S.due ≤ it S.nx (2 * (2 * S.o + 1)) t2 ∨ S.upto ≤ it S.nx (2 * (2 * S.o + 1)) t2 := by
                  have hm := H.it_mono hl (j := 2 * S.o + 1) (k := 2 * (2 * S.o + 1)) (by omega) (t := t2) (by omega)
                  by_cases e : t2 < S.upto
                  · rcases H.cnt hh t2 (by omega) (fun _ => e) with h | ⟨-, h⟩
                    · by_cases e2 : it S.nx (2 * S.o + 1) t2 < S.upto
                      · have h5 := H.it_ge hl (2 * S.o + 1) (t := t2) (by omega)
                        have h6 : it S.nx (2 * (2 * S.o + 1)) t2 = it S.nx (2 * S.o + 1) (it S.nx (2 * S.o + 1) t2) := by rw [← it_add, Nat.two_mul]
                        rcases H.cnt hh (it S.nx (2 * S.o + 1) t2) (by omega) (fun _ => e2) with h7 | ⟨-, h7⟩
                        · left; omega
                        · right; omega
                      · right; omega
                    · right; omega
                  · right
                    have := H.it_ge hl (2 * (2 * S.o + 1)) (t := t2) (by omega)
                    omega
                have h8 := H.it_ge hl (2 * (2 * S.o + 1)) (t := t2) (by omega)
                rw [it_snoc]
                rcases up with h | h
                · have := H.pos hl (t := it S.nx (2 * (2 * S.o + 1)) t2) (by omega)
                  omega
                · exact step _ (by omega) h
          have hge := H.it_ge hl (2 * (2 * S.o + 1) + 1) (t := t2) (by omega)
          have hac := H.acnt hw (it S.nx (2 * (2 * S.o + 1) + 1) t2) (by omega) reach
          rw [← it_add] at hac
          have hfin := H.it_mono hl (j := 2 * (2 * S.o + 1) + 1 + (2 * S.a + 1)) (k := 2 * S.steps) (by unfold Sys.steps; omega) (t := t2) (by omega)
          generalize it S.nx (2 * (2 * S.o + 1) + 1) t2 = y3 at *
          intro v hv
          by_cases e : v < y3
          · exact hno3 v hv (by have := H.a1 hw; omega)
          · exact extend (q := fun v => ¬ Fits S p need v) (H.a1 hw) (fun v a b => hno3 v (by omega) (by omega)) (s := y3) (by omega) (fun t ht _ hq hf => hq (Fits.aback H hw (by omega) (by omega) hf))

/-! ## the document's search -/

def Sys.wholeR (S : Sys) (begun t : Int) : Bool :=
  if S.waits = true ∧ S.due ≤ t then decide (S.acyc ≤ t - (if begun < S.due then S.due else begun))
  else if S.has = true then decide (S.cyc ≤ t - (if begun < S.base then S.base else begun)) else false

def Sys.openR (S : Sys) (p : Int → Bool) (fin : Int) : Nat → Int → Int → Bool
  | 0, _, _ => true
  | k + 1, t, begun =>
    if p (S.st t) = true then
      if S.wholeR begun t = true then (if S.waits = false ∨ S.due ≤ t ∨ fin ≤ S.due then true else S.openR p fin k S.due S.due)
      else if S.nx t < 0 ∨ fin ≤ S.nx t then true else S.openR p fin k (S.nx t) begun
    else false

theorem openR_go (H : S.Ok) (p : Int → Bool) {T fin : Int} (hT : S.now ≤ T) : ∀ (k : Nat) (t begun : Int), T ≤ begun → begun ≤ t → t < fin → fin - t < k → (∀ x, T ≤ x → x < t → p (S.st x) = true) →
    (S.openR p fin k t begun = true ↔ ∀ x, T ≤ x → x < fin → p (S.st x) = true)
  | 0, t, begun, _, _, h3, h4, _ => by omega
  | k + 1, t, begun, h1, h2, h3, h4, h5 => by
    have n0 := H.n0
    have hul := H.upto_le
    rw [Sys.openR]
    by_cases hp : p (S.st t) = true
    · rw [if_pos hp]
      have h6 : ∀ x, T ≤ x → x ≤ t → p (S.st x) = true := fun x a b => by
        by_cases e : x = t
        · rw [e]; exact hp
        · exact h5 x a (by omega)
      by_cases hW : S.wholeR begun t = true
      · rw [if_pos hW]
        unfold Sys.wholeR at hW
        by_cases hd : S.waits = true ∧ S.due ≤ t
        · rw [if_pos hd] at hW
          rw [if_pos (.inr (.inl hd.2))]
          have hW := of_decide_eq_true hW
          obtain ⟨s, hs⟩ : ∃ s, s = (if begun < S.due then S.due else begun) := ⟨_, rfl⟩
          rw [← hs] at hW
          have hs1 : S.due ≤ s ∧ begun ≤ s ∧ S.now ≤ s := by rw [hs]; split <;> omega
          have a1 := H.a1 hd.1
          have hall := H.awhole (p := fun x => p x = true) hd.1 hs1.2.2 hs1.1 (fun v a b => h6 v (by omega) (by omega))
          exact ⟨fun _ x a b => by
            by_cases e : x ≤ t
            · exact h6 x a e
            · exact hall x (by omega), fun _ => rfl⟩
        · rw [if_neg hd] at hW
          have hh : S.has = true := by
            cases hh : S.has with
            | true => rfl
            | false => rw [hh] at hW; simp at hW
          rw [if_pos hh] at hW
          have hW := of_decide_eq_true hW
          have hb := H.base hh
          have c1 := H.c1 hh
          have hug := H.upto_ge hh
          rw [if_neg (by omega)] at hW
          have hall := H.whole (p := fun x => p x = true) hh (s := begun) (by omega) (fun v a b => h6 v (by omega) (by omega)) (fun hw => by
            have : ¬ S.due ≤ t := fun h => hd ⟨hw, h⟩
            omega)
          have hall2 : ∀ x, T ≤ x → (S.waits = true → x < S.due) → p (S.st x) = true := fun x a b => by
            by_cases e : x ≤ t
            · exact h6 x a e
            · exact hall x (by omega) b
          by_cases hc : S.waits = false ∨ S.due ≤ t ∨ fin ≤ S.due
          · rw [if_pos hc]
            refine ⟨fun _ x a b => hall2 x a (fun hw => ?_), fun _ => rfl⟩
            rcases hc with h | h | h
            · rw [hw] at h; cases h
            · exact absurd ⟨hw, h⟩ hd
            · omega
          · rw [if_neg hc]
            have hw : S.waits = true := by
              cases hw : S.waits with
              | true => rfl
              | false => exact absurd (.inl hw) hc
            have hc1 : ¬ S.due ≤ t := fun h => hc (.inr (.inl h))
            have hc2 : ¬ fin ≤ S.due := fun h => hc (.inr (.inr h))
            exact openR_go H p hT k S.due S.due (by omega) (by omega) (by omega) (by omega) (fun x a b => hall2 x a (fun _ => b))
      · rw [if_neg hW]
        have h7 : ∀ x, T ≤ x → (S.nx t < 0 ∨ x < S.nx t) → p (S.st x) = true := fun x a b => by
          by_cases e : x ≤ t
          · exact h6 x a e
          · rw [H.stays t x (by omega) (by omega) b]; exact hp
        by_cases hc : S.nx t < 0 ∨ fin ≤ S.nx t
        · rw [if_pos hc]
          exact ⟨fun _ x a b => h7 x a (by omega), fun _ => rfl⟩
        · rw [if_neg hc]
          have hgt := H.gt t (by omega) (by omega)
          exact openR_go H p hT k (S.nx t) begun h1 (by omega) (by omega) (by omega) (fun x a b => h7 x a (.inr b))
    · rw [if_neg hp]
      exact ⟨fun h => (by cases h), fun h => absurd (h t (by omega) h3) hp⟩

theorem openR_ok (H : S.Ok) (p : Int → Bool) {need t : Int} (ht : S.now ≤ t) (h1 : 1 ≤ need) (h2 : need ≤ 500) : S.openR p (t + need) 600 t t = true ↔ Fits S p need t :=
  openR_go H p ht 600 t t (Int.le_refl _) (Int.le_refl _) (by omega) (by omega) (fun x a b => by omega)

def Sys.fitsR (S : Sys) (p : Int → Bool) (need : Int) : Nat → Int → Int
  | 0, _ => -1
  | k + 1, t => if 0 ≤ t then (if S.openR p (t + need) 600 t t = true then t else S.fitsR p need k (S.nx t)) else -1

theorem fitsR_neg (S : Sys) (p : Int → Bool) (need : Int) (k : Nat) {t : Int} (h : t < 0) : S.fitsR p need k t = -1 := by
  cases k with
  | zero => rfl
  | succ k => rw [Sys.fitsR, if_neg (by omega)]

theorem fitsR_ok (H : S.Ok) (p : Int → Bool) {need : Int} (h1 : 1 ≤ need) (h2 : need ≤ 500) : ∀ (k : Nat) {t : Int}, S.now ≤ t →
    (t ≤ S.fitsR p need k t ∧ Fits S p need (S.fitsR p need k t) ∧ ∀ v, t ≤ v → v < S.fitsR p need k t → ¬ Fits S p need v) ∨
    (S.fitsR p need k t = -1 ∧ ((∀ v, t ≤ v → ¬ Fits S p need v) ∨ (k = 0 ∨ ¬ (S.has = false ∧ S.waits = false)) ∧ ∀ v, t ≤ v → v < it S.nx k t → ¬ Fits S p need v))
  | 0, t, h => .inr ⟨rfl, .inr ⟨.inl rfl, fun v a b => by simp [it] at b; omega⟩⟩
  | k + 1, t, h => by
    have n0 := H.n0
    rw [Sys.fitsR, if_pos (by omega)]
    by_cases ho : S.openR p (t + need) 600 t t = true
    · rw [if_pos ho]
      exact .inl ⟨Int.le_refl _, (openR_ok H p h h1 h2).1 ho, fun v a b => by omega⟩
    · rw [if_neg ho]
      have hnf : ¬ Fits S p need t := fun hf => ho ((openR_ok H p h h1 h2).2 hf)
      have hn1 : ∀ v, t ≤ v → (S.nx t < 0 ∨ v < S.nx t) → ¬ Fits S p need v := fun v a b hf => hnf (fun x c d => by
        by_cases e : x < v
        · rw [H.stays t x h c (by omega), ← H.stays t v h a b]
          exact hf v (Int.le_refl _) (by omega)
        · exact hf x (by omega) (by omega))
      by_cases hx : S.nx t < 0
      · rw [fitsR_neg S p need k hx]
        exact .inr ⟨rfl, .inl fun v a => hn1 v a (.inl hx)⟩
      · have hgt := H.gt t h (by omega)
        rcases fitsR_ok H p h1 h2 k (t := S.nx t) (by omega) with ⟨g1, g2, g3⟩ | ⟨g1, g2⟩
        · refine .inl ⟨by omega, g2, fun v a b => ?_⟩
          by_cases e : v < S.nx t
          · exact hn1 v a (.inr e)
          · exact g3 v (by omega) b
        · refine .inr ⟨g1, ?_⟩
          rcases g2 with g2 | ⟨g2, g3⟩
          · refine .inl fun v a => ?_
            by_cases e : v < S.nx t
            · exact hn1 v a (.inr e)
            · exact g2 v (by omega)
          · by_cases hl : S.has = false ∧ S.waits = false
            · refine .inl fun v a hf => hnf (fun x c d => ?_)
              rw [H.lone hl.1 v x (by omega) (by omega) (fun hw => by rw [hl.2] at hw; cases hw)]
              exact hf v (Int.le_refl _) (by omega)
            · refine .inr ⟨.inr hl, fun v a b => ?_⟩
              by_cases e : v < S.nx t
              · exact hn1 v a (.inr e)
              · exact g3 v (by omega) b

/-- The law: what the program finds answers the document's search. -/
theorem law (H : S.Ok) (p : Int → Bool) {need : Int} (h1 : 1 ≤ need) (h2 : need ≤ 500) :
    ∃ got, S.fits p need S.now = some got ∧
      (0 ≤ S.fitsR p need 600 S.now → got = S.fitsR p need 600 S.now) ∧
      (S.fitsR p need 600 S.now < 0 → got < 0 ∨ (S.waits = true ∧ S.now ≤ got ∧ S.openR p (got + need) 600 got got = true)) := by
  have n0 := H.n0
  obtain ⟨got, hg, hf⟩ := fits_ok H p h1
  refine ⟨got, hg, ?_, ?_⟩
  · intro hr
    rcases fitsR_ok H p h1 h2 600 (t := S.now) (Int.le_refl _) with ⟨g1, g2, g3⟩ | ⟨g1, -⟩
    · generalize S.fitsR p need 600 S.now = w at *
      rcases hf with ⟨f1, f2, f3⟩ | ⟨-, f3⟩
      · by_cases a : got < w
        · exact absurd f2 (g3 got f1 a)
        · by_cases b : w < got
          · exact absurd g2 (f3 w g1 b)
          · omega
      · exact absurd g2 (f3 w g1)
    · omega
  · intro hr
    rcases fitsR_ok H p h1 h2 600 (t := S.now) (Int.le_refl _) with ⟨g1, -, -⟩ | ⟨-, g2⟩
    · omega
    · rcases hf with ⟨f1, f2, f3⟩ | ⟨f1, -⟩
      · right
        rcases g2 with g2 | ⟨hl, g2⟩
        · exact absurd f2 (g2 got f1)
        · have hl : ¬ (S.has = false ∧ S.waits = false) := by
            rcases hl with h | h
            · cases h
            · exact h
          cases hw : S.waits with
          | true => exact ⟨rfl, f1, (openR_ok H p f1 h1 h2).2 f2⟩
          | false =>
            have hh : S.has = true := by
              cases hh : S.has with
              | true => rfl
              | false => exact absurd ⟨hh, hw⟩ hl
            have hc := cover H hh hw (k := 600) (by have := H.o64; omega)
            exact absurd f2 (none_ever H hh hw (fun v a b => g2 v a (by omega)) got f1)
      · left; omega

end Go.Proofs.Ytimgmobmagpmlaa.Fit
