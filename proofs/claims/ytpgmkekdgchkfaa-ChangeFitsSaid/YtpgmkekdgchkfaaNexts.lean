/- The plain law of the next edge: the edges of a cycle, the longer last cycle, and that nothing turns between two edges. -/
import Derived.Test.YtpgmkekdgchkfaaSched5
namespace Go.Proofs.Ytpgmkekdgchkfaa
open Go.RowKit

/-- The edges of a cycle behind a time, but for its end. -/
def edGo (cyc : Int) : List Ent → Int → List Int
  | [], _ => []
  | [_], _ => []
  | e :: e' :: rest, a => (if a + e.nanos < cyc then [a + e.nanos] else []) ++ edGo cyc (e' :: rest) (a + e.nanos)

theorem edGo_none {cyc : Int} : ∀ (es : List Ent) (a : Int), (∀ e ∈ es, 1 ≤ e.nanos) → cyc ≤ a → edGo cyc es a = []
  | [], _, _, _ => rfl
  | [_], _, _, _ => rfl
  | e :: e' :: rest, a, h, ha => by
    have h1 := h e (by simp)
    rw [edGo, if_neg (by omega), edGo_none (e' :: rest) _ (fun x hx => h x (by simp at hx ⊢; exact .inr hx)) (by omega)]
    rfl

theorem find_edge {n : Nat} {cyc into : Int} (hi : into < cyc) : ∀ (es : List Ent) (i : Nat) (en : Int), i + es.length = n → (∀ e ∈ es, 1 ≤ e.nanos) →
    (edGo cyc es en ++ [cyc]).find? (fun x => decide (into < x)) = some (into + (atGo n cyc into es i en).2)
  | [], i, en, _, _ => by
    simp only [edGo, atGo, List.nil_append, List.find?_cons, decide_eq_true hi]
    congr 1
    omega
  | [e], i, en, hn, h => by
    simp at hn
    rw [atGo, if_neg (by omega)]
    simp only [edGo, List.nil_append, List.find?_cons, decide_eq_true hi]
    split
    · congr 1; omega
    · simp only [atGo]; congr 1; omega
  | e :: e' :: rest, i, en, hn, h => by
    have ih := find_edge (n := n) hi (e' :: rest) (i + 1) (en + e.nanos) (by simp at hn ⊢; omega) (fun x hx => h x (by simp at hx ⊢; exact .inr hx))
    simp at hn
    rw [atGo, edGo]
    by_cases h1 : en + e.nanos < cyc
    · rw [if_pos h1]
      by_cases h2 : into < en + e.nanos
      · rw [if_pos ⟨h2, by omega, h1⟩]
        simp only [List.cons_append, List.nil_append, List.find?_cons, decide_eq_true h2]
        congr 1
        omega
      · rw [if_neg (fun x => h2 x.1), if_neg (by omega)]
        simp only [List.cons_append, List.nil_append, List.find?_cons, decide_eq_false h2]
        exact ih
    · rw [if_neg h1, if_neg (fun x => h1 x.2.2), if_pos (by omega), edGo_none (e' :: rest) _ (fun x hx => h x (by simp at hx ⊢; exact .inr hx)) (by omega)]
      simp only [List.nil_append, List.find?_cons, decide_eq_true hi]
      congr 1
      omega

/-- The entry in force stays so up to the next edge. -/
theorem atGo_stays {n : Nat} {cyc into into' : Int} (h1 : into ≤ into') : ∀ (es : List Ent) (i : Nat) (en : Int), i + es.length = n → into' < into + (atGo n cyc into es i en).2 → (atGo n cyc into' es i en).1 = (atGo n cyc into es i en).1
  | [], i, en, _, _ => rfl
  | e :: rest, i, en, hn, h => by
    simp at hn
    rw [atGo] at h ⊢
    rw [atGo]
    by_cases c1 : into < en + e.nanos ∧ i + 1 < n ∧ en + e.nanos < cyc
    · rw [if_pos c1] at h ⊢
      simp only at h
      rw [if_pos ⟨by omega, c1.2⟩]
    · rw [if_neg c1] at h ⊢
      by_cases c2 : cyc ≤ en + e.nanos
      · rw [if_pos c2] at h ⊢
        rw [if_neg (by omega), if_pos c2]
      · rw [if_neg c2] at h ⊢
        rw [if_neg (by omega), if_neg c2]
        exact atGo_stays h1 rest (i + 1) _ (by omega) h

theorem atGo_left2 {n : Nat} {cyc into : Int} (h1 : into < cyc) : ∀ (es : List Ent) (i : Nat) (E : Int), (atGo n cyc into es i E).2 ≤ cyc - into
  | [], i, E => by simp only [atGo]; omega
  | e :: rest, i, E => by
    rw [atGo]
    split
    · simp only; omega
    · split
      · simp only; omega
      · exact atGo_left2 h1 rest (i + 1) _

theorem gst_stays {base cyc : Int} {es : List Ent} {t t' : Int} (hc : 1 ≤ cyc) (h1 : t ≤ t') (h2 : t' < gnx base cyc es t) : gst base cyc es t' = gst base cyc es t := by
  unfold gnx at h2
  unfold gst
  by_cases hb : t < base
  · rw [if_pos hb] at h2
    rw [if_pos hb, if_pos h2]
  · rw [if_neg hb] at h2
    rw [if_neg hb, if_neg (by omega)]
    obtain ⟨m0, m1⟩ := tmod_in (a := t - base) (c := cyc) (by omega) hc
    have hl := atGo_left2 m1 (n := es.length) es 0 0
    have he : (t' - base).tmod cyc = (t - base).tmod cyc + (t' - t) := by
      rw [Int.tmod_eq_emod_of_nonneg (by omega), Int.tmod_eq_emod_of_nonneg (by omega)]
      rw [Int.tmod_eq_emod_of_nonneg (by omega)] at m0 m1 hl h2
      have hd := Int.mul_ediv_add_emod (t - base) cyc
      have : t' - base = ((t - base) % cyc + (t' - t)) + cyc * ((t - base) / cyc) := by omega
      rw [this, Int.add_mul_emod_self_left]
      exact Int.emod_eq_of_lt (by omega) (by omega)
    rw [he, atGo_stays (into := (t - base).tmod cyc) (by omega) es 0 0 (by omega) (by omega)]

/-- The next edge of the list in force, or from when on the last cycle is longer: behind the time. -/
theorem Sch.pre_gt {S : Sch} (hg : SchGood S) (t : Int) (h0 : 0 ≤ S.pre t) (ht : 0 ≤ t) : t < S.pre t := by
  unfold Sch.pre at h0 ⊢
  have hx : S.has = true → t < gnx S.oper.base S.oper.cyc S.oper.es t := fun hh => by
    have g := hg.oper hh
    by_cases hb : t < S.oper.base
    · unfold gnx; rw [if_pos hb]; exact hb
    · have := (gnx_range (es := S.oper.es) g.c0 (Int.not_lt.1 hb)).1
      omega
  cases hT : S.tail with
  | none =>
    simp only [hT] at h0 ⊢
    by_cases hh : S.has = true
    · rw [if_pos hh]; exact hx hh
    · rw [if_neg hh] at h0; omega
  | some f =>
    simp only [hT] at h0 ⊢
    by_cases hf : f ≤ t
    · rw [if_pos hf] at h0; omega
    · rw [if_neg hf] at h0 ⊢
      have hh := (Sch.tail_some hT).2
      rw [if_pos hh]
      have := hx hh
      split <;> omega

theorem Sch.next_gt {S : Sch} (hg : SchGood S) (t : Int) (h0 : 0 ≤ S.next t) (ht : 0 ≤ t) : t < S.next t := by
  by_cases hw : S.waits = true ∧ S.due ≤ t
  · have e : S.next t = gnx S.due S.admin.cyc S.admin.es t := by unfold Sch.next; rw [if_pos hw]
    rw [e]
    have := (gnx_range (es := S.admin.es) (hg.admin hw.1).c0 hw.2).1
    omega
  · have e := Sch.next_of (S := S) (t := t) (n := S.pre t) (fun x y => hw ⟨x, y⟩) rfl
    rw [e] at h0 ⊢
    by_cases hp : S.waits = true ∧ (S.pre t < 0 ∨ S.due < S.pre t)
    · rw [if_pos hp]
      by_cases hd : S.due ≤ t
      · exact absurd ⟨hp.1, hd⟩ hw
      · omega
    · rw [if_neg hp] at h0 ⊢
      exact Sch.pre_gt hg t h0 ht

theorem Sch.stays {S : Sch} (hg : SchGood S) {t t' : Int} (h1 : t ≤ t') (h2 : S.next t < 0 ∨ t' < S.next t) : S.state t' = S.state t := by
  by_cases hw : S.waits = true ∧ S.due ≤ t
  · have g := hg.admin hw.1
    have e : S.next t = gnx S.due S.admin.cyc S.admin.es t := by unfold Sch.next; rw [if_pos hw]
    have e1 : S.state t = gst S.due S.admin.cyc S.admin.es t := by unfold Sch.state; rw [if_pos hw]
    have e2 : S.state t' = gst S.due S.admin.cyc S.admin.es t' := by unfold Sch.state; rw [if_pos ⟨hw.1, by omega⟩]
    rw [e] at h2
    have := gnx_ge (base := S.due) (cyc := S.admin.cyc) (es := S.admin.es) (t := t) g.b0 g.c0
    rw [e1, e2]
    exact gst_stays g.c0 h1 (by omega)
  · have e := Sch.next_of (S := S) (t := t) (n := S.pre t) (fun x y => hw ⟨x, y⟩) rfl
    rw [e] at h2
    have hW : S.waits = true → ¬ S.due ≤ t := fun x y => hw ⟨x, y⟩
    have hC : S.waits = true → ¬ S.due ≤ t' := fun x => by
      have := (hg.admin x).b0
      by_cases hp : S.waits = true ∧ (S.pre t < 0 ∨ S.due < S.pre t)
      · rw [if_pos hp] at h2; omega
      · rw [if_neg hp] at h2
        have : ¬ (S.pre t < 0 ∨ S.due < S.pre t) := fun y => hp ⟨x, y⟩
        omega
    have hD : S.pre t < 0 ∨ t' < S.pre t := by
      by_cases hp : S.waits = true ∧ (S.pre t < 0 ∨ S.due < S.pre t)
      · rw [if_pos hp] at h2
        have := (hg.admin hp.1).b0
        omega
      · rw [if_neg hp] at h2; exact h2
    cases hT : S.tail with
    | none =>
      rw [Sch.state_none hW hT, Sch.state_none hC hT]
      by_cases hh : S.has = true
      · have g := hg.oper hh
        have hp : S.pre t = gnx S.oper.base S.oper.cyc S.oper.es t := by unfold Sch.pre; simp only [hT]; rw [if_pos hh]
        have := gnx_ge (base := S.oper.base) (cyc := S.oper.cyc) (es := S.oper.es) (t := t) g.b0 g.c0
        rw [hp] at hD
        rw [if_pos hh, if_pos hh]
        exact gst_stays g.c0 h1 (by omega)
      · rw [if_neg hh, if_neg hh]
    | some f =>
      rw [Sch.state_tail hW hT, Sch.state_tail hC hT]
      by_cases hf : f ≤ t
      · rw [if_pos hf, if_pos (by omega)]
      · have hh := (Sch.tail_some hT).2
        have g := hg.oper hh
        have hp : S.pre t = if f < gnx S.oper.base S.oper.cyc S.oper.es t then f else gnx S.oper.base S.oper.cyc S.oper.es t := by unfold Sch.pre; simp only [hT]; rw [if_neg hf, if_pos hh]
        have h3 := gnx_ge (base := S.oper.base) (cyc := S.oper.cyc) (es := S.oper.es) (t := t) g.b0 g.c0
        have h4 := Sch.tail_ge hT g.b0 g.c0
        have hD2 : t' < f ∧ t' < gnx S.oper.base S.oper.cyc S.oper.es t := by
          rw [hp] at hD
          split at hD <;> omega
        rw [if_neg hf, if_neg (by omega), if_pos hh, if_pos hh]
        exact gst_stays g.c0 h1 hD2.2

/-! The document's pair. -/
structure Par where
  oper : Lst
  admin : Lst
  has : Bool
  waits : Bool
  due : Int

def Par.longer (P : Par) : Int :=
  if P.has = true ∧ P.waits = true then
    if (P.due - P.oper.base).tmod P.oper.cyc = 0 ∨ P.oper.ext < (P.due - P.oper.base).tmod P.oper.cyc ∨ P.due - (P.due - P.oper.base).tmod P.oper.cyc ≤ P.oper.base then -1
    else P.due - (P.due - P.oper.base).tmod P.oper.cyc
  else -1

def Par.best (P : Par) (t : Int) : Int :=
  if P.has = true ∧ (P.longer < 0 ∨ t < P.longer) then
    if 0 ≤ P.longer ∧ P.longer < gnx P.oper.base P.oper.cyc P.oper.es t then P.longer else gnx P.oper.base P.oper.cyc P.oper.es t
  else -1

def Par.next (P : Par) (t : Int) : Int :=
  if P.waits = true ∧ P.due ≤ t then gnx P.due P.admin.cyc P.admin.es t
  else if P.waits = true ∧ (P.best t < 0 ∨ P.due < P.best t) then P.due else P.best t

structure Lst.like (a b : Lst) : Prop where
  base : a.base = b.base
  cyc : a.cyc = b.cyc
  ext : a.ext = b.ext
  es : a.es = b.es

structure Alike (S : Sch) (P : Par) : Prop where
  has : S.has = P.has
  waits : S.waits = P.waits
  due : P.waits = true → S.due = P.due
  admin : P.waits = true → S.admin.like P.admin
  oper : P.has = true → S.oper.like P.oper

theorem longer_eq {S : Sch} {P : Par} (h : Alike S P) (hg : SchGood S) : P.longer = S.tail.getD (-1) := by
  by_cases hh : P.has = true ∧ P.waits = true
  · obtain ⟨h1, h2⟩ := hh
    have hd := h.due h2
    have ho := h.oper h1
    have g := hg.oper (by rw [h.has]; exact h1)
    have gc := g.c0
    have eL : P.longer = if (S.due - S.oper.base).tmod S.oper.cyc = 0 ∨ S.oper.ext < (S.due - S.oper.base).tmod S.oper.cyc ∨ S.due - (S.due - S.oper.base).tmod S.oper.cyc ≤ S.oper.base then -1 else S.due - (S.due - S.oper.base).tmod S.oper.cyc := by
      unfold Par.longer
      rw [if_pos ⟨h1, h2⟩, ← hd, ← ho.base, ← ho.cyc, ← ho.ext]
    have hw : S.waits = true := by rw [h.waits]; exact h2
    have hs : S.has = true := by rw [h.has]; exact h1
    have hq := Int.tmod_add_mul_tdiv (S.due - S.oper.base) S.oper.cyc
    rw [Int.mul_comm] at hq
    by_cases hb : S.oper.base < S.due
    · have eT : S.tail = if S.oper.base + (S.due - S.oper.base).tdiv S.oper.cyc * S.oper.cyc = S.oper.base ∨ S.oper.base + (S.due - S.oper.base).tdiv S.oper.cyc * S.oper.cyc = S.due ∨ S.oper.ext < S.due - (S.oper.base + (S.due - S.oper.base).tdiv S.oper.cyc * S.oper.cyc) then none else some (S.oper.base + (S.due - S.oper.base).tdiv S.oper.cyc * S.oper.cyc) := by
        unfold Sch.tail
        rw [if_pos ⟨hw, hs, hb⟩]
      have h0 : 0 ≤ (S.due - S.oper.base).tdiv S.oper.cyc * S.oper.cyc := Int.mul_nonneg (Int.tdiv_nonneg (by omega) (by omega)) (by omega)
      generalize (S.due - S.oper.base).tdiv S.oper.cyc * S.oper.cyc = M at *
      generalize (S.due - S.oper.base).tmod S.oper.cyc = R at *
      rw [eL, eT]
      by_cases hc : S.oper.base + M = S.oper.base ∨ S.oper.base + M = S.due ∨ S.oper.ext < S.due - (S.oper.base + M)
      · rw [if_pos (by omega : R = 0 ∨ S.oper.ext < R ∨ S.due - R ≤ S.oper.base), if_pos hc]
        rfl
      · rw [if_neg (by omega : ¬ (R = 0 ∨ S.oper.ext < R ∨ S.due - R ≤ S.oper.base)), if_neg hc]
        simp only [Option.getD_some]
        omega
    · have eT : S.tail = none := by
        unfold Sch.tail
        rw [if_neg (fun x => hb x.2.2)]
      have h0 : (S.due - S.oper.base).tdiv S.oper.cyc ≤ 0 := by
        have := Int.tdiv_nonneg (a := -(S.due - S.oper.base)) (b := S.oper.cyc) (by omega) (by omega)
        rw [Int.neg_tdiv] at this
        omega
      have h3 : (S.due - S.oper.base).tdiv S.oper.cyc * S.oper.cyc ≤ 0 := by
        have := Int.mul_nonneg (a := -(S.due - S.oper.base).tdiv S.oper.cyc) (b := S.oper.cyc) (by omega) (by omega)
        rw [Int.neg_mul] at this
        omega
      generalize (S.due - S.oper.base).tdiv S.oper.cyc * S.oper.cyc = M at *
      generalize (S.due - S.oper.base).tmod S.oper.cyc = R at *
      rw [eL, eT, if_pos (by omega)]
      rfl
  · have eL : P.longer = -1 := by unfold Par.longer; rw [if_neg hh]
    have eT : S.tail = none := by
      unfold Sch.tail
      rw [if_neg (fun x => hh ⟨by rw [← h.has]; exact x.2.1, by rw [← h.waits]; exact x.1⟩)]
    rw [eL, eT]
    rfl

theorem best_eq {S : Sch} {P : Par} (h : Alike S P) (hg : SchGood S) (t : Int) : P.best t = S.pre t := by
  have hl := longer_eq h hg
  unfold Par.best Sch.pre
  rw [hl]
  cases hT : S.tail with
  | none =>
    simp only [Option.getD_none]
    by_cases hh : P.has = true
    · have ho := h.oper hh
      rw [if_pos ⟨hh, .inl (by decide)⟩, if_neg (by omega), if_pos (by rw [h.has]; exact hh), ho.base, ho.cyc, ho.es]
    · rw [if_neg (fun x => hh x.1), if_neg (by rw [h.has]; exact hh)]
  | some f =>
    obtain ⟨h1, h2⟩ := Sch.tail_some hT
    have g := hg.oper h2
    have h4 := Sch.tail_ge hT g.b0 g.c0
    have hh : P.has = true := by rw [← h.has]; exact h2
    have ho := h.oper hh
    simp only [Option.getD_some]
    by_cases hf : f ≤ t
    · rw [if_pos hf, if_neg (by rintro ⟨-, x⟩; omega)]
    · rw [if_neg hf, if_pos h2, if_pos ⟨hh, .inr (by omega)⟩, ho.base, ho.cyc, ho.es]
      by_cases hn : f < gnx P.oper.base P.oper.cyc P.oper.es t
      · rw [if_pos hn, if_pos ⟨h4, hn⟩]
      · rw [if_neg hn, if_neg (fun x => hn x.2)]

theorem next_eq {S : Sch} {P : Par} (h : Alike S P) (hg : SchGood S) (t : Int) : P.next t = S.next t := by
  unfold Par.next Sch.next
  rw [best_eq h hg, h.waits]
  by_cases hw : P.waits = true
  · have ha := h.admin hw
    rw [h.due hw, ha.cyc, ha.es]
  · rw [if_neg (fun x => hw x.1), if_neg (fun x => hw x.1), if_neg (fun x => hw x.1), if_neg (fun x => hw x.1)]

/-- The document's first beginning of a cycle. -/
def rstart (base cyc t : Int) : Int := if t ≤ base then base else if (t - base).tmod cyc = 0 then t else t - (t - base).tmod cyc + cyc

theorem rstart_eq {base cyc t : Int} (hc : 1 ≤ cyc) : rstart base cyc t = gstart base cyc t := by
  unfold rstart gstart
  by_cases h : t ≤ base
  · rw [if_pos h, if_pos h]
  · rw [if_neg h, if_neg h, Int.tmod_eq_emod_of_nonneg (by omega), Int.tdiv_eq_ediv_of_nonneg (by omega)]
    have h1 := Int.mul_ediv_add_emod (t - base) cyc
    have h2 := Int.emod_nonneg (t - base) (by omega : cyc ≠ 0)
    have h3 := Int.emod_lt_of_pos (t - base) (by omega : 0 < cyc)
    generalize hq : (t - base) / cyc = q at *
    generalize hr : (t - base) % cyc = r at *
    by_cases hz : r = 0
    · rw [if_pos hz]
      have e : (t - base + cyc - 1) / cyc = q := by
        have : t - base + cyc - 1 = (cyc - 1) + cyc * q := by omega
        rw [this, Int.add_mul_ediv_left _ _ (by omega), Int.ediv_eq_zero_of_lt (by omega) (by omega)]
        omega
      rw [e, Int.mul_comm]
      omega
    · rw [if_neg hz]
      have e : (t - base + cyc - 1) / cyc = q + 1 := by
        have : t - base + cyc - 1 = (r - 1) + cyc * (q + 1) := by rw [Int.mul_add]; omega
        rw [this, Int.add_mul_ediv_left _ _ (by omega), Int.ediv_eq_zero_of_lt (by omega) (by omega)]
        omega
      rw [e, Int.add_mul, Int.mul_comm q]
      omega

end Go.Proofs.Ytpgmkekdgchkfaa
