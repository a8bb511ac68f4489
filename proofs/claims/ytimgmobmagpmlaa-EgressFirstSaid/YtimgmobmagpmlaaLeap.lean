/- ChangeFits: a schedule as a walk over edges. The schedule's leap; until when, and from when on. Until when, and from when on: in general. The first time at which a class may go for so long: in general. -/
import Derived.Test.YtimgmobmagpmlaaSched4
import Derived.Test.YtimgmobmagpmlaaPair
import Derived.Test.YtimgmobmagpmlaaFit
import Derived.Deep.RegionWith
namespace Go.Proofs.Ytimgmobmagpmlaa

section
open Go.RowKit

theorem atGo_left_stays {n : Nat} {cyc into into' : Int} (h1 : into ≤ into') : ∀ (es : List Ent) (i : Nat) (en : Int), i + es.length = n → into' < into + (atGo n cyc into es i en).2 → (atGo n cyc into' es i en).2 = (atGo n cyc into es i en).2 - (into' - into)
  | [], i, en, _, _ => by simp only [atGo]; omega
  | e :: rest, i, en, hn, h => by
    simp at hn
    rw [atGo] at h ⊢
    rw [atGo]
    by_cases c1 : into < en + e.nanos ∧ i + 1 < n ∧ en + e.nanos < cyc
    · rw [if_pos c1] at h ⊢
      simp only at h
      rw [if_pos ⟨by omega, c1.2⟩]
      simp only
      omega
    · rw [if_neg c1] at h ⊢
      by_cases c2 : cyc ≤ en + e.nanos
      · rw [if_pos c2] at h ⊢
        rw [if_neg (by omega), if_pos c2]
        simp only
        omega
      · rw [if_neg c2] at h ⊢
        rw [if_neg (by omega), if_neg c2]
        exact atGo_left_stays h1 rest (i + 1) _ (by omega) h

theorem tmod_shift {a cyc : Int} (hc : 1 ≤ cyc) (h0 : 0 ≤ a) (d : Int) (hd : 0 ≤ d) (h : a.tmod cyc + d < cyc) : (a + d).tmod cyc = a.tmod cyc + d := by
  rw [Int.tmod_eq_emod_of_nonneg h0] at h ⊢
  rw [Int.tmod_eq_emod_of_nonneg (by omega)]
  have hm := Int.emod_nonneg a (by omega : cyc ≠ 0)
  have he := Int.mul_ediv_add_emod a cyc
  have : a + d = (a % cyc + d) + cyc * (a / cyc) := by omega
  rw [this, Int.add_mul_emod_self_left]
  exact Int.emod_eq_of_lt (by omega) (by omega)

theorem tmod_cyc {a cyc : Int} (hc : 1 ≤ cyc) (h0 : 0 ≤ a) : (a + cyc).tmod cyc = a.tmod cyc := by
  rw [Int.tmod_eq_emod_of_nonneg h0, Int.tmod_eq_emod_of_nonneg (by omega)]
  have : a + cyc = a + cyc * 1 := by omega
  rw [this, Int.add_mul_emod_self_left]

theorem gnx_same {base cyc : Int} {es : List Ent} {t t' : Int} (hc : 1 ≤ cyc) (h1 : t ≤ t') (h2 : t' < gnx base cyc es t) : gnx base cyc es t' = gnx base cyc es t := by
  unfold gnx at h2 ⊢
  by_cases hb : t < base
  · rw [if_pos hb] at h2
    rw [if_pos hb, if_pos h2]
  · rw [if_neg hb] at h2
    rw [if_neg hb, if_neg (by omega)]
    obtain ⟨m0, m1⟩ := tmod_in (a := t - base) (c := cyc) (by omega) hc
    have hl := atGo_left2 m1 (n := es.length) es 0 0
    have he : (t' - base).tmod cyc = (t - base).tmod cyc + (t' - t) := by
      have := tmod_shift hc (by omega : 0 ≤ t - base) (t' - t) (by omega) (by omega)
      rwa [show t - base + (t' - t) = t' - base by omega] at this
    rw [he, atGo_left_stays (into := (t - base).tmod cyc) (by omega) es 0 0 (by omega) (by omega)]
    omega

theorem gst_per {base cyc : Int} {es : List Ent} {t : Int} (hc : 1 ≤ cyc) (h : base ≤ t) : gst base cyc es (t + cyc) = gst base cyc es t := by
  unfold gst
  rw [if_neg (by omega), if_neg (by omega)]
  have := tmod_cyc hc (by omega : 0 ≤ t - base)
  rw [show t - base + cyc = t + cyc - base by omega] at this
  rw [this]

/-! how many edges a cycle has -/
theorem cnt_le {a b : Int} (h : a ≤ b) : ∀ l : List Int, l.countP (fun x => decide (b < x)) ≤ l.countP (fun x => decide (a < x))
  | [] => Nat.le_refl _
  | x :: l => by
    have ih := cnt_le h l
    rw [List.countP_cons, List.countP_cons]
    by_cases e : b < x
    · rw [if_pos (by simpa using e), if_pos (by simp; omega)]; omega
    · rw [if_neg (by simpa using e)]; omega

theorem cnt_lt {a b : Int} (h : a < b) : ∀ l : List Int, b ∈ l → l.countP (fun x => decide (b < x)) + 1 ≤ l.countP (fun x => decide (a < x))
  | x :: l, hm => by
    rw [List.countP_cons, List.countP_cons]
    rcases List.mem_cons.1 hm with e | e
    · subst e
      have ih := cnt_le (Int.le_of_lt h) l
      rw [if_neg (by simp), if_pos (by simpa using h)]
      omega
    · have ih := cnt_lt h l e
      by_cases c : b < x
      · rw [if_pos (by simpa using c), if_pos (by simp; omega)]; omega
      · rw [if_neg (by simpa using c)]; omega

theorem edGo_lt {cyc : Int} : ∀ (es : List Ent) (a : Int), ∀ x ∈ edGo cyc es a, x < cyc
  | [], _, x, h => by simp [edGo] at h
  | [_], _, x, h => by simp [edGo] at h
  | e :: e' :: rest, a, x, h => by
    rw [edGo, List.mem_append] at h
    rcases h with h | h
    · split at h
      · simp at h; omega
      · simp at h
    · exact edGo_lt (e' :: rest) _ x h

theorem edGo_short {cyc : Int} : ∀ (es : List Ent) (a : Int), 0 < es.length → (edGo cyc es a).length + 1 ≤ es.length
  | [], _, h => by simp at h
  | [_], _, _ => by simp [edGo]
  | e :: e' :: rest, a, _ => by
    have ih := edGo_short (cyc := cyc) (e' :: rest) (a + e.nanos) (by simp)
    rw [edGo, List.length_append]
    simp only [List.length_cons] at ih ⊢
    split <;> simp <;> omega

theorem cycle_end {base cyc ext : Int} {es : List Ent} (g : Good base cyc ext es) : ∀ (r : Nat) (t : Int), base ≤ t → (edGo cyc es 0 ++ [cyc]).countP (fun x => decide ((t - base).tmod cyc < x)) ≤ r →
    ∃ j, j ≤ r ∧ Fit.it (gnx base cyc es) j t = t - (t - base).tmod cyc + cyc
  | 0, t, hb, h => by
    obtain ⟨m0, m1⟩ := tmod_in (a := t - base) (c := cyc) (by omega) g.c0
    rw [List.countP_append, List.countP_cons, if_pos (by simpa using m1)] at h
    omega
  | r + 1, t, hb, h => by
    obtain ⟨m0, m1⟩ := tmod_in (a := t - base) (c := cyc) (by omega) g.c0
    have hf := find_edge (n := es.length) m1 es 0 0 (by omega) (fun e he => (g.ents e he).2.2.1)
    have hgn : gnx base cyc es t = t + (atGo es.length cyc ((t - base).tmod cyc) es 0 0).2 := by unfold gnx; rw [if_neg (by omega)]
    have hsh := fun d h0 h1 => tmod_shift g.c0 (by omega : 0 ≤ t - base) d h0 h1
    generalize (atGo es.length cyc ((t - base).tmod cyc) es 0 0).2 = left at *
    generalize hI : (t - base).tmod cyc = into at *
    have hmem := List.mem_of_find?_eq_some hf
    have hgt := List.find?_some hf
    have hgt2 : into < into + left := of_decide_eq_true hgt
    by_cases he : into + left = cyc
    · refine ⟨1, by omega, ?_⟩
      show gnx base cyc es t = _
      omega
    · have hlt : into + left < cyc := by
        rcases List.mem_append.1 hmem with h2 | h2
        · exact edGo_lt es 0 _ h2
        · simp at h2; omega
      have hI2 : (t + left - base).tmod cyc = into + left := by
        have := hsh left (by omega) (by omega)
        rwa [show t - base + left = t + left - base by omega] at this
      have hc := cnt_lt hgt2 _ hmem
      obtain ⟨j, j1, j2⟩ := cycle_end g r (t + left) (by omega) (by rw [hI2]; omega)
      refine ⟨j + 1, by omega, ?_⟩
      rw [Fit.it, hgn, j2, hI2]
      omega

theorem it_up {nx : Int → Int} {b : Int} (h : ∀ s, b ≤ s → s < nx s) : ∀ (k : Nat) {t : Int}, b ≤ t → t ≤ Fit.it nx k t
  | 0, t, _ => Int.le_refl _
  | k + 1, t, ht => by
    have h1 := h t ht
    have h2 := it_up h k (t := nx t) (by omega)
    rw [Fit.it]
    omega

theorem it_up2 {nx : Int → Int} {b : Int} (h : ∀ s, b ≤ s → s < nx s) {j k : Nat} (hjk : j ≤ k) {t : Int} (ht : b ≤ t) : Fit.it nx j t ≤ Fit.it nx k t := by
  obtain ⟨d, rfl⟩ : ∃ d, k = j + d := ⟨k - j, by omega⟩
  rw [Fit.it_add]
  have := it_up h j ht
  exact it_up h d (by omega)

theorem gnx_cycle {base cyc ext : Int} {es : List Ent} (g : Good base cyc ext es) {t : Int} (hb : base ≤ t) : t + cyc ≤ Fit.it (gnx base cyc es) (2 * es.length + 1) t := by
  have hlen : ∀ x : Int, (edGo cyc es 0 ++ [cyc]).countP (fun y => decide (x < y)) ≤ es.length := fun x => by
    have h1 := List.countP_le_length (p := fun y => decide (x < y)) (l := edGo cyc es 0 ++ [cyc])
    have h2 := edGo_short (cyc := cyc) es 0 g.pos
    rw [List.length_append] at h1
    simp only [List.length_cons, List.length_nil] at h1
    omega
  obtain ⟨m0, m1⟩ := tmod_in (a := t - base) (c := cyc) (by omega) g.c0
  obtain ⟨j, j1, j2⟩ := cycle_end g es.length t hb (hlen _)
  obtain ⟨i, i1, i2⟩ := cycle_end g es.length (t - (t - base).tmod cyc + cyc) (by omega) (hlen _)
  have hz : (t - (t - base).tmod cyc + cyc - base).tmod cyc = 0 := by
    have e : (t - base) % cyc = (t - base).tmod cyc := (Int.tmod_eq_emod_of_nonneg (by omega)).symm
    have h1 := Int.mul_ediv_add_emod (t - base) cyc
    rw [Int.tmod_eq_emod_of_nonneg (by omega)]
    have : t - (t - base).tmod cyc + cyc - base = 0 + cyc * ((t - base) / cyc + 1) := by rw [Int.mul_add]; omega
    rw [this, Int.add_mul_emod_self_left]
    rfl
  have hup : ∀ s, base ≤ s → s < gnx base cyc es s := fun s hs => by have := (gnx_range (es := es) g.c0 hs).1; omega
  have hm := it_up2 hup (j := j + i) (k := 2 * es.length + 1) (by omega) hb
  rw [Fit.it_add, j2, i2, hz] at hm
  omega

/-! the schedule -/
def Sch.sys (S : Sch) (now : Int) : Fit.Sys := { st := S.state, nx := S.next, has := S.has, waits := S.waits, due := S.due, base := S.oper.base, cyc := S.oper.cyc, acyc := S.admin.cyc, tl := S.tail, o := S.oper.es.length, a := S.admin.es.length, now := now }

theorem Sch.tail_at {S : Sch} (hg : SchGood S) {f : Int} (hT : S.tail = some f) : S.waits = true ∧ S.has = true ∧ S.oper.base < f ∧ f < S.due ∧ S.due - f < S.oper.cyc := by
  obtain ⟨h1, h2⟩ := Sch.tail_some hT
  have g := hg.oper h2
  have gc := g.c0
  unfold Sch.tail at hT
  by_cases hb : S.waits = true ∧ S.has = true ∧ S.oper.base < S.due
  · rw [if_pos hb] at hT
    have hb3 := hb.2.2
    have h0 : 0 ≤ (S.due - S.oper.base).tdiv S.oper.cyc * S.oper.cyc := Int.mul_nonneg (Int.tdiv_nonneg (by omega) (by omega)) (by omega)
    have hq := Int.tmod_add_mul_tdiv (S.due - S.oper.base) S.oper.cyc
    rw [Int.mul_comm] at hq
    obtain ⟨m0, m1⟩ := tmod_in (a := S.due - S.oper.base) (c := S.oper.cyc) (by omega) gc
    generalize (S.due - S.oper.base).tdiv S.oper.cyc * S.oper.cyc = M at *
    generalize (S.due - S.oper.base).tmod S.oper.cyc = R at *
    simp only at hT
    split at hT
    · cases hT
    · rename_i hn
      injection hT with hT
      exact ⟨h1, h2, by omega, by omega, by omega⟩
  · rw [if_neg hb] at hT
    cases hT

theorem Sch.upto_le {S : Sch} (hg : SchGood S) (now : Int) : (S.sys now).upto ≤ S.due := by
  unfold Fit.Sys.upto
  show S.tail.getD S.due ≤ S.due
  cases h : S.tail with
  | none => simp
  | some f => have := (Sch.tail_at hg h).2.2.2.1; simp; omega

/-- Ahead of what ends the list's cycles, its next edge, but no further. -/
theorem Sch.next_min {S : Sch} (hg : SchGood S) (now : Int) (hh : S.has = true) {t : Int} (hu : S.waits = true → t < (S.sys now).upto) :
    S.next t = if S.waits = true ∧ (S.sys now).upto < gnx S.oper.base S.oper.cyc S.oper.es t then (S.sys now).upto else gnx S.oper.base S.oper.cyc S.oper.es t := by
  have hul := Sch.upto_le hg now
  have hd : S.waits = true → ¬ S.due ≤ t := fun hw => by have := hu hw; omega
  have g := hg.oper hh
  have h3 := gnx_ge (base := S.oper.base) (cyc := S.oper.cyc) (es := S.oper.es) (t := t) g.b0 g.c0
  cases hT : S.tail with
  | none =>
    have e : (S.sys now).upto = S.due := by unfold Fit.Sys.upto; show S.tail.getD S.due = S.due; rw [hT]; rfl
    rw [Sch.next_g hd hT hh, e]
    by_cases hc : S.waits = true ∧ S.due < gnx S.oper.base S.oper.cyc S.oper.es t
    · rw [if_pos hc, if_pos ⟨hc.1, .inr hc.2⟩]
    · rw [if_neg hc, if_neg (fun x => hc ⟨x.1, by rcases x.2 with y | y <;> omega⟩)]
  | some f =>
    obtain ⟨hw, -, h5, h6, -⟩ := Sch.tail_at hg hT
    have e : (S.sys now).upto = f := by unfold Fit.Sys.upto; show S.tail.getD S.due = f; rw [hT]; rfl
    have hu2 := hu hw
    rw [e] at hu2 ⊢
    have hb0 := g.b0
    by_cases hc : f < gnx S.oper.base S.oper.cyc S.oper.es t
    · rw [if_pos ⟨hw, hc⟩, Sch.next_b hd hT (by omega) hh hc, if_neg (fun x => by rcases x.2 with y | y <;> omega)]
    · rw [if_neg (fun x => hc x.2), Sch.next_c hd hT (by omega) hh hc, if_neg (fun x => by rcases x.2 with y | y <;> omega)]

theorem Sch.next_due {S : Sch} {t : Int} (hw : S.waits = true) (hd : S.due ≤ t) : S.next t = gnx S.due S.admin.cyc S.admin.es t := by unfold Sch.next; rw [if_pos ⟨hw, hd⟩]

theorem Sch.next_pos {S : Sch} (hg : SchGood S) (hl : S.has = true ∨ S.waits = true) (t : Int) : 0 ≤ S.next t := by
  cases hw : S.waits with
  | true =>
    have g := hg.admin hw
    have b0 := g.b0
    by_cases hd : S.due ≤ t
    · rw [Sch.next_due hw hd]; exact gnx_ge g.b0 g.c0
    · rw [Sch.next_of (fun _ => hd) rfl]
      split
      · exact b0
      · rename_i hn
        have : ¬ (S.pre t < 0 ∨ S.due < S.pre t) := fun x => hn ⟨hw, x⟩
        omega
  | false =>
    have hh : S.has = true := by
      rcases hl with h | h
      · exact h
      · rw [hw] at h; cases h
    have g := hg.oper hh
    rw [Sch.next_min hg 0 hh (fun h => by rw [hw] at h; cases h), if_neg (fun h => by rw [hw] at h; cases h.1)]
    exact gnx_ge g.b0 g.c0

theorem it_next_due {S : Sch} (hg : SchGood S) (hw : S.waits = true) : ∀ (k : Nat) {t : Int}, S.due ≤ t → Fit.it S.next k t = Fit.it (gnx S.due S.admin.cyc S.admin.es) k t
  | 0, _, _ => rfl
  | k + 1, t, ht => by
    have := (gnx_range (es := S.admin.es) (hg.admin hw).c0 ht).1
    rw [Fit.it, Fit.it, Sch.next_due hw ht]
    exact it_next_due hg hw k (by omega)

theorem it_next_has {S : Sch} (hg : SchGood S) (now : Int) (hh : S.has = true) : ∀ (k : Nat) {t : Int}, S.oper.base ≤ t → (S.waits = true → t < (S.sys now).upto) →
    Fit.it (gnx S.oper.base S.oper.cyc S.oper.es) k t ≤ Fit.it S.next k t ∨ (S.waits = true ∧ (S.sys now).upto ≤ Fit.it S.next k t)
  | 0, t, _, _ => .inl (Int.le_refl _)
  | k + 1, t, hb, hu => by
    have g := hg.oper hh
    have b0 := g.b0
    have hup : ∀ s, (0 : Int) ≤ s → s < S.next s := fun s hs => Sch.next_gt hg s (Sch.next_pos hg (.inl hh) s) hs
    have hgr := (gnx_range (es := S.oper.es) g.c0 hb).1
    rw [Fit.it, Fit.it, Sch.next_min hg now hh hu]
    by_cases hc : S.waits = true ∧ (S.sys now).upto < gnx S.oper.base S.oper.cyc S.oper.es t
    · rw [if_pos hc]
      have := hu hc.1
      exact .inr ⟨hc.1, it_up hup k (by omega)⟩
    · rw [if_neg hc]
      by_cases hn : S.waits = true → gnx S.oper.base S.oper.cyc S.oper.es t < (S.sys now).upto
      · exact it_next_has hg now hh k (by omega) hn
      · have hw : S.waits = true := Classical.byContradiction fun x => hn (fun y => absurd y x)
        have h2 : ¬ gnx S.oper.base S.oper.cyc S.oper.es t < (S.sys now).upto := fun x => hn (fun _ => x)
        have h3 := it_up hup k (t := gnx S.oper.base S.oper.cyc S.oper.es t) (by omega)
        exact .inr ⟨hw, by omega⟩

theorem Sch.state_due {S : Sch} {t : Int} (hw : S.waits = true) (hd : S.due ≤ t) : S.state t = gst S.due S.admin.cyc S.admin.es t := by unfold Sch.state; rw [if_pos ⟨hw, hd⟩]

theorem Sch.state_pre {S : Sch} (now : Int) (hg : SchGood S) (hh : S.has = true) {t : Int} (hu : S.waits = true → t < (S.sys now).upto) : S.state t = gst S.oper.base S.oper.cyc S.oper.es t := by
  have hul := Sch.upto_le hg now
  have hd : S.waits = true → ¬ S.due ≤ t := fun hw => by have := hu hw; omega
  cases hT : S.tail with
  | none => rw [Sch.state_none hd hT, if_pos hh]
  | some f =>
    have e : (S.sys now).upto = f := by unfold Fit.Sys.upto; show S.tail.getD S.due = f; rw [hT]; rfl
    have := hu (Sch.tail_some hT).1
    rw [Sch.state_tail hd hT, if_neg (by omega), if_pos hh]

theorem Sch.lone_none {S : Sch} (hh : S.has = false) : S.tail = none := by
  unfold Sch.tail
  rw [if_neg (fun x => by rw [hh] at x; cases x.2.1)]

theorem Sch.sys_ok {S : Sch} (hg : SchGood S) {now : Int} (h0 : 0 ≤ now) (hx : Ext S now) : (S.sys now).Ok where
  n0 := h0
  d0 := fun hw => (hg.admin hw).b0
  gt := fun t ht hn => Sch.next_gt hg t hn (Int.le_trans h0 ht)
  neg := fun t ht hn => by
    have hl : ¬ (S.has = true ∨ S.waits = true) := fun h => by have := Sch.next_pos hg h t; have hn : S.next t < 0 := hn; omega
    have h1 : S.has = false := by cases h : S.has with | false => rfl | true => exact absurd (.inl h) hl
    have h2 : S.waits = false := by cases h : S.waits with | false => rfl | true => exact absurd (.inr h) hl
    refine ⟨?_, h1, h2⟩
    show S.next t = -1
    rw [Sch.next_n (fun x => by rw [h2] at x; cases x) (Sch.lone_none h1) h1, if_neg (fun x => by rw [h2] at x; cases x.1)]
  stays := fun t t' _ h1 h2 => Sch.stays hg h1 h2
  same := fun t t' ht h1 h2 => by
    show S.next t' = S.next t
    cases hw : S.waits with
    | true =>
      have h3 : t' < S.next t := by
        rcases h2 with h | h
        · have := Sch.next_pos hg (.inr hw) t; have h : S.next t < 0 := h; omega
        · exact h
      by_cases hd : S.due ≤ t
      · rw [Sch.next_due hw hd] at h3 ⊢
        rw [Sch.next_due hw (by omega)]
        exact gnx_same (hg.admin hw).c0 h1 h3
      · cases hh : S.has with
        | true =>
          by_cases hu : t < (S.sys now).upto
          · have e := Sch.next_min hg now hh (t := t) (fun _ => hu)
            rw [e] at h3
            have hu2 : t' < (S.sys now).upto ∧ t' < gnx S.oper.base S.oper.cyc S.oper.es t := by
              by_cases hc : (S.sys now).upto < gnx S.oper.base S.oper.cyc S.oper.es t
              · rw [if_pos ⟨hw, hc⟩] at h3; omega
              · rw [if_neg (fun x => hc x.2)] at h3; omega
            rw [e, Sch.next_min hg now hh (fun _ => hu2.1), gnx_same (hg.oper hh).c0 h1 hu2.2]
          · cases hT : S.tail with
            | none =>
              have e : (S.sys now).upto = S.due := by unfold Fit.Sys.upto; show S.tail.getD S.due = S.due; rw [hT]; rfl
              omega
            | some f =>
              have e : (S.sys now).upto = f := by unfold Fit.Sys.upto; show S.tail.getD S.due = f; rw [hT]; rfl
              have e1 := Sch.next_l (S := S) (t := t) (f := f) (fun _ => hd) hT (by omega)
              rw [if_pos ⟨hw, .inl (by decide)⟩] at e1
              rw [e1] at h3 ⊢
              rw [Sch.next_l (fun _ => by omega) hT (by omega), if_pos ⟨hw, .inl (by decide)⟩]
        | false =>
          have e1 := Sch.next_n (S := S) (t := t) (fun _ => hd) (Sch.lone_none hh) hh
          rw [if_pos ⟨hw, .inl (by decide)⟩] at e1
          rw [e1] at h3 ⊢
          rw [Sch.next_n (fun _ => by omega) (Sch.lone_none hh) hh, if_pos ⟨hw, .inl (by decide)⟩]
    | false =>
      have hwn : ∀ {x : Prop}, S.waits = true → x := fun x => by rw [hw] at x; cases x
      cases hh : S.has with
      | true =>
        have e := Sch.next_min hg now hh (t := t) (fun x => hwn x)
        rw [if_neg (fun x => hwn x.1)] at e
        have h3 : t' < S.next t := by
          rcases h2 with h | h
          · have := Sch.next_pos hg (.inl hh) t; have h : S.next t < 0 := h; omega
          · exact h
        rw [e] at h3 ⊢
        rw [Sch.next_min hg now hh (fun x => hwn x), if_neg (fun x => hwn x.1)]
        exact gnx_same (hg.oper hh).c0 h1 h3
      | false => rw [Sch.next_n (fun x => hwn x) (Sch.lone_none hh) hh, Sch.next_n (fun x => hwn x) (Sch.lone_none hh) hh]
  dle := fun hw t _ ht => by
    show S.next t ≤ S.due
    have ht : t < S.due := ht
    rw [Sch.next_of (fun _ => by omega) rfl]
    split
    · exact Int.le_refl _
    · rename_i hn
      have : ¬ (S.pre t < 0 ∨ S.due < S.pre t) := fun x => hn ⟨hw, x⟩
      omega
  tl := fun f hT => Sch.tail_at hg hT
  tlst := fun f hT t h1 h2 => by
    have h2 : t < S.due := h2
    obtain ⟨hw, hh, h5, h6, -⟩ := Sch.tail_at hg hT
    refine ⟨?_, ?_⟩
    · show S.state t = S.state (f - 1)
      rw [Sch.state_tail (fun _ => by omega) hT, if_pos h1, Sch.state_tail (fun _ => by omega) hT, if_neg (by omega), if_pos hh]
    · show S.next t = S.due
      rw [Sch.next_l (fun _ => by omega) hT h1, if_pos ⟨hw, .inl (by decide)⟩]
  lone := fun hh t t' _ _ hw => by
    show S.state t' = S.state t
    have hh : S.has = false := hh
    have e : ∀ u, (S.waits = true → ¬ S.due ≤ u) → S.state u = 255 := fun u hu => by rw [Sch.state_none hu (Sch.lone_none hh), if_neg (by rw [hh]; decide)]
    rw [e t' (fun x => by have : t < S.due ∧ t' < S.due := hw x; omega), e t (fun x => by have : t < S.due ∧ t' < S.due := hw x; omega)]
  lonx := fun hh hw t _ ht => by
    show S.next t = S.due
    have ht : t < S.due := ht
    rw [Sch.next_n (fun _ => by omega) (Sch.lone_none hh) hh, if_pos ⟨hw, .inl (by decide)⟩]
  base := fun hh => hx.base hh
  c1 := fun hh => (hg.oper hh).c0
  c2 := fun hh => (hg.oper hh).c1
  o64 := hx.ol
  a1 := fun hw => (hg.admin hw).c0
  per := fun hh t ht hu => by
    show S.state (t + S.oper.cyc) = S.state t
    have hc := (hg.oper hh).c0
    have hb := hx.base hh
    have ht : now ≤ t := ht
    have hu : S.waits = true → t + S.oper.cyc < (S.sys now).upto := hu
    rw [Sch.state_pre now hg hh hu, Sch.state_pre now hg hh (fun x => by have := hu x; omega)]
    exact gst_per hc (by omega)
  aper := fun hw t _ hd => by
    show S.state (t + S.admin.cyc) = S.state t
    have hd : S.due ≤ t := hd
    have hc := (hg.admin hw).c0
    rw [Sch.state_due hw (by omega), Sch.state_due hw hd]
    exact gst_per hc hd
  cnt := fun hh t ht hu => by
    have hb := hx.base hh
    have ht : now ≤ t := ht
    have h1 := gnx_cycle (hg.oper hh) (t := t) (by omega)
    rcases it_next_has hg now hh (2 * S.oper.es.length + 1) (t := t) (by omega) hu with h | h
    · exact .inl (Int.le_trans h1 h)
    · exact .inr h
  acnt := fun hw t _ hd => by
    show t + S.admin.cyc ≤ Fit.it S.next (2 * S.admin.es.length + 1) t
    rw [it_next_due hg hw _ hd]
    exact gnx_cycle (hg.admin hw) hd
end

section
open Go.RowKit

theorem steps_eq (S : Sch) (now : Int) : S.steps = (((S.sys now).steps : Nat) : Int) := by
  unfold Sch.steps Fit.Sys.steps Sch.sys
  simp only
  omega

theorem steps_le {S : Sch} {now : Int} (hx : Ext S now) : (S.sys now).steps ≤ 264 := by
  have h1 := hx.ol
  have h2 := hx.al
  unfold Fit.Sys.steps Sch.sys
  simp only
  omega

theorem gnx_top {base cyc ext : Int} {es : List Ent} (g : Good base cyc ext es) {t : Int} : gnx base cyc es t ≤ max t 4611686018427387904 + 1000000000 := by
  have h1 := g.b1
  have h2 := g.c1
  by_cases h : t < base
  · unfold gnx; rw [if_pos h]; omega
  · have := (gnx_range (es := es) g.c0 (Int.not_lt.1 h)).2
    omega

theorem Sch.next_top {S : Sch} (hg : SchGood S) (t : Int) : S.next t ≤ max t 4611686018427387904 + 1000000000 := by
  have hp : S.pre t ≤ max t 4611686018427387904 + 1000000000 := by
    unfold Sch.pre
    cases hT : S.tail with
    | none =>
      simp only
      by_cases hh : S.has = true
      · rw [if_pos hh]; exact gnx_top (hg.oper hh)
      · rw [if_neg hh]; omega
    | some f =>
      have hh := (Sch.tail_some hT).2
      have h1 := gnx_top (hg.oper hh) (t := t)
      simp only
      by_cases hf : f ≤ t
      · rw [if_pos hf]; omega
      · rw [if_neg hf, if_pos hh]
        split <;> omega
  unfold Sch.next
  by_cases hw : S.waits = true
  · have g := hg.admin hw
    have h1 := g.b1
    by_cases hd : S.due ≤ t
    · rw [if_pos ⟨hw, hd⟩]; exact gnx_top g
    · rw [if_neg (fun x => hd x.2)]
      split <;> omega
  · rw [if_neg (fun x => hw x.1), if_neg (fun x => hw x.1)]; exact hp

theorem leapT_top {S : Sch} (hg : SchGood S) (now t : Int) (n : Nat) : (S.sys now).leapT t n ≤ max t 4611686018427387904 + 1000000000 := by
  have h1 := Sch.next_top hg t
  have h2 : S.waits = true → S.due < 4611686018427387904 := fun hw => (hg.admin hw).b1
  unfold Fit.Sys.leapT
  split
  · rename_i h
    have := h2 h.1
    show S.due ≤ _
    omega
  · split
    · rename_i h
      have := h2 h.2.1
      split
      · rename_i f hf
        have h3 := Sch.tail_at hg hf
        split
        · omega
        · show S.due ≤ _
          omega
      · show S.due ≤ _
        omega
    · exact h1

theorem walk_top {S : Sch} (hg : SchGood S) (now : Int) (p : Int → Bool) {B : Int} (hB : 4611686018427387904 ≤ B) : ∀ (k : Nat) {t : Int} {n : Nat} {r : Int}, (S.sys now).walk p k t n = some r → t ≤ B → r ≤ B + k * 1000000000
  | 0, t, n, r, h, _ => by rw [Fit.Sys.walk] at h; cases h
  | k + 1, t, n, r, h, ht => by
    rw [Fit.Sys.walk] at h
    split at h
    · split at h
      · injection h with h; omega
      · have h1 := leapT_top hg now t n
        have h2 := walk_top hg now p (B := B + 1000000000) (by omega) k h (by omega)
        omega
    · injection h with h; omega

theorem tailc {w : World} {p : Nat} {S : Sch} (h : SchAt w p S) (hg : SchGood S) {f : Int} (hT : S.tail = some f) :
    Calls Try.prog 94 #[.pointer (some ⟨p, 0, none⟩)] w (fun e w' => ∃ o, e = .returned (.tuple #[.int .i64 f, .int .i64 o, .bool true]) ∧ Keeps Nothing w w') :=
  (tail_ok h hg).mono fun e w' ⟨f', o, b, he, hb, _, hk⟩ => by
    cases b
    · rw [hT] at hb; cases hb
    · rw [hT] at hb
      simp at hb
      subst hb
      exact ⟨o, he, hk⟩

theorem tailn {w : World} {p : Nat} {S : Sch} (h : SchAt w p S) (hg : SchGood S) (hT : S.tail = none) :
    Calls Try.prog 94 #[.pointer (some ⟨p, 0, none⟩)] w (fun e w' => ∃ f o, e = .returned (.tuple #[.int .i64 f, .int .i64 o, .bool false]) ∧ Keeps Nothing w w') :=
  (tail_ok h hg).mono fun e w' ⟨f', o, b, he, hb, _, hk⟩ => by
    cases b
    · exact ⟨f', o, he, hk⟩
    · rw [hT] at hb; simp at hb

set_option maxRecDepth 100000 in
set_option maxHeartbeats 8000000 in
theorem gleap_ok {w : World} {p : Nat} {S : Sch} (h : SchAt w p S) (hg : SchGood S) {now : Int} (hx : Ext S now) (t : Int) (n : Nat) (ht : t ≤ 9000000000000000000) (hn : 0 < n ∧ n ≤ 1000) :
    Calls Try.prog 91 #[.pointer (some ⟨p, 0, none⟩), .int .i64 t, .int .i64 (n : Nat)] w (fun e w' => e = .returned (.tuple #[.int .i64 ((S.sys now).leapT t n), .int .i64 ((S.sys now).leapN t n : Nat)]) ∧ Keeps Nothing w w') := by
  have HS := Lib.hid h
  have HG := Lib.hid hg
  have C1 := fun v (hv : Keeps Nothing w v) => next_ok (HS.out.same hv) HG.out t ht
  have C2 := fun v (hv : Keeps Nothing w v) => steps_ok (HS.out.same hv) hx.ol hx.al
  rw [steps_eq S now] at C2
  obtain ⟨hn0, hn1⟩ := hn
  have hd0 : S.waits = true → 0 ≤ S.due := fun hw => (hg.admin hw).b0
  have hT0 : (S.sys now).leapT t n = if S.waits = true ∧ t < S.due ∧ S.next t = S.due then S.due else if n = 1 ∧ S.waits = true ∧ 0 ≤ S.next t ∧ S.next t < S.due then (match S.tail with | some f => if S.next t < f then f else S.due | none => S.due) else S.next t := rfl
  have hN0 : (S.sys now).leapN t n = if S.waits = true ∧ t < S.due ∧ S.next t = S.due then (S.sys now).steps else if n = 1 ∧ S.waits = true ∧ 0 ≤ S.next t ∧ S.next t < S.due then (S.sys now).steps else n - 1 := rfl
  have hpos : ¬ 0 ≤ S.next t → S.waits = false := fun hneg => by
    cases hw : S.waits with
    | false => rfl
    | true => exact absurd (Sch.next_pos hg (.inr hw) t) hneg
  clear h hg hx
  generalize S.next t = N at *
  generalize (S.sys now).steps = ST at *
  generalize (S.sys now).leapT t n = RT at *
  generalize (S.sys now).leapN t n = RN at *
  have q1 : (n : Int) = 1 ∨ ((n : Int) == 1) = false := by
    by_cases e : (n : Int) = 1
    · exact .inl e
    · exact .inr (by simpa using e)
  have hnm : ((n : Int) - 1) = ((n - 1 : Nat) : Int) := by omega
  cases hw : S.waits with
  | false =>
    have hwn : ∀ {x : Prop}, S.waits = true → x := fun x => by rw [hw] at x; cases x
    have HT : Hid (RT = N ∧ RN = n - 1) := ⟨hT0.trans (by rw [if_neg (fun x => hwn x.1), if_neg (fun x => hwn x.2.1)]), hN0.trans (by rw [if_neg (fun x => hwn x.1), if_neg (fun x => hwn x.2.1)])⟩
    clear hT0 hN0 hpos
    clear hwn
    rcases q1 with q1 | q1
    · obtain rfl : n = 1 := by omega
      go_enter Try.func91, Try.ntmps91
      go_wp2_with (go_at_call 95; refine (C1 _ (Keeps.refl _ _)).mono ?_; rintro e w2 ⟨rfl, hk2⟩; clear C1; have hB2 := HS.out.blk.keeps hk2 (fun h => h); have s9 : w2.cell? ⟨p, 9, none⟩ = some (.bool S.waits) := hB2.cell 9; rw [hw] at s9; have s10 : w2.cell? ⟨p, 10, none⟩ = some (.int .i64 S.due) := hB2.cell 10; clear hB2)
      go_ret2
      exact ⟨by rw [HT.out.1, HT.out.2]; try rfl, hk2⟩
    · go_enter Try.func91, Try.ntmps91
      go_wp2_with (go_at_call 95; refine (C1 _ (Keeps.refl _ _)).mono ?_; rintro e w2 ⟨rfl, hk2⟩; clear C1; have hB2 := HS.out.blk.keeps hk2 (fun h => h); have s9 : w2.cell? ⟨p, 9, none⟩ = some (.bool S.waits) := hB2.cell 9; rw [hw] at s9; have s10 : w2.cell? ⟨p, 10, none⟩ = some (.int .i64 S.due) := hB2.cell 10; clear hB2)
      go_ret2
      exact ⟨by rw [HT.out.1, HT.out.2]; try rfl, hk2⟩
  | true =>
    have hd1 := hd0 hw
    have hN1 : 0 ≤ N := Classical.byContradiction fun x => by have := hpos x; rw [hw] at this; cases this
    clear hpos hd0
    by_cases hA : t < S.due ∧ N = S.due
    · obtain ⟨hA1, hA2⟩ := hA
      have HT : Hid (RT = N ∧ RN = ST) := ⟨hT0.trans (by rw [if_pos ⟨hw, hA1, hA2⟩, hA2]), hN0.trans (by rw [if_pos ⟨hw, hA1, hA2⟩])⟩
      clear hT0 hN0
      subst hA2
      clear q1
      go_enter Try.func91, Try.ntmps91
      go_wp2_with (first | (go_at_call 95; refine (C1 _ (Keeps.refl _ _)).mono ?_; rintro e w2 ⟨rfl, hk2⟩; clear C1; have hB2 := HS.out.blk.keeps hk2 (fun h => h); have s9 : w2.cell? ⟨p, 9, none⟩ = some (.bool S.waits) := hB2.cell 9; rw [hw] at s9; have s10 : w2.cell? ⟨p, 10, none⟩ = some (.int .i64 S.due) := hB2.cell 10; clear hB2) | (go_at_call 83; refine (C2 _ hk2).mono ?_; rintro e w3 ⟨rfl, hk3⟩; clear C2))
      go_ret2
      exact ⟨by rw [HT.out.1, HT.out.2]; try rfl, hk2.same hk3⟩
    · have hA' : ¬ (S.waits = true ∧ t < S.due ∧ N = S.due) := fun x => hA x.2
      have hc1 : (t < S.due ∧ (N == S.due) = false) ∨ decide (t < S.due) = false := by
        by_cases e : t < S.due
        · exact .inl ⟨e, by simp; omega⟩
        · exact .inr (by simpa using e)
      rcases q1 with q1 | q1
      · obtain rfl : n = 1 := by omega
        by_cases hB : N < S.due
        · cases hT : S.tail with
          | none =>
            have HT : Hid (RT = S.due ∧ RN = ST) := ⟨hT0.trans (by rw [if_neg hA', if_pos ⟨rfl, hw, hN1, hB⟩, hT]), hN0.trans (by rw [if_neg hA', if_pos ⟨rfl, hw, hN1, hB⟩])⟩
            have C3 := fun v (hv : Keeps Nothing w v) => tailn (HS.out.same hv) HG.out hT
            clear hT0 hN0 hA hA' hT
            rcases hc1 with ⟨hc1, hc2⟩ | hc1
            · go_enter Try.func91, Try.ntmps91
              go_upto_region 8 with (first | (go_at_call 95; refine (C1 _ (Keeps.refl _ _)).mono ?_; rintro e w2 ⟨rfl, hk2⟩; clear C1; have hB2 := HS.out.blk.keeps hk2 (fun h => h); have s9 : w2.cell? ⟨p, 9, none⟩ = some (.bool S.waits) := hB2.cell 9; rw [hw] at s9; have s10 : w2.cell? ⟨p, 10, none⟩ = some (.int .i64 S.due) := hB2.cell 10; clear hB2) | (go_at_call 94; refine (C3 _ hk2).mono ?_; rintro e w4 ⟨f1, o1, rfl, hk4⟩; clear C3; have hB4 := HS.out.blk.keeps (hk2.same hk4) (fun h => h); have z10 : w4.cell? ⟨p, 10, none⟩ = some (.int .i64 S.due) := hB4.cell 10; clear hB4))
              have C5 := fun v (hv : Keeps Nothing w4 v) => C2 v ((hk2.same hk4).same hv)
              clear C2 s9 s10
              go_region_held3 (fun v => v.cell? ⟨p, 10, none⟩ = some (.int .i64 S.due)) (first | exact z10 | exact k0) (first | (go_at_call 83; refine (C5 _ ((Keeps.refl _ _).drew)).mono ?_; rintro e w3 ⟨rfl, hk3⟩; have k0 := (hk3.cell (World.block_lt_of_cell? w4 _ z10) (fun h => h)).trans z10))
              go_wp2_with fail
              go_ret2
              exact ⟨by rw [HT.out.1, HT.out.2]; try rfl, (hk2.same hk4).same ((Keeps.refl _ _).drew.same hk3)⟩
            · go_enter Try.func91, Try.ntmps91
              go_upto_region 8 with (first | (go_at_call 95; refine (C1 _ (Keeps.refl _ _)).mono ?_; rintro e w2 ⟨rfl, hk2⟩; clear C1; have hB2 := HS.out.blk.keeps hk2 (fun h => h); have s9 : w2.cell? ⟨p, 9, none⟩ = some (.bool S.waits) := hB2.cell 9; rw [hw] at s9; have s10 : w2.cell? ⟨p, 10, none⟩ = some (.int .i64 S.due) := hB2.cell 10; clear hB2) | (go_at_call 94; refine (C3 _ hk2).mono ?_; rintro e w4 ⟨f1, o1, rfl, hk4⟩; clear C3; have hB4 := HS.out.blk.keeps (hk2.same hk4) (fun h => h); have z10 : w4.cell? ⟨p, 10, none⟩ = some (.int .i64 S.due) := hB4.cell 10; clear hB4))
              have C5 := fun v (hv : Keeps Nothing w4 v) => C2 v ((hk2.same hk4).same hv)
              clear C2 s9 s10
              go_region_held3 (fun v => v.cell? ⟨p, 10, none⟩ = some (.int .i64 S.due)) (first | exact z10 | exact k0) (first | (go_at_call 83; refine (C5 _ ((Keeps.refl _ _).drew)).mono ?_; rintro e w3 ⟨rfl, hk3⟩; have k0 := (hk3.cell (World.block_lt_of_cell? w4 _ z10) (fun h => h)).trans z10))
              go_wp2_with fail
              go_ret2
              exact ⟨by rw [HT.out.1, HT.out.2]; try rfl, (hk2.same hk4).same ((Keeps.refl _ _).drew.same hk3)⟩
          | some f =>
            have C3 := fun v (hv : Keeps Nothing w v) => tailc (HS.out.same hv) HG.out hT
            by_cases hf : N < f
            · have HT : Hid (RT = f ∧ RN = ST) := ⟨hT0.trans (by rw [if_neg hA', if_pos ⟨rfl, hw, hN1, hB⟩, hT]; exact if_pos hf), hN0.trans (by rw [if_neg hA', if_pos ⟨rfl, hw, hN1, hB⟩])⟩
              clear hT0 hN0 hA hA' hT
              rcases hc1 with ⟨hc1, hc2⟩ | hc1
              · go_enter Try.func91, Try.ntmps91
                go_wp2_with (first | (go_at_call 95; refine (C1 _ (Keeps.refl _ _)).mono ?_; rintro e w2 ⟨rfl, hk2⟩; clear C1; have hB2 := HS.out.blk.keeps hk2 (fun h => h); have s9 : w2.cell? ⟨p, 9, none⟩ = some (.bool S.waits) := hB2.cell 9; rw [hw] at s9; have s10 : w2.cell? ⟨p, 10, none⟩ = some (.int .i64 S.due) := hB2.cell 10; clear hB2) | (go_at_call 94; refine (C3 _ hk2).mono ?_; rintro e w4 ⟨o1, rfl, hk4⟩; clear C3; have hB4 := HS.out.blk.keeps (hk2.same hk4) (fun h => h); have z10 : w4.cell? ⟨p, 10, none⟩ = some (.int .i64 S.due) := hB4.cell 10; clear hB4) | (go_at_call 83; refine (C2 _ (hk2.same hk4)).mono ?_; rintro e w3 ⟨rfl, hk3⟩; clear C2))
                go_ret2
                exact ⟨by rw [HT.out.1, HT.out.2]; try rfl, (hk2.same hk4).same hk3⟩
              · go_enter Try.func91, Try.ntmps91
                go_wp2_with (first | (go_at_call 95; refine (C1 _ (Keeps.refl _ _)).mono ?_; rintro e w2 ⟨rfl, hk2⟩; clear C1; have hB2 := HS.out.blk.keeps hk2 (fun h => h); have s9 : w2.cell? ⟨p, 9, none⟩ = some (.bool S.waits) := hB2.cell 9; rw [hw] at s9; have s10 : w2.cell? ⟨p, 10, none⟩ = some (.int .i64 S.due) := hB2.cell 10; clear hB2) | (go_at_call 94; refine (C3 _ hk2).mono ?_; rintro e w4 ⟨o1, rfl, hk4⟩; clear C3; have hB4 := HS.out.blk.keeps (hk2.same hk4) (fun h => h); have z10 : w4.cell? ⟨p, 10, none⟩ = some (.int .i64 S.due) := hB4.cell 10; clear hB4) | (go_at_call 83; refine (C2 _ (hk2.same hk4)).mono ?_; rintro e w3 ⟨rfl, hk3⟩; clear C2))
                go_ret2
                exact ⟨by rw [HT.out.1, HT.out.2]; try rfl, (hk2.same hk4).same hk3⟩
            · have HT : Hid (RT = S.due ∧ RN = ST) := ⟨hT0.trans (by rw [if_neg hA', if_pos ⟨rfl, hw, hN1, hB⟩, hT]; exact if_neg hf), hN0.trans (by rw [if_neg hA', if_pos ⟨rfl, hw, hN1, hB⟩])⟩
              have hf' : decide (N < f) = false := by simpa using hf
              clear hT0 hN0 hA hA' hT
              rcases hc1 with ⟨hc1, hc2⟩ | hc1
              · go_enter Try.func91, Try.ntmps91
                go_upto_region 8 with (first | (go_at_call 95; refine (C1 _ (Keeps.refl _ _)).mono ?_; rintro e w2 ⟨rfl, hk2⟩; clear C1; have hB2 := HS.out.blk.keeps hk2 (fun h => h); have s9 : w2.cell? ⟨p, 9, none⟩ = some (.bool S.waits) := hB2.cell 9; rw [hw] at s9; have s10 : w2.cell? ⟨p, 10, none⟩ = some (.int .i64 S.due) := hB2.cell 10; clear hB2) | (go_at_call 94; refine (C3 _ hk2).mono ?_; rintro e w4 ⟨o1, rfl, hk4⟩; clear C3; have hB4 := HS.out.blk.keeps (hk2.same hk4) (fun h => h); have z10 : w4.cell? ⟨p, 10, none⟩ = some (.int .i64 S.due) := hB4.cell 10; clear hB4))
                have C5 := fun v (hv : Keeps Nothing w4 v) => C2 v ((hk2.same hk4).same hv)
                clear C2 s9 s10
                go_region_held3 (fun v => v.cell? ⟨p, 10, none⟩ = some (.int .i64 S.due)) (first | exact z10 | exact k0) (first | (go_at_call 83; refine (C5 _ ((Keeps.refl _ _).drew)).mono ?_; rintro e w3 ⟨rfl, hk3⟩; have k0 := (hk3.cell (World.block_lt_of_cell? w4 _ z10) (fun h => h)).trans z10))
                go_wp2_with fail
                go_ret2
                exact ⟨by rw [HT.out.1, HT.out.2]; try rfl, (hk2.same hk4).same ((Keeps.refl _ _).drew.same hk3)⟩
              · go_enter Try.func91, Try.ntmps91
                go_upto_region 8 with (first | (go_at_call 95; refine (C1 _ (Keeps.refl _ _)).mono ?_; rintro e w2 ⟨rfl, hk2⟩; clear C1; have hB2 := HS.out.blk.keeps hk2 (fun h => h); have s9 : w2.cell? ⟨p, 9, none⟩ = some (.bool S.waits) := hB2.cell 9; rw [hw] at s9; have s10 : w2.cell? ⟨p, 10, none⟩ = some (.int .i64 S.due) := hB2.cell 10; clear hB2) | (go_at_call 94; refine (C3 _ hk2).mono ?_; rintro e w4 ⟨o1, rfl, hk4⟩; clear C3; have hB4 := HS.out.blk.keeps (hk2.same hk4) (fun h => h); have z10 : w4.cell? ⟨p, 10, none⟩ = some (.int .i64 S.due) := hB4.cell 10; clear hB4))
                have C5 := fun v (hv : Keeps Nothing w4 v) => C2 v ((hk2.same hk4).same hv)
                clear C2 s9 s10
                go_region_held3 (fun v => v.cell? ⟨p, 10, none⟩ = some (.int .i64 S.due)) (first | exact z10 | exact k0) (first | (go_at_call 83; refine (C5 _ ((Keeps.refl _ _).drew)).mono ?_; rintro e w3 ⟨rfl, hk3⟩; have k0 := (hk3.cell (World.block_lt_of_cell? w4 _ z10) (fun h => h)).trans z10))
                go_wp2_with fail
                go_ret2
                exact ⟨by rw [HT.out.1, HT.out.2]; try rfl, (hk2.same hk4).same ((Keeps.refl _ _).drew.same hk3)⟩
        · have hB' : decide (N < S.due) = false := by simpa using hB
          have HT : Hid (RT = N ∧ RN = 1 - 1) := ⟨hT0.trans (by rw [if_neg (hA'), if_neg (fun x => hB x.2.2.2)]), hN0.trans (by rw [if_neg (hA'), if_neg (fun x => hB x.2.2.2)])⟩
          clear hT0 hN0
          clear hA hA'
          rcases hc1 with ⟨hc1, hc2⟩ | hc1
          · go_enter Try.func91, Try.ntmps91
            go_wp2_with (go_at_call 95; refine (C1 _ (Keeps.refl _ _)).mono ?_; rintro e w2 ⟨rfl, hk2⟩; clear C1; have hB2 := HS.out.blk.keeps hk2 (fun h => h); have s9 : w2.cell? ⟨p, 9, none⟩ = some (.bool S.waits) := hB2.cell 9; rw [hw] at s9; have s10 : w2.cell? ⟨p, 10, none⟩ = some (.int .i64 S.due) := hB2.cell 10; clear hB2)
            go_ret2
            exact ⟨by rw [HT.out.1, HT.out.2]; try rfl, hk2⟩
          · go_enter Try.func91, Try.ntmps91
            go_wp2_with (go_at_call 95; refine (C1 _ (Keeps.refl _ _)).mono ?_; rintro e w2 ⟨rfl, hk2⟩; clear C1; have hB2 := HS.out.blk.keeps hk2 (fun h => h); have s9 : w2.cell? ⟨p, 9, none⟩ = some (.bool S.waits) := hB2.cell 9; rw [hw] at s9; have s10 : w2.cell? ⟨p, 10, none⟩ = some (.int .i64 S.due) := hB2.cell 10; clear hB2)
            go_ret2
            exact ⟨by rw [HT.out.1, HT.out.2]; try rfl, hk2⟩
      · have hn1' : ¬ n = 1 := fun e => by rw [e] at q1; simp at q1
        have HT : Hid (RT = N ∧ RN = n - 1) := ⟨hT0.trans (by rw [if_neg (hA'), if_neg (fun x => hn1' x.1)]), hN0.trans (by rw [if_neg (hA'), if_neg (fun x => hn1' x.1)])⟩
        clear hT0 hN0
        clear hA hA' hn1'
        rcases hc1 with ⟨hc1, hc2⟩ | hc1
        · go_enter Try.func91, Try.ntmps91
          go_wp2_with (go_at_call 95; refine (C1 _ (Keeps.refl _ _)).mono ?_; rintro e w2 ⟨rfl, hk2⟩; clear C1; have hB2 := HS.out.blk.keeps hk2 (fun h => h); have s9 : w2.cell? ⟨p, 9, none⟩ = some (.bool S.waits) := hB2.cell 9; rw [hw] at s9; have s10 : w2.cell? ⟨p, 10, none⟩ = some (.int .i64 S.due) := hB2.cell 10; clear hB2)
          go_ret2
          exact ⟨by rw [HT.out.1, HT.out.2]; try rfl, hk2⟩
        · go_enter Try.func91, Try.ntmps91
          go_wp2_with (go_at_call 95; refine (C1 _ (Keeps.refl _ _)).mono ?_; rintro e w2 ⟨rfl, hk2⟩; clear C1; have hB2 := HS.out.blk.keeps hk2 (fun h => h); have s9 : w2.cell? ⟨p, 9, none⟩ = some (.bool S.waits) := hB2.cell 9; rw [hw] at s9; have s10 : w2.cell? ⟨p, 10, none⟩ = some (.int .i64 S.due) := hB2.cell 10; clear hB2)
          go_ret2
          exact ⟨by rw [HT.out.1, HT.out.2]; try rfl, hk2⟩
end

section
open Go.RowKit

theorem leapN_le {S : Sch} {now : Int} (hx : Ext S now) (t : Int) (n : Nat) (hn : n ≤ 264) : (S.sys now).leapN t n ≤ 264 := by
  have h1 := steps_le hx
  unfold Fit.Sys.leapN
  split
  · exact h1
  · split
    · exact h1
    · omega

def GWInv (w : World) (S : Sch) (now : Int) (pr : Int → Bool) (r : Int) (K k : Nat) (t n : Value) (wr : World) : Prop :=
  ∃ (t' : Int) (n' : Nat), t = .int .i64 t' ∧ n = .int .i64 (n' : Nat) ∧ n' ≤ 264 ∧ t' ≤ 4700000000000000000 + ((K : Int) - k) * 1000000000 ∧ k ≤ K ∧ (S.sys now).walk pr k t' n' = some r ∧ Keeps Nothing w wr

set_option maxRecDepth 100000 in
set_option maxHeartbeats 8000000 in
theorem guntil_ok {w : World} {p : Nat} {S : Sch} (h : SchAt w p S) (hg : SchGood S) {now : Int} (hx : Ext S now) (c : Nat) (b : Int) (hc : c < 8) (hb : wrap64 ((2 : Int) ^ c) = b) (t r : Int) (ht : t ≤ 4700000000000000000) (K : Nat) (hK : K ≤ 2000) (hr : (S.sys now).walk (fun s => bits .and .i64 s b == 0) K t (S.sys now).steps = some r) :
    Calls Try.prog 85 #[.pointer (some ⟨p, 0, none⟩), .int .i64 (c : Nat), .int .i64 t] w (fun e w' => e = .returned (.int .i64 r) ∧ Keeps Nothing w w') := by
  have HS := Lib.hid h
  have HG := Lib.hid hg
  have HX := Lib.hid hx
  have HR := Lib.hid hr
  have hst := steps_le hx
  have C2 := fun v (hv : Keeps Nothing w v) => steps_ok (HS.out.same hv) hx.ol hx.al
  rw [steps_eq S now] at C2
  clear h hg hx hr
  go_enter Try.func85, Try.ntmps85
  go_wp2_with (go_at_call 83; refine (C2 _ (Keeps.refl _ _)).mono ?_; rintro e w2 ⟨rfl, hk2⟩; clear C2)
  go_loopg [2, 8] K (fun k t n wr => GWInv w S now (fun s => bits .and .i64 s b == 0) r K k t n wr)
  case atStart => exact ⟨_, _, rfl, rfl, hst, by omega, Nat.le_refl _, HR.out, hk2⟩
  case round =>
    obtain ⟨t', n', rfl, rfl, hn', ht', hkK, hw, hk⟩ := hrel
    have HK := Lib.hid hk
    clear hk
    obtain ⟨k0, hk0⟩ : ∃ k0, gk = k0 + 1 := by
      cases gk with
      | zero => rw [Fit.Sys.walk] at hw; cases hw
      | succ k0 => exact ⟨k0, rfl⟩
    rw [hk0, Fit.Sys.walk] at hw
    by_cases h2 : 0 < n' ∧ 0 ≤ t'
    · rw [if_pos h2] at hw
      have C3 := fun v (hv : Keeps Nothing w v) => state_ok (HS.out.same hv) HG.out t' (by omega)
      have C4 := fun v (hv : Keeps Nothing w v) => gleap_ok (HS.out.same hv) HG.out HX.out t' n' (by omega) (by omega)
      obtain ⟨h3, h4⟩ := h2
      have hsys : (S.sys now).st t' = S.state t' := rfl
      rw [hsys] at hw
      by_cases hs : (bits .and .i64 (S.state t') b == 0) = true
      · rw [if_pos hs] at hw
        have he : t' = r := by injection hw
        subst he
        skip
        clear hw C4
        go_wp2_with (go_at_call 90; refine (C3 _ HK.out).mono ?_; rintro e w3 ⟨rfl, hk3⟩; clear C3)
        go_ret
        exact ⟨rfl, HK.out.same hk3⟩
      · rw [if_neg hs] at hw
        have HW := Lib.hid hw
        have hs' : (bits .and .i64 (S.state t') b == 0) = false := by simpa using hs
        have hle := leapN_le HX.out t' n' hn'
        have htop := leapT_top HG.out now t' n'
        clear hw hs
        generalize (S.sys now).leapT t' n' = t2 at *
        generalize (S.sys now).leapN t' n' = n2 at *
        go_wp2_with (first | (go_at_call 90; refine (C3 _ HK.out).mono ?_; rintro e w3 ⟨rfl, hk3⟩; clear C3) | (go_at_call 91; refine (C4 _ (HK.out.same hk3)).mono ?_; rintro e w4 ⟨rfl, hk4⟩; clear C4))
        go_roundg (gk - 1)
        case measure => omega
        case rel => exact ⟨_, _, rfl, rfl, hle, by omega, by omega, (by rw [show gk - 1 = k0 by omega]; exact HW.out), (HK.out.same hk3).same hk4⟩
    · rw [if_neg h2] at hw
      have he : r = -1 := by injection hw with hw; exact hw.symm
      subst he
      clear hw
      by_cases h3 : 0 < n'
      · have q3 : decide (0 ≤ t') = false := by simp; omega
        have h3' : (0 : Int) < (n' : Int) := by omega
        go_wp2_with fail
        go_ret
        exact ⟨rfl, HK.out⟩
      · have q3 : decide ((0 : Int) < (n' : Int)) = false := by simp; omega
        go_wp2_with fail
        go_ret
        exact ⟨rfl, HK.out⟩

set_option maxRecDepth 100000 in
set_option maxHeartbeats 8000000 in
theorem gfrom_ok {w : World} {p : Nat} {S : Sch} (h : SchAt w p S) (hg : SchGood S) {now : Int} (hx : Ext S now) (c : Nat) (b : Int) (hc : c < 8) (hb : wrap64 ((2 : Int) ^ c) = b) (t r : Int) (ht : t ≤ 4700000000000000000) (K : Nat) (hK : K ≤ 2000) (hr : (S.sys now).walk (fun s => !(bits .and .i64 s b == 0)) K t (S.sys now).steps = some r) :
    Calls Try.prog 84 #[.pointer (some ⟨p, 0, none⟩), .int .i64 (c : Nat), .int .i64 t] w (fun e w' => e = .returned (.int .i64 r) ∧ Keeps Nothing w w') := by
  have HS := Lib.hid h
  have HG := Lib.hid hg
  have HX := Lib.hid hx
  have HR := Lib.hid hr
  have hst := steps_le hx
  have C2 := fun v (hv : Keeps Nothing w v) => steps_ok (HS.out.same hv) hx.ol hx.al
  rw [steps_eq S now] at C2
  clear h hg hx hr
  go_enter Try.func84, Try.ntmps84
  go_wp2_with (go_at_call 83; refine (C2 _ (Keeps.refl _ _)).mono ?_; rintro e w2 ⟨rfl, hk2⟩; clear C2)
  go_loopg [2, 8] K (fun k t n wr => GWInv w S now (fun s => !(bits .and .i64 s b == 0)) r K k t n wr)
  case atStart => exact ⟨_, _, rfl, rfl, hst, by omega, Nat.le_refl _, HR.out, hk2⟩
  case round =>
    obtain ⟨t', n', rfl, rfl, hn', ht', hkK, hw, hk⟩ := hrel
    have HK := Lib.hid hk
    clear hk
    obtain ⟨k0, hk0⟩ : ∃ k0, gk = k0 + 1 := by
      cases gk with
      | zero => rw [Fit.Sys.walk] at hw; cases hw
      | succ k0 => exact ⟨k0, rfl⟩
    rw [hk0, Fit.Sys.walk] at hw
    by_cases h2 : 0 < n' ∧ 0 ≤ t'
    · rw [if_pos h2] at hw
      have C3 := fun v (hv : Keeps Nothing w v) => state_ok (HS.out.same hv) HG.out t' (by omega)
      have C4 := fun v (hv : Keeps Nothing w v) => gleap_ok (HS.out.same hv) HG.out HX.out t' n' (by omega) (by omega)
      obtain ⟨h3, h4⟩ := h2
      have hsys : (S.sys now).st t' = S.state t' := rfl
      rw [hsys] at hw
      by_cases hs : (!(bits .and .i64 (S.state t') b == 0)) = true
      · rw [if_pos hs] at hw
        have he : t' = r := by injection hw
        subst he
        have hs2 : (bits .and .i64 (S.state t') b == 0) = false := by simpa using hs
        have hs3 : (bits .and .i64 (S.state t') b != 0) = true := by simp only [bne, hs2]; rfl
        clear hs
        clear hw C4
        go_wp2_with (go_at_call 90; refine (C3 _ HK.out).mono ?_; rintro e w3 ⟨rfl, hk3⟩; clear C3)
        go_ret
        exact ⟨rfl, HK.out.same hk3⟩
      · rw [if_neg hs] at hw
        have HW := Lib.hid hw
        have hs2 : (bits .and .i64 (S.state t') b == 0) = true := by simpa using hs
        have hs3 : (bits .and .i64 (S.state t') b != 0) = false := by simp only [bne, hs2]; rfl
        have hle := leapN_le HX.out t' n' hn'
        have htop := leapT_top HG.out now t' n'
        clear hw hs
        generalize (S.sys now).leapT t' n' = t2 at *
        generalize (S.sys now).leapN t' n' = n2 at *
        go_wp2_with (first | (go_at_call 90; refine (C3 _ HK.out).mono ?_; rintro e w3 ⟨rfl, hk3⟩; clear C3) | (go_at_call 91; refine (C4 _ (HK.out.same hk3)).mono ?_; rintro e w4 ⟨rfl, hk4⟩; clear C4))
        go_roundg (gk - 1)
        case measure => omega
        case rel => exact ⟨_, _, rfl, rfl, hle, by omega, by omega, (by rw [show gk - 1 = k0 by omega]; exact HW.out), (HK.out.same hk3).same hk4⟩
    · rw [if_neg h2] at hw
      have he : r = -1 := by injection hw with hw; exact hw.symm
      subst he
      clear hw
      by_cases h3 : 0 < n'
      · have q3 : decide (0 ≤ t') = false := by simp; omega
        have h3' : (0 : Int) < (n' : Int) := by omega
        go_wp2_with fail
        go_ret
        exact ⟨rfl, HK.out⟩
      · have q3 : decide ((0 : Int) < (n' : Int)) = false := by simp; omega
        go_wp2_with fail
        go_ret
        exact ⟨rfl, HK.out⟩
end

section
open Go.RowKit

def opn (b : Int) : Int → Bool := fun s => !(bits .and .i64 s b == 0)

theorem opn_not (b : Int) : (fun x => !(opn b x)) = (fun s => bits .and .i64 s b == 0) := by
  funext x
  unfold opn
  rw [Bool.not_not]

def gfitAt (S : Sch) (now : Int) (b need : Int) (j : Nat) (t r : Int) : Prop :=
  match j with
  | 0 => ∃ v t1, (S.sys now).fitGo (opn b) need (2 * (S.sys now).steps) t = some (v, t1) ∧ (v = true → t1 = r) ∧ (v = false → (S.waits = false ∧ r = -1) ∨ (S.waits = true ∧ ∃ v2 t2, (S.sys now).fitGo (opn b) need (2 * (S.sys now).steps) ((S.sys now).late t1) = some (v2, t2) ∧ (v2 = true → t2 = r) ∧ (v2 = false → r = -1)))
  | 1 => (S.waits = false ∧ r = -1) ∨ (S.waits = true ∧ ∃ v2 t2, (S.sys now).fitGo (opn b) need (2 * (S.sys now).steps) ((S.sys now).late t) = some (v2, t2) ∧ (v2 = true → t2 = r) ∧ (v2 = false → r = -1))
  | _ => r = -1

theorem gfitAt_of {S : Sch} {now b need t r : Int} (h : (S.sys now).fits (opn b) need t = some r) : gfitAt S now b need 0 t r := by
  unfold Fit.Sys.fits at h
  unfold gfitAt
  simp only
  cases h1 : (S.sys now).fitGo (opn b) need (2 * (S.sys now).steps) t with
  | none => rw [h1] at h; cases h
  | some x =>
    obtain ⟨v, t1⟩ := x
    rw [h1] at h
    refine ⟨v, t1, rfl, ?_, ?_⟩
    · intro hv
      subst hv
      simp only at h
      injection h
    · intro hv
      subst hv
      simp only at h
      by_cases hw : S.waits = true
      · have hw2 : (S.sys now).waits = true := hw
        rw [if_pos hw2] at h
        right
        refine ⟨hw, ?_⟩
        cases h2 : (S.sys now).fitGo (opn b) need (2 * (S.sys now).steps) ((S.sys now).late t1) with
        | none => rw [h2] at h; cases h
        | some x =>
          obtain ⟨v2, t2⟩ := x
          rw [h2] at h
          refine ⟨v2, t2, rfl, ?_, ?_⟩
          · intro hv; subst hv; simp only at h; injection h
          · intro hv; subst hv; simp only at h; injection h with h; exact h.symm
      · have hw2 : ¬ (S.sys now).waits = true := hw
        rw [if_neg hw2] at h
        injection h with h
        exact .inl ⟨by simpa using hw, h.symm⟩

def GFitsInv (w : World) (S : Sch) (now b need r : Int) (k : Nat) (t i : Value) (wr : World) : Prop :=
  ∃ (j : Nat) (t' : Int), j + k = 2 ∧ i = .int .i64 (j : Nat) ∧ t = .int .i64 t' ∧ t' ≤ 4620000000000000000 + j * 2000000000000000 ∧ gfitAt S now b need j t' r ∧ Keeps Nothing w wr

def GFitInv (w : World) (S : Sch) (now b need : Int) (B : Int) (X : Bool × Int) (n k : Nat) (t i : Value) (wr : World) : Prop :=
  ∃ (j : Nat) (t' : Int), j + k = n ∧ i = .int .i64 (j : Nat) ∧ t = .int .i64 t' ∧ t' ≤ B + j * 2200000000000 ∧ (S.sys now).fitGo (opn b) need k t' = some X ∧ Keeps Nothing w wr

theorem late_top {S : Sch} (hg : SchGood S) (now : Int) {t B : Int} (hw : S.waits = true) (hB : 4611686018427387904 ≤ B) (h : t ≤ B) : (S.sys now).late t ≤ B := by
  have h1 := (hg.admin hw).b1
  have e : (S.sys now).late t = if S.has = true then max (max t (S.due - 2000000000)) (S.due - 2 * S.oper.cyc) else max t (S.due - 2000000000) := rfl
  rw [e]
  split
  · rename_i hh
    have := (hg.oper hh).c0
    omega
  · omega

set_option maxRecDepth 100000 in
set_option maxHeartbeats 16000000 in
theorem gfits_ok {w : World} {p : Nat} {S : Sch} (h : SchAt w p S) (hg : SchGood S) {now : Int} (hx : Ext S now) (c : Nat) (b : Int) (hc : c < 8) (hb : wrap64 ((2 : Int) ^ c) = b) (t need r : Int) (ht : t ≤ 4620000000000000000) (hn0 : 1 ≤ need) (hn1 : need ≤ 2000000) (hr : (S.sys now).fits (opn b) need t = some r) :
    Calls Try.prog 72 #[.pointer (some ⟨p, 0, none⟩), .int .i64 (c : Nat), .int .i64 t, .int .i64 need] w (fun e w' => e = .returned (.int .i64 r) ∧ Keeps Nothing w w') := by
  have HS := Lib.hid h
  have HG := Lib.hid hg
  have HX := Lib.hid hx
  have HR := Lib.hid (gfitAt_of hr)
  have hst := steps_le hx
  have hd0 := fun hw => (hg.admin hw).b0
  have hd1 := fun hw => (hg.admin hw).b1
  have HD := Lib.hid (And.intro hd0 hd1)
  obtain ⟨N, hN⟩ : ∃ N : Nat, N = 2 * (S.sys now).steps := ⟨_, rfl⟩
  have hN8 : N ≤ 528 := by omega
  have hw1 : IntKind.i64.wrap (2 * (((S.sys now).steps : Nat) : Int)) = (N : Int) := by rw [IntKind.wrap_i64]; omega
  have HN := Lib.hid hN
  clear hN
  clear h hr hg hx hd0 hd1
  go_enter Try.func72, Try.ntmps72
  go_wp2_with fail
  go_loopg [2, 12] 2 (fun k t i wr => GFitsInv w S now b need r k t i wr)
  case atStart => exact ⟨0, t, by omega, rfl, rfl, by omega, HR.out, Keeps.refl _ _⟩
  case round =>
    obtain ⟨j, t', hj, rfl, rfl, htb, hfit, hk⟩ := hrel
    have HF := Lib.hid hfit
    have HK := Lib.hid hk
    have C2 := fun v (hv : Keeps Nothing wr v) => steps_ok ((HS.out.same HK.out).same hv) HX.out.ol HX.out.al
    rw [steps_eq S now] at C2
    have hj3 : j = 0 ∨ j = 1 ∨ j = 2 := by omega
    rcases hj3 with rfl | rfl | rfl
    · clear hfit hk
      obtain ⟨v, t1, hX, hv1, hv2⟩ := HF.out
      have hB : t' ≤ 4620000000000000000 := by omega
      rw [← HN.out] at hX
      have hVX := Lib.hid hX
      have hV1 := Lib.hid hv1
      have hV2 := Lib.hid hv2
      clear hX hv1 hv2 HF
      go_wp2_with (go_at_call 83; refine (C2 _ (Keeps.refl _ _)).mono ?_; rintro e w2 ⟨rfl, hk2⟩; clear C2)
      have HK2 := Lib.hid (HK.out.same hk2)
      clear hk2
      obtain ⟨wq, rfl⟩ : ∃ wq : World, wq = wr := ⟨_, rfl⟩
      obtain ⟨gq, rfl⟩ : ∃ gq : Nat, gq = gk := ⟨_, rfl⟩
      clear hw1
      go_loopg [2, 49] N (fun k t i wr => GFitInv w S now b need 4620000000000000000 (v, t1) N k t i wr)
      case atStart => exact ⟨0, _, by omega, rfl, rfl, by omega, hVX.out, HK2.out⟩
      case round =>
        obtain ⟨j2, t2, hj2, rfl, rfl, ht2, hgo, hk⟩ := hrel
        have HKi := Lib.hid hk
        clear hk
        by_cases hlt : gk = 0
        · rw [hlt, Fit.Sys.fitGo] at hgo
          have hgo' : (false, t2) = (v, t1) := by injection hgo
          injection hgo' with e1 e2
          subst e1 e2
          have hlt' : ¬ (j2 : Int) < (N : Int) := by omega
          clear hgo
          go_wp2_with fail
          go_roundg (gq - 1)
          case measure => omega
          case rel => exact ⟨1, t2, by omega, rfl, rfl, by omega, hV2.out (by trivial), HKi.out⟩
        · obtain ⟨k0, hk0⟩ : ∃ k0, gk = k0 + 1 := ⟨gk - 1, by omega⟩
          rw [hk0, Fit.Sys.fitGo] at hgo
          have hlt' : (j2 : Int) < (N : Int) := by omega
          cases hA : (S.sys now).walk (opn b) (4 * (S.sys now).steps) t2 (S.sys now).steps with
          | none => rw [hA] at hgo; cases hgo
          | some f =>
            rw [hA] at hgo
            simp only at hgo
            have hfT := walk_top HG.out now (opn b) (B := 4620000000000000000 + j2 * 2200000000000) (by omega) _ hA (by omega)
            have C3 := fun v (hv : Keeps Nothing wr v) => gfrom_ok ((HS.out.same HKi.out).same hv) HG.out HX.out c b hc hb t2 f (by omega) (4 * (S.sys now).steps) (by omega) hA
            by_cases hf : f < 0
            · rw [if_pos hf] at hgo
              have hgo' : (false, t2) = (v, t1) := by injection hgo
              injection hgo' with e1 e2
              subst e1 e2
              clear hgo hA
              go_wp2_with (go_at_call 84; refine (C3 _ (Keeps.refl _ _)).mono ?_; rintro e w3 ⟨rfl, hk3⟩; clear C3)
              go_roundg (gq - 1)
              case measure => omega
              case rel => exact ⟨1, t2, by omega, rfl, rfl, by omega, hV2.out (by trivial), HKi.out.same hk3⟩
            · rw [if_neg hf] at hgo
              rw [opn_not] at hgo
              cases hU : (S.sys now).walk (fun s => bits .and .i64 s b == 0) (4 * (S.sys now).steps) f (S.sys now).steps with
              | none => rw [hU] at hgo; cases hgo
              | some u =>
                rw [hU] at hgo
                simp only at hgo
                have huT := walk_top HG.out now _ (B := 4620000000000000000 + j2 * 2200000000000 + 1056000000000) (by omega) _ hU (by omega)
                have C4 := fun v (hv : Keeps Nothing wr v) => guntil_ok ((HS.out.same HKi.out).same hv) HG.out HX.out c b hc hb f u (by omega) (4 * (S.sys now).steps) (by omega) hU
                by_cases hu : u < 0
                · rw [if_pos (.inl hu)] at hgo
                  have hgo' : (true, f) = (v, t1) := by injection hgo
                  injection hgo' with e1 e2
                  subst e1 e2
                  have hfr := hV1.out rfl
                  subst hfr
                  clear hgo hA hU
                  go_wp2_with (first | (go_at_call 84; refine (C3 _ (Keeps.refl _ _)).mono ?_; rintro e w3 ⟨rfl, hk3⟩; clear C3) | (go_at_call 85; refine (C4 _ hk3).mono ?_; rintro e w4 ⟨rfl, hk4⟩; clear C4))
                  go_ret
                  exact ⟨rfl, (HKi.out.same hk3).same hk4⟩
                · have hu' : decide (u < 0) = false := by simp; omega
                  have hw5 : IntKind.i64.wrap (u - f) = u - f := by rw [IntKind.wrap_i64]; omega
                  by_cases hq : need ≤ u - f
                  · rw [if_pos (.inr hq)] at hgo
                    have hgo' : (true, f) = (v, t1) := by injection hgo
                    injection hgo' with e1 e2
                    subst e1 e2
                    have hfr := hV1.out rfl
                    subst hfr
                    clear hgo hA hU
                    go_wp2_with (first | (go_at_call 84; refine (C3 _ (Keeps.refl _ _)).mono ?_; rintro e w3 ⟨rfl, hk3⟩; clear C3) | (go_at_call 85; refine (C4 _ hk3).mono ?_; rintro e w4 ⟨rfl, hk4⟩; clear C4))
                    go_ret
                    exact ⟨rfl, (HKi.out.same hk3).same hk4⟩
                  · rw [if_neg (by omega)] at hgo
                    have HGO := Lib.hid hgo
                    have q3 : decide (need ≤ u - f) = false := by simp; omega
                    clear hgo hA hU hq
                    go_wp2_with (first | (go_at_call 84; refine (C3 _ (Keeps.refl _ _)).mono ?_; rintro e w3 ⟨rfl, hk3⟩; clear C3) | (go_at_call 85; refine (C4 _ hk3).mono ?_; rintro e w4 ⟨rfl, hk4⟩; clear C4))
                    go_roundg (gk - 1)
                    case measure => omega
                    case rel => exact ⟨j2 + 1, u, by omega, by go_num, rfl, by omega, (by rw [show gk - 1 = k0 by omega]; exact HGO.out), (HKi.out.same hk3).same hk4⟩
    · have hB2 := HS.out.blk.keeps hk (fun h => h)
      have s1 : wr.cell? ⟨p, 1, none⟩ = some (.int .i64 S.oper.cyc) := hB2.cell 1
      have s8 : wr.cell? ⟨p, 8, none⟩ = some (.bool S.has) := hB2.cell 8
      have s9 : wr.cell? ⟨p, 9, none⟩ = some (.bool S.waits) := hB2.cell 9
      have s10 : wr.cell? ⟨p, 10, none⟩ = some (.int .i64 S.due) := hB2.cell 10
      clear hfit hk hB2
      rcases HF.out with ⟨hw, hr1⟩ | ⟨hw, v, t1, hX, hv1, hv2⟩
      · subst hr1
        rw [hw] at s9
        clear HF hw
        go_wp2_with fail
        go_ret
        exact ⟨rfl, HK.out⟩
      · rw [hw] at s9
        have hd0 := HD.out.1 hw
        have hd1 := HD.out.2 hw
        have hlt := late_top HG.out now (t := t') (B := 4622000000000000000) hw (by omega) (by omega)
        have eL : (S.sys now).late t' = if S.has = true then max (max t' (S.due - 2000000000)) (S.due - 2 * S.oper.cyc) else max t' (S.due - 2000000000) := rfl
        generalize (S.sys now).late t' = t5 at *
        go_upto_if 16 with fail
        obtain ⟨x2, hx2⟩ : ∃ x, x = S.due - 2000000000 := ⟨_, rfl⟩
        have hwa : IntKind.i64.wrap (S.due - 2000000000) = x2 := by rw [IntKind.wrap_i64]; omega
        rw [← hx2] at eL
        have HX2 := Lib.hid hx2
        clear hx2
        go_cut [2] from 17 to 45 (fun v wx => v = .int .i64 t5 ∧ Keeps Nothing wr wx)
        case first =>
          cases hh : S.has with
          | false =>
            rw [hh] at s8
            rw [if_neg (by rw [hh]; decide)] at eL
            have HE := Lib.hid eL
            clear eL hX hv1 hv2 HF
            by_cases l1 : t' < x2
            · go_wp2_with fail
              go_meet
              case rel => exact ⟨congrArg (Value.int .i64) (by have := HE.out; omega), by first | exact Keeps.refl _ _ | exact (Keeps.refl _ _).drew | exact (Keeps.refl _ _).drewN _⟩
            · have l1' : decide (t' < x2) = false := by simpa using l1
              go_wp2_with fail
              go_meet
              case rel => exact ⟨congrArg (Value.int .i64) (by have := HE.out; omega), by first | exact Keeps.refl _ _ | exact (Keeps.refl _ _).drew | exact (Keeps.refl _ _).drewN _⟩
          | true =>
            have g := HG.out.oper hh
            have gc0 := g.c0
            have gc1 := g.c1
            rw [hh] at s8
            rw [if_pos hh] at eL
            obtain ⟨x3, hx3⟩ : ∃ x, x = S.due - 2 * S.oper.cyc := ⟨_, rfl⟩
            rw [← hx3] at eL
            have HE := Lib.hid eL
            have hwb : IntKind.i64.wrap (2 * S.oper.cyc) = 2 * S.oper.cyc := by rw [IntKind.wrap_i64]; omega
            have hwc : IntKind.i64.wrap (S.due - 2 * S.oper.cyc) = x3 := by rw [IntKind.wrap_i64]; omega
            clear eL hX hv1 hv2 HF g hx3
            by_cases l1 : t' < x2
            · by_cases l2 : x2 < x3
              · go_upto_region 9 with fail
                go_quiet (fail)
                go_wp2_with fail
                go_meet
                case rel => exact ⟨congrArg (Value.int .i64) (by have := HE.out; omega), by first | exact Keeps.refl _ _ | exact (Keeps.refl _ _).drew | exact (Keeps.refl _ _).drewN _⟩
              · have l2' : decide (x2 < x3) = false := by simpa using l2
                go_upto_region 9 with fail
                go_quiet (fail)
                go_wp2_with fail
                go_meet
                case rel => exact ⟨congrArg (Value.int .i64) (by have := HE.out; omega), by first | exact Keeps.refl _ _ | exact (Keeps.refl _ _).drew | exact (Keeps.refl _ _).drewN _⟩
            · have l1' : decide (t' < x2) = false := by simpa using l1
              by_cases l2 : t' < x3
              · go_upto_region 9 with fail
                go_quiet (fail)
                go_wp2_with fail
                go_meet
                case rel => exact ⟨congrArg (Value.int .i64) (by have := HE.out; omega), by first | exact Keeps.refl _ _ | exact (Keeps.refl _ _).drew | exact (Keeps.refl _ _).drewN _⟩
              · have l2' : decide (t' < x3) = false := by simpa using l2
                go_upto_region 9 with fail
                go_quiet (fail)
                go_wp2_with fail
                go_meet
                case rel => exact ⟨congrArg (Value.int .i64) (by have := HE.out; omega), by first | exact Keeps.refl _ _ | exact (Keeps.refl _ _).drew | exact (Keeps.refl _ _).drewN _⟩
        case rest =>
          obtain ⟨rfl, kc⟩ := hcut
          clear eL hwa
          rw [← HN.out] at hX
          have hVX := Lib.hid hX
          have hV1 := Lib.hid hv1
          have hV2 := Lib.hid hv2
          clear hX hv1 hv2 HF
          go_wp2_with (go_at_call 83; refine (C2 _ kc).mono ?_; rintro e w2 ⟨rfl, hk2⟩; clear C2)
          have HK2 := Lib.hid (HK.out.same (kc.same hk2))
          clear hk2
          obtain ⟨wq, rfl⟩ : ∃ wq : World, wq = wr := ⟨_, rfl⟩
          obtain ⟨gq, rfl⟩ : ∃ gq : Nat, gq = gk := ⟨_, rfl⟩
          clear hw1
          go_loopg [2, 49] N (fun k t i wr => GFitInv w S now b need 4622000000000000000 (v, t1) N k t i wr)
          case atStart => exact ⟨0, _, by omega, rfl, rfl, by omega, hVX.out, HK2.out⟩
          case round =>
            obtain ⟨j2, t2, hj2, rfl, rfl, ht2, hgo, hk⟩ := hrel
            have HKi := Lib.hid hk
            clear hk
            by_cases hlt : gk = 0
            · rw [hlt, Fit.Sys.fitGo] at hgo
              have hgo' : (false, t2) = (v, t1) := by injection hgo
              injection hgo' with e1 e2
              subst e1 e2
              have hlt' : ¬ (j2 : Int) < (N : Int) := by omega
              clear hgo
              go_wp2_with fail
              go_roundg (gq - 1)
              case measure => omega
              case rel => exact ⟨2, t2, by omega, rfl, rfl, by omega, hV2.out (by trivial), HKi.out⟩
            · obtain ⟨k0, hk0⟩ : ∃ k0, gk = k0 + 1 := ⟨gk - 1, by omega⟩
              rw [hk0, Fit.Sys.fitGo] at hgo
              have hlt' : (j2 : Int) < (N : Int) := by omega
              cases hA : (S.sys now).walk (opn b) (4 * (S.sys now).steps) t2 (S.sys now).steps with
              | none => rw [hA] at hgo; cases hgo
              | some f =>
                rw [hA] at hgo
                simp only at hgo
                have hfT := walk_top HG.out now (opn b) (B := 4622000000000000000 + j2 * 2200000000000) (by omega) _ hA (by omega)
                have C3 := fun v (hv : Keeps Nothing wr v) => gfrom_ok ((HS.out.same HKi.out).same hv) HG.out HX.out c b hc hb t2 f (by omega) (4 * (S.sys now).steps) (by omega) hA
                by_cases hf : f < 0
                · rw [if_pos hf] at hgo
                  have hgo' : (false, t2) = (v, t1) := by injection hgo
                  injection hgo' with e1 e2
                  subst e1 e2
                  clear hgo hA
                  go_wp2_with (go_at_call 84; refine (C3 _ (Keeps.refl _ _)).mono ?_; rintro e w3 ⟨rfl, hk3⟩; clear C3)
                  go_roundg (gq - 1)
                  case measure => omega
                  case rel => exact ⟨2, t2, by omega, rfl, rfl, by omega, hV2.out (by trivial), HKi.out.same hk3⟩
                · rw [if_neg hf] at hgo
                  rw [opn_not] at hgo
                  cases hU : (S.sys now).walk (fun s => bits .and .i64 s b == 0) (4 * (S.sys now).steps) f (S.sys now).steps with
                  | none => rw [hU] at hgo; cases hgo
                  | some u =>
                    rw [hU] at hgo
                    simp only at hgo
                    have huT := walk_top HG.out now _ (B := 4622000000000000000 + j2 * 2200000000000 + 1056000000000) (by omega) _ hU (by omega)
                    have C4 := fun v (hv : Keeps Nothing wr v) => guntil_ok ((HS.out.same HKi.out).same hv) HG.out HX.out c b hc hb f u (by omega) (4 * (S.sys now).steps) (by omega) hU
                    by_cases hu : u < 0
                    · rw [if_pos (.inl hu)] at hgo
                      have hgo' : (true, f) = (v, t1) := by injection hgo
                      injection hgo' with e1 e2
                      subst e1 e2
                      have hfr := hV1.out rfl
                      subst hfr
                      clear hgo hA hU
                      go_wp2_with (first | (go_at_call 84; refine (C3 _ (Keeps.refl _ _)).mono ?_; rintro e w3 ⟨rfl, hk3⟩; clear C3) | (go_at_call 85; refine (C4 _ hk3).mono ?_; rintro e w4 ⟨rfl, hk4⟩; clear C4))
                      go_ret
                      exact ⟨rfl, (HKi.out.same hk3).same hk4⟩
                    · have hu' : decide (u < 0) = false := by simp; omega
                      have hw5 : IntKind.i64.wrap (u - f) = u - f := by rw [IntKind.wrap_i64]; omega
                      by_cases hq : need ≤ u - f
                      · rw [if_pos (.inr hq)] at hgo
                        have hgo' : (true, f) = (v, t1) := by injection hgo
                        injection hgo' with e1 e2
                        subst e1 e2
                        have hfr := hV1.out rfl
                        subst hfr
                        clear hgo hA hU
                        go_wp2_with (first | (go_at_call 84; refine (C3 _ (Keeps.refl _ _)).mono ?_; rintro e w3 ⟨rfl, hk3⟩; clear C3) | (go_at_call 85; refine (C4 _ hk3).mono ?_; rintro e w4 ⟨rfl, hk4⟩; clear C4))
                        go_ret
                        exact ⟨rfl, (HKi.out.same hk3).same hk4⟩
                      · rw [if_neg (by omega)] at hgo
                        have HGO := Lib.hid hgo
                        have q3 : decide (need ≤ u - f) = false := by simp; omega
                        clear hgo hA hU hq
                        go_wp2_with (first | (go_at_call 84; refine (C3 _ (Keeps.refl _ _)).mono ?_; rintro e w3 ⟨rfl, hk3⟩; clear C3) | (go_at_call 85; refine (C4 _ hk3).mono ?_; rintro e w4 ⟨rfl, hk4⟩; clear C4))
                        go_roundg (gk - 1)
                        case measure => omega
                        case rel => exact ⟨j2 + 1, u, by omega, by go_num, rfl, by omega, (by rw [show gk - 1 = k0 by omega]; exact HGO.out), (HKi.out.same hk3).same hk4⟩

    · have hr1 : r = -1 := HF.out
      subst hr1
      clear hfit hk
      go_wp2_with fail
      go_ret
      exact ⟨rfl, HK.out⟩
end

end Go.Proofs.Ytimgmobmagpmlaa
