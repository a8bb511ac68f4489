/- ChangeFits: a schedule as a walk over edges. -/
import Derived.Test.YtpgmkekdgchkfaaNexts
import Derived.Test.YtpgmkekdgchkfaaPlay2
import Derived.Test.YtpgmkekdgchkfaaFit
namespace Go.Proofs.Ytpgmkekdgchkfaa
open Go.RowKit

theorem atGo_left_stays {n : Nat} {cyc into into' : Int} (h1 : into ≤ into') : ∀ (es : List Ent) (i : Nat) (en : Int), i + es.length = n → into' < into + (atGo n cyc into es i en).2 → (atGo n cyc into' es i en).2 = (atGo n cyc into es i en).2 - (into' - into)
  | [], i, en, _, _ => by simp only [atGo]; omega
  | e :: rest, i, en, hn, h => by
    simp at hn
    rw [atGo] at h ⊢
    rw [atGo]
    by_cases c1 : into < en + e.nanos ∧ i + 1 < n ∧ en + e.nanos < cyc
    · rw [if_pos c1] at h ⊢
      simp only at h
      rw [if_pos ⟨by omega, c1.2⟩]
      simp only
      omega
    · rw [if_neg c1] at h ⊢
      by_cases c2 : cyc ≤ en + e.nanos
      · rw [if_pos c2] at h ⊢
        rw [if_neg (by omega), if_pos c2]
        simp only
        omega
      · rw [if_neg c2] at h ⊢
        rw [if_neg (by omega), if_neg c2]
        exact atGo_left_stays h1 rest (i + 1) _ (by omega) h

theorem tmod_shift {a cyc : Int} (hc : 1 ≤ cyc) (h0 : 0 ≤ a) (d : Int) (hd : 0 ≤ d) (h : a.tmod cyc + d < cyc) : (a + d).tmod cyc = a.tmod cyc + d := by
  rw [Int.tmod_eq_emod_of_nonneg h0] at h ⊢
  rw [Int.tmod_eq_emod_of_nonneg (by omega)]
  have hm := Int.emod_nonneg a (by omega : cyc ≠ 0)
  have he := Int.mul_ediv_add_emod a cyc
  have : a + d = (a % cyc + d) + cyc * (a / cyc) := by omega
  rw [this, Int.add_mul_emod_self_left]
  exact Int.emod_eq_of_lt (by omega) (by omega)

theorem tmod_cyc {a cyc : Int} (hc : 1 ≤ cyc) (h0 : 0 ≤ a) : (a + cyc).tmod cyc = a.tmod cyc := by
  rw [Int.tmod_eq_emod_of_nonneg h0, Int.tmod_eq_emod_of_nonneg (by omega)]
  have : a + cyc = a + cyc * 1 := by omega
  rw [this, Int.add_mul_emod_self_left]

theorem gnx_same {base cyc : Int} {es : List Ent} {t t' : Int} (hc : 1 ≤ cyc) (h1 : t ≤ t') (h2 : t' < gnx base cyc es t) : gnx base cyc es t' = gnx base cyc es t := by
  unfold gnx at h2 ⊢
  by_cases hb : t < base
  · rw [if_pos hb] at h2
    rw [if_pos hb, if_pos h2]
  · rw [if_neg hb] at h2
    rw [if_neg hb, if_neg (by omega)]
    obtain ⟨m0, m1⟩ := tmod_in (a := t - base) (c := cyc) (by omega) hc
    have hl := atGo_left2 m1 (n := es.length) es 0 0
    have he : (t' - base).tmod cyc = (t - base).tmod cyc + (t' - t) := by
      have := tmod_shift hc (by omega : 0 ≤ t - base) (t' - t) (by omega) (by omega)
      rwa [show t - base + (t' - t) = t' - base by omega] at this
    rw [he, atGo_left_stays (into := (t - base).tmod cyc) (by omega) es 0 0 (by omega) (by omega)]
    omega

theorem gst_per {base cyc : Int} {es : List Ent} {t : Int} (hc : 1 ≤ cyc) (h : base ≤ t) : gst base cyc es (t + cyc) = gst base cyc es t := by
  unfold gst
  rw [if_neg (by omega), if_neg (by omega)]
  have := tmod_cyc hc (by omega : 0 ≤ t - base)
  rw [show t - base + cyc = t + cyc - base by omega] at this
  rw [this]

/-! how many edges a cycle has -/
theorem cnt_le {a b : Int} (h : a ≤ b) : ∀ l : List Int, l.countP (fun x => decide (b < x)) ≤ l.countP (fun x => decide (a < x))
  | [] => Nat.le_refl _
  | x :: l => by
    have ih := cnt_le h l
    rw [List.countP_cons, List.countP_cons]
    by_cases e : b < x
    · rw [if_pos (by simpa using e), if_pos (by simp; omega)]; omega
    · rw [if_neg (by simpa using e)]; omega

theorem cnt_lt {a b : Int} (h : a < b) : ∀ l : List Int, b ∈ l → l.countP (fun x => decide (b < x)) + 1 ≤ l.countP (fun x => decide (a < x))
  | x :: l, hm => by
    rw [List.countP_cons, List.countP_cons]
    rcases List.mem_cons.1 hm with e | e
    · subst e
      have ih := cnt_le (Int.le_of_lt h) l
      rw [if_neg (by simp), if_pos (by simpa using h)]
      omega
    · have ih := cnt_lt h l e
      by_cases c : b < x
      · rw [if_pos (by simpa using c), if_pos (by simp; omega)]; omega
      · rw [if_neg (by simpa using c)]; omega

theorem edGo_lt {cyc : Int} : ∀ (es : List Ent) (a : Int), ∀ x ∈ edGo cyc es a, x < cyc
  | [], _, x, h => by simp [edGo] at h
  | [_], _, x, h => by simp [edGo] at h
  | e :: e' :: rest, a, x, h => by
    rw [edGo, List.mem_append] at h
    rcases h with h | h
    · split at h
      · simp at h; omega
      · simp at h
    · exact edGo_lt (e' :: rest) _ x h

theorem edGo_short {cyc : Int} : ∀ (es : List Ent) (a : Int), 0 < es.length → (edGo cyc es a).length + 1 ≤ es.length
  | [], _, h => by simp at h
  | [_], _, _ => by simp [edGo]
  | e :: e' :: rest, a, _ => by
    have ih := edGo_short (cyc := cyc) (e' :: rest) (a + e.nanos) (by simp)
    rw [edGo, List.length_append]
    simp only [List.length_cons] at ih ⊢
    split <;> simp <;> omega

theorem cycle_end {base cyc ext : Int} {es : List Ent} (g : Good base cyc ext es) : ∀ (r : Nat) (t : Int), base ≤ t → (edGo cyc es 0 ++ [cyc]).countP (fun x => decide ((t - base).tmod cyc < x)) ≤ r →
    ∃ j, j ≤ r ∧ Fit.it (gnx base cyc es) j t = t - (t - base).tmod cyc + cyc
  | 0, t, hb, h => by
    obtain ⟨m0, m1⟩ := tmod_in (a := t - base) (c := cyc) (by omega) g.c0
    rw [List.countP_append, List.countP_cons, if_pos (by simpa using m1)] at h
    omega
  | r + 1, t, hb, h => by
    obtain ⟨m0, m1⟩ := tmod_in (a := t - base) (c := cyc) (by omega) g.c0
    have hf := find_edge (n := es.length) m1 es 0 0 (by omega) (fun e he => (g.ents e he).2.2.1)
    have hgn : gnx base cyc es t = t + (atGo es.length cyc ((t - base).tmod cyc) es 0 0).2 := by unfold gnx; rw [if_neg (by omega)]
    have hsh := fun d h0 h1 => tmod_shift g.c0 (by omega : 0 ≤ t - base) d h0 h1
    generalize (atGo es.length cyc ((t - base).tmod cyc) es 0 0).2 = left at *
    generalize hI : (t - base).tmod cyc = into at *
    have hmem := List.mem_of_find?_eq_some hf
    have hgt := List.find?_some hf
    have hgt2 : into < into + left := of_decide_eq_true hgt
    by_cases he : into + left = cyc
    · refine ⟨1, by omega, ?_⟩
      show gnx base cyc es t = _
      omega
    · have hlt : into + left < cyc := by
        rcases List.mem_append.1 hmem with h2 | h2
        · exact edGo_lt es 0 _ h2
        · simp at h2; omega
      have hI2 : (t + left - base).tmod cyc = into + left := by
        have := hsh left (by omega) (by omega)
        rwa [show t - base + left = t + left - base by omega] at this
      have hc := cnt_lt hgt2 _ hmem
      obtain ⟨j, j1, j2⟩ := cycle_end g r (t + left) (by omega) (by rw [hI2]; omega)
      refine ⟨j + 1, by omega, ?_⟩
      rw [Fit.it, hgn, j2, hI2]
      omega

theorem it_up {nx : Int → Int} {b : Int} (h : ∀ s, b ≤ s → s < nx s) : ∀ (k : Nat) {t : Int}, b ≤ t → t ≤ Fit.it nx k t
  | 0, t, _ => Int.le_refl _
  | k + 1, t, ht => by
    have h1 := h t ht
    have h2 := it_up h k (t := nx t) (by omega)
    rw [Fit.it]
    omega

theorem it_up2 {nx : Int → Int} {b : Int} (h : ∀ s, b ≤ s → s < nx s) {j k : Nat} (hjk : j ≤ k) {t : Int} (ht : b ≤ t) : Fit.it nx j t ≤ Fit.it nx k t := by
  obtain ⟨d, rfl⟩ : ∃ d, k = j + d := ⟨k - j, by omega⟩
  rw [Fit.it_add]
  have := it_up h j ht
  exact it_up h d (by omega)

theorem gnx_cycle {base cyc ext : Int} {es : List Ent} (g : Good base cyc ext es) {t : Int} (hb : base ≤ t) : t + cyc ≤ Fit.it (gnx base cyc es) (2 * es.length + 1) t := by
  have hlen : ∀ x : Int, (edGo cyc es 0 ++ [cyc]).countP (fun y => decide (x < y)) ≤ es.length := fun x => by
    have h1 := List.countP_le_length (p := fun y => decide (x < y)) (l := edGo cyc es 0 ++ [cyc])
    have h2 := edGo_short (cyc := cyc) es 0 g.pos
    rw [List.length_append] at h1
    simp only [List.length_cons, List.length_nil] at h1
    omega
  obtain ⟨m0, m1⟩ := tmod_in (a := t - base) (c := cyc) (by omega) g.c0
  obtain ⟨j, j1, j2⟩ := cycle_end g es.length t hb (hlen _)
  obtain ⟨i, i1, i2⟩ := cycle_end g es.length (t - (t - base).tmod cyc + cyc) (by omega) (hlen _)
  have hz : (t - (t - base).tmod cyc + cyc - base).tmod cyc = 0 := by
    have e : (t - base) % cyc = (t - base).tmod cyc := (Int.tmod_eq_emod_of_nonneg (by omega)).symm
    have h1 := Int.mul_ediv_add_emod (t - base) cyc
    rw [Int.tmod_eq_emod_of_nonneg (by omega)]
    have : t - (t - base).tmod cyc + cyc - base = 0 + cyc * ((t - base) / cyc + 1) := by rw [Int.mul_add]; omega
    rw [this, Int.add_mul_emod_self_left]
    rfl
  have hup : ∀ s, base ≤ s → s < gnx base cyc es s := fun s hs => by have := (gnx_range (es := es) g.c0 hs).1; omega
  have hm := it_up2 hup (j := j + i) (k := 2 * es.length + 1) (by omega) hb
  rw [Fit.it_add, j2, i2, hz] at hm
  omega

/-! the schedule -/
def Sch.sys (S : Sch) (now : Int) : Fit.Sys := { st := S.state, nx := S.next, has := S.has, waits := S.waits, due := S.due, base := S.oper.base, cyc := S.oper.cyc, acyc := S.admin.cyc, tl := S.tail, o := S.oper.es.length, a := S.admin.es.length, now := now }

theorem Sch.tail_at {S : Sch} (hg : SchGood S) {f : Int} (hT : S.tail = some f) : S.waits = true ∧ S.has = true ∧ S.oper.base < f ∧ f < S.due ∧ S.due - f < S.oper.cyc := by
  obtain ⟨h1, h2⟩ := Sch.tail_some hT
  have g := hg.oper h2
  have gc := g.c0
  unfold Sch.tail at hT
  by_cases hb : S.waits = true ∧ S.has = true ∧ S.oper.base < S.due
  · rw [if_pos hb] at hT
    have hb3 := hb.2.2
    have h0 : 0 ≤ (S.due - S.oper.base).tdiv S.oper.cyc * S.oper.cyc := Int.mul_nonneg (Int.tdiv_nonneg (by omega) (by omega)) (by omega)
    have hq := Int.tmod_add_mul_tdiv (S.due - S.oper.base) S.oper.cyc
    rw [Int.mul_comm] at hq
    obtain ⟨m0, m1⟩ := tmod_in (a := S.due - S.oper.base) (c := S.oper.cyc) (by omega) gc
    generalize (S.due - S.oper.base).tdiv S.oper.cyc * S.oper.cyc = M at *
    generalize (S.due - S.oper.base).tmod S.oper.cyc = R at *
    simp only at hT
    split at hT
    · cases hT
    · rename_i hn
      injection hT with hT
      exact ⟨h1, h2, by omega, by omega, by omega⟩
  · rw [if_neg hb] at hT
    cases hT

theorem Sch.upto_le {S : Sch} (hg : SchGood S) (now : Int) : (S.sys now).upto ≤ S.due := by
  unfold Fit.Sys.upto
  show S.tail.getD S.due ≤ S.due
  cases h : S.tail with
  | none => simp
  | some f => have := (Sch.tail_at hg h).2.2.2.1; simp; omega

/-- Ahead of what ends the list's cycles, its next edge, but no further. -/
theorem Sch.next_min {S : Sch} (hg : SchGood S) (now : Int) (hh : S.has = true) {t : Int} (hu : S.waits = true → t < (S.sys now).upto) :
    S.next t = if S.waits = true ∧ (S.sys now).upto < gnx S.oper.base S.oper.cyc S.oper.es t then (S.sys now).upto else gnx S.oper.base S.oper.cyc S.oper.es t := by
  have hul := Sch.upto_le hg now
  have hd : S.waits = true → ¬ S.due ≤ t := fun hw => by have := hu hw; omega
  have g := hg.oper hh
  have h3 := gnx_ge (base := S.oper.base) (cyc := S.oper.cyc) (es := S.oper.es) (t := t) g.b0 g.c0
  cases hT : S.tail with
  | none =>
    have e : (S.sys now).upto = S.due := by unfold Fit.Sys.upto; show S.tail.getD S.due = S.due; rw [hT]; rfl
    rw [Sch.next_g hd hT hh, e]
    by_cases hc : S.waits = true ∧ S.due < gnx S.oper.base S.oper.cyc S.oper.es t
    · rw [if_pos hc, if_pos ⟨hc.1, .inr hc.2⟩]
    · rw [if_neg hc, if_neg (fun x => hc ⟨x.1, by rcases x.2 with y | y <;> omega⟩)]
  | some f =>
    obtain ⟨hw, -, h5, h6, -⟩ := Sch.tail_at hg hT
    have e : (S.sys now).upto = f := by unfold Fit.Sys.upto; show S.tail.getD S.due = f; rw [hT]; rfl
    have hu2 := hu hw
    rw [e] at hu2 ⊢
    have hb0 := g.b0
    by_cases hc : f < gnx S.oper.base S.oper.cyc S.oper.es t
    · rw [if_pos ⟨hw, hc⟩, Sch.next_b hd hT (by omega) hh hc, if_neg (fun x => by rcases x.2 with y | y <;> omega)]
    · rw [if_neg (fun x => hc x.2), Sch.next_c hd hT (by omega) hh hc, if_neg (fun x => by rcases x.2 with y | y <;> omega)]

theorem Sch.next_due {S : Sch} {t : Int} (hw : S.waits = true) (hd : S.due ≤ t) : S.next t = gnx S.due S.admin.cyc S.admin.es t := by unfold Sch.next; rw [if_pos ⟨hw, hd⟩]

theorem Sch.next_pos {S : Sch} (hg : SchGood S) (hl : S.has = true ∨ S.waits = true) (t : Int) : 0 ≤ S.next t := by
  cases hw : S.waits with
  | true =>
    have g := hg.admin hw
    have b0 := g.b0
    by_cases hd : S.due ≤ t
    · rw [Sch.next_due hw hd]; exact gnx_ge g.b0 g.c0
    · rw [Sch.next_of (fun _ => hd) rfl]
      split
      · exact b0
      · rename_i hn
        have : ¬ (S.pre t < 0 ∨ S.due < S.pre t) := fun x => hn ⟨hw, x⟩
        omega
  | false =>
    have hh : S.has = true := by
      rcases hl with h | h
      · exact h
      · rw [hw] at h; cases h
    have g := hg.oper hh
    rw [Sch.next_min hg 0 hh (fun h => by rw [hw] at h; cases h), if_neg (fun h => by rw [hw] at h; cases h.1)]
    exact gnx_ge g.b0 g.c0

theorem it_next_due {S : Sch} (hg : SchGood S) (hw : S.waits = true) : ∀ (k : Nat) {t : Int}, S.due ≤ t → Fit.it S.next k t = Fit.it (gnx S.due S.admin.cyc S.admin.es) k t
  | 0, _, _ => rfl
  | k + 1, t, ht => by
    have := (gnx_range (es := S.admin.es) (hg.admin hw).c0 ht).1
    rw [Fit.it, Fit.it, Sch.next_due hw ht]
    exact it_next_due hg hw k (by omega)

theorem it_next_has {S : Sch} (hg : SchGood S) (now : Int) (hh : S.has = true) : ∀ (k : Nat) {t : Int}, S.oper.base ≤ t → (S.waits = true → t < (S.sys now).upto) →
    Fit.it (gnx S.oper.base S.oper.cyc S.oper.es) k t ≤ Fit.it S.next k t ∨ (S.waits = true ∧ (S.sys now).upto ≤ Fit.it S.next k t)
  | 0, t, _, _ => .inl (Int.le_refl _)
  | k + 1, t, hb, hu => by
    have g := hg.oper hh
    have b0 := g.b0
    have hup : ∀ s, (0 : Int) ≤ s → s < S.next s := fun s hs => Sch.next_gt hg s (Sch.next_pos hg (.inl hh) s) hs
    have hgr := (gnx_range (es := S.oper.es) g.c0 hb).1
    rw [Fit.it, Fit.it, Sch.next_min hg now hh hu]
    by_cases hc : S.waits = true ∧ (S.sys now).upto < gnx S.oper.base S.oper.cyc S.oper.es t
    · rw [if_pos hc]
      have := hu hc.1
      exact .inr ⟨hc.1, it_up hup k (by omega)⟩
    · rw [if_neg hc]
      by_cases hn : S.waits = true → gnx S.oper.base S.oper.cyc S.oper.es t < (S.sys now).upto
      · exact it_next_has hg now hh k (by omega) hn
      · have hw : S.waits = true := Classical.byContradiction fun x => hn (fun y => absurd y x)
        have h2 : ¬ gnx S.oper.base S.oper.cyc S.oper.es t < (S.sys now).upto := fun x => hn (fun _ => x)
        have h3 := it_up hup k (t := gnx S.oper.base S.oper.cyc S.oper.es t) (by omega)
        exact .inr ⟨hw, by omega⟩

theorem Sch.state_due {S : Sch} {t : Int} (hw : S.waits = true) (hd : S.due ≤ t) : S.state t = gst S.due S.admin.cyc S.admin.es t := by unfold Sch.state; rw [if_pos ⟨hw, hd⟩]

theorem Sch.state_pre {S : Sch} (now : Int) (hg : SchGood S) (hh : S.has = true) {t : Int} (hu : S.waits = true → t < (S.sys now).upto) : S.state t = gst S.oper.base S.oper.cyc S.oper.es t := by
  have hul := Sch.upto_le hg now
  have hd : S.waits = true → ¬ S.due ≤ t := fun hw => by have := hu hw; omega
  cases hT : S.tail with
  | none => rw [Sch.state_none hd hT, if_pos hh]
  | some f =>
    have e : (S.sys now).upto = f := by unfold Fit.Sys.upto; show S.tail.getD S.due = f; rw [hT]; rfl
    have := hu (Sch.tail_some hT).1
    rw [Sch.state_tail hd hT, if_neg (by omega), if_pos hh]

theorem Sch.lone_none {S : Sch} (hh : S.has = false) : S.tail = none := by
  unfold Sch.tail
  rw [if_neg (fun x => by rw [hh] at x; cases x.2.1)]

theorem Sch.sys_ok {S : Sch} (hg : SchGood S) {now : Int} (h0 : 0 ≤ now) (hx : Ext S now) : (S.sys now).Ok where
  n0 := h0
  d0 := fun hw => (hg.admin hw).b0
  gt := fun t ht hn => Sch.next_gt hg t hn (Int.le_trans h0 ht)
  neg := fun t ht hn => by
    have hl : ¬ (S.has = true ∨ S.waits = true) := fun h => by have := Sch.next_pos hg h t; have hn : S.next t < 0 := hn; omega
    have h1 : S.has = false := by cases h : S.has with | false => rfl | true => exact absurd (.inl h) hl
    have h2 : S.waits = false := by cases h : S.waits with | false => rfl | true => exact absurd (.inr h) hl
    refine ⟨?_, h1, h2⟩
    show S.next t = -1
    rw [Sch.next_n (fun x => by rw [h2] at x; cases x) (Sch.lone_none h1) h1, if_neg (fun x => by rw [h2] at x; cases x.1)]
  stays := fun t t' _ h1 h2 => Sch.stays hg h1 h2
  same := fun t t' ht h1 h2 => by
    show S.next t' = S.next t
    cases hw : S.waits with
    | true =>
      have h3 : t' < S.next t := by
        rcases h2 with h | h
        · have := Sch.next_pos hg (.inr hw) t; have h : S.next t < 0 := h; omega
        · exact h
      by_cases hd : S.due ≤ t
      · rw [Sch.next_due hw hd] at h3 ⊢
        rw [Sch.next_due hw (by omega)]
        exact gnx_same (hg.admin hw).c0 h1 h3
      · cases hh : S.has with
        | true =>
          by_cases hu : t < (S.sys now).upto
          · have e := Sch.next_min hg now hh (t := t) (fun _ => hu)
            rw [e] at h3
            have hu2 : t' < (S.sys now).upto ∧ t' < gnx S.oper.base S.oper.cyc S.oper.es t := by
              by_cases hc : (S.sys now).upto < gnx S.oper.base S.oper.cyc S.oper.es t
              · rw [if_pos ⟨hw, hc⟩] at h3; omega
              · rw [if_neg (fun x => hc x.2)] at h3; omega
            rw [e, Sch.next_min hg now hh (fun _ => hu2.1), gnx_same (hg.oper hh).c0 h1 hu2.2]
          · cases hT : S.tail with
            | none =>
              have e : (S.sys now).upto = S.due := by unfold Fit.Sys.upto; show S.tail.getD S.due = S.due; rw [hT]; rfl
              omega
            | some f =>
              have e : (S.sys now).upto = f := by unfold Fit.Sys.upto; show S.tail.getD S.due = f; rw [hT]; rfl
              have e1 := Sch.next_l (S := S) (t := t) (f := f) (fun _ => hd) hT (by omega)
              rw [if_pos ⟨hw, .inl (by decide)⟩] at e1
              rw [e1] at h3 ⊢
              rw [Sch.next_l (fun _ => by omega) hT (by omega), if_pos ⟨hw, .inl (by decide)⟩]
        | false =>
          have e1 := Sch.next_n (S := S) (t := t) (fun _ => hd) (Sch.lone_none hh) hh
          rw [if_pos ⟨hw, .inl (by decide)⟩] at e1
          rw [e1] at h3 ⊢
          rw [Sch.next_n (fun _ => by omega) (Sch.lone_none hh) hh, if_pos ⟨hw, .inl (by decide)⟩]
    | false =>
      have hwn : ∀ {x : Prop}, S.waits = true → x := fun x => by rw [hw] at x; cases x
      cases hh : S.has with
      | true =>
        have e := Sch.next_min hg now hh (t := t) (fun x => hwn x)
        rw [if_neg (fun x => hwn x.1)] at e
        have h3 : t' < S.next t := by
          rcases h2 with h | h
          · have := Sch.next_pos hg (.inl hh) t; have h : S.next t < 0 := h; omega
          · exact h
        rw [e] at h3 ⊢
        rw [Sch.next_min hg now hh (fun x => hwn x), if_neg (fun x => hwn x.1)]
        exact gnx_same (hg.oper hh).c0 h1 h3
      | false => rw [Sch.next_n (fun x => hwn x) (Sch.lone_none hh) hh, Sch.next_n (fun x => hwn x) (Sch.lone_none hh) hh]
  dle := fun hw t _ ht => by
    show S.next t ≤ S.due
    have ht : t < S.due := ht
    rw [Sch.next_of (fun _ => by omega) rfl]
    split
    · exact Int.le_refl _
    · rename_i hn
      have : ¬ (S.pre t < 0 ∨ S.due < S.pre t) := fun x => hn ⟨hw, x⟩
      omega
  tl := fun f hT => Sch.tail_at hg hT
  tlst := fun f hT t h1 h2 => by
    have h2 : t < S.due := h2
    obtain ⟨hw, hh, h5, h6, -⟩ := Sch.tail_at hg hT
    refine ⟨?_, ?_⟩
    · show S.state t = S.state (f - 1)
      rw [Sch.state_tail (fun _ => by omega) hT, if_pos h1, Sch.state_tail (fun _ => by omega) hT, if_neg (by omega), if_pos hh]
    · show S.next t = S.due
      rw [Sch.next_l (fun _ => by omega) hT h1, if_pos ⟨hw, .inl (by decide)⟩]
  lone := fun hh t t' _ _ hw => by
    show S.state t' = S.state t
    have hh : S.has = false := hh
    have e : ∀ u, (S.waits = true → ¬ S.due ≤ u) → S.state u = 255 := fun u hu => by rw [Sch.state_none hu (Sch.lone_none hh), if_neg (by rw [hh]; decide)]
    rw [e t' (fun x => by have : t < S.due ∧ t' < S.due := hw x; omega), e t (fun x => by have : t < S.due ∧ t' < S.due := hw x; omega)]
  lonx := fun hh hw t _ ht => by
    show S.next t = S.due
    have ht : t < S.due := ht
    rw [Sch.next_n (fun _ => by omega) (Sch.lone_none hh) hh, if_pos ⟨hw, .inl (by decide)⟩]
  base := fun hh => hx.base hh
  c1 := fun hh => (hg.oper hh).c0
  c2 := fun hh => (hg.oper hh).c1
  o64 := hx.ol
  a1 := fun hw => (hg.admin hw).c0
  per := fun hh t ht hu => by
    show S.state (t + S.oper.cyc) = S.state t
    have hc := (hg.oper hh).c0
    have hb := hx.base hh
    have ht : now ≤ t := ht
    have hu : S.waits = true → t + S.oper.cyc < (S.sys now).upto := hu
    rw [Sch.state_pre now hg hh hu, Sch.state_pre now hg hh (fun x => by have := hu x; omega)]
    exact gst_per hc (by omega)
  aper := fun hw t _ hd => by
    show S.state (t + S.admin.cyc) = S.state t
    have hd : S.due ≤ t := hd
    have hc := (hg.admin hw).c0
    rw [Sch.state_due hw (by omega), Sch.state_due hw hd]
    exact gst_per hc hd
  cnt := fun hh t ht hu => by
    have hb := hx.base hh
    have ht : now ≤ t := ht
    have h1 := gnx_cycle (hg.oper hh) (t := t) (by omega)
    rcases it_next_has hg now hh (2 * S.oper.es.length + 1) (t := t) (by omega) hu with h | h
    · exact .inl (Int.le_trans h1 h)
    · exact .inr h
  acnt := fun hw t _ hd => by
    show t + S.admin.cyc ≤ Fit.it S.next (2 * S.admin.es.length + 1) t
    rw [it_next_due hg hw _ hd]
    exact gnx_cycle (hg.admin hw) hd

end Go.Proofs.Ytpgmkekdgchkfaa
