/- The law's rows and counts beside the port. -/
import Derived.Test.YtpgmkekdgchkfaaMirror
namespace Go.Proofs.Ytpgmkekdgchkfaa
open Go.RowKit

theorem OwnQ.own {w : World} {F : Nat → Prop} {v : Value} {xs : List Int} (h : OwnQ w F v xs) {k : Nat} (hk : v.ownBlock = some k) : F k := by
  rcases h with ⟨rfl, -⟩ | ⟨g, off, cap, cur, rfl, h2, -⟩
  · simp [Value.ownBlock] at hk
  · simp [Value.ownBlock] at hk
    exact hk ▸ h2

theorem OwnQ.lt {w : World} {F : Nat → Prop} {v : Value} {xs : List Int} (h : OwnQ w F v xs) : OwnQ w (fun k => F k ∧ k < w.heap.size) v xs := by
  rcases h with h | ⟨g, off, cap, cur, h1, h2, h3, h4⟩
  · exact .inl h
  · exact .inr ⟨g, off, cap, cur, h1, ⟨h2, h3.lt⟩, h3, h4⟩

/-- The port holds rs; the law's rows and counts say ms; all of it is new since w0. -/
structure Mirror (w0 w : World) (p pb pr pl : Nat) (bs : List Int) (F : Nat → Prop) (H : Nat → Nat → Prop) (rs ms : List RSt) (vs : List Value) : Prop where
  keeps : Keeps Nothing w0 w
  ring : RingAt w p F rs
  fw : ∀ k, F k → w0.heap.size ≤ k
  nb : w0.heap.size ≤ pb
  nr : w0.heap.size ≤ pr
  nl : w0.heap.size ≤ pl
  bnds : Blk w pb (icells bs) 43
  rows : Blk w pr vs 48
  lost : Blk w pl (lostOf ms) 43
  bl : pb ≠ pl
  fb : ¬ F pb
  fr : ¬ F pr
  fl : ¬ F pl
  each : ∀ (l : Nat) (r : RSt), ms[l]? = some r → ∃ v, vs[l]? = some v ∧ OwnQ w (H l) v r.q
  own : ∀ l k, H l k → w0.heap.size ≤ k ∧ k < w.heap.size ∧ ¬ F k ∧ k ≠ pb ∧ k ≠ pr ∧ k ≠ pl
  apart : ∀ l m k, H l k → H m k → l = m
  eight : vs.length = 8
  meight : ms.length = 8

section
variable {w0 w w' : World} {p pb pr pl : Nat} {bs : List Int} {F : Nat → Prop} {H : Nat → Nat → Prop} {rs rs' ms : List RSt} {vs : List Value}

theorem Mirror.br (h : Mirror w0 w p pb pr pl bs F H rs ms vs) : pb ≠ pr := by
  intro e
  have := h.bnds
  rw [e] at this
  exact absurd (h.rows.inj this) (by decide)

theorem Mirror.lr (h : Mirror w0 w p pb pr pl bs F H rs ms vs) : pl ≠ pr := by
  intro e
  have := h.lost
  rw [e] at this
  exact absurd (h.rows.inj this) (by decide)

/-- The world goes on, and nothing of all this turns. -/
theorem Mirror.same (h : Mirror w0 w p pb pr pl bs F H rs ms vs) (hk : Keeps Nothing w w') : Mirror w0 w' p pb pr pl bs F H rs ms vs :=
  ⟨h.keeps.same hk, h.ring.same hk, h.fw, h.nb, h.nr, h.nl, h.bnds.keeps hk (fun h => h), h.rows.keeps hk (fun h => h), h.lost.keeps hk (fun h => h), h.bl, h.fb, h.fr, h.fl,
    fun l r hr => by obtain ⟨v, h1, h2⟩ := h.each l r hr; exact ⟨v, h1, h2.keeps hk (fun _ _ h => h)⟩,
    fun l k hl => by obtain ⟨h1, h2, h3⟩ := h.own l k hl; exact ⟨h1, Nat.lt_of_lt_of_le h2 hk.size, h3⟩, h.apart, h.eight, h.meight⟩

/-- The port turns, the law's rows do not. -/
theorem Mirror.turn (h : Mirror w0 w p pb pr pl bs F H rs ms vs) (hk : Keeps F w w') (hr : RingAt w' p F rs') : Mirror w0 w' p pb pr pl bs F H rs' ms vs :=
  ⟨h.keeps.up hk h.fw, hr, h.fw, h.nb, h.nr, h.nl, h.bnds.keeps hk h.fb, h.rows.keeps hk h.fr, h.lost.keeps hk h.fl, h.bl, h.fb, h.fr, h.fl,
    fun l r hr => by obtain ⟨v, h1, h2⟩ := h.each l r hr; exact ⟨v, h1, h2.keeps hk (fun k hH => (h.own l k hH).2.2.1)⟩,
    fun l k hl => by obtain ⟨h1, h2, h3⟩ := h.own l k hl; exact ⟨h1, Nat.lt_of_lt_of_le h2 hk.size, h3⟩, h.apart, h.eight, h.meight⟩

/-- A count of the law's goes on. -/
theorem Mirror.count (h : Mirror w0 w p pb pr pl bs F H rs ms vs) (c : Nat) (r r' : RSt) (hr : ms[c]? = some r) (hq : r'.q = r.q) :
    Mirror w0 (w.setCell ⟨pl, c, none⟩ (.int .i64 (r'.lost : Nat))) p pb pr pl bs F H rs (ms.set c r') vs := by
  have hk : Keeps (fun k => k = pl) w (w.setCell ⟨pl, c, none⟩ (.int .i64 (r'.lost : Nat))) := (Keeps.refl (fun k => k = pl) w).setCell (p := ⟨pl, c, none⟩) (fun _ => rfl) _
  have he : lostOf (ms.set c r') = (lostOf ms).set c (.int .i64 (r'.lost : Nat)) := by simp [lostOf, List.map_set]
  refine ⟨h.keeps.up hk (fun k e => by rw [e]; exact h.nl), h.ring.keeps hk (fun k hF e => h.fl (e ▸ hF)), h.fw, h.nb, h.nr, h.nl, h.bnds.keeps hk h.bl, h.rows.keeps hk (fun e => h.lr e.symm), ?_, h.bl, h.fb, h.fr, h.fl, ?_, ?_, h.apart, h.eight, by simp [h.meight]⟩
  · rw [he]; exact h.lost.set c _
  · intro l r2 h2
    have : ∃ r3, ms[l]? = some r3 ∧ r2.q = r3.q := by
      by_cases e : c = l
      · subst e
        rw [List.getElem?_set_self (List.getElem?_eq_some_iff.1 hr).1] at h2
        injection h2 with h2
        exact ⟨r, hr, by rw [← h2, hq]⟩
      · rw [List.getElem?_set_ne e] at h2
        exact ⟨r2, h2, rfl⟩
    obtain ⟨r3, h3, h4⟩ := this
    obtain ⟨v, h5, h6⟩ := h.each l r3 h3
    exact ⟨v, h5, by rw [h4]; exact h6.keeps hk (fun k hH e => (h.own l k hH).2.2.2.2.2 e)⟩
  · intro l k hl
    obtain ⟨h1, h2, h3⟩ := h.own l k hl
    exact ⟨h1, Nat.lt_of_lt_of_le h2 hk.size, h3⟩

/-- A row of the law's turns: its slice has been made anew (in w', where its own block alone may differ), and is stored. -/
theorem Mirror.row (h : Mirror w0 w p pb pr pl bs F H rs ms vs) (c : Nat) (r r' : RSt) (v v' : Value) (hr : ms[c]? = some r) (hv : vs[c]? = some v) (hl : r'.lost = r.lost) (hk : Keeps (fun k => v.ownBlock = some k) w w')
    (ho : OwnQ w' (fun k => H c k ∨ w.heap.size ≤ k) v' r'.q) : ∃ H', Mirror w0 (w'.setCell ⟨pr, c, none⟩ v') p pb pr pl bs F H' rs (ms.set c r') (vs.set c v') := by
  have hvo : ∀ k, v.ownBlock = some k → H c k := by
    obtain ⟨v2, h1, h2⟩ := h.each c r hr
    rw [hv] at h1
    injection h1 with h1
    subst h1
    exact fun k hk => h2.own hk
  have hk2 : Keeps (fun k => H c k ∨ k = pr) w (w'.setCell ⟨pr, c, none⟩ v') := (hk.mono (G := fun k => H c k ∨ k = pr) (fun k hk _ => .inl (hvo k hk))).setCell (p := ⟨pr, c, none⟩) (fun _ => .inr rfl) _
  have hs : w.heap.size ≤ w'.heap.size := hk.size
  have ho2 : OwnQ (w'.setCell ⟨pr, c, none⟩ v') (fun k => (H c k ∨ w.heap.size ≤ k) ∧ k < w'.heap.size) v' r'.q := by
    have h1 : Keeps (fun k => k = pr) w' (w'.setCell ⟨pr, c, none⟩ v') := (Keeps.refl (fun k => k = pr) w').setCell (p := ⟨pr, c, none⟩) (fun _ => rfl) _
    refine ho.lt.keeps h1 (fun k hk e => ?_)
    subst e
    rcases hk.1 with h2 | h2
    · exact (h.own c _ h2).2.2.2.2.1 rfl
    · have := h.rows.lt; omega
  have hm : (lostOf (ms.set c r')) = lostOf ms := by
    have : lostOf (ms.set c r') = (lostOf ms).set c (.int .i64 (r'.lost : Nat)) := by simp [lostOf, List.map_set]
    rw [this, hl]
    exact List.ext_getElem? fun i => by
      by_cases e : c = i
      · subst e
        rw [List.getElem?_set_self (List.getElem?_eq_some_iff.1 (lostOf_get hr)).1, lostOf_get hr]
      · rw [List.getElem?_set_ne e]
  have hsz : (w'.setCell ⟨pr, c, none⟩ v').heap.size = w'.heap.size := by simp
  refine ⟨fun l k => if l = c then (H c k ∨ w.heap.size ≤ k) ∧ k < w'.heap.size else H l k, h.keeps.up hk2 (fun k hk => ?_), h.ring.keeps hk2 (fun k hF hk => ?_), h.fw, h.nb, h.nr, h.nl, h.bnds.keeps hk2 ?_, ?_, ?_, h.bl, h.fb, h.fr, h.fl, ?_, ?_, ?_, by simp [h.eight], by simp [h.meight]⟩
  · rcases hk with hk | rfl
    · exact (h.own c k hk).1
    · exact h.nr
  · rcases hk with hk | rfl
    · exact (h.own c k hk).2.2.1 hF
    · exact h.fr hF
  · rintro (hk | e)
    · exact (h.own c _ hk).2.2.2.1 rfl
    · exact h.br e
  · exact (h.rows.keeps hk (fun e => (h.own c _ (hvo _ e)).2.2.2.2.1 rfl)).set c v'
  · rw [hm]
    refine h.lost.keeps hk2 ?_
    rintro (hk | e)
    · exact (h.own c _ hk).2.2.2.2.2 rfl
    · exact h.lr e
  · intro l r2 h2
    by_cases e : c = l
    · subst e
      rw [List.getElem?_set_self (List.getElem?_eq_some_iff.1 hr).1] at h2
      injection h2 with h2
      subst h2
      refine ⟨v', by rw [List.getElem?_set_self (List.getElem?_eq_some_iff.1 hv).1], ?_⟩
      exact ho2.mono (fun k hk => by rw [if_pos rfl]; exact hk)
    · rw [List.getElem?_set_ne e] at h2
      obtain ⟨v2, h3, h4⟩ := h.each l r2 h2
      refine ⟨v2, by rw [List.getElem?_set_ne e]; exact h3, ?_⟩
      refine (h4.keeps hk2 (fun k hH hk => ?_)).mono (fun k hk => by rw [if_neg (Ne.symm e)]; exact hk)
      rcases hk with hk | rfl
      · exact e (h.apart _ _ _ hk hH)
      · exact (h.own l _ hH).2.2.2.2.1 rfl
  · intro l k hl
    rw [hsz]
    have b1 := h.bnds.lt; have b2 := h.rows.lt; have b3 := h.lost.lt; have b4 := h.keeps.size
    by_cases e : l = c
    · rw [if_pos e] at hl
      obtain ⟨h1 | h1, h2⟩ := hl
      · obtain ⟨h3, h4, h5⟩ := h.own c k h1
        exact ⟨h3, h2, h5⟩
      · exact ⟨by omega, h2, fun hF => by have := h.ring.lt k hF; omega, by omega, by omega, by omega⟩
    · rw [if_neg e] at hl
      obtain ⟨h3, h4, h5⟩ := h.own l k hl
      exact ⟨h3, by omega, h5⟩
  · intro l m k h1 h2
    by_cases e1 : l = c
    · by_cases e2 : m = c
      · rw [e1, e2]
      · rw [if_pos e1] at h1
        rw [if_neg e2] at h2
        have := (h.own m k h2).2.1
        rcases h1.1 with h3 | h3
        · rw [e1]; exact h.apart _ _ _ h3 h2
        · omega
    · rw [if_neg e1] at h1
      by_cases e2 : m = c
      · rw [if_pos e2] at h2
        have := (h.own l k h1).2.1
        rcases h2.1 with h3 | h3
        · rw [e2]; exact h.apart _ _ _ h1 h3
        · omega
      · rw [if_neg e2] at h2
        exact h.apart _ _ _ h1 h2

/-- The law's rows begin anew. -/
theorem Mirror.reset (h : Mirror w0 w p pb pr pl bs F H rs ms vs) (hk : Keeps (fun k => k = pr) w w') (hb : Blk w' pr (List.replicate 8 (.slice none 0 0)) 48) : Mirror w0 w' p pb pr pl bs F H rs (ms.map emptied) (List.replicate 8 (.slice none 0 0)) := by
  refine ⟨h.keeps.up hk (fun k e => by rw [e]; exact h.nr), h.ring.keeps hk (fun k hF e => h.fr (e ▸ hF)), h.fw, h.nb, h.nr, h.nl, h.bnds.keeps hk h.br, hb, ?_, h.bl, h.fb, h.fr, h.fl, ?_, ?_, h.apart, by simp, by simp [h.meight]⟩
  · have : lostOf (ms.map emptied) = lostOf ms := by simp [lostOf, emptied]
    rw [this]
    exact h.lost.keeps hk h.lr
  · intro l r2 h2
    simp at h2
    obtain ⟨r, hr, rfl⟩ := h2
    have := (List.getElem?_eq_some_iff.1 hr).1
    have h8 := h.meight
    exact ⟨.slice none 0 0, by rw [List.getElem?_replicate, if_pos (by omega)], OwnQ.nil _ _⟩
  · intro l k hl
    obtain ⟨h1, h2, h3⟩ := h.own l k hl
    exact ⟨h1, Nat.lt_of_lt_of_le h2 hk.size, h3⟩

/-- The law's own look, where the rows and counts say what the port holds. -/
theorem Mirror.look (h : Mirror w0 w p pb pr pl bs F H rs rs vs) (M : List Value) (hM : M = lostOf rs) (h0 : 0 < vs.length) (h1 : 1 < vs.length) (h2 : 2 < vs.length) (h3 : 3 < vs.length) (h4 : 4 < vs.length) (h5 : 5 < vs.length) (h6 : 6 < vs.length) (h7 : 7 < vs.length)
    (g0 : 0 < M.length) (g1 : 1 < M.length) (g2 : 2 < M.length) (g3 : 3 < M.length) (g4 : 4 < M.length) (g5 : 5 < M.length) (g6 : 6 < M.length) (g7 : 7 < M.length) :
    Calls Try.prog 29 #[.pointer (some ⟨p, 0, none⟩), .agg #[vs[0], vs[1], vs[2], vs[3], vs[4], vs[5], vs[6], vs[7]], .agg #[M[0], M[1], M[2], M[3], M[4], M[5], M[6], M[7]]] w (TrueKept w) := by
  refine same_true h.ring vs _ _ _ _ _ _ _ _ _ _ _ _ _ _ _ _ ?_ ?_ (fun j r hr => by obtain ⟨v, h1, h2⟩ := h.each j r hr; exact ⟨v, h1, h2.slI⟩)
  · have h8 := h.eight
    have := eight_arr vs h8 h0 h1 h2 h3 h4 h5 h6 h7
    have e := congrArg Array.toList this
    simpa using e.symm
  · have h8 : M.length = 8 := by rw [hM]; simp [lostOf, h.meight]
    have := eight_arr M h8 g0 g1 g2 g3 g4 g5 g6 g7
    have e := congrArg Array.toList this
    rw [← hM]
    simpa using e.symm

end

end Go.Proofs.Ytpgmkekdgchkfaa
