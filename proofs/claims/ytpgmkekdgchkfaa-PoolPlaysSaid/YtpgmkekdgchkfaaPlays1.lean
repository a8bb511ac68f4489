/- PoolPlays: what is known between two acts. -/
import Derived.Test.YtpgmkekdgchkfaaHoldsLaw
import Derived.Test.YtpgmkekdgchkfaaMaps
import Derived.Test.YtpgmkekdgchkfaaArg
import Derived.Deep.DeepCutAuto
import Derived.Deep.CutBlock
namespace Go.Proofs.Ytpgmkekdgchkfaa
open Go.RowKit

structure PAct where
  kind : Int
  id : Int
  A : Option Addr
  n : Nat
  c : Nat
  bs : Bytes

def PAct.cells (a : PAct) : List Value := [.int .i64 a.kind, .int .i64 a.id, .slice a.A a.n a.c]

def PAct.ok (W : World) (a : PAct) : Prop :=
  a.n = a.bs.length ∧ a.n ≤ 9223372036854775807 ∧ SlR W (.slice a.A a.n a.c) (bcells a.bs) ∧ (-9223372036854775808 ≤ a.kind ∧ a.kind ≤ 9223372036854775807) ∧ (-9223372036854775808 ≤ a.id ∧ a.id ≤ 9223372036854775807)

def ActsR (W : World) (v : Value) (acts : List PAct) : Prop := RecsR W v 3 (acts.map PAct.cells) ∧ ∀ a ∈ acts, a.ok W

open Go.ChangeShapes Go.WideShapes Go.ChangeAt in
set_option maxRecDepth 100000 in
theorem open_acts {H : Type} {enc : TypeId × Value → H} {base : Nat} {v : Value} {d : DataW H} {p : List MemPlace} {W : World}
    (o : Value.okWide Try.prog W .any base 22 v) (h : DataW.Trod enc Try.prog W 0 (fun _ => true) true 22 v d p) :
    ∃ acts A c, v = .slice A acts.length c ∧ acts.length ≤ 9223372036854775807 ∧ ActsR W v acts := by
  obtain ⟨a0, len0, cap0, rfl⟩ := okWide_slice Try.underlying22 o
  obtain ⟨l, hr, ⟨A, c, hv⟩, hm, hel⟩ := tr_slice (sz := 3) Try.underlying22 (by kernel_rfl) (by omega) (tr_of h)
  have hact : ∀ cs ∈ l, ∃ a : PAct, cs = a.cells ∧ a.ok W := by
    intro cs hcs
    obtain ⟨hl, hf⟩ := tr_struct Try.underlying31 (hel cs hcs)
    have hl3 : cs.length = 3 := hl.trans (by kernel_rfl)
    match cs, hl3 with
    | [x, y, z], _ =>
      have c3 : Try.prog.cellsOf 3 = 1 := by kernel_rfl
      have c29 : Try.prog.cellsOf 29 = 1 := by kernel_rfl
      have f0 : Tr enc Try.prog W 3 ([x, y, z].take (Try.prog.cellsOf 3)) := hf 0 _ rfl
      have f1 : Tr enc Try.prog W 3 ([y, z].take (Try.prog.cellsOf 3)) := hf 1 _ rfl
      have f2 : Tr enc Try.prog W 29 ([z].take (Try.prog.cellsOf 29)) := hf 2 _ rfl
      rw [c3] at f0 f1
      rw [c29] at f2
      obtain ⟨k, e0, w0⟩ := tr_int Try.underlying3 f0
      obtain ⟨i, e1, w1⟩ := tr_int Try.underlying3 f1
      simp at e0 e1
      subst e0 e1
      obtain ⟨A2, n2, c2, bs, rfl, hn, hn2, hs⟩ := tr_bytes Try.underlying29 Try.underlying5 (by kernel_rfl) f2
      exact ⟨⟨k, i, A2, n2, c2, bs⟩, rfl, hn, hn2, hs, bounds_i64 w0, bounds_i64 w1⟩
  obtain ⟨acts, hl, hp⟩ := list_of_each (n := l.length) (p := fun i a => ∃ cs, l[i]? = some cs ∧ cs = PAct.cells a ∧ a.ok W) (fun i hi => by
    obtain ⟨a, h1, h2⟩ := hact l[i] (List.getElem_mem hi)
    exact ⟨a, _, List.getElem?_eq_getElem hi, h1, h2⟩)
  have hll : l = acts.map PAct.cells := by
    apply List.ext_getElem?
    intro i
    by_cases hi : i < l.length
    · obtain ⟨cs, h1, h2, -⟩ := hp i _ (List.getElem?_eq_getElem (by omega))
      rw [h1, h2]
      simp [show i < acts.length by omega]
    · simp [show l.length ≤ i by omega, show acts.length ≤ i by omega]
  refine ⟨acts, A, c, by rw [hv, hl], by omega, by rw [← hll]; exact hr, fun a ha => ?_⟩
  obtain ⟨i, hi⟩ := List.getElem?_of_mem ha
  obtain ⟨-, -, -, h3⟩ := hp i a hi
  exact h3

/-- What the frames' map has of a place that has a frame. -/
def FramesOk (ps : PSt) (Mf : MapL) : Prop := ∀ (k : Nat) (bs : Bytes) (h : Nat), ps[k]? = some (bs, h + 1) → mget (.string ⟨#[]⟩) k Mf = .string ⟨bs.toArray⟩

structure PlaysAt (w : World) (p bf bh R j : Nat) (wr : World) (ps : PSt) (F : Nat → Prop) (Mf Mh : MapL) : Prop where
  pool : PoolAt wr p F ps
  room : ps.length = R
  own : ∀ x, F x → w.heap.size ≤ x
  frames : IMap wr bf Mf
  held : IMap wr bh Mh
  f1 : w.heap.size ≤ bf
  f2 : w.heap.size ≤ bh
  ne : bf ≠ bh
  nf : ¬ F bf
  nh : ¬ F bh
  keeps : Keeps Nothing w wr
  few : holdsOf ps ≤ j
  asks : ∀ k : Int, mget (.int .i64 0) k Mh = .int .i64 (heldOf ps k)
  sum : msum Mh = holdsOf ps
  count : mcount Mh = usedOf ps
  texts : FramesOk ps Mf
  ints : Ints Mh
  short : ∀ (k : Nat) (x : Bytes × Nat), ps[k]? = some x → x.1.length ≤ 100

def PlaysInv (w : World) (p bf bh R m : Nat) (k : Nat) (i : Value) (wr : World) : Prop :=
  ∃ j ps F Mf Mh, j + k = m ∧ i = .int .i64 (j : Nat) ∧ PlaysAt w p bf bh R j wr ps F Mf Mh

theorem sum_zeros (R : Nat) : holdsOf (List.replicate R ([], 0)) = 0 := by
  unfold holdsOf
  rw [List.map_replicate, List.sum_replicate_nat]
  omega

theorem used_zeros (R : Nat) : usedOf (List.replicate R ([], 0)) = 0 := by
  unfold usedOf
  rw [List.countP_eq_zero]
  intro x hx
  rw [List.eq_of_mem_replicate hx]
  simp

theorem plays_start (w wc : World) (p R : Nat) {F : Nat → Prop} (hP : PoolAt wc p F (List.replicate R ([], 0))) (hF : ∀ x, F x → w.heap.size ≤ x) (hk : Keeps Nothing w wc) :
    PlaysAt w p wc.heap.size (wc.heap.size + 1) R 0 ((wc.alloc (.map #[] 0)).alloc (.map #[] 0)) (List.replicate R ([], 0)) F [] [] := by
  have hl := hP.lt
  have hs := hk.size
  have hm : IMap ((wc.alloc (.map #[] 0)).alloc (.map #[] 0)) (wc.heap.size + 1) [] := by
    have := IMap.made (wc.alloc (.map #[] 0))
    simpa using this
  refine ⟨(hP.alloc _).alloc _, by simp, hF, (IMap.made wc).keeps ((Keeps.refl Nothing _).alloc _) (fun h => h), hm, by omega, by omega, by omega, fun h => by have := hl _ h; omega, fun h => by have := hl _ h; omega, (hk.alloc _).alloc _, by rw [sum_zeros]; omega, ?_, ?_, ?_, ?_, ?_, ?_⟩
  · intro k
    have : heldOf (List.replicate R ([], 0)) k = 0 := by
      unfold heldOf
      split
      · rw [List.getElem?_replicate]
        split <;> rfl
      · rfl
    rw [this]
    rfl
  · rw [sum_zeros]; rfl
  · rw [used_zeros]; rfl
  · intro k bs h hk
    rw [List.getElem?_replicate] at hk
    split at hk <;> simp at hk
  · intro x hx; simp at hx
  · intro k x hk
    rw [List.getElem?_replicate] at hk
    split at hk <;> simp at hk
    subst hk
    simp

theorem PlaysAt.later {w wr wr' : World} {p bf bh R j : Nat} {ps : PSt} {F G : Nat → Prop} {Mf Mh : MapL} (h : PlaysAt w p bf bh R j wr ps F Mf Mh) (hk : Keeps G wr wr') (hG : ∀ x, G x → wr.heap.size ≤ x) :
    PlaysAt w p bf bh R j wr' ps F Mf Mh := by
  have hl := h.keeps.size
  exact ⟨h.pool.keeps hk (fun k hf hg => by have := h.pool.lt k hf; have := hG k hg; omega), h.room, h.own, h.frames.keeps hk (fun hg => by have := h.frames.lt; have := hG _ hg; omega), h.held.keeps hk (fun hg => by have := h.held.lt; have := hG _ hg; omega),
    h.f1, h.f2, h.ne, h.nf, h.nh, h.keeps.up hk (fun x hx => by have := hG x hx; omega), h.few, h.asks, h.sum, h.count, h.texts, h.ints, h.short⟩

def SumInv (w0 : World) (r bh : Nat) (Mh : MapL) (ps : PSt) (k : Nat) (a u : Value) (wr : World) : Prop :=
  ∃ (rem : MapL) (x y : Nat), rem.length = k ∧ a = .int .i64 (x : Nat) ∧ u = .int .i64 (y : Nat) ∧ (x : Int) + msum rem = holdsOf ps ∧ y + mcount rem = usedOf ps ∧ IIter wr r bh Mh rem ∧ Ints rem ∧ Keeps (fun z => z = r) w0 wr

theorem heldOf_set {ps : PSt} {k : Nat} {b0 b1 : Bytes} {h h' : Nat} (hk : ps[k]? = some (b0, h)) (i : Int) : heldOf (ps.set k (b1, h')) i = if i = (k : Int) then h' else heldOf ps i := by
  have hl := (List.getElem?_eq_some_iff.1 hk).1
  unfold heldOf
  by_cases e : i = (k : Int)
  · subst e
    simp [hl]
  · rw [if_neg e]
    by_cases h0 : 0 ≤ i
    · rw [if_pos h0, if_pos h0, List.getElem?_set_ne (by omega)]
    · rw [if_neg h0, if_neg h0]

theorem holdsOf_set : ∀ {ps : PSt} {k : Nat} {b0 b1 : Bytes} {h h' : Nat}, ps[k]? = some (b0, h) → holdsOf (ps.set k (b1, h')) + h = holdsOf ps + h'
  | [], k, b0, b1, h, h', hk => by simp at hk
  | x :: ps, 0, b0, b1, h, h', hk => by
    simp at hk; subst hk
    simp [holdsOf]; omega
  | x :: ps, k + 1, b0, b1, h, h', hk => by
    simp at hk
    have := holdsOf_set (b1 := b1) (h' := h') hk
    simp only [holdsOf, List.set_cons_succ, List.map_cons, List.sum_cons] at this ⊢
    omega

theorem usedOf_set : ∀ {ps : PSt} {k : Nat} {b0 b1 : Bytes} {h h' : Nat}, ps[k]? = some (b0, h) → usedOf (ps.set k (b1, h')) + (if 0 < h then 1 else 0) = usedOf ps + (if 0 < h' then 1 else 0)
  | [], k, b0, b1, h, h', hk => by simp at hk
  | x :: ps, 0, b0, b1, h, h', hk => by
    simp at hk; subst hk
    simp only [usedOf, List.set_cons_zero, List.countP_cons, decide_eq_true_eq]; omega
  | x :: ps, k + 1, b0, b1, h, h', hk => by
    simp at hk
    have := usedOf_set (b1 := b1) (h' := h') hk
    simp only [usedOf, List.set_cons_succ, List.countP_cons] at this ⊢
    omega

theorem heldOf_at {ps : PSt} {k : Nat} {b : Bytes} {h : Nat} (hk : ps[k]? = some (b, h)) : heldOf ps (k : Int) = h := by
  unfold heldOf
  simp [hk]

theorem held_some {ps : PSt} {i : Int} (h : 0 < heldOf ps i) : ∃ (k : Nat) (b : Bytes) (z : Nat), i = (k : Int) ∧ ps[k]? = some (b, z + 1) ∧ heldOf ps i = z + 1 := by
  unfold heldOf at h ⊢
  split at h
  · rename_i h0
    cases hk : ps[i.toNat]? with
    | none => simp [hk] at h
    | some x =>
      obtain ⟨b, z⟩ := x
      simp [hk] at h
      obtain ⟨y, rfl⟩ : ∃ y, z = y + 1 := ⟨z - 1, by omega⟩
      exact ⟨i.toNat, b, y, by omega, hk, by simp [h0, hk]⟩
  · omega

theorem heldOf_le (ps : PSt) (i : Int) : heldOf ps i ≤ holdsOf ps := by
  by_cases h : 0 < heldOf ps i
  · obtain ⟨k, b, z, rfl, hk, e⟩ := held_some h
    have := holdsOf_set (b1 := b) (h' := 0) hk
    omega
  · omega

theorem PlaysAt.turn {w wr w' : World} {p bf bh R j : Nat} {ps : PSt} {F F' : Nat → Prop} {Mf Mf' Mh : MapL} (hI : PlaysAt w p bf bh R j wr ps F Mf Mh) {k : Nat} {b0 b1 : Bytes} {h h' : Nat} (hk : ps[k]? = some (b0, h))
    (hP : PoolAt w' p F' (ps.set k (b1, h'))) (hF : ∀ x, F' x → F x ∨ wr.heap.size ≤ x) (hMf : IMap w' bf Mf') (hMh : IMap w' bh (mput (k : Int) (.int .i64 (h' : Nat)) Mh)) (hK : Keeps Nothing w w') (hT : FramesOk (ps.set k (b1, h')) Mf')
    (hfew : h' ≤ h + 1) (hb : h' ≤ 1000) (hsh : b1.length ≤ 100) : PlaysAt w p bf bh R (j + 1) w' (ps.set k (b1, h')) F' Mf' (mput (k : Int) (.int .i64 (h' : Nat)) Mh) := by
  have hl := hI.keeps.size
  have l1 := hI.frames.lt
  have l2 := hI.held.lt
  have hs := holdsOf_set (b1 := b1) (h' := h') hk
  have hu := usedOf_set (b1 := b1) (h' := h') hk
  have ha := hI.asks (k : Int)
  rw [heldOf_at hk] at ha
  refine ⟨hP, by rw [List.length_set]; exact hI.room, fun x hx => (hF x hx).elim (hI.own x) (fun h => by omega), hMf, hMh, hI.f1, hI.f2, hI.ne, fun hx => (hF _ hx).elim hI.nf (fun h => by omega), fun hx => (hF _ hx).elim hI.nh (fun h => by omega), hK, by have := hI.few; omega, ?_, ?_, ?_, hT, hI.ints.mput _ _ hb, ?_⟩
  · intro i
    rw [heldOf_set hk]
    by_cases e : i = (k : Int)
    · subst e
      rw [mget_mput_same, if_pos rfl]
    · rw [mget_mput_other _ e, if_neg e]
      exact hI.asks i
  · rw [msum_mput (k : Int) _ (.int .i64 0) rfl, ha, hI.sum]
    simp only [intOf]
    omega
  · have := mcount_mput (k : Int) (.int .i64 (h' : Nat)) (.int .i64 0) rfl Mh
    rw [ha, hI.count] at this
    by_cases h1 : 0 < h <;> by_cases h2 : 0 < h' <;> simp [intOf, h1, h2] at this hu ⊢ <;> omega
  · intro i x hi
    by_cases e : k = i
    · subst e
      rw [List.getElem?_set_self (List.getElem?_eq_some_iff.1 hk).1] at hi
      simp at hi
      rw [← hi]
      exact hsh
    · rw [List.getElem?_set_ne e] at hi
      exact hI.short i x hi

theorem FramesOk.put {ps : PSt} {Mf : MapL} (h : FramesOk ps Mf) {k : Nat} {b0 : Bytes} {z : Nat} (hk : ps[k]? = some (b0, z)) (b1 : Bytes) (n : Nat) : FramesOk (ps.set k (b1, n)) (mput (k : Int) (.string ⟨b1.toArray⟩) Mf) := by
  intro i bs m hi
  by_cases e : k = i
  · subst e
    rw [List.getElem?_set_self (List.getElem?_eq_some_iff.1 hk).1] at hi
    simp at hi
    rw [mget_mput_same, hi.1]
  · rw [List.getElem?_set_ne e] at hi
    rw [mget_mput_other _ (by omega)]
    exact h i bs m hi

theorem FramesOk.same {ps : PSt} {Mf : MapL} (h : FramesOk ps Mf) {k : Nat} {b0 : Bytes} {z : Nat} (hk : ps[k]? = some (b0, z + 1)) (n : Nat) : FramesOk (ps.set k (b0, n)) Mf := by
  intro i bs m hi
  by_cases e : k = i
  · subst e
    rw [List.getElem?_set_self (List.getElem?_eq_some_iff.1 hk).1] at hi
    simp at hi
    rw [← hi.1]
    exact h k b0 z hk
  · rw [List.getElem?_set_ne e] at hi
    exact h i bs m hi

theorem FramesOk.gone {ps : PSt} {Mf : MapL} (h : FramesOk ps Mf) {k : Nat} {b0 : Bytes} {z : Nat} (hk : ps[k]? = some (b0, z)) : FramesOk (ps.set k ([], 0)) Mf := by
  intro i bs m hi
  by_cases e : k = i
  · subst e
    rw [List.getElem?_set_self (List.getElem?_eq_some_iff.1 hk).1] at hi
    simp at hi
  · rw [List.getElem?_set_ne e] at hi
    exact h i bs m hi

/-- The lowest place that is free. -/
theorem first_free {ps : PSt} (h : usedOf ps ≠ ps.length) : ∃ (k : Nat) (b : Bytes), ps[k]? = some (b, 0) ∧ ∀ (j : Nat) (x : Bytes × Nat), j < k → ps[j]? = some x → 0 < x.2 := by
  induction ps with
  | nil => simp [usedOf] at h
  | cons x ps ih =>
    obtain ⟨b, n⟩ := x
    by_cases hn : n = 0
    · subst hn
      exact ⟨0, b, rfl, fun j x hj => absurd hj (Nat.not_lt_zero j)⟩
    · have : usedOf ps ≠ ps.length := by
        simp only [usedOf, List.countP_cons, List.length_cons] at h ⊢
        rw [if_pos (by simpa using (by omega : 0 < n))] at h
        omega
      obtain ⟨k, b', h1, h2⟩ := ih this
      refine ⟨k + 1, b', h1, fun j x hj hx => ?_⟩
      cases j with
      | zero => simp at hx; subst hx; simp; omega
      | succ j => exact h2 j x (by omega) hx

theorem PlaysAt.next {w wr : World} {p bf bh R j : Nat} {ps : PSt} {F : Nat → Prop} {Mf Mh : MapL} (h : PlaysAt w p bf bh R j wr ps F Mf Mh) : PlaysAt w p bf bh R (j + 1) wr ps F Mf Mh :=
  ⟨h.pool, h.room, h.own, h.frames, h.held, h.f1, h.f2, h.ne, h.nf, h.nh, h.keeps, by have := h.few; omega, h.asks, h.sum, h.count, h.texts, h.ints, h.short⟩

theorem OwnF.len {w : World} {F : Nat → Prop} {T : TypeId} {v : Value} {bs : Bytes} (h : OwnF w F T v (bcells bs)) : ∃ A c, v = .slice A bs.length c := by
  rcases h.blk with ⟨rfl, hn⟩ | ⟨g, cap, cur, rfl, r⟩
  · have : bs = [] := by simpa [bcells] using hn
    subst this
    exact ⟨_, _, rfl⟩
  · exact ⟨_, _, by rw [bcells_length]⟩

def NoRound2 (w : World) (k : Nat) (i : Value) (wr : World) : Prop := k = 0 ∧ i = .int .i64 0 ∧ wr = w

def BumpInv (g cap n : Nat) (w : World) (k : Nat) (i : Value) (wr : World) : Prop :=
  ∃ j : Nat, j + k = n ∧ i = .int .i64 j ∧ (∃ cur, Blk wr g cur 5 ∧ cur.length = cap ∧ ∀ l, l < n → ∃ m, cur[l]? = some (.int .u8 m)) ∧ Keeps (fun x => x = g) w wr

theorem OwnF.bytes {w : World} {F : Nat → Prop} {v : Value} {bs : Bytes} (h : OwnF w F 5 v (bcells bs)) (h0 : 0 < bs.length) :
    ∃ g cap cur, v = .slice (some ⟨g, 0, none⟩) bs.length cap ∧ F g ∧ bs.length ≤ cap ∧ cap ≤ maxLen ∧ Blk w g cur 5 ∧ cur.length = cap ∧ ∀ l, l < bs.length → ∃ m, cur[l]? = some (.int .u8 m) := by
  rcases h.blk with ⟨rfl, hn⟩ | ⟨g, cap, cur, rfl, hF, hb, hc, hm, hl, ht⟩
  · have := bcells_length bs
    rw [hn] at this
    simp at this
    omega
  · refine ⟨g, cap, cur, by rw [bcells_length], hF, by simpa using hc, hm, hb, hl, fun l hlt => ?_⟩
    have := congrArg (fun x => x[l]?) ht
    simp only [bcells_length, List.getElem?_take, if_pos hlt] at this
    exact ⟨_, this.trans (by simp [bcells, hlt]; rfl)⟩

def CountInv (w0 : World) (r bh : Nat) (Mh : MapL) (ps : PSt) (k : Nat) (u : Value) (wr : World) : Prop :=
  ∃ (rem : MapL) (y : Nat), rem.length = k ∧ u = .int .i64 (y : Nat) ∧ y + mcount rem = usedOf ps ∧ IIter wr r bh Mh rem ∧ Ints rem ∧ Keeps (fun z => z = r) w0 wr

def WantInv (w0 : World) (kk : Nat) (k : Nat) (u : Value) (wr : World) : Prop := ∃ l : Nat, l + k = kk ∧ u = .int .i64 (l : Nat) ∧ w0 = wr

end Go.Proofs.Ytpgmkekdgchkfaa
