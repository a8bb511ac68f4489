/- Maps of a call's own that are keyed by int: what a look-up, a store and a range come to. -/
import Derived.Test.YtmmeloklnkfjjaaBase
import Derived.Maps.RangeRun
import Derived.Maps.RangeWalk
import Derived.Maps.OwnOps
namespace Go.Proofs.Ytmmeloklnkfjjaa
open Go.RowKit

abbrev MapL := List (Int × Value)

def mfind (k : Int) : MapL → Nat → Option (Nat × Value)
  | [], _ => none
  | (a, v) :: M, i => if k = a then some (i, v) else mfind k M (i + 1)

def mget (z : Value) (k : Int) (M : MapL) : Value := match mfind k M 0 with | some (_, v) => v | none => z
def mput (k : Int) (v : Value) (M : MapL) : MapL := match mfind k M 0 with | some (i, _) => M.set i (k, v) | none => M ++ [(k, v)]

/-- Block b is a map, keyed by int, of just the entries M. -/
def IMap (w : World) (b : Nat) (M : MapL) : Prop :=
  ∃ es clock, w.heap[b]? = some (.map es clock) ∧ es.toList.map (fun e => (e.key, e.val)) = M.map (fun x => (Value.int .i64 x.1, x.2)) ∧
    (es.toList.map (·.born)).Nodup ∧ ∀ e ∈ es.toList, e.born < clock

theorem IMap.lt {w : World} {b : Nat} {M : MapL} (h : IMap w b M) : b < w.heap.size := by
  obtain ⟨es, c, hb, -⟩ := h
  rcases Nat.lt_or_ge b w.heap.size with h' | h'
  · exact h'
  · simp [Array.getElem?_eq_none h'] at hb

theorem IMap.keeps {F : Nat → Prop} {w w' : World} {b : Nat} {M : MapL} (h : IMap w b M) (hk : Keeps F w w') (hn : ¬ F b) : IMap w' b M := by
  have hl := h.lt
  obtain ⟨es, c, hb, r⟩ := h
  exact ⟨es, c, (hk.block b hl hn).trans hb, r⟩

theorem IMap.made (w : World) : IMap (w.alloc (.map #[] 0)) w.heap.size [] := ⟨#[], 0, heap_alloc_new w _, by simp, by simp, by simp⟩

theorem findNow_mfind (k : Int) : ∀ (l : List MapEntry) (M : MapL) (i : Nat), l.map (fun e => (e.key, e.val)) = M.map (fun x => (Value.int .i64 x.1, x.2)) →
    Instr.findNow (.int .i64) (.int .i64 k) l i = some (mfind k M i)
  | [], [], i, _ => rfl
  | [], _ :: _, _, h => by simp at h
  | _ :: _, [], _, h => by simp at h
  | e :: l, (a, v) :: M, i, h => by
    simp only [List.map_cons, List.cons.injEq, Prod.mk.injEq] at h
    obtain ⟨⟨h1, h2⟩, h3⟩ := h
    have ih := findNow_mfind k l M (i + 1) h3
    by_cases hk : k = a
    · subst hk
      simp [Instr.findNow, h1, h2, Instr.sameNow, mfind]
    · have : (k == a) = false := by simpa using hk
      simp [Instr.findNow, h1, Instr.sameNow, this, mfind, hk, ih]

/-- 'm[k]'. -/
theorem run_mget {P : Program} {w : World} {T K E b : Nat} {z : Value} {M : MapL} (hT : P.underlying T = some (.map K E)) (hK : P.underlying K = some (.int .i64)) (hz : (zeroValue E).run P w = .ok z w)
    (h : IMap w b M) (k : Int) : (Instr.lookup T (.map (some b)) (.int .i64 k) false).run P w = .ok (mget z k M) w := by
  obtain ⟨es, c, hb, he, -⟩ := h
  have hk : MapKept.IsKey (.int .i64) (.int .i64 k) := rfl
  have hf := findNow_mfind k es.toList M 0 he
  unfold mget
  cases hm : mfind k M 0 with
  | none =>
    rw [hm] at hf
    simp [Instr.lookup, run_underlying hT, MapKept.run_getObj_map hb, MapKept.run_checkKey hK hk, MapKept.run_findKey hK hf, hz, Result.andThen]
  | some x =>
    rw [hm] at hf
    simp [Instr.lookup, run_underlying hT, MapKept.run_getObj_map hb, MapKept.run_checkKey hK hk, MapKept.run_findKey hK hf, Result.andThen]

theorem mfind_some {k : Int} : ∀ {M : MapL} {i j : Nat} {v : Value}, mfind k M i = some (j, v) → ∃ n, j = i + n ∧ M[n]? = some (k, v)
  | [], _, _, _, h => by simp [mfind] at h
  | (a, u) :: M, i, j, v, h => by
    unfold mfind at h
    split at h
    · rename_i hk
      simp at h
      exact ⟨0, by omega, by simp [hk, h.2]⟩
    · obtain ⟨n, h1, h2⟩ := mfind_some h
      exact ⟨n + 1, by omega, by simpa using h2⟩

theorem toList_modify_map {β : Type} (es : Array MapEntry) (j : Nat) (f : MapEntry → MapEntry) (g : MapEntry → β) (hj : j < es.size) :
    (es.modify j f).toList.map g = (es.toList.map g).set j (g (f es[j])) := by
  apply List.ext_getElem?
  intro n
  by_cases h : j = n
  · subst h
    simp [hj]
  · simp [Array.getElem?_modify, List.getElem?_set_ne h, h]

/-- 'm[k] = v'. -/
theorem run_mput {P : Program} {w : World} {T K E b : Nat} {M : MapL} (hT : P.underlying T = some (.map K E)) (hK : P.underlying K = some (.int .i64))
    (h : IMap w b M) (k : Int) (v : Value) : ∃ w', (Instr.mapUpdate T (.map (some b)) (.int .i64 k) v).run P w = .ok () w' ∧ IMap w' b (mput k v M) ∧ Keeps (fun x => x = b) w w' ∧ w'.heap.size = w.heap.size := by
  have hl := h.lt
  obtain ⟨es, c, hb, he, hn, hc⟩ := h
  have hlen : es.size = M.length := by have := congrArg List.length he; simpa using this
  have set_at : ∀ o : Obj, ({ w with heap := w.heap.setIfInBounds b o } : World).heap[b]? = some o := fun o => by simp [hl]
  have keep : ∀ o : Obj, Keeps (fun x => x = b) w { w with heap := w.heap.setIfInBounds b o } := fun o =>
    ⟨rfl, rfl, rfl, by simp, fun k hk hne => by
      show (w.heap.setIfInBounds b o)[k]? = _
      rw [Array.getElem?_setIfInBounds_ne (fun e => hne e.symm)]⟩
  have hk : MapKept.IsKey (.int .i64) (.int .i64 k) := rfl
  have hfn := findNow_mfind k es.toList M 0 he
  cases hf : mfind k M 0 with
  | none =>
    rw [hf] at hfn
    refine ⟨_, by simp [Instr.mapUpdate, run_underlying hT, MapKept.run_getObj_map hb, MapKept.run_checkKey hK hk, MapKept.run_findKey hK hfn, MapKept.run_setObj_map _ hb, Result.andThen]; rfl, ?_, keep _, by simp⟩
    refine ⟨_, _, set_at _, ?_, ?_, ?_⟩
    · simp [mput, hf, he]
    · rw [Array.toList_push, List.map_append, List.nodup_append]
      refine ⟨hn, by simp, fun a ha b' hb' => ?_⟩
      obtain ⟨e, he', rfl⟩ := List.mem_map.1 ha
      simp at hb'
      have := hc e he'
      omega
    · intro e he'
      rw [Array.toList_push, List.mem_append] at he'
      rcases he' with h | h
      · have := hc e h; omega
      · simp at h; subst h; simp
  | some x =>
    obtain ⟨j, u⟩ := x
    obtain ⟨i, hj, hi⟩ := mfind_some hf
    rw [Nat.zero_add] at hj
    subst hj
    have hil : j < es.size := by have := (List.getElem?_eq_some_iff.1 hi).1; omega
    have hkey : es[j].key = .int .i64 k := by
      have := congrArg (fun l => l[j]?) he
      simp [hi, hil] at this
      exact this.1
    have hge : es[j]? = some es[j] := Array.getElem?_eq_getElem hil
    rw [hf] at hfn
    refine ⟨_, by simp [Instr.mapUpdate, run_underlying hT, MapKept.run_getObj_map hb, MapKept.run_checkKey hK hk, MapKept.run_findKey hK hfn, hge, hkey, MapKept.run_keyThatStays hk, MapKept.run_setObj_map _ hb, Result.andThen]; rfl, ?_, keep _, by simp⟩
    refine ⟨_, _, set_at _, ?_, ?_, ?_⟩
    · rw [toList_modify_map _ _ _ _ hil, he]
      simp [mput, hf, List.map_set]
    · rw [toList_modify_map _ _ _ _ hil]
      have : (es.toList.map (·.born)).set j es[j].born = es.toList.map (·.born) := by
        apply List.ext_getElem?
        intro n
        by_cases h : j = n
        · subst h; simp [hil]
        · simp [List.getElem?_set_ne h]
      simpa [this] using hn
    · intro e he'
      have hm : e.born ∈ ((es.modify j fun e => { e with key := .int .i64 k, val := v }).toList.map (·.born)) := List.mem_map_of_mem he'
      rw [toList_modify_map _ _ _ _ hil] at hm
      obtain ⟨n, hn'⟩ := List.getElem?_of_mem hm
      by_cases h : j = n
      · subst h
        simp [hil] at hn'
        rw [← hn']
        exact hc _ (by simp)
      · rw [List.getElem?_set_ne h] at hn'
        obtain ⟨e', he2, h2⟩ := List.mem_map.1 (List.mem_of_getElem? hn')
        rw [← h2]
        exact hc e' he2

/-! What a store turns. -/
theorem mget_eq {z : Value} {k : Int} {M : MapL} : mget z k M = ((M.find? fun x => decide (k = x.1)).map (·.2)).getD z := by
  have : ∀ (M : MapL) (i : Nat), (mfind k M i).map (·.2) = (M.find? fun x => decide (k = x.1)).map (·.2) := by
    intro M
    induction M with
    | nil => intro i; rfl
    | cons x M ih =>
      intro i
      obtain ⟨a, v⟩ := x
      by_cases h : k = a
      · simp [mfind, h]
      · simp [mfind, h, ih (i + 1)]
  rw [← this M 0, mget]
  cases mfind k M 0 <;> rfl

theorem mget_mput_same (z : Value) (k : Int) (v : Value) : ∀ M : MapL, mget z k (mput k v M) = v := by
  intro M
  unfold mput
  cases hf : mfind k M 0 with
  | none =>
    have h : ∀ (M : MapL) (i : Nat), mfind k M i = none → mfind k (M ++ [(k, v)]) i = some (i + M.length, v) := by
      intro M
      induction M with
      | nil => intro i _; simp [mfind]
      | cons x M ih =>
        intro i h
        obtain ⟨a, u⟩ := x
        by_cases hk : k = a
        · simp [mfind, hk] at h
        · simp [mfind, hk] at h ⊢
          rw [ih (i + 1) h]
          simp
          omega
    simp [mget, h M 0 hf]
  | some x =>
    obtain ⟨i, u⟩ := x
    have h : ∀ (M : MapL) (i j : Nat) (u : Value), mfind k M i = some (i + j, u) → mfind k (M.set j (k, v)) i = some (i + j, v) := by
      intro M
      induction M with
      | nil => intro i j u h; simp [mfind] at h
      | cons x M ih =>
        intro i j u h
        obtain ⟨a, b⟩ := x
        by_cases hk : k = a
        · simp [mfind, hk] at h
          obtain ⟨rfl, -⟩ := h
          simp [mfind]
        · simp [mfind, hk] at h
          obtain ⟨n, h1, h2⟩ := mfind_some h
          obtain ⟨j', rfl⟩ : ∃ j', j = j' + 1 := ⟨n, by omega⟩
          have := ih (i + 1) j' u (by rw [h]; congr 2; omega)
          simp [mfind, hk, this]
          omega
    have := h M 0 i u (by simpa using hf)
    simp at this
    simp [mget, this]

theorem mget_mput_other (z : Value) {k k' : Int} (hne : k' ≠ k) (v : Value) : ∀ M : MapL, mget z k' (mput k v M) = mget z k' M := by
  intro M
  rw [mget_eq, mget_eq]
  unfold mput
  cases hf : mfind k M 0 with
  | none => simp [List.find?_append, hne]
  | some x =>
    obtain ⟨i, u⟩ := x
    obtain ⟨n, h1, h2⟩ := mfind_some hf
    rw [Nat.zero_add] at h1
    subst h1
    have h : ∀ (M : MapL) (i : Nat), M[i]? = some (k, u) → (M.set i (k, v)).find? (fun x => decide (k' = x.1)) = M.find? (fun x => decide (k' = x.1)) := by
      intro M
      induction M with
      | nil => intro i h; simp at h
      | cons x M ih =>
        intro i h
        cases i with
        | zero => simp at h; subst h; simp [hne]
        | succ i => simp at h; simp only [List.set_cons_succ, List.find?_cons, ih i h]
    simp only [h M i h2]

def msum (M : MapL) : Int := (M.map fun x => intOf x.2).sum
def mcount (M : MapL) : Nat := M.countP fun x => decide (0 < intOf x.2)

theorem msum_mput (k : Int) (v z : Value) (hz : intOf z = 0) (M : MapL) : msum (mput k v M) = msum M - intOf (mget z k M) + intOf v := by
  unfold mput mget
  cases hf : mfind k M 0 with
  | none => simp [msum, hz, List.sum_append]
  | some x =>
    obtain ⟨i, u⟩ := x
    obtain ⟨n, h1, h2⟩ := mfind_some hf
    rw [Nat.zero_add] at h1
    subst h1
    have h : ∀ (M : MapL) (i : Nat), M[i]? = some (k, u) → msum (M.set i (k, v)) = msum M - intOf u + intOf v := by
      intro M
      induction M with
      | nil => intro i h; simp at h
      | cons x M ih =>
        intro i h
        cases i with
        | zero => simp at h; subst h; simp [msum]; omega
        | succ i =>
          simp at h
          have := ih i h
          simp only [msum, List.set_cons_succ, List.map_cons, List.sum_cons] at this ⊢
          omega
    simp only [h M i h2]

theorem mcount_mput (k : Int) (v z : Value) (hz : intOf z = 0) (M : MapL) : mcount (mput k v M) + (if 0 < intOf (mget z k M) then 1 else 0) = mcount M + (if 0 < intOf v then 1 else 0) := by
  unfold mput mget
  cases hf : mfind k M 0 with
  | none => simp [mcount, hz, List.countP_append, List.countP_cons]
  | some x =>
    obtain ⟨i, u⟩ := x
    obtain ⟨n, h1, h2⟩ := mfind_some hf
    rw [Nat.zero_add] at h1
    subst h1
    have h : ∀ (M : MapL) (i : Nat), M[i]? = some (k, u) → mcount (M.set i (k, v)) + (if 0 < intOf u then 1 else 0) = mcount M + (if 0 < intOf v then 1 else 0) := by
      intro M
      induction M with
      | nil => intro i h; simp at h
      | cons x M ih =>
        intro i h
        cases i with
        | zero => simp at h; subst h; simp only [mcount, List.set_cons_zero, List.countP_cons, decide_eq_true_eq]; omega
        | succ i =>
          simp at h
          have := ih i h
          simp only [mcount, List.set_cons_succ, List.countP_cons] at this ⊢
          omega
    simp only
    exact h M i h2

/-! Ranging. -/

/-- Block r is an iterator over the map at b (entries M), to which the entries 'rem' are still to come. -/
def IIter (w : World) (r b : Nat) (M rem : MapL) : Prop :=
  ∃ es clock since seen, w.heap[b]? = some (.map es clock) ∧ es.toList.map (fun e => (e.key, e.val)) = M.map (fun x => (Value.int .i64 x.1, x.2)) ∧
    (es.toList.map (·.born)).Nodup ∧ (∀ e ∈ es.toList, e.born < since) ∧ since ≤ clock ∧ w.heap[r]? = some (.mapIter (some b) since seen clock) ∧
    (leftOf es seen).toList.map (fun e => (e.key, e.val)) = rem.map (fun x => (Value.int .i64 x.1, x.2))

theorem IIter.ne {w : World} {r b : Nat} {M rem : MapL} (h : IIter w r b M rem) : r ≠ b := by
  obtain ⟨es, c, s, seen, hb, -, -, -, -, hr, -⟩ := h
  rintro rfl
  rw [hb] at hr
  cases hr

theorem IIter.lt {w : World} {r b : Nat} {M rem : MapL} (h : IIter w r b M rem) : r < w.heap.size ∧ b < w.heap.size := by
  obtain ⟨es, c, s, seen, hb, -, -, -, -, hr, -⟩ := h
  constructor
  · rcases Nat.lt_or_ge r w.heap.size with h' | h'
    · exact h'
    · simp [Array.getElem?_eq_none h'] at hr
  · rcases Nat.lt_or_ge b w.heap.size with h' | h'
    · exact h'
    · simp [Array.getElem?_eq_none h'] at hb

theorem IIter.keeps {F : Nat → Prop} {w w' : World} {r b : Nat} {M rem : MapL} (h : IIter w r b M rem) (hk : Keeps F w w') (hr : ¬ F r) (hb : ¬ F b) : IIter w' r b M rem := by
  obtain ⟨l1, l2⟩ := h.lt
  obtain ⟨es, c, s, seen, h1, h2, h3, h4, h5, h6, h7⟩ := h
  exact ⟨es, c, s, seen, (hk.block b l2 hb).trans h1, h2, h3, h4, h5, (hk.block r l1 hr).trans h6, h7⟩

theorem IIter.map {w : World} {r b : Nat} {M rem : MapL} (h : IIter w r b M rem) : IMap w b M := by
  obtain ⟨es, c, s, seen, h1, h2, h3, h4, h5, h6, h7⟩ := h
  exact ⟨es, c, h1, h2, h3, fun e he => by have := h4 e he; omega⟩

theorem run_range_imap {P : Program} {w : World} {T K E b : Nat} {M : MapL} (hT : P.underlying T = some (.map K E)) (h : IMap w b M) :
    ∃ w', (Instr.range T (.map (some b))).run P w = .ok (.pointer (some ⟨w.heap.size, 0, none⟩)) w' ∧ IIter w' w.heap.size b M M ∧ Keeps Nothing w w' ∧ w'.heap.size = w.heap.size + 1 := by
  have hl := h.lt
  obtain ⟨es, c, hb, he, hn, hc⟩ := h
  refine ⟨w.alloc (.mapIter (some b) c #[] c), by simp [Instr.range, run_underlying hT, MapKept.run_getObj_map hb, Result.andThen], ?_, (Keeps.refl _ _).alloc _, by simp⟩
  refine ⟨es, c, c, #[], ?_, he, hn, hc, Nat.le_refl _, heap_alloc_new w _, ?_⟩
  · rw [Below.heap_alloc _ _ _ hl]; exact hb
  · rw [← he, leftOf, Array.toList_filter, List.filter_eq_self.2 (fun x _ => by simp)]

theorem wpList_irange {P : Program} {w : World} {ops : Array Oper} {rest : List Oper} {o : Oper} {a : Act} {Q : Exit → Act → World → Prop} (hg : o.guard = none) (m : Operand) (T : TypeId) (hop : o.op = Op.range T m)
    (K E b : Nat) (M : MapL) (hT : P.underlying T = some (.map K E)) (hm : a.eval m = .map (some b)) (h : IMap w b M)
    (hK : ∀ w', IIter w' w.heap.size b M M → Keeps Nothing w w' → w'.heap.size = w.heap.size + 1 → wpList P ops Q rest (a.put o.dst (.pointer (some ⟨w.heap.size, 0, none⟩))) w') :
    wpList P ops Q (o :: rest) a w := by
  refine wpList_plain hg fun K' hK' => ?_
  obtain ⟨w', hrun, h1, h2, h3⟩ := run_range_imap (P := P) hT h
  unfold Oper.wp
  simp [execOp, hop, hm, hrun, Result.andThen]
  exact hK' _ _ (hK w' h1 h2 h3)

theorem leftOf_push {es : Array MapEntry} {seen : Array Nat} {i : Nat} {e : MapEntry} (hn : (es.toList.map (·.born)).Nodup) (hi : (leftOf es seen).toList[i]? = some e) :
    (leftOf es (seen.push e.born)).toList = (leftOf es seen).toList.eraseIdx i := by
  have h1 : (leftOf es (seen.push e.born)).toList = (leftOf es seen).toList.filter (fun x => x.born != e.born) := by
    simp only [leftOf, Array.toList_filter, List.filter_filter]
    congr 1
    funext x
    rw [Array.contains_push]
    cases h1 : seen.contains x.born <;> cases h2 : (x.born == e.born) <;> simp [bne, h2]
  rw [h1]
  have hn2 : ((leftOf es seen).toList.map (·.born)).Nodup := by
    simp only [leftOf, Array.toList_filter]
    exact (List.filter_sublist.map _).nodup hn
  generalize (leftOf es seen).toList = L at *
  clear h1
  induction L generalizing i with
  | nil => simp at hi
  | cons x L ih =>
    simp only [List.map_cons, List.nodup_cons] at hn2
    cases i with
    | zero =>
      simp at hi
      subst hi
      simp only [List.filter_cons, bne_self_eq_false, Bool.false_eq_true, if_false, List.eraseIdx_cons_zero]
      rw [List.filter_eq_self]
      intro y hy
      simp
      intro h
      exact hn2.1 (h ▸ List.mem_map_of_mem hy)
    | succ i =>
      simp at hi
      have hne : x.born ≠ e.born := fun h => hn2.1 (h ▸ List.mem_map_of_mem (List.mem_of_getElem? hi))
      simp only [List.eraseIdx_cons_succ, List.filter_cons]
      rw [if_pos (by simpa using hne), ih hi hn2.2]

/-- The range's step. -/
theorem wpList_inext {P : Program} {w : World} {ops : Array Oper} {rest : List Oper} {o : Oper} {a : Act} {Q : Exit → Act → World → Prop} (hg : o.guard = none) (it : Operand) (hop : o.op = Op.next it false)
    (r b : Nat) (M rem : MapL) (hit : a.eval it = .pointer (some ⟨r, 0, none⟩)) (h : IIter w r b M rem)
    (hDone : rem = [] → wpList P ops Q rest (a.put o.dst (.tuple #[.bool false])) w)
    (hMore : ∀ i k v w', rem[i]? = some (k, v) → IIter w' r b M (rem.eraseIdx i) → (Instr.entry (.pointer (some ⟨r, 0, none⟩))).run P w' = .ok (.tuple #[.int .i64 k, v]) w' → Keeps (fun x => x = r) w w' → w'.heap.size = w.heap.size →
      wpList P ops Q rest (a.put o.dst (.tuple #[.bool true, .int .i64 k, v])) w') :
    wpList P ops Q (o :: rest) a w := by
  refine wpList_plain hg fun K' hK' => ?_
  have hne := h.ne
  obtain ⟨l1, l2⟩ := h.lt
  obtain ⟨es, c, s, seen, hb, he, hn, ho, hs, hr, hl⟩ := h
  unfold Oper.wp
  rcases run_next_at (P := P) w o.type r b s c seen es c hr hb ho hs with ⟨h0, hrun⟩ | ⟨e, hmem, w1, hw1, hrun⟩
  · have h0' : (leftOf es seen).toList = [] := List.eq_nil_of_length_eq_zero (by simpa using h0)
    have : rem = [] := by
      rw [h0'] at hl
      simpa using hl.symm
    simp [execOp, hop, hit, hrun, Result.andThen]
    exact hK' _ _ (hDone this)
  · obtain ⟨i, hi⟩ := List.getElem?_of_mem hmem
    have hx := congrArg (fun l => l[i]?) hl
    simp only [List.getElem?_map, hi, Option.map_some] at hx
    obtain ⟨⟨k, v⟩, hkv⟩ : ∃ y, rem[i]? = some y := by
      cases hr : rem[i]? with
      | none => simp [hr] at hx
      | some y => exact ⟨y, rfl⟩
    rw [hkv] at hx
    simp only [Option.map_some, Option.some.injEq, Prod.mk.injEq] at hx
    obtain ⟨hk, hv⟩ := hx
    have ht : w1.heap = w.heap := by rcases hw1 with rfl | rfl <;> rfl
    have hset : (ChangeMaps.setBlock w1 r (.mapIter (some b) s (seen.push e.born) c)).heap = w.heap.setIfInBounds r (.mapIter (some b) s (seen.push e.born) c) := by rw [ChangeMaps.setBlock, ht]
    have hr' : (ChangeMaps.setBlock w1 r (.mapIter (some b) s (seen.push e.born) c)).heap[r]? = some (.mapIter (some b) s (seen.push e.born) c) := by rw [hset]; simp [l1]
    have hb' : (ChangeMaps.setBlock w1 r (.mapIter (some b) s (seen.push e.born) c)).heap[b]? = some (.map es c) := by rw [hset, Array.getElem?_setIfInBounds_ne hne]; exact hb
    have hel : e ∈ es.toList := (mem_left hmem).1
    have hent := run_entry_at (P := P) _ r b s seen es c e hr' hb' hel hn
    simp [execOp, hop, hit, hrun, Result.andThen]
    rw [hk, hv]
    rw [hk, hv] at hent
    refine hK' _ _ (hMore i k v _ hkv ⟨es, c, s, _, hb', he, hn, ho, hs, hr', ?_⟩ hent ⟨?_, ?_, ?_, ?_, ?_⟩ ?_)
    · rw [leftOf_push hn hi, ChangeMaps.map_eraseIdx, hl, ChangeMaps.map_eraseIdx]
    · rcases hw1 with rfl | rfl <;> rfl
    · rcases hw1 with rfl | rfl <;> rfl
    · rcases hw1 with rfl | rfl <;> rfl
    · rw [hset]; simp
    · intro k hk hnr
      rw [hset, Array.getElem?_setIfInBounds_ne (fun e => hnr e.symm)]
    · rw [hset]; simp

theorem msum_erase (M : MapL) (i : Nat) (k : Int) (v : Value) (h : M[i]? = some (k, v)) : msum (M.eraseIdx i) + intOf v = msum M := by
  induction M generalizing i with
  | nil => simp at h
  | cons x M ih =>
    cases i with
    | zero => simp at h; subst h; simp [msum]; omega
    | succ i =>
      simp at h
      have := ih i h
      simp only [msum, List.eraseIdx_cons_succ, List.map_cons, List.sum_cons] at this ⊢
      omega

theorem mcount_erase (M : MapL) (i : Nat) (k : Int) (v : Value) (h : M[i]? = some (k, v)) : mcount (M.eraseIdx i) + (if 0 < intOf v then 1 else 0) = mcount M := by
  induction M generalizing i with
  | nil => simp at h
  | cons x M ih =>
    cases i with
    | zero => simp at h; subst h; simp only [mcount, List.eraseIdx_cons_zero, List.countP_cons, decide_eq_true_eq]
    | succ i =>
      simp at h
      have := ih i h
      simp only [mcount, List.eraseIdx_cons_succ, List.countP_cons] at this ⊢
      omega

/-- Every element is a number that isn't great. -/
def Ints (M : MapL) : Prop := ∀ x ∈ M, ∃ n : Nat, x.2 = .int .i64 (n : Nat) ∧ n ≤ 1000

theorem Ints.mput {M : MapL} (h : Ints M) (k : Int) (n : Nat) (hn : n ≤ 1000) : Ints (mput k (.int .i64 (n : Nat)) M) := by
  intro x hx
  unfold Ytmmeloklnkfjjaa.mput at hx
  split at hx
  · rcases List.mem_or_eq_of_mem_set hx with hx | rfl
    · exact h x hx
    · exact ⟨n, rfl, hn⟩
  · rw [List.mem_append] at hx
    rcases hx with hx | hx
    · exact h x hx
    · simp at hx
      subst hx
      exact ⟨n, rfl, hn⟩

theorem Ints.erase {M : MapL} (h : Ints M) (i : Nat) : Ints (M.eraseIdx i) := fun x hx => h x (List.mem_of_mem_eraseIdx hx)

theorem Ints.msum_nonneg {M : MapL} (h : Ints M) : 0 ≤ msum M := by
  induction M with
  | nil => simp [msum]
  | cons x M ih =>
    obtain ⟨n, hn, -⟩ := h x (by simp)
    have := ih (fun y hy => h y (by simp [hy]))
    have e : intOf x.2 = n := by rw [hn]; rfl
    simp only [msum, List.map_cons, List.sum_cons] at this ⊢
    omega

/-- 'm[k] = v', for the walk. -/
theorem wpList_imput {P : Program} {w : World} {ops : Array Oper} {rest : List Oper} {o : Oper} {a : Act} {Q : Exit → Act → World → Prop} (hg : o.guard = none) (m x v : Operand) (T : TypeId) (hop : o.op = Op.mapUpdate T m x v)
    (K E b : Nat) (M : MapL) (hT : P.underlying T = some (.map K E)) (hKt : P.underlying K = some (.int .i64)) (hm : a.eval m = .map (some b)) (k : Int) (val : Value) (hx : a.eval x = .int .i64 k) (hv : a.eval v = val) (h : IMap w b M)
    (hK : ∀ w', IMap w' b (mput k val M) → Keeps (fun z => z = b) w w' → w'.heap.size = w.heap.size → wpList P ops Q rest (a.put o.dst undef) w') :
    wpList P ops Q (o :: rest) a w := by
  refine wpList_plain hg fun K' hK' => ?_
  obtain ⟨w', hrun, r1, r2, r3⟩ := run_mput (P := P) hT hKt h k val
  unfold Oper.wp
  simp [execOp, hop, hm, hx, hv, hrun, Result.andThen]
  exact hK' _ _ (hK w' r1 r2 r3)

end Go.Proofs.Ytmmeloklnkfjjaa
