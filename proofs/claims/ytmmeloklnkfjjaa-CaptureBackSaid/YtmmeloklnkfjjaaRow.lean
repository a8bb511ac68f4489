/- A row of frames that is turned in place: what it holds, an exchange of two places; and what exchanges leave as it was. -/
import Derived.Test.YtmmeloklnkfjjaaCap2
import Derived.RegionTactic
import Derived.ChangeAlike
import Derived.BigRegion
namespace Go.Proofs.Ytmmeloklnkfjjaa
open Go.RowKit

abbrev Con := Nat → Fr

/-- Block g holds n frames. -/
def RowC (w : World) (g n : Nat) (c : Con) : Prop := ∃ sp, Blk w g (fcells ((List.range n).map c) ++ sp) 27

theorem RowC.keeps {F : Nat → Prop} {w w' : World} {g n : Nat} {c : Con} (h : RowC w g n c) (hk : Keeps F w w') (hn : ¬ F g) : RowC w' g n c := by
  obtain ⟨sp, h⟩ := h
  exact ⟨sp, h.keeps hk hn⟩

theorem RowC.lt {w : World} {g n : Nat} {c : Con} (h : RowC w g n c) : g < w.heap.size := by
  obtain ⟨sp, h⟩ := h
  exact h.lt

theorem RowC.cell {w : World} {g n : Nat} {c : Con} (h : RowC w g n c) {i : Nat} (hi : i < n) :
    w.cell? ⟨g, i * 5, none⟩ = some (.int .i64 (c i).port) ∧ w.cell? ⟨g, i * 5 + 1, none⟩ = some (.int .i64 (c i).cls) ∧ w.cell? ⟨g, i * 5 + 2, none⟩ = some (.int .i64 (c i).frm) ∧
      w.cell? ⟨g, i * 5 + 3, none⟩ = some (.int .i64 (c i).till) ∧ w.cell? ⟨g, i * 5 + 4, none⟩ = some (.slice (c i).A (c i).bs.length (c i).cap) := by
  obtain ⟨sp, h⟩ := h
  have hg : ((List.range n).map c)[i]? = some (c i) := by simp [hi]
  have key : ∀ k u, (c i).cells[k]? = some u → w.cell? ⟨g, i * 5 + k, none⟩ = some u := fun k u hk => by
    have := fcells_get _ i (c i) hg k u hk
    rw [h.cell, List.getElem?_append_left (List.getElem?_eq_some_iff.1 this).1]
    exact this
  exact ⟨key 0 _ rfl, key 1 _ rfl, key 2 _ rfl, key 3 _ rfl, key 4 _ rfl⟩

theorem RowC.frozen {w : World} {g n : Nat} {c : Con} (h : RowC w g n c) (o : Nat) : w.frozen? ⟨g, o, none⟩ = false := by
  obtain ⟨sp, h⟩ := h
  exact h.frozen o

def upd (c : Con) (i : Nat) (f : Fr) : Con := fun k => if k = i then f else c k
def swp (c : Con) (i j : Nat) : Con := fun k => if k = i then c j else if k = j then c i else c k

theorem upd_upd (c : Con) (i j : Nat) : upd (upd c i (c j)) j (c i) = swp c i j := by
  funext k
  unfold upd swp
  by_cases h1 : k = i
  · subst h1
    by_cases h2 : k = j
    · subst h2
      simp
    · simp [h2]
  · simp [h1]

theorem fcells_cons (x : Fr) (l : List Fr) : fcells (x :: l) = .int .i64 x.port :: .int .i64 x.cls :: .int .i64 x.frm :: .int .i64 x.till :: .slice x.A x.bs.length x.cap :: fcells l := rfl

theorem fcells_set (f : Fr) : ∀ (l : List Fr) (i : Nat), i < l.length →
    ((((((fcells l).set (i * 5) (.int .i64 f.port)).set (i * 5 + 1) (.int .i64 f.cls)).set (i * 5 + 2) (.int .i64 f.frm)).set (i * 5 + 3) (.int .i64 f.till)).set (i * 5 + 4) (.slice f.A f.bs.length f.cap)) = fcells (l.set i f)
  | [], i, h => by simp at h
  | x :: l, 0, _ => by
    rfl
  | x :: l, i + 1, h => by
    have ih := fcells_set f l i (by simpa using h)
    rw [List.set_cons_succ, fcells_cons x, fcells_cons x, ← ih]
    have e0 : (i + 1) * 5 = i * 5 + 5 := by omega
    have e1 : i * 5 + 5 + 1 = (i * 5 + 1) + 5 := by omega
    have e2 : i * 5 + 5 + 2 = (i * 5 + 2) + 5 := by omega
    have e3 : i * 5 + 5 + 3 = (i * 5 + 3) + 5 := by omega
    have e4 : i * 5 + 5 + 4 = (i * 5 + 4) + 5 := by omega
    rw [e0, e1, e2, e3, e4]
    rfl

theorem map_upd (c : Con) (n i : Nat) (f : Fr) : ((List.range n).map c).set i f = (List.range n).map (upd c i f) := by
  apply List.ext_getElem?
  intro k
  by_cases hk : k < n
  · by_cases e : i = k
    · subst e
      rw [List.getElem?_set_self (by simpa using hk)]
      simp [hk, upd]
    · rw [List.getElem?_set_ne e]
      have : ¬ k = i := fun h => e h.symm
      simp [hk, upd, this]
  · rw [List.getElem?_eq_none (by simp; omega), List.getElem?_eq_none (by simp; omega)]

/-- A frame's cells, stored. -/
def put5 (w : World) (g i : Nat) (f : Fr) : World :=
  ((((w.setCell ⟨g, i * 5, none⟩ (.int .i64 f.port)).setCell ⟨g, i * 5 + 1, none⟩ (.int .i64 f.cls)).setCell ⟨g, i * 5 + 2, none⟩ (.int .i64 f.frm)).setCell ⟨g, i * 5 + 3, none⟩ (.int .i64 f.till)).setCell ⟨g, i * 5 + 4, none⟩ (.slice f.A f.bs.length f.cap)

theorem RowC.put {w : World} {g n : Nat} {c : Con} (h : RowC w g n c) {i : Nat} (hi : i < n) (f : Fr) : RowC (put5 w g i f) g n (upd c i f) := by
  obtain ⟨sp, h⟩ := h
  refine ⟨sp, ?_⟩
  have h1 := ((((h.set (i * 5) (.int .i64 f.port)).set (i * 5 + 1) (.int .i64 f.cls)).set (i * 5 + 2) (.int .i64 f.frm)).set (i * 5 + 3) (.int .i64 f.till)).set (i * 5 + 4) (.slice f.A f.bs.length f.cap)
  have hl : (fcells ((List.range n).map c)).length = n * 5 := by rw [fcells_len]; simp
  have key : ∀ (k : Nat) (v : Value) (L : List Value), L.length = n * 5 → k < n * 5 → (L ++ sp).set k v = L.set k v ++ sp := fun k v L hL hk => by
    rw [List.set_append_left _ _ (by omega)]
  rw [key _ _ _ hl (by omega), key _ _ _ (by simp [hl]) (by omega), key _ _ _ (by simp [hl]) (by omega), key _ _ _ (by simp [hl]) (by omega), key _ _ _ (by simp [hl]) (by omega), fcells_set f _ i (by simpa using hi), map_upd] at h1
  exact h1

theorem put5_keeps (w : World) (g i : Nat) (f : Fr) : Keeps (fun k => k = g) w (put5 w g i f) :=
  (((((Keeps.refl (fun k => k = g) w).setCell (p := ⟨g, i * 5, none⟩) (fun _ => rfl) _).setCell (p := ⟨g, i * 5 + 1, none⟩) (fun _ => rfl) _).setCell (p := ⟨g, i * 5 + 2, none⟩) (fun _ => rfl) _).setCell (p := ⟨g, i * 5 + 3, none⟩) (fun _ => rfl) _).setCell (p := ⟨g, i * 5 + 4, none⟩) (fun _ => rfl) _

theorem RowC.drew {w : World} {g n : Nat} {c : Con} (h : RowC w g n c) : RowC w.drew g n c := by
  obtain ⟨sp, h⟩ := h
  exact ⟨sp, h.drew⟩

/-- An exchange of two places. -/
theorem RowC.exch {w : World} {g n : Nat} {d : Con} (h : RowC w g n d) {p q : Nat} (hp : p < n) (hq : q < n) {f k : Fr} (hf : f = d p) (hk : k = d q) :
    RowC (put5 (put5 w g p k) g q f).drew g n (swp d p q) ∧ Keeps (fun x => x = g) w (put5 (put5 w g p k) g q f).drew := by
  have h1 := h.put hp k
  have h2 := h1.put hq f
  have e : upd (upd d p k) q f = swp d p q := by rw [hf, hk]; exact upd_upd d p q
  rw [e] at h2
  have k1 := put5_keeps w g p k
  have k2 := put5_keeps (put5 w g p k) g q f
  generalize put5 (put5 w g p k) g q f = w2 at *
  exact ⟨h2.drew, (k1.trans k2 (fun _ h _ => h)).drew⟩

/-- Exchanges within [a, b) lead from one to the other. -/
inductive Sw (a b : Nat) : Con → Con → Prop
  | refl (c : Con) : Sw a b c c
  | step {c d : Con} (h : Sw a b c d) (i j : Nat) (hi : a ≤ i ∧ i < b) (hj : a ≤ j ∧ j < b) : Sw a b c (swp d i j)

theorem Sw.trans {a b : Nat} {c d e : Con} (h : Sw a b c d) (k : Sw a b d e) : Sw a b c e := by
  induction k with
  | refl => exact h
  | step _ i j hi hj ih => exact ih.step i j hi hj

theorem Sw.mono {a b a' b' : Nat} {c d : Con} (h : Sw a b c d) (h1 : a' ≤ a) (h2 : b ≤ b') : Sw a' b' c d := by
  induction h with
  | refl => exact .refl _
  | step _ i j hi hj ih => exact ih.step i j ⟨by omega, by omega⟩ ⟨by omega, by omega⟩

theorem Sw.out {a b : Nat} {c d : Con} (h : Sw a b c d) {k : Nat} (hk : k < a ∨ b ≤ k) : d k = c k := by
  induction h with
  | refl => rfl
  | step _ i j hi hj ih =>
    unfold swp
    rw [if_neg (by omega), if_neg (by omega), ih]

theorem Sw.mem {a b : Nat} {c d : Con} (h : Sw a b c d) : ∀ k, a ≤ k → k < b → ∃ k', a ≤ k' ∧ k' < b ∧ d k = c k' := by
  induction h with
  | refl => exact fun k h1 h2 => ⟨k, h1, h2, rfl⟩
  | step _ i j hi hj ih =>
    intro k h1 h2
    unfold swp
    split
    · exact ih j hj.1 hj.2
    · split
      · exact ih i hi.1 hi.2
      · exact ih k h1 h2

def cnt (p : Fr → Bool) (c : Con) : Nat → Nat
  | 0 => 0
  | n + 1 => cnt p c n + (if p (c n) then 1 else 0)

theorem cnt_upd_out (p : Fr → Bool) (c : Con) (i : Nat) (f : Fr) : ∀ n, n ≤ i → cnt p (upd c i f) n = cnt p c n
  | 0, _ => rfl
  | n + 1, h => by
    have : ¬ n = i := by omega
    simp only [cnt, cnt_upd_out p c i f n (by omega), upd, if_neg this]

theorem cnt_upd (p : Fr → Bool) (c : Con) (i : Nat) (f : Fr) : ∀ n, i < n → cnt p (upd c i f) n + (if p (c i) then 1 else 0) = cnt p c n + (if p f then 1 else 0)
  | 0, h => by omega
  | n + 1, h => by
    by_cases e : n = i
    · subst e
      simp only [cnt, cnt_upd_out p c n f n (Nat.le_refl _), upd, if_true]
      omega
    · have := cnt_upd p c i f n (by omega)
      have hu : upd c i f n = c n := by unfold upd; rw [if_neg e]
      simp only [cnt, hu]
      omega

theorem cnt_swp (p : Fr → Bool) (c : Con) (i j n : Nat) (hi : i < n) (hj : j < n) : cnt p (swp c i j) n = cnt p c n := by
  rw [← upd_upd]
  have h1 := cnt_upd p c i (c j) n hi
  have h2 := cnt_upd p (upd c i (c j)) j (c i) n hj
  have e : (upd c i (c j)) j = c j := by
    unfold upd
    split
    · rfl
    · rfl
  rw [e] at h2
  omega

theorem Sw.cnt {a b : Nat} {c d : Con} (h : Sw a b c d) (p : Fr → Bool) (n : Nat) (hn : b ≤ n) : Ytmmeloklnkfjjaa.cnt p d n = Ytmmeloklnkfjjaa.cnt p c n := by
  induction h with
  | refl => rfl
  | step _ i j hi hj ih => rw [cnt_swp p _ i j n (by omega) (by omega), ih]

theorem cnt_list (p : Fr → Bool) (c : Con) : ∀ n, ((List.range n).map c).countP p = cnt p c n
  | 0 => rfl
  | n + 1 => by
    rw [List.range_succ, List.map_append, List.countP_append, cnt_list p c n]
    simp [cnt, List.countP_cons]

end Go.Proofs.Ytmmeloklnkfjjaa
