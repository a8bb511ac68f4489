/- What is known of bytes that came in: they read as a list of bytes. -/
import Derived.Test.YtdncojofilnhnaaGreatDoorBase
import Derived.ProofKit
import Derived.OpenShut
import Derived.Deep.Slices
namespace Go.Proofs.YtdncojofilnhnaaGreatDoor
open Go.RowKit

/-- WHAT THE WALK IS TOLD OF A SLICE OF INTEGERS THAT CAME IN: it is nil; or it leads to a row of 'cap' cells, the numbers 'zs' (the first 'len' are its elements, the rest its spare room), each fitting its kind. -/
def IsRow (k : IntKind) (w : World) (a : Option Addr) (len cap : Nat) (zs : List Int) : Prop :=
  (a = none ∧ len = 0 ∧ cap = 0 ∧ zs = []) ∨
  ∃ x, a = some x ∧ len ≤ cap ∧ cap ≤ maxLen ∧ zs.length = cap ∧ (∀ i, i < zs.length → w.cell? (x.add i) = some (.int k (zs.getD i 0))) ∧ ∀ n ∈ zs, (Lit.int k n).wf = true

theorem IsRow.bytes {w : World} {A : Option Addr} {len cap : Nat} {zs : List Int} (h : IsRow .u8 w A len cap zs) :
    len ≤ 9223372036854775807 ∧ (len = 0 ∨ ∃ (bs : Bytes) (ad : Addr), A = some ad ∧ bs.length = len ∧ len ≤ cap ∧ ∀ j u, (bcells bs)[j]? = some u → w.cell? (ad.add j) = some u) := by
  rcases h with ⟨rfl, rfl, rfl, rfl⟩ | ⟨x, rfl, hl, hm, hz, hc, hw⟩
  · exact ⟨by omega, .inl rfl⟩
  · have hm' := hm
    unfold maxLen at hm'
    refine ⟨by omega, .inr ⟨(zs.take len).map fun n => UInt8.ofNat n.toNat, x, rfl, by simp; omega, hl, fun j u hj => ?_⟩⟩
    have hj' : j < len := by
      have := (List.getElem?_eq_some_iff.1 hj).1
      simp [bcells] at this
      omega
    have hzj : j < zs.length := by omega
    rw [hc j hzj]
    have hwf := hw zs[j] (List.getElem_mem hzj)
    have hr : 0 ≤ zs[j] ∧ zs[j] ≤ 255 := by
      have := bounds_u8 hwf
      exact this
    simp [bcells, List.getElem?_take, hj', hzj] at hj
    rw [← hj]
    simp [List.getD, hzj]
    omega

theorem IsRow.slR {w : World} {A : Option Addr} {len cap : Nat} {zs : List Int} (h : IsRow .u8 w A len cap zs) :
    ∃ bs : Bytes, len = bs.length ∧ len ≤ 9223372036854775807 ∧ SlR w (.slice A len cap) (bcells bs) := by
  obtain ⟨hm, rfl | ⟨bs, ad, rfl, rfl, hc, hr⟩⟩ := h.bytes
  · exact ⟨[], rfl, hm, SlR.empty _ _ _⟩
  · exact ⟨bs, rfl, hm, .inr ⟨ad, cap, by rw [bcells_length], by rw [bcells_length]; exact hc, hr⟩⟩

open Go.ChangeShapes Go.WideShapes Go.ChangeAt in
/-- Bytes that came in. -/
theorem open_bytes {H : Type} {enc : TypeId × Value → H} {P : Program} {base T E : Nat} {v : Value} {d : DataW H} {p : List MemPlace} {W : World}
    (hT : P.underlying T = some (.slice E)) (hE : P.underlying E = some (.int .u8)) (hc1 : P.cellsOf E = 1)
    (o : Value.okWide P W .any base T v) (h : DataW.Trod enc P W 0 (fun _ => true) true T v d p) :
    ∃ A n c, ∃ bs : Bytes, v = .slice A n c ∧ n = bs.length ∧ n ≤ 9223372036854775807 ∧ SlR W v (bcells bs) := by
  obtain ⟨a0, len0, cap0, rfl⟩ := okWide_slice hT o
  obtain ⟨z0, w0⟩ : ∃ zs, IsRow .u8 W a0 len0 cap0 zs := by
    obtain ⟨fuel, hf⟩ := h
    rcases open_ints hT hE hc1 hf with ⟨hcs, _⟩ | ⟨x, l, c, zs, hcs, _, hl, hm, hz, _, hcell, hwz⟩
    · simp [Value.cells] at hcs
      obtain ⟨rfl, rfl, rfl⟩ := hcs
      exact ⟨[], .inl ⟨rfl, rfl, rfl, rfl⟩⟩
    · simp [Value.cells] at hcs
      obtain ⟨rfl, rfl, rfl⟩ := hcs
      exact ⟨zs, .inr ⟨_, rfl, hl, hm, by simpa using hz, hcell, hwz⟩⟩
  obtain ⟨bs, hn, hm, hs⟩ := w0.slR
  exact ⟨_, _, _, bs, rfl, hn, hm, hs⟩

/-! Opening what came in, type by type, down to the cells. -/
section
variable {H : Type} {enc : TypeId × Value → H} {P : Program} {W : World}

/-- The cells cs can be read as a value of type T. -/
def Tr (enc : TypeId × Value → H) (P : Program) (W : World) (T : TypeId) (cs : List Value) : Prop := ∃ fuel x, DataW.trod enc P W 0 (fun _ => true) true fuel T cs = some x

theorem tr_of {T : TypeId} {v : Value} {d : DataW H} {p : List MemPlace} (h : DataW.Trod enc P W 0 (fun _ => true) true T v d p) : Tr enc P W T v.cells.toList := by
  obtain ⟨fuel, h⟩ := h
  exact ⟨fuel, _, h⟩

theorem tr_int {T : TypeId} {k : IntKind} {cs : List Value} (hT : P.underlying T = some (.int k)) (h : Tr enc P W T cs) : ∃ n, cs = [.int k n] ∧ (Lit.int k n).wf = true := by
  obtain ⟨fuel, x, h⟩ := h
  obtain ⟨n, h1, _, h2⟩ := DataW.trod_int hT h
  exact ⟨n, h1, h2⟩

theorem tr_struct {T : TypeId} {fs : Array Field} {cs : List Value} (hT : P.underlying T = some (.struct fs)) (h : Tr enc P W T cs) :
    cs.length = P.cellsOf T ∧ ∀ (i : Nat) (f : Field), fs[i]? = some f → Tr enc P W f.type ((cs.drop f.offset).take (P.cellsOf f.type)) := by
  obtain ⟨fuel, x, h⟩ := h
  obtain ⟨xs, n, -, -, hl, hx, hf⟩ := DataW.trod_struct hT h
  refine ⟨hl, fun i f hi => ?_⟩
  have := hf i f hi
  have hil : i < xs.length := by rw [hx]; exact (Array.getElem?_eq_some_iff.1 hi).1
  rw [List.getElem?_eq_getElem hil] at this
  exact ⟨n, _, this⟩

theorem tr_array {T e : TypeId} {m : Nat} {cs : List Value} (hT : P.underlying T = some (.array m e)) (h : Tr enc P W T cs) :
    cs.length = P.cellsOf T ∧ ∀ (i : Nat), i < m → Tr enc P W e ((cs.drop (i * P.cellsOf e)).take (P.cellsOf e)) := by
  obtain ⟨fuel, x, h⟩ := h
  obtain ⟨xs, n, -, -, hl, hx, hf⟩ := DataW.trod_array hT h
  refine ⟨hl, fun i hi => ?_⟩
  have := hf i hi
  rw [List.getElem?_eq_getElem (by omega)] at this
  exact ⟨n, _, this⟩

theorem list_of_each {α : Type} {n : Nat} {p : Nat → α → Prop} (h : ∀ i, i < n → ∃ x, p i x) : ∃ l : List α, l.length = n ∧ ∀ i x, l[i]? = some x → p i x := by
  induction n with
  | zero => exact ⟨[], rfl, fun i x h => by simp at h⟩
  | succ n ih =>
    obtain ⟨l, hl, hp⟩ := ih (fun i hi => h i (by omega))
    obtain ⟨x, hx⟩ := h n (by omega)
    refine ⟨l ++ [x], by simp [hl], fun i y hy => ?_⟩
    by_cases hi : i < l.length
    · rw [List.getElem?_append_left hi] at hy
      exact hp i y hy
    · rw [List.getElem?_append_right (by omega)] at hy
      obtain ⟨h1, h2⟩ := List.getElem?_eq_some_iff.1 hy
      simp at h1
      have : i = n := by omega
      subst this
      simp at h2
      exact h2 ▸ hx

/-- A slice of elements of sz cells each: each element's cells. -/
def RecsR (w : World) (v : Value) (sz : Nat) (l : List (List Value)) : Prop :=
  (l = [] ∧ ∃ A c, v = .slice A 0 c) ∨ ∃ b o c, v = .slice (some ⟨b, o, none⟩) l.length c ∧ l.length ≤ c ∧ ∀ (i : Nat) (cs : List Value), l[i]? = some cs → cs.length = sz ∧ ∀ j u, cs[j]? = some u → w.cell? ⟨b, o + i * sz + j, none⟩ = some u

theorem tr_slice {T e sz : Nat} {v : Value} (hT : P.underlying T = some (.slice e)) (hsz : P.cellsOf e = sz) (h0 : 0 < sz) (h : Tr enc P W T [v]) :
    ∃ l, RecsR W v sz l ∧ (∃ A c, v = .slice A l.length c) ∧ l.length ≤ 9223372036854775807 ∧ ∀ cs ∈ l, Tr enc P W e cs := by
  obtain ⟨fuel, x, h⟩ := h
  rcases Deep.open_slice hT h with ⟨hcs, -⟩ | ⟨a, len, cap, m, n, D, Pl, hcs, -, hl, hm, hmm, -, hel⟩
  · simp at hcs
    subst hcs
    exact ⟨[], .inl ⟨rfl, _, _, rfl⟩, ⟨_, _, rfl⟩, by simp, by simp⟩
  · simp at hcs
    subst hcs
    have hm2 : cap ≤ 9223372036854775807 := hm
    simp only [if_true] at hmm
    subst hmm
    rw [hsz] at hel
    obtain ⟨l, hll, hp⟩ := list_of_each (n := len) (fun i hi => hel i (by omega))
    subst hll
    refine ⟨l, ?_, ⟨_, _, rfl⟩, by omega, ?_⟩
    · by_cases hz : l.length = 0
      · exact .inl ⟨List.eq_nil_of_length_eq_zero hz, _, _, by rw [hz]⟩
      · have cells : ∀ (i : Nat) (cs : List Value), l[i]? = some cs → cs.length = sz ∧ ∀ j u, cs[j]? = some u → W.cell? ((a.add (i * sz)).add j) = some u := by
          intro i cs hi
          obtain ⟨h1, -⟩ := hp i cs hi
          obtain ⟨-, h2, h3⟩ := World.cells?_some h1
          refine ⟨h2, fun j u hj => ?_⟩
          rw [h3 j (by have := (List.getElem?_eq_some_iff.1 hj).1; omega)]
          exact hj
        obtain ⟨cs0, hc0⟩ : ∃ cs, l[0]? = some cs := ⟨_, List.getElem?_eq_getElem (by omega)⟩
        obtain ⟨h1, h2⟩ := cells 0 cs0 hc0
        have h3 := h2 0 _ (List.getElem?_eq_getElem (by omega))
        have hs : a.spot = none := by
          rw [Nat.zero_mul] at h3
          have e : (a.add 0).add 0 = a := rfl
          rw [e] at h3
          cases hsp : a.spot with
          | none => rfl
          | some y =>
            unfold World.cell? at h3
            split at h3
            · simp [hsp] at h3
            · simp at h3
        obtain ⟨b, o, sp⟩ := a
        simp only at hs
        subst hs
        refine .inr ⟨b, o, _, rfl, hl, fun i cs hi => ?_⟩
        obtain ⟨h1, h2⟩ := cells i cs hi
        refine ⟨h1, fun j u hj => ?_⟩
        have := h2 j u hj
        rw [Addr.add_lit, Addr.add_lit] at this
        exact this
    · intro cs hcs
      obtain ⟨i, hi⟩ := List.getElem?_of_mem hcs
      obtain ⟨-, h2⟩ := hp i cs hi
      exact ⟨n, _, h2⟩

theorem tr_bytes {T E : Nat} {v : Value} (hT : P.underlying T = some (.slice E)) (hE : P.underlying E = some (.int .u8)) (hc1 : P.cellsOf E = 1) (h : Tr enc P W T [v]) :
    ∃ A n c, ∃ bs : Bytes, v = .slice A n c ∧ n = bs.length ∧ n ≤ 9223372036854775807 ∧ SlR W v (bcells bs) := by
  obtain ⟨l, hr, ⟨A, c, rfl⟩, hm, hel⟩ := tr_slice hT hc1 (by omega) h
  have hb : ∃ bs : Bytes, l = (bcells bs).map fun u => [u] := by
    refine ⟨l.map fun cs => match cs with | [.int _ n] => UInt8.ofNat n.toNat | _ => 0, ?_⟩
    simp only [bcells, List.map_map]
    apply List.ext_getElem?
    intro i
    simp only [List.getElem?_map]
    cases hi : l[i]? with
    | none => rfl
    | some cs =>
      obtain ⟨n, rfl, hw⟩ := tr_int hE (hel cs (List.mem_of_getElem? hi))
      have := bounds_u8 hw
      simp
      omega
  obtain ⟨bs, rfl⟩ := hb
  refine ⟨A, _, c, bs, rfl, by simp, hm, ?_⟩
  rcases hr with ⟨h1, A', c', h2⟩ | ⟨b, o, c', h2, h3, h4⟩
  · rw [h2]
    have : bs = [] := by simpa [bcells] using h1
    subst this
    exact SlR.empty _ _ _
  · rw [h2]
    refine .inr ⟨⟨b, o, none⟩, c', by simp, by simpa using h3, fun j u hj => ?_⟩
    rw [Addr.add_lit]
    have := (h4 j [u] (by simp [hj])).2 0 u rfl
    simpa using this

end

end Go.Proofs.YtdncojofilnhnaaGreatDoor
