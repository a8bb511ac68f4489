/- What is known of a gate list that came in. -/
import Derived.Test.YtimgmobmagpmlaaArg
import Derived.Test.YtimgmobmagpmlaaGate
namespace Go.Proofs.Ytimgmobmagpmlaa
open Go.ChangeShapes Go.WideShapes Go.ChangeAt Go.RowKit

def Ent.cells (e : Ent) : List Value := [.int .i64 e.opn, .int .i64 e.nanos]

set_option maxRecDepth 100000 in
/-- Entries, as the cells of a slice that can be read. -/
theorem tr_ents {H : Type} {enc : TypeId × Value → H} {W : World} {v : Value} (h : Tr enc Try.prog W 54 [v]) :
    ∃ es A c, v = .slice A es.length c ∧ es.length ≤ 9223372036854775807 ∧ EntsR W A c es := by
  obtain ⟨l, hr, ⟨A, c, hv⟩, hm, hel⟩ := tr_slice (sz := 2) Try.underlying54 (by kernel_rfl) (by omega) h
  have hent : ∀ cs ∈ l, ∃ a : Ent, cs = a.cells := by
    intro cs hcs
    obtain ⟨hl, hf⟩ := tr_struct Try.underlying61 (hel cs hcs)
    have hl2 : cs.length = 2 := hl.trans (by kernel_rfl)
    match cs, hl2 with
    | [x, y], _ =>
      have c3 : Try.prog.cellsOf 3 = 1 := by kernel_rfl
      have c2 : Try.prog.cellsOf 2 = 1 := by kernel_rfl
      have f0 : Tr enc Try.prog W 3 ([x, y].take (Try.prog.cellsOf 3)) := hf 0 _ rfl
      have f1 : Tr enc Try.prog W 2 ([y].take (Try.prog.cellsOf 2)) := hf 1 _ rfl
      rw [c3] at f0
      rw [c2] at f1
      obtain ⟨k, e0, -⟩ := tr_int Try.underlying3 f0
      obtain ⟨i, e1, -⟩ := tr_int Try.underlying2 f1
      simp at e0 e1
      subst e0 e1
      exact ⟨⟨k, i⟩, rfl⟩
  obtain ⟨es, hl, hp⟩ := list_of_each (n := l.length) (p := fun i a => l[i]? = some (Ent.cells a)) (fun i hi => by
    obtain ⟨a, h1⟩ := hent l[i] (List.getElem_mem hi)
    exact ⟨a, by rw [List.getElem?_eq_getElem hi, h1]⟩)
  subst hv
  refine ⟨es, A, c, by rw [hl], by omega, ?_⟩
  rcases hr with ⟨h1, -⟩ | ⟨b, o', c', h1, h2, h3⟩
  · exact .inl (List.eq_nil_of_length_eq_zero (by rw [hl, h1]; rfl))
  · injection h1 with e1 e2 e3
    subst e3
    refine .inr ⟨b, o', e1, by omega, fun j a hj => ?_⟩
    have := (h3 j _ (hp j a hj)).2
    exact ⟨by simpa using this 0 _ rfl, this 1 _ rfl⟩

set_option maxRecDepth 100000 in
theorem open_list {H : Type} {enc : TypeId × Value → H} {base : Nat} {v : Value} {d : DataW H} {p : List MemPlace} {W : World}
    (o : Value.okWide Try.prog W .any base 56 v) (h : DataW.Trod enc Try.prog W 0 (fun _ => true) true 56 v d p) :
    ∃ (b y x : Int) (A : Option Addr) (c : Nat) (es : List Ent), v = .agg #[.int .i64 b, .int .i64 y, .int .i64 x, .slice A es.length c] ∧ es.length ≤ 9223372036854775807 ∧ EntsR W A c es ∧ (-9223372036854775808 ≤ b ∧ b ≤ 9223372036854775807) ∧ (-9223372036854775808 ≤ y ∧ y ≤ 9223372036854775807) := by
  obtain ⟨cs, rfl, -⟩ := okWide_struct Try.underlying56 o
  obtain ⟨hl, hf⟩ := tr_struct Try.underlying56 (tr_of h)
  have hl4 : cs.toList.length = 4 := hl.trans (by kernel_rfl)
  have c2 : Try.prog.cellsOf 2 = 1 := by kernel_rfl
  have c70 : Try.prog.cellsOf 54 = 1 := by kernel_rfl
  obtain ⟨l⟩ := cs
  simp only at hl4 hf
  have hcs : (Value.agg l.toArray).cells.toList = l := rfl
  rw [hcs] at hf
  match l, hl4 with
  | [a0, a1, a2, a3], _ =>
    have f0 : Tr enc Try.prog W 2 ([a0, a1, a2, a3].take (Try.prog.cellsOf 2)) := hf 0 _ rfl
    have f1 : Tr enc Try.prog W 2 ([a1, a2, a3].take (Try.prog.cellsOf 2)) := hf 1 _ rfl
    have f2 : Tr enc Try.prog W 2 ([a2, a3].take (Try.prog.cellsOf 2)) := hf 2 _ rfl
    have f3 : Tr enc Try.prog W 54 ([a3].take (Try.prog.cellsOf 54)) := hf 3 _ rfl
    rw [c2] at f0 f1 f2
    rw [c70] at f3
    obtain ⟨b, e0, w0⟩ := tr_int Try.underlying2 f0
    obtain ⟨y, e1, w1⟩ := tr_int Try.underlying2 f1
    obtain ⟨x, e2, -⟩ := tr_int Try.underlying2 f2
    obtain ⟨es, A, c, e3, hlen, hes⟩ := tr_ents (v := a3) f3
    simp at e0 e1 e2
    subst e0 e1 e2 e3
    exact ⟨b, y, x, A, c, es, rfl, hlen, hes, bounds_i64 w0, bounds_i64 w1⟩

end Go.Proofs.Ytimgmobmagpmlaa
