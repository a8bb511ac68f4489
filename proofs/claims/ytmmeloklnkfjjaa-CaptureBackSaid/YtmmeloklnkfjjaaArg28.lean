/- Frames that came in: they can be read, and their numbers fit. -/
import Derived.Test.YtmmeloklnkfjjaaCap
import Derived.Test.YtmmeloklnkfjjaaArg
namespace Go.Proofs.Ytmmeloklnkfjjaa
open Go.ChangeShapes Go.WideShapes Go.ChangeAt Go.RowKit

/-- The numbers fit their kind. -/
def Fr.Wf (f : Fr) : Prop := f.frm ≤ 9223372036854775807 ∧ f.till ≤ 9223372036854775807

set_option maxRecDepth 100000 in
theorem open_frs {H : Type} {enc : TypeId × Value → H} {base : Nat} {v : Value} {d : DataW H} {p : List MemPlace} {W : World}
    (o : Value.okWide Try.prog W .any base 22 v) (h : DataW.Trod enc Try.prog W 0 (fun _ => true) true 22 v d p) :
    ∃ l A c, v = .slice A l.length c ∧ l.length ≤ 9223372036854775807 ∧ FrsR W A c l ∧ ∀ f ∈ l, f.Wf := by
  obtain ⟨a0, len0, cap0, rfl⟩ := okWide_slice Try.underlying22 o
  obtain ⟨l, hr, ⟨A, c, hv⟩, hm, hel⟩ := tr_slice (sz := 5) Try.underlying22 (by kernel_rfl) (by omega) (tr_of h)
  have hone : ∀ cs ∈ l, ∃ f : Fr, cs = f.cells ∧ f.Rd W ∧ f.Wf := by
    intro cs hcs
    obtain ⟨hl, hf⟩ := tr_struct Try.underlying27 (hel cs hcs)
    have hl5 : cs.length = 5 := hl.trans (by kernel_rfl)
    match cs, hl5 with
    | [x0, x1, x2, x3, x4], _ =>
      have c2 : Try.prog.cellsOf 2 = 1 := by kernel_rfl
      have c3 : Try.prog.cellsOf 3 = 1 := by kernel_rfl
      have c25 : Try.prog.cellsOf 25 = 1 := by kernel_rfl
      have f0 : Tr enc Try.prog W 3 ([x0, x1, x2, x3, x4].take (Try.prog.cellsOf 3)) := hf 0 _ rfl
      have f1 : Tr enc Try.prog W 3 ([x1, x2, x3, x4].take (Try.prog.cellsOf 3)) := hf 1 _ rfl
      have f2 : Tr enc Try.prog W 2 ([x2, x3, x4].take (Try.prog.cellsOf 2)) := hf 2 _ rfl
      have f3 : Tr enc Try.prog W 2 ([x3, x4].take (Try.prog.cellsOf 2)) := hf 3 _ rfl
      have f4 : Tr enc Try.prog W 25 ([x4].take (Try.prog.cellsOf 25)) := hf 4 _ rfl
      rw [c3] at f0 f1
      rw [c2] at f2 f3
      rw [c25] at f4
      obtain ⟨n0, e0, -⟩ := tr_int Try.underlying3 f0
      obtain ⟨n1, e1, -⟩ := tr_int Try.underlying3 f1
      obtain ⟨n2, e2, w2⟩ := tr_int Try.underlying2 f2
      obtain ⟨n3, e3, w3⟩ := tr_int Try.underlying2 f3
      obtain ⟨A4, m4, c4, bs, e4, hm4, -, hs4⟩ := tr_bytes (v := x4) Try.underlying25 Try.underlying5 (by kernel_rfl) f4
      simp at e0 e1 e2 e3
      subst e0 e1 e2 e3 e4 hm4
      have b2 := bounds_i64 w2
      have b3 := bounds_i64 w3
      exact ⟨⟨n0, n1, n2, n3, A4, c4, bs⟩, rfl, hs4, by simp only [Fr.Wf]; omega⟩
  obtain ⟨fs, hl, hp⟩ := list_of_each (n := l.length) (p := fun i f => l[i]? = some (Fr.cells f) ∧ f.Rd W ∧ f.Wf) (fun i hi => by
    obtain ⟨f, h1, h2⟩ := hone l[i] (List.getElem_mem hi)
    exact ⟨f, by rw [List.getElem?_eq_getElem hi, h1], h2⟩)
  injection hv with e1 e2 e3
  subst e1 e2 e3
  have hall : ∀ f ∈ fs, f.Rd W ∧ f.Wf := fun f hf => by
    obtain ⟨j, hj⟩ := List.getElem?_of_mem hf
    exact (hp j f hj).2
  refine ⟨fs, a0, cap0, by rw [hl], by omega, ⟨?_, fun f hf => (hall f hf).1⟩, fun f hf => (hall f hf).2⟩
  rcases hr with ⟨h1, -⟩ | ⟨b, o', c', h1, h2, h3⟩
  · exact .inl (List.eq_nil_of_length_eq_zero (by rw [hl, h1]; rfl))
  · injection h1 with e1 e2 e3
    subst e3
    refine .inr ⟨b, o', e1, by omega, fun j f hj i u hi => ?_⟩
    obtain ⟨hp1, -⟩ := hp j f hj
    exact (h3 j _ hp1).2 i u hi

theorem okWide_arr {P : Program} {w : World} {r : Reach} {base : Nat} {T e : TypeId} {m : Nat} {v : Value} (ht : P.underlying T = some (.array m e)) (h : Value.okWide P w r base T v) : ∃ cs, v = .agg cs ∧ cs.size = P.cellsOf T := by
  unfold Value.okWide at h
  simp only [ht] at h
  obtain ⟨cs, h1, h2, -⟩ := h
  exact ⟨cs, h1, h2⟩

set_option maxRecDepth 100000 in
theorem open_times {H : Type} {enc : TypeId × Value → H} {base : Nat} {v : Value} {d : DataW H} {p : List MemPlace} {W : World}
    (o : Value.okWide Try.prog W .any base 39 v) (h : DataW.Trod enc Try.prog W 0 (fun _ => true) true 39 v d p) :
    ∃ x0 x1 x2 : Int, v = .agg #[.int .i64 x0, .int .i64 x1, .int .i64 x2] := by
  obtain ⟨cs, rfl, hsz⟩ := okWide_arr Try.underlying39 o
  obtain ⟨l⟩ := cs
  have hl3 : l.length = 3 := hsz.trans (by kernel_rfl)
  obtain ⟨-, hf⟩ := tr_array Try.underlying39 (tr_of h)
  match l, hl3 with
  | [y0, y1, y2], _ =>
    have c2 : Try.prog.cellsOf 2 = 1 := by kernel_rfl
    have f0 := hf 0 (by omega)
    have f1 := hf 1 (by omega)
    have f2 := hf 2 (by omega)
    rw [c2] at f0 f1 f2
    obtain ⟨n0, e0, -⟩ := tr_int Try.underlying2 f0
    obtain ⟨n1, e1, -⟩ := tr_int Try.underlying2 f1
    obtain ⟨n2, e2, -⟩ := tr_int Try.underlying2 f2
    simp [Value.cells] at e0 e1 e2
    subst e0 e1 e2
    exact ⟨n0, n1, n2, rfl⟩

end Go.Proofs.Ytmmeloklnkfjjaa
