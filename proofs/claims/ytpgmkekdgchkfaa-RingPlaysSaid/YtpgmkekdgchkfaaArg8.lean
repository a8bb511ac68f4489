/- What is known of eight numbers that came in, and of acts on rows. -/
import Derived.Test.YtpgmkekdgchkfaaArg
import Derived.Test.YtpgmkekdgchkfaaRPlays
namespace Go.Proofs.Ytpgmkekdgchkfaa
open Go.ChangeShapes Go.WideShapes Go.ChangeAt Go.RowKit

theorem okWide_arr {P : Program} {w : World} {r : Reach} {base : Nat} {T e : TypeId} {m : Nat} {v : Value} (ht : P.underlying T = some (.array m e)) (h : Value.okWide P w r base T v) : ∃ cs, v = .agg cs ∧ cs.size = P.cellsOf T := by
  unfold Value.okWide at h
  simp only [ht] at h
  obtain ⟨cs, h1, h2, -⟩ := h
  exact ⟨cs, h1, h2⟩

set_option maxRecDepth 100000 in
theorem open_eight {H : Type} {enc : TypeId × Value → H} {base : Nat} {v : Value} {d : DataW H} {p : List MemPlace} {W : World}
    (o : Value.okWide Try.prog W .any base 43 v) (h : DataW.Trod enc Try.prog W 0 (fun _ => true) true 43 v d p) :
    ∃ b0 b1 b2 b3 b4 b5 b6 b7 : Int, v = .agg #[.int .i64 b0, .int .i64 b1, .int .i64 b2, .int .i64 b3, .int .i64 b4, .int .i64 b5, .int .i64 b6, .int .i64 b7] := by
  obtain ⟨cs, rfl, -⟩ := okWide_arr Try.underlying43 o
  have ht := tr_of h
  obtain ⟨hl, hf⟩ := tr_array Try.underlying43 ht
  have c43 : Try.prog.cellsOf 43 = 8 := by kernel_rfl
  have c3 : Try.prog.cellsOf 3 = 1 := by kernel_rfl
  rw [c43] at hl
  simp only [c3] at hf
  have hcs : (Value.agg cs).cells.toList = cs.toList := rfl
  rw [hcs] at hl hf
  obtain ⟨l⟩ := cs
  simp only at hl hf
  match l, hl with
  | [x0, x1, x2, x3, x4, x5, x6, x7], _ =>
    obtain ⟨b0, e0, -⟩ := tr_int Try.underlying3 (hf 0 (by omega))
    obtain ⟨b1, e1, -⟩ := tr_int Try.underlying3 (hf 1 (by omega))
    obtain ⟨b2, e2, -⟩ := tr_int Try.underlying3 (hf 2 (by omega))
    obtain ⟨b3, e3, -⟩ := tr_int Try.underlying3 (hf 3 (by omega))
    obtain ⟨b4, e4, -⟩ := tr_int Try.underlying3 (hf 4 (by omega))
    obtain ⟨b5, e5, -⟩ := tr_int Try.underlying3 (hf 5 (by omega))
    obtain ⟨b6, e6, -⟩ := tr_int Try.underlying3 (hf 6 (by omega))
    obtain ⟨b7, e7, -⟩ := tr_int Try.underlying3 (hf 7 (by omega))
    simp at e0 e1 e2 e3 e4 e5 e6 e7
    subst e0 e1 e2 e3 e4 e5 e6 e7
    exact ⟨_, _, _, _, _, _, _, _, rfl⟩

def RAct.cells (a : RAct) : List Value := [.int .i64 a.kind, .int .i64 a.cls, .int .i64 a.id]

set_option maxRecDepth 100000 in
theorem open_racts {H : Type} {enc : TypeId × Value → H} {base : Nat} {v : Value} {d : DataW H} {p : List MemPlace} {W : World}
    (o : Value.okWide Try.prog W .any base 44 v) (h : DataW.Trod enc Try.prog W 0 (fun _ => true) true 44 v d p) :
    ∃ acts A c, v = .slice A acts.length c ∧ acts.length ≤ 9223372036854775807 ∧ RActs W A acts c := by
  obtain ⟨a0, len0, cap0, rfl⟩ := okWide_slice Try.underlying44 o
  obtain ⟨l, hr, ⟨A, c, hv⟩, hm, hel⟩ := tr_slice (sz := 3) Try.underlying44 (by kernel_rfl) (by omega) (tr_of h)
  have hact : ∀ cs ∈ l, ∃ a : RAct, cs = a.cells := by
    intro cs hcs
    obtain ⟨hl, hf⟩ := tr_struct Try.underlying50 (hel cs hcs)
    have hl3 : cs.length = 3 := hl.trans (by kernel_rfl)
    match cs, hl3 with
    | [x, y, z], _ =>
      have c3 : Try.prog.cellsOf 3 = 1 := by kernel_rfl
      have f0 : Tr enc Try.prog W 3 ([x, y, z].take (Try.prog.cellsOf 3)) := hf 0 _ rfl
      have f1 : Tr enc Try.prog W 3 ([y, z].take (Try.prog.cellsOf 3)) := hf 1 _ rfl
      have f2 : Tr enc Try.prog W 3 ([z].take (Try.prog.cellsOf 3)) := hf 2 _ rfl
      rw [c3] at f0 f1 f2
      obtain ⟨k, e0, -⟩ := tr_int Try.underlying3 f0
      obtain ⟨i, e1, -⟩ := tr_int Try.underlying3 f1
      obtain ⟨q, e2, -⟩ := tr_int Try.underlying3 f2
      simp at e0 e1 e2
      subst e0 e1 e2
      exact ⟨⟨k, i, q⟩, rfl⟩
  obtain ⟨acts, hl, hp⟩ := list_of_each (n := l.length) (p := fun i a => l[i]? = some (RAct.cells a)) (fun i hi => by
    obtain ⟨a, h1⟩ := hact l[i] (List.getElem_mem hi)
    exact ⟨a, by rw [List.getElem?_eq_getElem hi, h1]⟩)
  injection hv with e1 e2 e3
  subst e1 e2 e3
  refine ⟨acts, a0, cap0, by rw [hl], by omega, ?_⟩
  rcases hr with ⟨h1, -⟩ | ⟨b, o', c', h1, h2, h3⟩
  · exact .inl (List.eq_nil_of_length_eq_zero (by rw [hl, h1]; rfl))
  · injection h1 with e1 e2 e3
    subst e3
    refine .inr ⟨b, o', e1, by omega, fun j a hj => ?_⟩
    have := (h3 j _ (hp j a hj)).2
    exact ⟨by simpa using this 0 _ rfl, this 1 _ rfl, this 2 _ rfl⟩

end Go.Proofs.Ytpgmkekdgchkfaa
