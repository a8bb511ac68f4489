/- What is known of the arguments of the laws of commands. -/
import Derived.Test.YtdncojofilnhnaaGreatDoorArg
import Derived.Test.YtdncojofilnhnaaGreatDoorCmd2
import Derived.Test.YtdncojofilnhnaaGreatDoorRow0
namespace Go.Proofs.YtdncojofilnhnaaGreatDoor
open Go.ChangeShapes Go.WideShapes Go.ChangeAt Go.RowKit Go.Lib

theorem nine_shape : (((begin Tryz.prog (fun _ _ => 0) default).world.heap[9]?).bind Obj.row?).isSome = true := by kernel_rfl

theorem big_of {W : World} (hs : W.ShapedOpen Tryz.prog) : 10 ≤ W.heap.size := by
  obtain ⟨⟨z, t⟩, hz⟩ := Option.isSome_iff_exists.1 nine_shape
  obtain ⟨cs, hh, -⟩ := hs.1 9 z t (by rw [globals_size]; decide) hz
  rcases Nat.lt_or_ge 9 W.heap.size with h | h
  · omega
  · simp [Array.getElem?_eq_none h] at hh

set_option maxRecDepth 100000 in
theorem tr_i64s {H : Type} {enc : TypeId × Value → H} {v : Value} {W : World} (h : Tr enc Tryz.prog W 24 [v]) :
    ∃ A c, ∃ l : List Int, v = .slice A l.length c ∧ l.length ≤ 9223372036854775807 ∧ (∀ a ∈ l, -9223372036854775808 ≤ a ∧ a ≤ 9223372036854775807) ∧ SlR W (.slice A l.length c) (icells l) := by
  obtain ⟨l, hr, ⟨A, c, hv⟩, hm, hel⟩ := tr_slice (sz := 1) Tryz.underlying24 (by kernel_rfl) (by omega) h
  obtain ⟨ids, hl, hp⟩ := list_of_each (n := l.length) (p := fun i x => l[i]? = some [Value.int .i64 x] ∧ (Lit.int .i64 x).wf = true) (fun i hi => by
    obtain ⟨x, h1, h2⟩ := tr_int Tryz.underlying2 (hel l[i] (List.getElem_mem hi))
    exact ⟨x, by rw [List.getElem?_eq_getElem hi, h1], h2⟩)
  refine ⟨A, c, ids, by rw [hl]; exact hv, by omega, fun a ha => ?_, ?_⟩
  · obtain ⟨i, hi⟩ := List.getElem?_of_mem ha
    exact bounds_i64 (hp i a hi).2
  · rcases hr with ⟨h1, -⟩ | ⟨b, o', c', h1, h2, h3⟩
    · have : ids = [] := List.eq_nil_of_length_eq_zero (by rw [hl, h1]; rfl)
      subst this
      exact SlR.empty _ _ _
    · rw [hv] at h1
      injection h1 with e1 e2 e3
      subst e1 e3
      refine .inr ⟨⟨b, o', none⟩, c, by simp [icells, hl], by simp [icells]; omega, fun j u hj => ?_⟩
      simp only [icells, List.getElem?_map, Option.map_eq_some_iff] at hj
      obtain ⟨x, hx, rfl⟩ := hj
      have := (h3 j _ (hp j x hx).1).2 0 _ rfl
      rw [Addr.add_lit]
      simpa using this

set_option maxRecDepth 100000 in
theorem open_i64s {H : Type} {enc : TypeId × Value → H} {base : Nat} {v : Value} {d : DataW H} {p : List MemPlace} {W : World}
    (o : Value.okWide Tryz.prog W .any base 24 v) (h : DataW.Trod enc Tryz.prog W 0 (fun _ => true) true 24 v d p) :
    ∃ A c, ∃ l : List Int, v = .slice A l.length c ∧ l.length ≤ 9223372036854775807 ∧ (∀ a ∈ l, -9223372036854775808 ≤ a ∧ a ≤ 9223372036854775807) ∧ SlR W (.slice A l.length c) (icells l) := by
  obtain ⟨a0, len0, cap0, rfl⟩ := okWide_slice Tryz.underlying24 o
  exact tr_i64s (tr_of h)

end Go.Proofs.YtdncojofilnhnaaGreatDoor
