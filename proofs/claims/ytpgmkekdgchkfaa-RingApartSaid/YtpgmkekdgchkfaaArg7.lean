/- What is known of a row of numbers that came in. -/
import Derived.Test.YtpgmkekdgchkfaaArg
import Derived.Test.YtpgmkekdgchkfaaApartLaw
namespace Go.Proofs.Ytpgmkekdgchkfaa
open Go.ChangeShapes Go.WideShapes Go.ChangeAt Go.RowKit

set_option maxRecDepth 100000 in
theorem open_ids {H : Type} {enc : TypeId × Value → H} {base : Nat} {v : Value} {d : DataW H} {p : List MemPlace} {W : World}
    (o : Value.okWide Try.prog W .any base 47 v) (h : DataW.Trod enc Try.prog W 0 (fun _ => true) true 47 v d p) :
    ∃ A c ids, v = .slice A ids.length c ∧ ids.length ≤ 9223372036854775807 ∧ IntsR W A ids c := by
  obtain ⟨a0, len0, cap0, rfl⟩ := okWide_slice Try.underlying47 o
  obtain ⟨l, hr, ⟨A, c, hv⟩, hm, hel⟩ := tr_slice (sz := 1) Try.underlying47 (by kernel_rfl) (by omega) (tr_of h)
  obtain ⟨ids, hl, hp⟩ := list_of_each (n := l.length) (p := fun i x => l[i]? = some [Value.int .i64 x]) (fun i hi => by
    obtain ⟨x, h1, -⟩ := tr_int Try.underlying3 (hel l[i] (List.getElem_mem hi))
    exact ⟨x, by rw [List.getElem?_eq_getElem hi, h1]⟩)
  injection hv with e1 e2 e3
  subst e1 e2 e3
  refine ⟨a0, cap0, ids, by rw [hl], by omega, ?_⟩
  rcases hr with ⟨h1, -⟩ | ⟨b, o', c', h1, h2, h3⟩
  · exact .inl (List.eq_nil_of_length_eq_zero (by rw [hl, h1]; rfl))
  · injection h1 with e1 e2 e3
    subst e3
    refine .inr ⟨b, o', e1, by omega, fun j x hj => ?_⟩
    have := (h3 j _ (hp j x hj)).2 0 _ rfl
    simpa using this

end Go.Proofs.Ytpgmkekdgchkfaa
