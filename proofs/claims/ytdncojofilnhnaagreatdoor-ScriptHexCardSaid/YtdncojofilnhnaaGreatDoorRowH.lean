/- The row of ScriptHex lists one variable more. -/
import Derived.Test.YtdncojofilnhnaaGreatDoorRow0
namespace Go.Proofs.YtdncojofilnhnaaGreatDoor
open Go.ChangeShapes Go.WideShapes Go.ChangeAt Go.RowKit Go.Lib

/-- The listed variables, the handle left out. -/
def plainListH : List (String × DataW Unit) := [("math/bits.deBruijn32tab", Rows.laid_math_bits_deBruijn32tab), ("math/bits.deBruijn64tab", Rows.laid_math_bits_deBruijn64tab), ("internal/strconv.uint64pow10", Rows.laid_internal_strconv_uint64pow10), ("unicode/utf8.acceptRanges", Rows.laid_unicode_utf8_acceptRanges), ("strconv.ErrRange", Rows.laid_strconv_ErrRange), ("strconv.ErrSyntax", Rows.laid_strconv_ErrSyntax), ("unicode.CaseRanges", Rows.laid_unicode_CaseRanges), ("unicode/utf8.first", Rows.laid_unicode_utf8_first)]

/-- A world that holds what is listed. -/
noncomputable def laidWorldH0 (os : Os) : World :=
  let w0 := World.holding Tryz.prog os ⟨#[], #[], []⟩
  { w0 with heap := w0.heap.modify 0 fun
      | .cells _ t frozen => .cells #[.iface 144 (.agg #[.pointer (some ⟨10, 29, none⟩)])] t frozen
      | o => o }
noncomputable def laidWorldH (os : Os) : World := (laidWorldH0 os).layVars Tryz.prog plainListH

theorem laidWorldH_os (os : Os) : (laidWorldH os).os = os := World.layVars_os _ _ _

set_option maxRecDepth 100000 in
theorem laidWorldH_plain (os : Os) (args : Array Value) : laidMet Tryz.prog plainListH ((laidWorldH os).forCall (fun _ _ => 0) ⟨#[], args, []⟩).memory := by
  have e1 : (plainListH.filter fun x => (plainListH.map (·.1)).contains x.1) = plainListH := List.filter_eq_self.2 fun x hx => List.contains_iff_mem.2 (List.mem_map.2 ⟨x, hx, rfl⟩)
  have e2 : (plainListH.filter fun x => !(plainListH.map (·.1)).contains x.1) = [] := List.filter_eq_nil_iff.2 fun x hx => by rw [List.contains_iff_mem.2 (List.mem_map.2 ⟨x, hx, rfl⟩)]; simp
  have h : laidMet Tryz.prog plainListH (laidWorldH os) := laidMet_layVars (w0 := laidWorldH0 os) (plainListH.map (·.1)) [] (by rw [e1]; rfl) (by rw [e1]; kernel_rfl) (by rw [e1]; kernel_rfl) (by rw [e2]; exact LaidIn.none)
  exact h.of_heap (by simp [World.memory, World.forCall, Input.heap])

set_option maxRecDepth 100000 in
theorem laidWorldH_shaped (os : Os) (args : Array Value) : ((laidWorldH os).forCall (fun _ _ => 0) ⟨#[], args, []⟩).Shaped Tryz.prog :=
  World.shaped_of_ZipB (by kernel_rfl) (by kernel_rfl)

set_option maxRecDepth 100000 in
/-- What the condition and the world's shape give the walks. -/
theorem gl_ofH {W : World} (h : laidMet Tryz.prog plainListH W) (hh : handlesMet Tryz.prog [("errors.errorType", Rows.laid_errors_errorType)] W) (hs : W.ShapedOpen Tryz.prog) (hb : 10 ≤ W.heap.size) : Gl W := by
  refine ⟨?_, ?_, ?_, ?_, ?_, hb⟩
  · obtain ⟨name, u, ty, e1, e2, e3, e4, e5⟩ := hh _ (List.mem_singleton.2 rfl)
    have en : name = [101, 114, 114, 111, 114] := (Option.some.inj e1).symm
    subst en
    obtain rfl := Option.some.inj (rtype_at.symm.trans e2)
    have hm : ty ∈ (List.range 248).filter fun t => Tryz.prog.rowNamed t [101, 114, 114, 111, 114] := List.mem_filter.2 ⟨List.mem_range.2 (by rw [← types_size]; exact e3), e4⟩
    rw [oneRow] at hm
    obtain rfl := List.mem_singleton.1 hm
    have hh : typeHandle Tryz.prog 29 = .pointer (some ⟨10, 29, none⟩) := by kernel_rfl
    rw [hh] at e5
    simpa using World.var?_cell et_at e5 0
  · exact cell_of_shapedOpen_int hs (by rw [globals_size]; decide) ml_shape rfl (by kernel_rfl) (by kernel_rfl) Tryz.underlying3
  · obtain ⟨a0, s0, hv0, -⟩ := laid_sentinel h.tail.tail.tail.tail.tail es_at (by kernel_rfl) Tryz.underlying29 row112 Tryz.underlying112 Tryz.underlying114 rfl rfl Tryz.underlying9 (by kernel_rfl) (by kernel_rfl)
    exact ⟨_, _, by simpa using World.var?_cell es_at hv0 0⟩
  · obtain ⟨a0, s0, hv0, -⟩ := laid_sentinel h.tail.tail.tail.tail er_at (by kernel_rfl) Tryz.underlying29 row112 Tryz.underlying112 Tryz.underlying114 rfl rfl Tryz.underlying9 (by kernel_rfl) (by kernel_rfl)
    exact ⟨_, _, by simpa using World.var?_cell er_at hv0 0⟩
  · exact tabIs_of_head (rest := _) (n := 20) pow_at (by kernel_rfl) Tryz.underlying197 Tryz.underlying122 (by kernel_rfl) (by kernel_rfl) (show laidMet Tryz.prog (("internal/strconv.uint64pow10", tabData .u64 pow10Tab) :: _) W from h.tail.tail)

end Go.Proofs.YtdncojofilnhnaaGreatDoor
