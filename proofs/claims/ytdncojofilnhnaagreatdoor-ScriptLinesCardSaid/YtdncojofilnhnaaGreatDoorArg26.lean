/- What is known of a command that came in. -/
import Derived.Test.YtdncojofilnhnaaGreatDoorArg22
namespace Go.Proofs.YtdncojofilnhnaaGreatDoor
open Go.ChangeShapes Go.WideShapes Go.ChangeAt Go.RowKit Go.Lib

set_option maxRecDepth 100000 in
theorem tr_cmd {H : Type} {enc : TypeId × Value → H} {cs : List Value} {W : World} (h : Tr enc Tryz.prog W 26 cs) :
    ∃ kind q0 q1 q2 q3 q4 q5 : Int, ∃ A c, ∃ l : List Int, cs = [.int .i64 kind, .int .u8 q0, .int .u8 q1, .int .u8 q2, .int .u8 q3, .int .u8 q4, .int .u8 q5, .slice A l.length c] ∧
      (-9223372036854775808 ≤ kind ∧ kind ≤ 9223372036854775807) ∧ MacIs [q0, q1, q2, q3, q4, q5] ∧ l.length ≤ 9223372036854775807 ∧ (∀ a ∈ l, -9223372036854775808 ≤ a ∧ a ≤ 9223372036854775807) ∧ SlR W (.slice A l.length c) (icells l) := by
  obtain ⟨hl, hf⟩ := tr_struct Tryz.underlying26 h
  have hl8 : cs.length = 8 := hl.trans (by kernel_rfl)
  match cs, hl8 with
  | [x0, x1, x2, x3, x4, x5, x6, x7], _ =>
    have c3 : Tryz.prog.cellsOf 3 = 1 := by kernel_rfl
    have c5 : Tryz.prog.cellsOf 5 = 1 := by kernel_rfl
    have c23 : Tryz.prog.cellsOf 23 = 6 := by kernel_rfl
    have c24 : Tryz.prog.cellsOf 24 = 1 := by kernel_rfl
    have f0 : Tr enc Tryz.prog W 3 ([x0, x1, x2, x3, x4, x5, x6, x7].take (Tryz.prog.cellsOf 3)) := hf 0 _ rfl
    have f1 : Tr enc Tryz.prog W 23 ([x1, x2, x3, x4, x5, x6, x7].take (Tryz.prog.cellsOf 23)) := hf 1 _ rfl
    have f2 : Tr enc Tryz.prog W 24 ([x7].take (Tryz.prog.cellsOf 24)) := hf 2 _ rfl
    rw [c3] at f0
    rw [c23] at f1
    rw [c24] at f2
    obtain ⟨kind, e0, w0⟩ := tr_int Tryz.underlying3 f0
    have f1' : Tr enc Tryz.prog W 23 [x1, x2, x3, x4, x5, x6] := f1
    obtain ⟨-, hg⟩ := tr_array Tryz.underlying23 f1'
    rw [c5] at hg
    obtain ⟨q0, g0, v0⟩ := tr_int Tryz.underlying5 (hg 0 (by omega))
    obtain ⟨q1, g1, v1⟩ := tr_int Tryz.underlying5 (hg 1 (by omega))
    obtain ⟨q2, g2, v2⟩ := tr_int Tryz.underlying5 (hg 2 (by omega))
    obtain ⟨q3, g3, v3⟩ := tr_int Tryz.underlying5 (hg 3 (by omega))
    obtain ⟨q4, g4, v4⟩ := tr_int Tryz.underlying5 (hg 4 (by omega))
    obtain ⟨q5, g5, v5⟩ := tr_int Tryz.underlying5 (hg 5 (by omega))
    have f2' : Tr enc Tryz.prog W 24 [x7] := f2
    obtain ⟨A, c, l, e7, hl7, ha, hs⟩ := tr_i64s f2'
    simp at e0 g0 g1 g2 g3 g4 g5
    subst e0 g0 g1 g2 g3 g4 g5 e7
    have b0 := bounds_u8 v0
    have b1 := bounds_u8 v1
    have b2 := bounds_u8 v2
    have b3 := bounds_u8 v3
    have b4 := bounds_u8 v4
    have b5 := bounds_u8 v5
    refine ⟨kind, q0, q1, q2, q3, q4, q5, A, c, l, rfl, bounds_i64 w0, ⟨rfl, ?_⟩, hl7, ha, hs⟩
    intro x hx
    simp at hx
    rcases hx with rfl | rfl | rfl | rfl | rfl | rfl <;> omega

set_option maxRecDepth 100000 in
theorem okWide_cmd {P : Program} {w : World} {r : Reach} {base : Nat} {T : TypeId} {fs : Array Field} {v : Value} (ht : P.underlying T = some (.struct fs)) (h : Value.okWide P w r base T v) : ∃ cs, v = .agg cs ∧ cs.size = P.cellsOf T := by
  unfold Value.okWide at h
  simp only [ht] at h
  obtain ⟨cs, h1, h2, -⟩ := h
  exact ⟨cs, h1, h2⟩

set_option maxRecDepth 100000 in
theorem open_cmd {H : Type} {enc : TypeId × Value → H} {base : Nat} {v : Value} {d : DataW H} {p : List MemPlace} {W : World}
    (o : Value.okWide Tryz.prog W .any base 26 v) (h : DataW.Trod enc Tryz.prog W 0 (fun _ => true) true 26 v d p) :
    ∃ kind q0 q1 q2 q3 q4 q5 : Int, ∃ A c, ∃ l : List Int, v = .agg #[.int .i64 kind, .int .u8 q0, .int .u8 q1, .int .u8 q2, .int .u8 q3, .int .u8 q4, .int .u8 q5, .slice A l.length c] ∧
      (-9223372036854775808 ≤ kind ∧ kind ≤ 9223372036854775807) ∧ MacIs [q0, q1, q2, q3, q4, q5] ∧ l.length ≤ 9223372036854775807 ∧ (∀ a ∈ l, -9223372036854775808 ≤ a ∧ a ≤ 9223372036854775807) ∧ SlR W (.slice A l.length c) (icells l) := by
  obtain ⟨cs, rfl, -⟩ := okWide_cmd Tryz.underlying26 o
  obtain ⟨cs⟩ := cs
  obtain ⟨kind, q0, q1, q2, q3, q4, q5, A, c, l, e, r⟩ := tr_cmd (tr_of h)
  refine ⟨kind, q0, q1, q2, q3, q4, q5, A, c, l, ?_, r⟩
  have e' : cs = [.int .i64 kind, .int .u8 q0, .int .u8 q1, .int .u8 q2, .int .u8 q3, .int .u8 q4, .int .u8 q5, .slice A l.length c] := e
  rw [e']
end Go.Proofs.YtdncojofilnhnaaGreatDoor
