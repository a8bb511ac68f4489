/- What is known of an act that came in. -/
import Derived.Test.YtdncojofilnhnaaGreatDoorArg26
import Derived.Test.YtdncojofilnhnaaGreatDoorPut
namespace Go.Proofs.YtdncojofilnhnaaGreatDoor
open Go.ChangeShapes Go.WideShapes Go.ChangeAt Go.RowKit Go.Lib

set_option maxRecDepth 100000 in
theorem tr_act {H : Type} {enc : TypeId × Value → H} {cs : List Value} {W : World} (h : Tr enc Tryz.prog W 73 cs) :
    ∃ (kind port nanos ck q0 q1 q2 q3 q4 q5 : Int) (bytes : Str) (args : List Int) (A0 A1 : Option Addr) (c0 c1 : Nat), cs = [.int .i64 kind, .int .i64 port, .slice A0 bytes.length c0, .int .i64 nanos, .int .i64 ck, .int .u8 q0, .int .u8 q1, .int .u8 q2, .int .u8 q3, .int .u8 q4, .int .u8 q5, .slice A1 args.length c1] ∧
      AcIs ⟨kind, port, bytes, nanos, ⟨ck, [q0, q1, q2, q3, q4, q5], args⟩⟩ ∧ (-9223372036854775808 ≤ kind ∧ kind ≤ 9223372036854775807) ∧ (-9223372036854775808 ≤ ck ∧ ck ≤ 9223372036854775807) ∧ bytes.length ≤ 9223372036854775807 ∧ args.length ≤ 9223372036854775807 ∧ SlR W (.slice A0 bytes.length c0) (bcells bytes) ∧ SlR W (.slice A1 args.length c1) (icells args) := by
  obtain ⟨hl, hf⟩ := tr_struct Tryz.underlying73 h
  have hl12 : cs.length = 12 := hl.trans (by kernel_rfl)
  match cs, hl12 with
  | [x0, x1, x2, x3, x4, x5, x6, x7, x8, x9, x10, x11], _ =>
    have c3 : Tryz.prog.cellsOf 3 = 1 := by kernel_rfl
    have c2 : Tryz.prog.cellsOf 2 = 1 := by kernel_rfl
    have c71 : Tryz.prog.cellsOf 71 = 1 := by kernel_rfl
    have c26 : Tryz.prog.cellsOf 26 = 8 := by kernel_rfl
    have f0 : Tr enc Tryz.prog W 3 ([x0, x1, x2, x3, x4, x5, x6, x7, x8, x9, x10, x11].take (Tryz.prog.cellsOf 3)) := hf 0 _ rfl
    have f1 : Tr enc Tryz.prog W 3 ([x1, x2, x3, x4, x5, x6, x7, x8, x9, x10, x11].take (Tryz.prog.cellsOf 3)) := hf 1 _ rfl
    have f2 : Tr enc Tryz.prog W 71 ([x2, x3, x4, x5, x6, x7, x8, x9, x10, x11].take (Tryz.prog.cellsOf 71)) := hf 2 _ rfl
    have f3 : Tr enc Tryz.prog W 2 ([x3, x4, x5, x6, x7, x8, x9, x10, x11].take (Tryz.prog.cellsOf 2)) := hf 3 _ rfl
    have f4 : Tr enc Tryz.prog W 26 ([x4, x5, x6, x7, x8, x9, x10, x11].take (Tryz.prog.cellsOf 26)) := hf 4 _ rfl
    rw [c3] at f0 f1
    rw [c71] at f2
    rw [c2] at f3
    rw [c26] at f4
    obtain ⟨kind, e0, w0⟩ := tr_int Tryz.underlying3 f0
    obtain ⟨port, e1, w1⟩ := tr_int Tryz.underlying3 f1
    have f2' : Tr enc Tryz.prog W 71 [x2] := f2
    obtain ⟨A0, n0, c0, bytes, e2, hn0, hm0, hs0⟩ := tr_bytes Tryz.underlying71 Tryz.underlying5 (by kernel_rfl) f2'
    obtain ⟨nanos, e3, w3⟩ := tr_int Tryz.underlying2 f3
    have f4' : Tr enc Tryz.prog W 26 [x4, x5, x6, x7, x8, x9, x10, x11] := f4
    obtain ⟨ck, q0, q1, q2, q3, q4, q5, A1, c1, args, e4, hck, hm, hl1, ha1, hs1⟩ := tr_cmd f4'
    simp at e0 e1 e3 e4
    obtain ⟨g4, g5, g6, g7, g8, g9, g10, g11⟩ := e4
    subst hn0 e0 e1 e3 g4 g5 g6 g7 g8 g9 g10 g11
    subst e2
    exact ⟨kind, port, nanos, ck, q0, q1, q2, q3, q4, q5, bytes, args, A0, A1, c0, c1, rfl, ⟨bounds_i64 w1, bounds_i64 w3, hm, ha1⟩, bounds_i64 w0, hck, hm0, hl1, hs0, hs1⟩

set_option maxRecDepth 100000 in
theorem open_act {H : Type} {enc : TypeId × Value → H} {base : Nat} {v : Value} {d : DataW H} {p : List MemPlace} {W : World}
    (o : Value.okWide Tryz.prog W .any base 73 v) (h : DataW.Trod enc Tryz.prog W 0 (fun _ => true) true 73 v d p) :
    ∃ (kind port nanos ck q0 q1 q2 q3 q4 q5 : Int) (bytes : Str) (args : List Int) (A0 A1 : Option Addr) (c0 c1 : Nat), v = .agg #[.int .i64 kind, .int .i64 port, .slice A0 bytes.length c0, .int .i64 nanos, .int .i64 ck, .int .u8 q0, .int .u8 q1, .int .u8 q2, .int .u8 q3, .int .u8 q4, .int .u8 q5, .slice A1 args.length c1] ∧
      AcIs ⟨kind, port, bytes, nanos, ⟨ck, [q0, q1, q2, q3, q4, q5], args⟩⟩ ∧ (-9223372036854775808 ≤ kind ∧ kind ≤ 9223372036854775807) ∧ (-9223372036854775808 ≤ ck ∧ ck ≤ 9223372036854775807) ∧ bytes.length ≤ 9223372036854775807 ∧ args.length ≤ 9223372036854775807 ∧ SlR W (.slice A0 bytes.length c0) (bcells bytes) ∧ SlR W (.slice A1 args.length c1) (icells args) := by
  obtain ⟨cs, rfl, -⟩ := okWide_cmd Tryz.underlying73 o
  obtain ⟨cs⟩ := cs
  obtain ⟨kind, port, nanos, ck, q0, q1, q2, q3, q4, q5, bytes, args, A0, A1, c0, c1, e, r⟩ := tr_act (tr_of h)
  have e' : cs = [.int .i64 kind, .int .i64 port, .slice A0 bytes.length c0, .int .i64 nanos, .int .i64 ck, .int .u8 q0, .int .u8 q1, .int .u8 q2, .int .u8 q3, .int .u8 q4, .int .u8 q5, .slice A1 args.length c1] := e
  exact ⟨kind, port, nanos, ck, q0, q1, q2, q3, q4, q5, bytes, args, A0, A1, c0, c1, by rw [e'], r⟩
end Go.Proofs.YtdncojofilnhnaaGreatDoor
