/- What is known of the arguments of the laws of commands. What is known of a command that came in. What is known of an act that came in. What is known of a script that came in. -/
import Derived.Test.YtdncojofilnhnaaGreatDoorArg
import Derived.Test.YtdncojofilnhnaaGreatDoorCmd2
import Derived.Test.YtdncojofilnhnaaGreatDoorRow0
import Derived.Test.YtdncojofilnhnaaGreatDoorPut
import Derived.Test.YtdncojofilnhnaaGreatDoorTxA
namespace Go.Proofs.YtdncojofilnhnaaGreatDoor

section
open Go.ChangeShapes Go.WideShapes Go.ChangeAt Go.RowKit Go.Lib

theorem nine_shape : (((begin Tryz.prog (fun _ _ => 0) default).world.heap[9]?).bind Obj.row?).isSome = true := by kernel_rfl

theorem big_of {W : World} (hs : W.ShapedOpen Tryz.prog) : 10 ≤ W.heap.size := by
  obtain ⟨⟨z, t⟩, hz⟩ := Option.isSome_iff_exists.1 nine_shape
  obtain ⟨cs, hh, -⟩ := hs.1 9 z t (by rw [globals_size]; decide) hz
  rcases Nat.lt_or_ge 9 W.heap.size with h | h
  · omega
  · simp [Array.getElem?_eq_none h] at hh

set_option maxRecDepth 100000 in
theorem tr_i64s {H : Type} {enc : TypeId × Value → H} {v : Value} {W : World} (h : Tr enc Tryz.prog W 24 [v]) :
    ∃ A c, ∃ l : List Int, v = .slice A l.length c ∧ l.length ≤ 9223372036854775807 ∧ (∀ a ∈ l, -9223372036854775808 ≤ a ∧ a ≤ 9223372036854775807) ∧ SlR W (.slice A l.length c) (icells l) := by
  obtain ⟨l, hr, ⟨A, c, hv⟩, hm, hel⟩ := tr_slice (sz := 1) Tryz.underlying24 (by kernel_rfl) (by omega) h
  obtain ⟨ids, hl, hp⟩ := list_of_each (n := l.length) (p := fun i x => l[i]? = some [Value.int .i64 x] ∧ (Lit.int .i64 x).wf = true) (fun i hi => by
    obtain ⟨x, h1, h2⟩ := tr_int Tryz.underlying2 (hel l[i] (List.getElem_mem hi))
    exact ⟨x, by rw [List.getElem?_eq_getElem hi, h1], h2⟩)
  refine ⟨A, c, ids, by rw [hl]; exact hv, by omega, fun a ha => ?_, ?_⟩
  · obtain ⟨i, hi⟩ := List.getElem?_of_mem ha
    exact bounds_i64 (hp i a hi).2
  · rcases hr with ⟨h1, -⟩ | ⟨b, o', c', h1, h2, h3⟩
    · have : ids = [] := List.eq_nil_of_length_eq_zero (by rw [hl, h1]; rfl)
      subst this
      exact SlR.empty _ _ _
    · rw [hv] at h1
      injection h1 with e1 e2 e3
      subst e1 e3
      refine .inr ⟨⟨b, o', none⟩, c, by simp [icells, hl], by simp [icells]; omega, fun j u hj => ?_⟩
      simp only [icells, List.getElem?_map, Option.map_eq_some_iff] at hj
      obtain ⟨x, hx, rfl⟩ := hj
      have := (h3 j _ (hp j x hx).1).2 0 _ rfl
      rw [Addr.add_lit]
      simpa using this

set_option maxRecDepth 100000 in
theorem open_i64s {H : Type} {enc : TypeId × Value → H} {base : Nat} {v : Value} {d : DataW H} {p : List MemPlace} {W : World}
    (o : Value.okWide Tryz.prog W .any base 24 v) (h : DataW.Trod enc Tryz.prog W 0 (fun _ => true) true 24 v d p) :
    ∃ A c, ∃ l : List Int, v = .slice A l.length c ∧ l.length ≤ 9223372036854775807 ∧ (∀ a ∈ l, -9223372036854775808 ≤ a ∧ a ≤ 9223372036854775807) ∧ SlR W (.slice A l.length c) (icells l) := by
  obtain ⟨a0, len0, cap0, rfl⟩ := okWide_slice Tryz.underlying24 o
  exact tr_i64s (tr_of h)
end

section
open Go.ChangeShapes Go.WideShapes Go.ChangeAt Go.RowKit Go.Lib

set_option maxRecDepth 100000 in
theorem tr_cmd {H : Type} {enc : TypeId × Value → H} {cs : List Value} {W : World} (h : Tr enc Tryz.prog W 26 cs) :
    ∃ kind q0 q1 q2 q3 q4 q5 : Int, ∃ A c, ∃ l : List Int, cs = [.int .i64 kind, .int .u8 q0, .int .u8 q1, .int .u8 q2, .int .u8 q3, .int .u8 q4, .int .u8 q5, .slice A l.length c] ∧
      (-9223372036854775808 ≤ kind ∧ kind ≤ 9223372036854775807) ∧ MacIs [q0, q1, q2, q3, q4, q5] ∧ l.length ≤ 9223372036854775807 ∧ (∀ a ∈ l, -9223372036854775808 ≤ a ∧ a ≤ 9223372036854775807) ∧ SlR W (.slice A l.length c) (icells l) := by
  obtain ⟨hl, hf⟩ := tr_struct Tryz.underlying26 h
  have hl8 : cs.length = 8 := hl.trans (by kernel_rfl)
  match cs, hl8 with
  | [x0, x1, x2, x3, x4, x5, x6, x7], _ =>
    have c3 : Tryz.prog.cellsOf 3 = 1 := by kernel_rfl
    have c5 : Tryz.prog.cellsOf 5 = 1 := by kernel_rfl
    have c23 : Tryz.prog.cellsOf 23 = 6 := by kernel_rfl
    have c24 : Tryz.prog.cellsOf 24 = 1 := by kernel_rfl
    have f0 : Tr enc Tryz.prog W 3 ([x0, x1, x2, x3, x4, x5, x6, x7].take (Tryz.prog.cellsOf 3)) := hf 0 _ rfl
    have f1 : Tr enc Tryz.prog W 23 ([x1, x2, x3, x4, x5, x6, x7].take (Tryz.prog.cellsOf 23)) := hf 1 _ rfl
    have f2 : Tr enc Tryz.prog W 24 ([x7].take (Tryz.prog.cellsOf 24)) := hf 2 _ rfl
    rw [c3] at f0
    rw [c23] at f1
    rw [c24] at f2
    obtain ⟨kind, e0, w0⟩ := tr_int Tryz.underlying3 f0
    have f1' : Tr enc Tryz.prog W 23 [x1, x2, x3, x4, x5, x6] := f1
    obtain ⟨-, hg⟩ := tr_array Tryz.underlying23 f1'
    rw [c5] at hg
    obtain ⟨q0, g0, v0⟩ := tr_int Tryz.underlying5 (hg 0 (by omega))
    obtain ⟨q1, g1, v1⟩ := tr_int Tryz.underlying5 (hg 1 (by omega))
    obtain ⟨q2, g2, v2⟩ := tr_int Tryz.underlying5 (hg 2 (by omega))
    obtain ⟨q3, g3, v3⟩ := tr_int Tryz.underlying5 (hg 3 (by omega))
    obtain ⟨q4, g4, v4⟩ := tr_int Tryz.underlying5 (hg 4 (by omega))
    obtain ⟨q5, g5, v5⟩ := tr_int Tryz.underlying5 (hg 5 (by omega))
    have f2' : Tr enc Tryz.prog W 24 [x7] := f2
    obtain ⟨A, c, l, e7, hl7, ha, hs⟩ := tr_i64s f2'
    simp at e0 g0 g1 g2 g3 g4 g5
    subst e0 g0 g1 g2 g3 g4 g5 e7
    have b0 := bounds_u8 v0
    have b1 := bounds_u8 v1
    have b2 := bounds_u8 v2
    have b3 := bounds_u8 v3
    have b4 := bounds_u8 v4
    have b5 := bounds_u8 v5
    refine ⟨kind, q0, q1, q2, q3, q4, q5, A, c, l, rfl, bounds_i64 w0, ⟨rfl, ?_⟩, hl7, ha, hs⟩
    intro x hx
    simp at hx
    rcases hx with rfl | rfl | rfl | rfl | rfl | rfl <;> omega

set_option maxRecDepth 100000 in
theorem okWide_cmd {P : Program} {w : World} {r : Reach} {base : Nat} {T : TypeId} {fs : Array Field} {v : Value} (ht : P.underlying T = some (.struct fs)) (h : Value.okWide P w r base T v) : ∃ cs, v = .agg cs ∧ cs.size = P.cellsOf T := by
  unfold Value.okWide at h
  simp only [ht] at h
  obtain ⟨cs, h1, h2, -⟩ := h
  exact ⟨cs, h1, h2⟩

set_option maxRecDepth 100000 in
theorem open_cmd {H : Type} {enc : TypeId × Value → H} {base : Nat} {v : Value} {d : DataW H} {p : List MemPlace} {W : World}
    (o : Value.okWide Tryz.prog W .any base 26 v) (h : DataW.Trod enc Tryz.prog W 0 (fun _ => true) true 26 v d p) :
    ∃ kind q0 q1 q2 q3 q4 q5 : Int, ∃ A c, ∃ l : List Int, v = .agg #[.int .i64 kind, .int .u8 q0, .int .u8 q1, .int .u8 q2, .int .u8 q3, .int .u8 q4, .int .u8 q5, .slice A l.length c] ∧
      (-9223372036854775808 ≤ kind ∧ kind ≤ 9223372036854775807) ∧ MacIs [q0, q1, q2, q3, q4, q5] ∧ l.length ≤ 9223372036854775807 ∧ (∀ a ∈ l, -9223372036854775808 ≤ a ∧ a ≤ 9223372036854775807) ∧ SlR W (.slice A l.length c) (icells l) := by
  obtain ⟨cs, rfl, -⟩ := okWide_cmd Tryz.underlying26 o
  obtain ⟨cs⟩ := cs
  obtain ⟨kind, q0, q1, q2, q3, q4, q5, A, c, l, e, r⟩ := tr_cmd (tr_of h)
  refine ⟨kind, q0, q1, q2, q3, q4, q5, A, c, l, ?_, r⟩
  have e' : cs = [.int .i64 kind, .int .u8 q0, .int .u8 q1, .int .u8 q2, .int .u8 q3, .int .u8 q4, .int .u8 q5, .slice A l.length c] := e
  rw [e']
end

section
open Go.ChangeShapes Go.WideShapes Go.ChangeAt Go.RowKit Go.Lib

set_option maxRecDepth 100000 in
theorem tr_act {H : Type} {enc : TypeId × Value → H} {cs : List Value} {W : World} (h : Tr enc Tryz.prog W 73 cs) :
    ∃ (kind port nanos ck q0 q1 q2 q3 q4 q5 : Int) (bytes : Str) (args : List Int) (A0 A1 : Option Addr) (c0 c1 : Nat), cs = [.int .i64 kind, .int .i64 port, .slice A0 bytes.length c0, .int .i64 nanos, .int .i64 ck, .int .u8 q0, .int .u8 q1, .int .u8 q2, .int .u8 q3, .int .u8 q4, .int .u8 q5, .slice A1 args.length c1] ∧
      AcIs ⟨kind, port, bytes, nanos, ⟨ck, [q0, q1, q2, q3, q4, q5], args⟩⟩ ∧ (-9223372036854775808 ≤ kind ∧ kind ≤ 9223372036854775807) ∧ (-9223372036854775808 ≤ ck ∧ ck ≤ 9223372036854775807) ∧ bytes.length ≤ 9223372036854775807 ∧ args.length ≤ 9223372036854775807 ∧ SlR W (.slice A0 bytes.length c0) (bcells bytes) ∧ SlR W (.slice A1 args.length c1) (icells args) := by
  obtain ⟨hl, hf⟩ := tr_struct Tryz.underlying73 h
  have hl12 : cs.length = 12 := hl.trans (by kernel_rfl)
  match cs, hl12 with
  | [x0, x1, x2, x3, x4, x5, x6, x7, x8, x9, x10, x11], _ =>
    have c3 : Tryz.prog.cellsOf 3 = 1 := by kernel_rfl
    have c2 : Tryz.prog.cellsOf 2 = 1 := by kernel_rfl
    have c71 : Tryz.prog.cellsOf 71 = 1 := by kernel_rfl
    have c26 : Tryz.prog.cellsOf 26 = 8 := by kernel_rfl
    have f0 : Tr enc Tryz.prog W 3 ([x0, x1, x2, x3, x4, x5, x6, x7, x8, x9, x10, x11].take (Tryz.prog.cellsOf 3)) := hf 0 _ rfl
    have f1 : Tr enc Tryz.prog W 3 ([x1, x2, x3, x4, x5, x6, x7, x8, x9, x10, x11].take (Tryz.prog.cellsOf 3)) := hf 1 _ rfl
    have f2 : Tr enc Tryz.prog W 71 ([x2, x3, x4, x5, x6, x7, x8, x9, x10, x11].take (Tryz.prog.cellsOf 71)) := hf 2 _ rfl
    have f3 : Tr enc Tryz.prog W 2 ([x3, x4, x5, x6, x7, x8, x9, x10, x11].take (Tryz.prog.cellsOf 2)) := hf 3 _ rfl
    have f4 : Tr enc Tryz.prog W 26 ([x4, x5, x6, x7, x8, x9, x10, x11].take (Tryz.prog.cellsOf 26)) := hf 4 _ rfl
    rw [c3] at f0 f1
    rw [c71] at f2
    rw [c2] at f3
    rw [c26] at f4
    obtain ⟨kind, e0, w0⟩ := tr_int Tryz.underlying3 f0
    obtain ⟨port, e1, w1⟩ := tr_int Tryz.underlying3 f1
    have f2' : Tr enc Tryz.prog W 71 [x2] := f2
    obtain ⟨A0, n0, c0, bytes, e2, hn0, hm0, hs0⟩ := tr_bytes Tryz.underlying71 Tryz.underlying5 (by kernel_rfl) f2'
    obtain ⟨nanos, e3, w3⟩ := tr_int Tryz.underlying2 f3
    have f4' : Tr enc Tryz.prog W 26 [x4, x5, x6, x7, x8, x9, x10, x11] := f4
    obtain ⟨ck, q0, q1, q2, q3, q4, q5, A1, c1, args, e4, hck, hm, hl1, ha1, hs1⟩ := tr_cmd f4'
    simp at e0 e1 e3 e4
    obtain ⟨g4, g5, g6, g7, g8, g9, g10, g11⟩ := e4
    subst hn0 e0 e1 e3 g4 g5 g6 g7 g8 g9 g10 g11
    subst e2
    exact ⟨kind, port, nanos, ck, q0, q1, q2, q3, q4, q5, bytes, args, A0, A1, c0, c1, rfl, ⟨bounds_i64 w1, bounds_i64 w3, hm, ha1⟩, bounds_i64 w0, hck, hm0, hl1, hs0, hs1⟩

set_option maxRecDepth 100000 in
theorem open_act {H : Type} {enc : TypeId × Value → H} {base : Nat} {v : Value} {d : DataW H} {p : List MemPlace} {W : World}
    (o : Value.okWide Tryz.prog W .any base 73 v) (h : DataW.Trod enc Tryz.prog W 0 (fun _ => true) true 73 v d p) :
    ∃ (kind port nanos ck q0 q1 q2 q3 q4 q5 : Int) (bytes : Str) (args : List Int) (A0 A1 : Option Addr) (c0 c1 : Nat), v = .agg #[.int .i64 kind, .int .i64 port, .slice A0 bytes.length c0, .int .i64 nanos, .int .i64 ck, .int .u8 q0, .int .u8 q1, .int .u8 q2, .int .u8 q3, .int .u8 q4, .int .u8 q5, .slice A1 args.length c1] ∧
      AcIs ⟨kind, port, bytes, nanos, ⟨ck, [q0, q1, q2, q3, q4, q5], args⟩⟩ ∧ (-9223372036854775808 ≤ kind ∧ kind ≤ 9223372036854775807) ∧ (-9223372036854775808 ≤ ck ∧ ck ≤ 9223372036854775807) ∧ bytes.length ≤ 9223372036854775807 ∧ args.length ≤ 9223372036854775807 ∧ SlR W (.slice A0 bytes.length c0) (bcells bytes) ∧ SlR W (.slice A1 args.length c1) (icells args) := by
  obtain ⟨cs, rfl, -⟩ := okWide_cmd Tryz.underlying73 o
  obtain ⟨cs⟩ := cs
  obtain ⟨kind, port, nanos, ck, q0, q1, q2, q3, q4, q5, bytes, args, A0, A1, c0, c1, e, r⟩ := tr_act (tr_of h)
  have e' : cs = [.int .i64 kind, .int .i64 port, .slice A0 bytes.length c0, .int .i64 nanos, .int .i64 ck, .int .u8 q0, .int .u8 q1, .int .u8 q2, .int .u8 q3, .int .u8 q4, .int .u8 q5, .slice A1 args.length c1] := e
  exact ⟨kind, port, nanos, ck, q0, q1, q2, q3, q4, q5, bytes, args, A0, A1, c0, c1, by rw [e'], r⟩
end

section
open Go.ChangeShapes Go.WideShapes Go.ChangeAt Go.RowKit Go.Lib

/-- An act that came in. -/
def ActIn (w : World) (a : Ac) (cs : List Value) : Prop :=
  AcIs a ∧ (-9223372036854775808 ≤ a.cmd.kind ∧ a.cmd.kind ≤ 9223372036854775807) ∧ ∃ A0 A1 c0 c1, cs = actC a (.slice A0 a.bytes.length c0) (.slice A1 a.cmd.args.length c1) ∧ SlR w (.slice A0 a.bytes.length c0) (bcells a.bytes) ∧ SlR w (.slice A1 a.cmd.args.length c1) (icells a.cmd.args)

theorem all2_of_each {α β : Type} {R : α → β → Prop} : ∀ (m : List β), (∀ b ∈ m, ∃ a, R a b) → ∃ l, All2 R l m
  | [], _ => ⟨[], .nil⟩
  | b :: m, h => by
    obtain ⟨a, ha⟩ := h b (by simp)
    obtain ⟨l, hl⟩ := all2_of_each m (fun b hb => h b (by simp [hb]))
    exact ⟨a :: l, .cons ha hl⟩

theorem tr_bool {H : Type} {enc : TypeId × Value → H} {P : Program} {W : World} {T : TypeId} {cs : List Value} (hT : P.underlying T = some .bool) (h : Tr enc P W T cs) : ∃ b, cs = [.bool b] := by
  obtain ⟨fuel, x, h⟩ := h
  obtain ⟨b, hb, -⟩ := DataW.trod_bool hT h
  exact ⟨b, hb⟩

set_option maxRecDepth 100000 in
theorem tr_port {H : Type} {enc : TypeId × Value → H} {cs : List Value} {W : World} (h : Tr enc Tryz.prog W 70 cs) : ∃ p : Pt, cs = ptC p ∧ (-9223372036854775808 ≤ p.speed ∧ p.speed ≤ 9223372036854775807) := by
  obtain ⟨hl, hf⟩ := tr_struct Tryz.underlying70 h
  have hl2 : cs.length = 2 := hl.trans (by kernel_rfl)
  match cs, hl2 with
  | [x0, x1], _ =>
    have c3 : Tryz.prog.cellsOf 3 = 1 := by kernel_rfl
    have c4 : Tryz.prog.cellsOf 4 = 1 := by kernel_rfl
    have f0 : Tr enc Tryz.prog W 3 ([x0, x1].take (Tryz.prog.cellsOf 3)) := hf 0 _ rfl
    have f1 : Tr enc Tryz.prog W 4 ([x1].take (Tryz.prog.cellsOf 4)) := hf 1 _ rfl
    rw [c3] at f0
    rw [c4] at f1
    obtain ⟨s, e0, w0⟩ := tr_int Tryz.underlying3 f0
    obtain ⟨b, e1⟩ := tr_bool Tryz.underlying4 f1
    simp at e0 e1
    subst e0 e1
    exact ⟨⟨s, b⟩, rfl, bounds_i64 w0⟩

theorem tr_ports {H : Type} {enc : TypeId × Value → H} {v : Value} {W : World} (h : Tr enc Tryz.prog W 58 [v]) :
    ∃ A c, ∃ ps : List Pt, v = .slice A ps.length c ∧ ps.length ≤ 9223372036854775807 ∧ (∀ p ∈ ps, -9223372036854775808 ≤ p.speed ∧ p.speed ≤ 9223372036854775807) ∧ RecsR W v 2 (ps.map ptC) := by
  obtain ⟨l, hr, ⟨A, c, hv⟩, hm, hel⟩ := tr_slice (sz := 2) Tryz.underlying58 (by kernel_rfl) (by omega) h
  obtain ⟨ps, h2⟩ := all2_of_each (R := fun (p : Pt) cs => cs = ptC p ∧ (-9223372036854775808 ≤ p.speed ∧ p.speed ≤ 9223372036854775807)) l (fun cs hcs => tr_port (hel cs hcs))
  have hmap : l = ps.map ptC := by
    have : ∀ {ps : List Pt} {l : List (List Value)}, All2 (fun (p : Pt) cs => cs = ptC p ∧ (-9223372036854775808 ≤ p.speed ∧ p.speed ≤ 9223372036854775807)) ps l → l = ps.map ptC := fun {ps l} h => by
      induction h with
      | nil => rfl
      | cons h1 _ ih => rw [List.map_cons, ← ih, h1.1]
    exact this h2
  have hlen := h2.len
  refine ⟨A, c, ps, by rw [hlen]; exact hv, by omega, fun p hp => ?_, by rw [← hmap]; exact hr⟩
  obtain ⟨i, hi⟩ := List.getElem?_of_mem hp
  have hlt : i < l.length := by rw [← hlen]; exact (List.getElem?_eq_some_iff.1 hi).1
  exact (h2.get i p _ hi (List.getElem?_eq_getElem hlt)).2

theorem tr_acts {H : Type} {enc : TypeId × Value → H} {v : Value} {W : World} (h : Tr enc Tryz.prog W 62 [v]) :
    ∃ A c, ∃ (acs : List Ac) (l : List (List Value)), v = .slice A acs.length c ∧ acs.length ≤ 9223372036854775807 ∧ RecsR W v 12 l ∧ All2 (ActIn W) acs l := by
  obtain ⟨l, hr, ⟨A, c, hv⟩, hm, hel⟩ := tr_slice (sz := 12) Tryz.underlying62 (by kernel_rfl) (by omega) h
  obtain ⟨acs, h2⟩ := all2_of_each (R := ActIn W) l (fun cs hcs => by
    obtain ⟨kind, port, nanos, ck, q0, q1, q2, q3, q4, q5, bytes, args, A0, A1, c0, c1, e, ha, -, hk, -, -, hb, hc⟩ := tr_act (hel cs hcs)
    exact ⟨⟨kind, port, bytes, nanos, ⟨ck, [q0, q1, q2, q3, q4, q5], args⟩⟩, ha, hk, A0, A1, c0, c1, e, hb, hc⟩)
  have hlen := h2.len
  exact ⟨A, c, acs, l, by rw [hlen]; exact hv, by omega, hr, h2⟩

set_option maxRecDepth 100000 in
theorem tr_script {H : Type} {enc : TypeId × Value → H} {cs : List Value} {W : World} (h : Tr enc Tryz.prog W 64 cs) :
    ∃ (c : Cf) (acs : List Ac) (l : List (List Value)) (A A2 : Option Addr) (cp cp2 : Nat), cs = cfC c (.slice A c.ports.length cp) ++ [Value.slice A2 acs.length cp2] ∧ MacIs c.mac ∧ c.bounds.length = 8 ∧ c.ports.length ≤ 9223372036854775807 ∧ acs.length ≤ 9223372036854775807 ∧
      RecsR W (.slice A c.ports.length cp) 2 (c.ports.map ptC) ∧ RecsR W (.slice A2 acs.length cp2) 12 l ∧ All2 (ActIn W) acs l := by
  obtain ⟨hl, hf⟩ := tr_struct Tryz.underlying64 h
  have hl19 : cs.length = 19 := hl.trans (by kernel_rfl)
  have c61 : Tryz.prog.cellsOf 61 = 18 := by kernel_rfl
  have c62 : Tryz.prog.cellsOf 62 = 1 := by kernel_rfl
  have f0 : Tr enc Tryz.prog W 61 ((cs.drop 0).take (Tryz.prog.cellsOf 61)) := hf 0 _ rfl
  have f1 : Tr enc Tryz.prog W 62 ((cs.drop 18).take (Tryz.prog.cellsOf 62)) := hf 1 _ rfl
  rw [c61] at f0
  rw [c62] at f1
  match cs, hl19 with
  | [x0, x1, x2, x3, x4, x5, x6, x7, x8, x9, x10, x11, x12, x13, x14, x15, x16, x17, x18], _ =>
    have f1' : Tr enc Tryz.prog W 62 [x18] := f1
    obtain ⟨A2, cp2, acs, l, rfl, hal, hra, h2⟩ := tr_acts f1'
    have f0' : Tr enc Tryz.prog W 61 [x0, x1, x2, x3, x4, x5, x6, x7, x8, x9, x10, x11, x12, x13, x14, x15, x16, x17] := f0
    obtain ⟨-, hg⟩ := tr_struct Tryz.underlying61 f0'
    have c3 : Tryz.prog.cellsOf 3 = 1 := by kernel_rfl
    have c2 : Tryz.prog.cellsOf 2 = 1 := by kernel_rfl
    have c5 : Tryz.prog.cellsOf 5 = 1 := by kernel_rfl
    have c23 : Tryz.prog.cellsOf 23 = 6 := by kernel_rfl
    have c58 : Tryz.prog.cellsOf 58 = 1 := by kernel_rfl
    have c59 : Tryz.prog.cellsOf 59 = 8 := by kernel_rfl
    have g0 : Tr enc Tryz.prog W 3 ([x0, x1, x2, x3, x4, x5, x6, x7, x8, x9, x10, x11, x12, x13, x14, x15, x16, x17].take (Tryz.prog.cellsOf 3)) := hg 0 _ rfl
    have g1 : Tr enc Tryz.prog W 23 ([x1, x2, x3, x4, x5, x6, x7, x8, x9, x10, x11, x12, x13, x14, x15, x16, x17].take (Tryz.prog.cellsOf 23)) := hg 1 _ rfl
    have g2 : Tr enc Tryz.prog W 58 ([x7, x8, x9, x10, x11, x12, x13, x14, x15, x16, x17].take (Tryz.prog.cellsOf 58)) := hg 2 _ rfl
    have g3 : Tr enc Tryz.prog W 3 ([x8, x9, x10, x11, x12, x13, x14, x15, x16, x17].take (Tryz.prog.cellsOf 3)) := hg 3 _ rfl
    have g4 : Tr enc Tryz.prog W 59 ([x9, x10, x11, x12, x13, x14, x15, x16, x17].take (Tryz.prog.cellsOf 59)) := hg 4 _ rfl
    have g5 : Tr enc Tryz.prog W 2 ([x17].take (Tryz.prog.cellsOf 2)) := hg 5 _ rfl
    rw [c3] at g0 g3
    rw [c23] at g1
    rw [c58] at g2
    rw [c59] at g4
    rw [c2] at g5
    obtain ⟨prio, e0, -⟩ := tr_int Tryz.underlying3 g0
    have g1' : Tr enc Tryz.prog W 23 [x1, x2, x3, x4, x5, x6] := g1
    obtain ⟨-, hm⟩ := tr_array Tryz.underlying23 g1'
    rw [c5] at hm
    obtain ⟨q0, m0, v0⟩ := tr_int Tryz.underlying5 (hm 0 (by omega))
    obtain ⟨q1, m1, v1⟩ := tr_int Tryz.underlying5 (hm 1 (by omega))
    obtain ⟨q2, m2, v2⟩ := tr_int Tryz.underlying5 (hm 2 (by omega))
    obtain ⟨q3, m3, v3⟩ := tr_int Tryz.underlying5 (hm 3 (by omega))
    obtain ⟨q4, m4, v4⟩ := tr_int Tryz.underlying5 (hm 4 (by omega))
    obtain ⟨q5, m5, v5⟩ := tr_int Tryz.underlying5 (hm 5 (by omega))
    have g2' : Tr enc Tryz.prog W 58 [x7] := g2
    obtain ⟨A, cp, ports, e7, hpl, -, hrp⟩ := tr_ports g2'
    obtain ⟨places, e8, -⟩ := tr_int Tryz.underlying3 g3
    have g4' : Tr enc Tryz.prog W 59 [x9, x10, x11, x12, x13, x14, x15, x16] := g4
    obtain ⟨-, hb⟩ := tr_array Tryz.underlying59 g4'
    rw [c3] at hb
    obtain ⟨b0, n0, -⟩ := tr_int Tryz.underlying3 (hb 0 (by omega))
    obtain ⟨b1, n1, -⟩ := tr_int Tryz.underlying3 (hb 1 (by omega))
    obtain ⟨b2, n2, -⟩ := tr_int Tryz.underlying3 (hb 2 (by omega))
    obtain ⟨b3, n3, -⟩ := tr_int Tryz.underlying3 (hb 3 (by omega))
    obtain ⟨b4, n4, -⟩ := tr_int Tryz.underlying3 (hb 4 (by omega))
    obtain ⟨b5, n5, -⟩ := tr_int Tryz.underlying3 (hb 5 (by omega))
    obtain ⟨b6, n6, -⟩ := tr_int Tryz.underlying3 (hb 6 (by omega))
    obtain ⟨b7, n7, -⟩ := tr_int Tryz.underlying3 (hb 7 (by omega))
    obtain ⟨start, e17, -⟩ := tr_int Tryz.underlying2 g5
    simp at e0 m0 m1 m2 m3 m4 m5 e8 n0 n1 n2 n3 n4 n5 n6 n7 e17
    subst e0 m0 m1 m2 m3 m4 m5 e7 e8 n0 n1 n2 n3 n4 n5 n6 n7 e17
    have b0' := bounds_u8 v0
    have b1' := bounds_u8 v1
    have b2' := bounds_u8 v2
    have b3' := bounds_u8 v3
    have b4' := bounds_u8 v4
    have b5' := bounds_u8 v5
    refine ⟨⟨prio, [q0, q1, q2, q3, q4, q5], ports, places, [b0, b1, b2, b3, b4, b5, b6, b7], start⟩, acs, l, A, A2, cp, cp2, rfl, ⟨rfl, ?_⟩, rfl, hpl, hal, hrp, hra, h2⟩
    intro x hx
    simp at hx
    rcases hx with rfl | rfl | rfl | rfl | rfl | rfl <;> omega

set_option maxRecDepth 100000 in
theorem open_script {H : Type} {enc : TypeId × Value → H} {base : Nat} {v : Value} {d : DataW H} {p : List MemPlace} {W : World}
    (o : Value.okWide Tryz.prog W .any base 64 v) (h : DataW.Trod enc Tryz.prog W 0 (fun _ => true) true 64 v d p) :
    ∃ (c : Cf) (acs : List Ac) (l : List (List Value)) (A A2 : Option Addr) (cp cp2 : Nat), v = .agg (cfC c (.slice A c.ports.length cp) ++ [Value.slice A2 acs.length cp2] : List Value).toArray ∧ MacIs c.mac ∧ c.bounds.length = 8 ∧ c.ports.length ≤ 9223372036854775807 ∧ acs.length ≤ 9223372036854775807 ∧
      RecsR W (.slice A c.ports.length cp) 2 (c.ports.map ptC) ∧ RecsR W (.slice A2 acs.length cp2) 12 l ∧ All2 (ActIn W) acs l := by
  obtain ⟨cs, rfl, -⟩ := okWide_cmd Tryz.underlying64 o
  obtain ⟨cs⟩ := cs
  obtain ⟨c, acs, l, A, A2, cp, cp2, e, r⟩ := tr_script (tr_of h)
  have e' : cs = cfC c (.slice A c.ports.length cp) ++ [Value.slice A2 acs.length cp2] := e
  exact ⟨c, acs, l, A, A2, cp, cp2, by rw [e'], r⟩
end

end Go.Proofs.YtdncojofilnhnaaGreatDoor
