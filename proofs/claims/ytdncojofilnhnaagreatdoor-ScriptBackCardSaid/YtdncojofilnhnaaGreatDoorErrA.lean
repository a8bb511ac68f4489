/- errors.As over chains of errors: the walks. -/
import Derived.Test.YtdncojofilnhnaaGreatDoorErrF
namespace Go.Proofs.YtdncojofilnhnaaGreatDoor
open Go.RowKit Go.Extern.Stop Go.Stop Go.Extern

/-- What ends a chain of errors: a number, a text. -/
inductive Er
  | num (k : Int)
  | str (b : Nat)

/-- An error of a chain: what wraps (is it a Fault; its block; its number), and the end. -/
def valOf : List (Bool × Nat × Int) → Er → Value
  | [], .num k => .iface 33 (.int .i64 k)
  | [], .str b => .iface 112 (.pointer (some ⟨b, 0, none⟩))
  | (true, b, _) :: _, _ => .iface 76 (.pointer (some ⟨b, 0, none⟩))
  | (false, b, _) :: _, _ => .iface 42 (.pointer (some ⟨b, 0, none⟩))

def tyOf (f : Bool) : Nat := if f then 79 else 48

def ChainAt (w : World) : List (Bool × Nat × Int) → Er → Prop
  | [], _ => True
  | (f, b, n) :: l, e => Blk w b [.int .i64 n, valOf l e] (tyOf f) ∧ ChainAt w l e

theorem ChainAt.keeps {F : Nat → Prop} {w w' : World} (hk : Keeps F w w') : ∀ {l : List (Bool × Nat × Int)} {e : Er}, (∀ x ∈ l, ¬ F x.2.1) → ChainAt w l e → ChainAt w' l e
  | [], _, _, _ => trivial
  | (_, _, _) :: _, _, hF, h => ⟨h.1.keeps hk (hF _ List.mem_cons_self), ChainAt.keeps hk (fun x hx => hF x (List.mem_cons_of_mem _ hx)) h.2⟩

theorem ChainAt.same {w w' : World} {l : List (Bool × Nat × Int)} {e : Er} (hk : Keeps Nothing w w') (h : ChainAt w l e) : ChainAt w' l e := h.keeps hk (fun _ _ x => x)

theorem ChainAt.drop {w : World} {l : List (Bool × Nat × Int)} {e : Er} (h : ChainAt w l e) : ∀ j, ChainAt w (l.drop j) e := by
  intro j
  induction l generalizing j with
  | nil => rw [List.drop_nil]; trivial
  | cons x l ih =>
    cases j with
    | zero => exact h
    | succ j => obtain ⟨f, b, n⟩ := x; exact ih h.2 j

theorem valOf_eq (l : List (Bool × Nat × Int)) (e : Er) : ∃ t v, valOf l e = .iface t v := by
  match l, e with
  | [], .num k => exact ⟨_, _, rfl⟩
  | [], .str b => exact ⟨_, _, rfl⟩
  | (true, _, _) :: _, _ => exact ⟨_, _, rfl⟩
  | (false, _, _) :: _, _ => exact ⟨_, _, rfl⟩

/-- The number that a chain ends in. -/
def numOf : Er → Option Int
  | .num k => some k
  | .str _ => none

/-- The first that is of this kind. -/
def firstOf (f : Bool) : List (Bool × Nat × Int) → Option (Nat × Int)
  | [] => none
  | (g, b, n) :: l => if g = f then some (b, n) else firstOf f l


/-! ## the target 91 -/
def As33 (w : World) (t : Nat) (old : Value) (f : Option Int) (ev : Ending) (w' : World) : Prop :=
  Keeps (fun k => k = t) w w' ∧ match f with
    | some x => ev = .returned (.bool true) ∧ Blk w' t [.int .i64 x] 33
    | none => ev = .returned (.bool false) ∧ Blk w' t [old] 33

set_option maxRecDepth 100000 in
set_option maxHeartbeats 8000000 in
theorem as_in33 {w : World} {l : List (Bool × Nat × Int)} {e : Er} (hc : ChainAt w l e) {t va : Nat} {old : Value} (hB : Blk w t [old] 33) (hv : Blk w va [.pointer (some ⟨t, 0, none⟩)] 91) (tv : Value) :
    Calls Tryz.prog 52 #[valOf l e, tv, .agg #[.pointer (some ⟨10, 91, none⟩), .pointer (some ⟨va, 0, none⟩), .int .u64 150], .iface 144 (.agg #[.pointer (some ⟨10, 33, none⟩)])] w (As33 w t old (numOf e)) := by
  have h46 := @run_callFunc_extern Tryz.prog 46 _ ReflectliteType.typeOf Tryz.func46 (by kernel_rfl) (by kernel_rfl) (by kernel_rfl) (by kernel_rfl)
  have h161 := @run_callFunc_extern Tryz.prog 161 _ (ReflectliteType.relation "AssignableTo" ReflectliteType.assignableTo) Tryz.func161 (by kernel_rfl) (by kernel_rfl) (by kernel_rfl) (by kernel_rfl)
  have h79 := @run_callFunc_extern Tryz.prog 79 _ (ReflectliteValue.method (ReflectliteValue.valueError "reflectlite.Value.Elem" 0) ReflectliteValue.elem) Tryz.func79 (by kernel_rfl) (by kernel_rfl) (by kernel_rfl) (by kernel_rfl)
  have h80 := @run_callFunc_extern Tryz.prog 80 _ ReflectliteValue.set Tryz.func80 (by kernel_rfl) (by kernel_rfl) (by kernel_rfl) (by kernel_rfl)
  have h49 := @run_callFunc_extern Tryz.prog 49 _ (fun args => ReflectliteValue.unpack (args.getD 0 (.tuple #[]))) Tryz.func49 (by kernel_rfl) (by kernel_rfl) (by kernel_rfl) (by kernel_rfl)
  have mA := methodAssignableTo
  have vT := valueOf33
  have tO33 := typeOf33
  have tO42 := typeOf42
  have tO76 := typeOf76
  have tO112 := typeOf112
  have a33 := assign33to33
  have a42 := assign42to33
  have a76 := assign76to33
  have a112 := assign112to33
  have n33 := noAs33
  have n42 := noAs42
  have n76 := noAs76
  have n112 := noAs112
  have u33 := noUnwrap33
  have u42 := hasUnwrap42
  have u76 := hasUnwrap76
  have u112 := noUnwrap112
  have us33 := noUnwraps33
  have us112 := noUnwraps112
  have m42 := methodUnwrap42
  have m76 := methodUnwrap76
  have HC := Lib.hid hc
  have HB := Lib.hid hB
  have hvt : va ≠ t := fun e => by rw [e] at hv; exact absurd (hv.inj hB) (by decide)
  have k1 : Keeps Nothing w (w.alloc (.cells #[.pointer (some ⟨10, 91, none⟩), .pointer (some ⟨va, 0, none⟩), .int .u64 150] 105)) := (Keeps.refl Nothing w).alloc _
  have K1 := Lib.hid k1
  have HB1 := Lib.hid (hB.keeps k1 (fun x => x))
  have hV1 : Blk (w.alloc (.cells #[.pointer (some ⟨10, 91, none⟩), .pointer (some ⟨va, 0, none⟩), .int .u64 150] 105)) w.heap.size [.pointer (some ⟨10, 91, none⟩), .pointer (some ⟨va, 0, none⟩), .int .u64 150] 105 := Blk.new w _ 105
  have hv1 := hv.keeps k1 (fun x => x)
  have HC1 := Lib.hid (hc.same k1)
  have HLT : Hid (va < (w.alloc (.cells #[.pointer (some ⟨10, 91, none⟩), .pointer (some ⟨va, 0, none⟩), .int .u64 150] 105)).heap.size) := hv1.lt
  clear hc hB hv k1
  go_enter Tryz.func52, Tryz.ntmps52
  go_wp2
  generalize (w.alloc (.cells #[.pointer (some ⟨10, 91, none⟩), .pointer (some ⟨va, 0, none⟩), .int .u64 150] 105)) = w1 at *
  have c0 : w1.cell? ⟨w.heap.size, 0, none⟩ = some (.pointer (some ⟨10, 91, none⟩)) := hV1.cell 0
  have c1 : w1.cell? ⟨w.heap.size, 1, none⟩ = some (.pointer (some ⟨va, 0, none⟩)) := hV1.cell 1
  have c2 : w1.cell? ⟨w.heap.size, 2, none⟩ = some (.int .u64 150) := hV1.cell 2
  have el := elemV91 ⟨va, 0, none⟩ ⟨t, 0, none⟩ w1 (hv1.cell 0)
  generalize w.heap.size = vb at *
  clear hV1 hv1
  go_loopg [0] (l.length) (fun k v wr => ∃ j, j + k = l.length ∧ v = valOf (l.drop j) e ∧ wr = w1 ∧ numOf e = numOf e)
  case atStart => exact ⟨0, by omega, rfl, rfl, rfl⟩
  case round =>
    obtain ⟨j, hj, rfl, rfl, hf⟩ := hrel
    have hch := HC1.out.drop j
    have HF := Lib.hid hf
    clear hf
    by_cases hlt : j < l.length
    · obtain ⟨f, b, n, hd⟩ : ∃ f b n, l.drop j = (f, b, n) :: l.drop (j + 1) := by
        obtain ⟨⟨f, b, n⟩, hx⟩ : ∃ x, l[j]? = some x := ⟨_, List.getElem?_eq_getElem hlt⟩
        exact ⟨f, b, n, List.drop_eq_getElem?_toList_append.trans (by rw [hx]; rfl)⟩
      rw [hd] at hch
      obtain ⟨hb, -⟩ := hch
      have b1 : wr.cell? ⟨b, 1, none⟩ = some (valOf (l.drop (j + 1)) e) := hb.cell 1
      obtain ⟨nt, nv, hnx⟩ := valOf_eq (l.drop (j + 1)) e
      rw [hnx] at b1
      have HNX := Lib.hid hnx
      clear hb hnx
      
      cases f with

      | false =>
        rw [hd]
        simp only [valOf]
        clear hd
        go_wp2_with go_in
        go_roundg (gk - 1)
        case measure => omega
        case rel => exact ⟨j + 1, by omega, HNX.out.symm, rfl, by first | rfl | trivial⟩
      | true =>
        rw [hd]
        simp only [valOf]
        clear hd
        go_wp2_with go_in
        go_roundg (gk - 1)
        case measure => omega
        case rel => exact ⟨j + 1, by omega, HNX.out.symm, rfl, by first | rfl | trivial⟩
    · have hd : l.drop j = [] := List.drop_eq_nil_of_le (by omega)
      rw [hd]
      clear hch
      cases e with
      | num k =>
        simp only [valOf]
        have vt := valueOf33 k wr
        have ht : (wr.alloc (.cells #[.int .i64 k] 33)).cell? ⟨t, 0, none⟩ = some old := (HB1.out.alloc _).cell 0
        have hfz : (wr.alloc (.cells #[.int .i64 k] 33)).frozen? ⟨t, 0, none⟩ = false := (HB1.out.alloc _).frozen 0
        have hnb : (wr.alloc (.cells #[.int .i64 k] 33)).cell? ⟨wr.heap.size, 0, none⟩ = some (.int .i64 k) := (Blk.new wr [.int .i64 k] 33).cell 0
        have st := set33 ⟨t, 0, none⟩ ⟨wr.heap.size, 0, none⟩ k old _ hnb ht hfz
        clear ht hfz hnb hd
        go_wp2
        go_ret
        exact ⟨(K1.out.mono (fun _ x _ => x.elim)).trans (((Keeps.refl (fun k => k = t) wr).alloc _).setCell (p := ⟨t, 0, none⟩) (fun _ => rfl) _) (fun _ x _ => x), rfl, (HB1.out.alloc _).set 0 _⟩
      | str b =>
        simp only [valOf]
        clear hd
        go_wp2
        go_ret
        refine ⟨K1.out.mono (fun _ x _ => x.elim), ?_⟩
        have e1 : numOf (Er.str b) = none := by rfl
        rw [e1]
        exact ⟨rfl, HB1.out⟩


/-! ## the target 46 -/
def As42 (w : World) (t : Nat) (old : Value) (f : Option (Nat × Int)) (ev : Ending) (w' : World) : Prop :=
  Keeps (fun k => k = t) w w' ∧ match f with
    | some x => ev = .returned (.bool true) ∧ Blk w' t [.pointer (some ⟨x.1, 0, none⟩)] 42
    | none => ev = .returned (.bool false) ∧ Blk w' t [old] 42

set_option maxRecDepth 100000 in
set_option maxHeartbeats 8000000 in
theorem as_in42 {w : World} {l : List (Bool × Nat × Int)} {e : Er} (hc : ChainAt w l e) {t va : Nat} {old : Value} (hB : Blk w t [old] 42) (hv : Blk w va [.pointer (some ⟨t, 0, none⟩)] 46) (tv : Value) :
    Calls Tryz.prog 52 #[valOf l e, tv, .agg #[.pointer (some ⟨10, 46, none⟩), .pointer (some ⟨va, 0, none⟩), .int .u64 150], .iface 144 (.agg #[.pointer (some ⟨10, 42, none⟩)])] w (As42 w t old (firstOf false l)) := by
  have h46 := @run_callFunc_extern Tryz.prog 46 _ ReflectliteType.typeOf Tryz.func46 (by kernel_rfl) (by kernel_rfl) (by kernel_rfl) (by kernel_rfl)
  have h161 := @run_callFunc_extern Tryz.prog 161 _ (ReflectliteType.relation "AssignableTo" ReflectliteType.assignableTo) Tryz.func161 (by kernel_rfl) (by kernel_rfl) (by kernel_rfl) (by kernel_rfl)
  have h79 := @run_callFunc_extern Tryz.prog 79 _ (ReflectliteValue.method (ReflectliteValue.valueError "reflectlite.Value.Elem" 0) ReflectliteValue.elem) Tryz.func79 (by kernel_rfl) (by kernel_rfl) (by kernel_rfl) (by kernel_rfl)
  have h80 := @run_callFunc_extern Tryz.prog 80 _ ReflectliteValue.set Tryz.func80 (by kernel_rfl) (by kernel_rfl) (by kernel_rfl) (by kernel_rfl)
  have h49 := @run_callFunc_extern Tryz.prog 49 _ (fun args => ReflectliteValue.unpack (args.getD 0 (.tuple #[]))) Tryz.func49 (by kernel_rfl) (by kernel_rfl) (by kernel_rfl) (by kernel_rfl)
  have mA := methodAssignableTo
  have vT := valueOf42
  have tO33 := typeOf33
  have tO42 := typeOf42
  have tO76 := typeOf76
  have tO112 := typeOf112
  have a33 := assign33to42
  have a42 := assign42to42
  have a76 := assign76to42
  have a112 := assign112to42
  have n33 := noAs33
  have n42 := noAs42
  have n76 := noAs76
  have n112 := noAs112
  have u33 := noUnwrap33
  have u42 := hasUnwrap42
  have u76 := hasUnwrap76
  have u112 := noUnwrap112
  have us33 := noUnwraps33
  have us112 := noUnwraps112
  have m42 := methodUnwrap42
  have m76 := methodUnwrap76
  have HC := Lib.hid hc
  have HB := Lib.hid hB
  have hvt : va ≠ t := fun e => by rw [e] at hv; exact absurd (hv.inj hB) (by decide)
  have k1 : Keeps Nothing w (w.alloc (.cells #[.pointer (some ⟨10, 46, none⟩), .pointer (some ⟨va, 0, none⟩), .int .u64 150] 105)) := (Keeps.refl Nothing w).alloc _
  have K1 := Lib.hid k1
  have HB1 := Lib.hid (hB.keeps k1 (fun x => x))
  have hV1 : Blk (w.alloc (.cells #[.pointer (some ⟨10, 46, none⟩), .pointer (some ⟨va, 0, none⟩), .int .u64 150] 105)) w.heap.size [.pointer (some ⟨10, 46, none⟩), .pointer (some ⟨va, 0, none⟩), .int .u64 150] 105 := Blk.new w _ 105
  have hv1 := hv.keeps k1 (fun x => x)
  have HC1 := Lib.hid (hc.same k1)
  have HLT : Hid (va < (w.alloc (.cells #[.pointer (some ⟨10, 46, none⟩), .pointer (some ⟨va, 0, none⟩), .int .u64 150] 105)).heap.size) := hv1.lt
  clear hc hB hv k1
  go_enter Tryz.func52, Tryz.ntmps52
  go_wp2
  generalize (w.alloc (.cells #[.pointer (some ⟨10, 46, none⟩), .pointer (some ⟨va, 0, none⟩), .int .u64 150] 105)) = w1 at *
  have c0 : w1.cell? ⟨w.heap.size, 0, none⟩ = some (.pointer (some ⟨10, 46, none⟩)) := hV1.cell 0
  have c1 : w1.cell? ⟨w.heap.size, 1, none⟩ = some (.pointer (some ⟨va, 0, none⟩)) := hV1.cell 1
  have c2 : w1.cell? ⟨w.heap.size, 2, none⟩ = some (.int .u64 150) := hV1.cell 2
  have el := elemV46 ⟨va, 0, none⟩ ⟨t, 0, none⟩ w1 (hv1.cell 0)
  generalize w.heap.size = vb at *
  clear hV1 hv1
  go_loopg [0] (l.length) (fun k v wr => ∃ j, j + k = l.length ∧ v = valOf (l.drop j) e ∧ wr = w1 ∧ firstOf false (l.drop j) = firstOf false l)
  case atStart => exact ⟨0, by omega, rfl, rfl, rfl⟩
  case round =>
    obtain ⟨j, hj, rfl, rfl, hf⟩ := hrel
    have hch := HC1.out.drop j
    have HF := Lib.hid hf
    clear hf
    by_cases hlt : j < l.length
    · obtain ⟨f, b, n, hd⟩ : ∃ f b n, l.drop j = (f, b, n) :: l.drop (j + 1) := by
        obtain ⟨⟨f, b, n⟩, hx⟩ : ∃ x, l[j]? = some x := ⟨_, List.getElem?_eq_getElem hlt⟩
        exact ⟨f, b, n, List.drop_eq_getElem?_toList_append.trans (by rw [hx]; rfl)⟩
      rw [hd] at hch
      obtain ⟨hb, -⟩ := hch
      have b1 : wr.cell? ⟨b, 1, none⟩ = some (valOf (l.drop (j + 1)) e) := hb.cell 1
      obtain ⟨nt, nv, hnx⟩ := valOf_eq (l.drop (j + 1)) e
      rw [hnx] at b1
      have HNX := Lib.hid hnx
      clear hb hnx
      rw [hd] at HF
      cases f with

      | false =>
        rw [hd]
        simp only [valOf]
        have vt := valueOf42 ⟨b, 0, none⟩ wr
        have HBT := Lib.hid HB1.out
        have ht : (wr.alloc (.cells #[.pointer (some ⟨b, 0, none⟩)] 42)).cell? ⟨t, 0, none⟩ = some old := (HB1.out.alloc _).cell 0
        have hfz : (wr.alloc (.cells #[.pointer (some ⟨b, 0, none⟩)] 42)).frozen? ⟨t, 0, none⟩ = false := (HB1.out.alloc _).frozen 0
        have hnb : (wr.alloc (.cells #[.pointer (some ⟨b, 0, none⟩)] 42)).cell? ⟨wr.heap.size, 0, none⟩ = some (.pointer (some ⟨b, 0, none⟩)) := (Blk.new wr [.pointer (some ⟨b, 0, none⟩)] 42).cell 0
        have st := set42 ⟨t, 0, none⟩ ⟨wr.heap.size, 0, none⟩ ⟨b, 0, none⟩ old _ hnb ht hfz
        clear ht hfz hnb hd b1
        go_wp2
        go_ret
        refine ⟨(K1.out.mono (fun _ x _ => x.elim)).trans (((Keeps.refl (fun k => k = t) wr).alloc _).setCell (p := ⟨t, 0, none⟩) (fun _ => rfl) _) (fun _ x _ => x), ?_⟩
        have e1 : firstOf false l = some (b, n) := by rw [← HF.out]; simp [firstOf]
        rw [e1]
        exact ⟨rfl, (HB1.out.alloc _).set 0 _⟩
      | true =>
        rw [hd]
        simp only [valOf]
        clear hd
        go_wp2_with go_in
        go_roundg (gk - 1)
        case measure => omega
        case rel => exact ⟨j + 1, by omega, HNX.out.symm, rfl, by rw [← HF.out]; simp [firstOf]⟩
    · have hd : l.drop j = [] := List.drop_eq_nil_of_le (by omega)
      rw [hd] at HF ⊢
      clear hch
      cases e with
      | num k =>
        simp only [valOf]
        clear hd
        go_wp2
        go_ret
        refine ⟨K1.out.mono (fun _ x _ => x.elim), ?_⟩
        have e1 : firstOf false l = none := by rw [← HF.out]; rfl
        rw [e1]
        exact ⟨rfl, HB1.out⟩
      | str b =>
        simp only [valOf]
        clear hd
        go_wp2
        go_ret
        refine ⟨K1.out.mono (fun _ x _ => x.elim), ?_⟩
        have e1 : firstOf false l = none := by rw [← HF.out]; rfl
        rw [e1]
        exact ⟨rfl, HB1.out⟩


/-! ## the target 77 -/
def As76 (w : World) (t : Nat) (old : Value) (f : Option (Nat × Int)) (ev : Ending) (w' : World) : Prop :=
  Keeps (fun k => k = t) w w' ∧ match f with
    | some x => ev = .returned (.bool true) ∧ Blk w' t [.pointer (some ⟨x.1, 0, none⟩)] 76
    | none => ev = .returned (.bool false) ∧ Blk w' t [old] 76

set_option maxRecDepth 100000 in
set_option maxHeartbeats 8000000 in
theorem as_in76 {w : World} {l : List (Bool × Nat × Int)} {e : Er} (hc : ChainAt w l e) {t va : Nat} {old : Value} (hB : Blk w t [old] 76) (hv : Blk w va [.pointer (some ⟨t, 0, none⟩)] 77) (tv : Value) :
    Calls Tryz.prog 52 #[valOf l e, tv, .agg #[.pointer (some ⟨10, 77, none⟩), .pointer (some ⟨va, 0, none⟩), .int .u64 150], .iface 144 (.agg #[.pointer (some ⟨10, 76, none⟩)])] w (As76 w t old (firstOf true l)) := by
  have h46 := @run_callFunc_extern Tryz.prog 46 _ ReflectliteType.typeOf Tryz.func46 (by kernel_rfl) (by kernel_rfl) (by kernel_rfl) (by kernel_rfl)
  have h161 := @run_callFunc_extern Tryz.prog 161 _ (ReflectliteType.relation "AssignableTo" ReflectliteType.assignableTo) Tryz.func161 (by kernel_rfl) (by kernel_rfl) (by kernel_rfl) (by kernel_rfl)
  have h79 := @run_callFunc_extern Tryz.prog 79 _ (ReflectliteValue.method (ReflectliteValue.valueError "reflectlite.Value.Elem" 0) ReflectliteValue.elem) Tryz.func79 (by kernel_rfl) (by kernel_rfl) (by kernel_rfl) (by kernel_rfl)
  have h80 := @run_callFunc_extern Tryz.prog 80 _ ReflectliteValue.set Tryz.func80 (by kernel_rfl) (by kernel_rfl) (by kernel_rfl) (by kernel_rfl)
  have h49 := @run_callFunc_extern Tryz.prog 49 _ (fun args => ReflectliteValue.unpack (args.getD 0 (.tuple #[]))) Tryz.func49 (by kernel_rfl) (by kernel_rfl) (by kernel_rfl) (by kernel_rfl)
  have mA := methodAssignableTo
  have vT := valueOf76
  have tO33 := typeOf33
  have tO42 := typeOf42
  have tO76 := typeOf76
  have tO112 := typeOf112
  have a33 := assign33to76
  have a42 := assign42to76
  have a76 := assign76to76
  have a112 := assign112to76
  have n33 := noAs33
  have n42 := noAs42
  have n76 := noAs76
  have n112 := noAs112
  have u33 := noUnwrap33
  have u42 := hasUnwrap42
  have u76 := hasUnwrap76
  have u112 := noUnwrap112
  have us33 := noUnwraps33
  have us112 := noUnwraps112
  have m42 := methodUnwrap42
  have m76 := methodUnwrap76
  have HC := Lib.hid hc
  have HB := Lib.hid hB
  have hvt : va ≠ t := fun e => by rw [e] at hv; exact absurd (hv.inj hB) (by decide)
  have k1 : Keeps Nothing w (w.alloc (.cells #[.pointer (some ⟨10, 77, none⟩), .pointer (some ⟨va, 0, none⟩), .int .u64 150] 105)) := (Keeps.refl Nothing w).alloc _
  have K1 := Lib.hid k1
  have HB1 := Lib.hid (hB.keeps k1 (fun x => x))
  have hV1 : Blk (w.alloc (.cells #[.pointer (some ⟨10, 77, none⟩), .pointer (some ⟨va, 0, none⟩), .int .u64 150] 105)) w.heap.size [.pointer (some ⟨10, 77, none⟩), .pointer (some ⟨va, 0, none⟩), .int .u64 150] 105 := Blk.new w _ 105
  have hv1 := hv.keeps k1 (fun x => x)
  have HC1 := Lib.hid (hc.same k1)
  have HLT : Hid (va < (w.alloc (.cells #[.pointer (some ⟨10, 77, none⟩), .pointer (some ⟨va, 0, none⟩), .int .u64 150] 105)).heap.size) := hv1.lt
  clear hc hB hv k1
  go_enter Tryz.func52, Tryz.ntmps52
  go_wp2
  generalize (w.alloc (.cells #[.pointer (some ⟨10, 77, none⟩), .pointer (some ⟨va, 0, none⟩), .int .u64 150] 105)) = w1 at *
  have c0 : w1.cell? ⟨w.heap.size, 0, none⟩ = some (.pointer (some ⟨10, 77, none⟩)) := hV1.cell 0
  have c1 : w1.cell? ⟨w.heap.size, 1, none⟩ = some (.pointer (some ⟨va, 0, none⟩)) := hV1.cell 1
  have c2 : w1.cell? ⟨w.heap.size, 2, none⟩ = some (.int .u64 150) := hV1.cell 2
  have el := elemV77 ⟨va, 0, none⟩ ⟨t, 0, none⟩ w1 (hv1.cell 0)
  generalize w.heap.size = vb at *
  clear hV1 hv1
  go_loopg [0] (l.length) (fun k v wr => ∃ j, j + k = l.length ∧ v = valOf (l.drop j) e ∧ wr = w1 ∧ firstOf true (l.drop j) = firstOf true l)
  case atStart => exact ⟨0, by omega, rfl, rfl, rfl⟩
  case round =>
    obtain ⟨j, hj, rfl, rfl, hf⟩ := hrel
    have hch := HC1.out.drop j
    have HF := Lib.hid hf
    clear hf
    by_cases hlt : j < l.length
    · obtain ⟨f, b, n, hd⟩ : ∃ f b n, l.drop j = (f, b, n) :: l.drop (j + 1) := by
        obtain ⟨⟨f, b, n⟩, hx⟩ : ∃ x, l[j]? = some x := ⟨_, List.getElem?_eq_getElem hlt⟩
        exact ⟨f, b, n, List.drop_eq_getElem?_toList_append.trans (by rw [hx]; rfl)⟩
      rw [hd] at hch
      obtain ⟨hb, -⟩ := hch
      have b1 : wr.cell? ⟨b, 1, none⟩ = some (valOf (l.drop (j + 1)) e) := hb.cell 1
      obtain ⟨nt, nv, hnx⟩ := valOf_eq (l.drop (j + 1)) e
      rw [hnx] at b1
      have HNX := Lib.hid hnx
      clear hb hnx
      rw [hd] at HF
      cases f with

      | false =>
        rw [hd]
        simp only [valOf]
        clear hd
        go_wp2_with go_in
        go_roundg (gk - 1)
        case measure => omega
        case rel => exact ⟨j + 1, by omega, HNX.out.symm, rfl, by rw [← HF.out]; simp [firstOf]⟩
      | true =>
        rw [hd]
        simp only [valOf]
        have vt := valueOf76 ⟨b, 0, none⟩ wr
        have HBT := Lib.hid HB1.out
        have ht : (wr.alloc (.cells #[.pointer (some ⟨b, 0, none⟩)] 76)).cell? ⟨t, 0, none⟩ = some old := (HB1.out.alloc _).cell 0
        have hfz : (wr.alloc (.cells #[.pointer (some ⟨b, 0, none⟩)] 76)).frozen? ⟨t, 0, none⟩ = false := (HB1.out.alloc _).frozen 0
        have hnb : (wr.alloc (.cells #[.pointer (some ⟨b, 0, none⟩)] 76)).cell? ⟨wr.heap.size, 0, none⟩ = some (.pointer (some ⟨b, 0, none⟩)) := (Blk.new wr [.pointer (some ⟨b, 0, none⟩)] 76).cell 0
        have st := set76 ⟨t, 0, none⟩ ⟨wr.heap.size, 0, none⟩ ⟨b, 0, none⟩ old _ hnb ht hfz
        clear ht hfz hnb hd b1
        go_wp2
        go_ret
        refine ⟨(K1.out.mono (fun _ x _ => x.elim)).trans (((Keeps.refl (fun k => k = t) wr).alloc _).setCell (p := ⟨t, 0, none⟩) (fun _ => rfl) _) (fun _ x _ => x), ?_⟩
        have e1 : firstOf true l = some (b, n) := by rw [← HF.out]; simp [firstOf]
        rw [e1]
        exact ⟨rfl, (HB1.out.alloc _).set 0 _⟩
    · have hd : l.drop j = [] := List.drop_eq_nil_of_le (by omega)
      rw [hd] at HF ⊢
      clear hch
      cases e with
      | num k =>
        simp only [valOf]
        clear hd
        go_wp2
        go_ret
        refine ⟨K1.out.mono (fun _ x _ => x.elim), ?_⟩
        have e1 : firstOf true l = none := by rw [← HF.out]; rfl
        rw [e1]
        exact ⟨rfl, HB1.out⟩
      | str b =>
        simp only [valOf]
        clear hd
        go_wp2
        go_ret
        refine ⟨K1.out.mono (fun _ x _ => x.elim), ?_⟩
        have e1 : firstOf true l = none := by rw [← HF.out]; rfl
        rw [e1]
        exact ⟨rfl, HB1.out⟩


end Go.Proofs.YtdncojofilnhnaaGreatDoor