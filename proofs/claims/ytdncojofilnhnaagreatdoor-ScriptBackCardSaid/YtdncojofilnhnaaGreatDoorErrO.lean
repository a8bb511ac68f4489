/- errors.As at the targets of this seat, errors.Is at a number: the walks, over chains of errors. -/
import Derived.Test.YtdncojofilnhnaaGreatDoorErrA
import Derived.Test.YtdncojofilnhnaaGreatDoorGl
namespace Go
section
variable {P : Program} (w : World)

theorem run_equalIn_iface_int (d : Nat) {ti tn : TypeId} {ms : Array (String × TypeId)} {i : TypeInfo} {k : IntKind} (a b : Int)
    (hi : P.underlying ti = some (.interface ms)) (hn : P.underlying tn = some (.int k)) (hinfo : P.info? tn = some i) (hcomp : i.comparable = true) :
    (Op.equalIn (d + 2) ti (.iface tn (.int k a)) (.iface tn (.int k b))).run P w = .ok (a == b) w := by
  simp [Op.equalIn, run_underlying hi, run_underlying hn, typeInfo, hinfo, hcomp]

theorem run_eql_iface_int {ti tn : TypeId} {ms : Array (String × TypeId)} {i : TypeInfo} {k : IntKind} (a b : Int)
    (hi : P.underlying ti = some (.interface ms)) (hn : P.underlying tn = some (.int k)) (hinfo : P.info? tn = some i) (hcomp : i.comparable = true) :
    (binOp .eql ti (.iface tn (.int k a)) (.iface tn (.int k b))).run P w = .ok (.bool (a == b)) w := by
  simp only [binOp]
  simp [Op.equal, Op.maxDepth, run_equalIn_iface_int w 9998 a b hi hn hinfo hcomp]
end
end Go
namespace Go.Proofs.YtdncojofilnhnaaGreatDoor
open Go.RowKit Go.Extern.Stop Go.Stop Go.Extern


theorem as_ends33 {w w' : World} {t : Nat} {old : Value} {o : Option Int} {ev : Ending} (h : As33 w t old o ev w') : ∃ b, ev = .returned (.bool b) := by
  cases o with
  | none => exact ⟨_, h.2.1⟩
  | some x => exact ⟨_, h.2.1⟩

set_option maxRecDepth 100000 in
set_option maxHeartbeats 8000000 in
theorem as_91 {w : World} (hg : Gl w) {l : List (Bool × Nat × Int)} {e : Er} (hc : ChainAt w l e) {t : Nat} {old : Value} (hB : Blk w t [old] 33) :
    Calls Tryz.prog 20 #[valOf l e, .iface 91 (.pointer (some ⟨t, 0, none⟩))] w (As33 w t old (numOf e)) := by
  have h49 := @run_callFunc_extern Tryz.prog 49 _ (fun args => ReflectliteValue.unpack (args.getD 0 (.tuple #[]))) Tryz.func49 (by kernel_rfl) (by kernel_rfl) (by kernel_rfl) (by kernel_rfl)
  have h50 := @run_callFunc_extern Tryz.prog 50 _ (ReflectliteValue.methodAny (ReflectliteValue.valueError "reflectlite.Value.Type" 0) (fun t _ _ _ => ReflectliteType.toType t)) Tryz.func50 (by kernel_rfl) (by kernel_rfl) (by kernel_rfl) (by kernel_rfl)
  have h51 := @run_callFunc_extern Tryz.prog 51 _ (ReflectliteValue.method (ReflectliteValue.valueError "reflectlite.Value.IsNil" 0) ReflectliteValue.isNil) Tryz.func51 (by kernel_rfl) (by kernel_rfl) (by kernel_rfl) (by kernel_rfl)
  have h152 := @run_callFunc_extern Tryz.prog 152 _ (ReflectliteType.abiMethod fun t => do pure (.int .u8 (← Rtype.kind t))) Tryz.func152 (by kernel_rfl) (by kernel_rfl) (by kernel_rfl) (by kernel_rfl)
  have h163 := @run_callFunc_extern Tryz.prog 163 _ (ReflectliteType.method ReflectliteType.elem) Tryz.func163 (by kernel_rfl) (by kernel_rfl) (by kernel_rfl) (by kernel_rfl)
  have h164 := @run_callFunc_extern Tryz.prog 164 _ (ReflectliteType.relation "Implements" ReflectliteType.implements_) Tryz.func164 (by kernel_rfl) (by kernel_rfl) (by kernel_rfl) (by kernel_rfl)
  have f49 := valueOf91
  have f50 := type91
  have mK := methodKind
  have mE := methodElem
  have mI := methodImplements
  have kP := kind91
  have kT := kind33
  have eP := elem91
  have iT := implements33
  obtain ⟨nt, nv, he⟩ := valOf_eq l e
  have k1 : Keeps Nothing w ((w.alloc (.cells #[.pointer (some ⟨t, 0, none⟩)] 91)).alloc (.cells #[.pointer (some ⟨10, 91, none⟩), .pointer (some ⟨w.heap.size, 0, none⟩), .int .u64 150] 105)) := ((Keeps.refl Nothing w).alloc _).alloc _
  have K1 := Lib.hid k1
  have HB2 := Lib.hid (hB.keeps k1 (fun x => x))
  have HC2 := Lib.hid (hc.same k1)
  have HV2 : Hid (Blk ((w.alloc (.cells #[.pointer (some ⟨t, 0, none⟩)] 91)).alloc (.cells #[.pointer (some ⟨10, 91, none⟩), .pointer (some ⟨w.heap.size, 0, none⟩), .int .u64 150] 105)) w.heap.size [.pointer (some ⟨t, 0, none⟩)] 91) := (Blk.new w [.pointer (some ⟨t, 0, none⟩)] 91).alloc _
  have hg2 : ((w.alloc (.cells #[.pointer (some ⟨t, 0, none⟩)] 91)).alloc (.cells #[.pointer (some ⟨10, 91, none⟩), .pointer (some ⟨w.heap.size, 0, none⟩), .int .u64 150] 105)).cell? ⟨0, 0, none⟩ = some (.iface 144 (.agg #[.pointer (some ⟨10, 29, none⟩)])) := (hg.same k1).et
  have n8 := isNil91 ⟨w.heap.size, 0, none⟩ ⟨t, 0, none⟩ ((w.alloc (.cells #[.pointer (some ⟨t, 0, none⟩)] 91)).alloc (.cells #[.pointer (some ⟨10, 91, none⟩), .pointer (some ⟨w.heap.size, 0, none⟩), .int .u64 150] 105)) (HV2.out.cell 0)
  have HCALL : Hid (Calls Tryz.prog 52 #[.iface nt nv, .iface 91 (.pointer (some ⟨t, 0, none⟩)), .agg #[.pointer (some ⟨10, 91, none⟩), .pointer (some ⟨w.heap.size, 0, none⟩), .int .u64 150], .iface 144 (.agg #[.pointer (some ⟨10, 33, none⟩)])] ((w.alloc (.cells #[.pointer (some ⟨t, 0, none⟩)] 91)).alloc (.cells #[.pointer (some ⟨10, 91, none⟩), .pointer (some ⟨w.heap.size, 0, none⟩), .int .u64 150] 105)) (As33 ((w.alloc (.cells #[.pointer (some ⟨t, 0, none⟩)] 91)).alloc (.cells #[.pointer (some ⟨10, 91, none⟩), .pointer (some ⟨w.heap.size, 0, none⟩), .int .u64 150] 105)) t old (numOf e))) := by
    have := as_in33 HC2.out HB2.out HV2.out (.iface 91 (.pointer (some ⟨t, 0, none⟩)))
    rw [he] at this
    exact this
  have HC3 := Lib.hid (HCALL.out.mono (R' := fun ev w' => ∃ b, ev = .returned (.bool b) ∧ As33 ((w.alloc (.cells #[.pointer (some ⟨t, 0, none⟩)] 91)).alloc (.cells #[.pointer (some ⟨10, 91, none⟩), .pointer (some ⟨w.heap.size, 0, none⟩), .int .u64 150] 105)) t old (numOf e) ev w') (fun ev w' hh => by
    obtain ⟨b, hb⟩ := as_ends33 hh
    exact ⟨b, hb, hh⟩))
  rw [he]
  clear hc hB hg k1 he HC2 HB2 HV2 HCALL
  go_enter Tryz.func20, Tryz.ntmps20
  go_wp2_with (go_at_call 52; refine HC3.out.mono ?_; rintro ev w' ⟨b, rfl, hh⟩; have HH := Lib.hid hh; clear hh)
  go_ret
  exact ⟨(K1.out.mono (fun _ x _ => x.elim)).trans HH.out.1 (fun _ x _ => x), HH.out.2⟩

theorem as_ends42 {w w' : World} {t : Nat} {old : Value} {o : Option (Nat × Int)} {ev : Ending} (h : As42 w t old o ev w') : ∃ b, ev = .returned (.bool b) := by
  cases o with
  | none => exact ⟨_, h.2.1⟩
  | some x => exact ⟨_, h.2.1⟩

set_option maxRecDepth 100000 in
set_option maxHeartbeats 8000000 in
theorem as_46 {w : World} (hg : Gl w) {l : List (Bool × Nat × Int)} {e : Er} (hc : ChainAt w l e) {t : Nat} {old : Value} (hB : Blk w t [old] 42) :
    Calls Tryz.prog 20 #[valOf l e, .iface 46 (.pointer (some ⟨t, 0, none⟩))] w (As42 w t old (firstOf false l)) := by
  have h49 := @run_callFunc_extern Tryz.prog 49 _ (fun args => ReflectliteValue.unpack (args.getD 0 (.tuple #[]))) Tryz.func49 (by kernel_rfl) (by kernel_rfl) (by kernel_rfl) (by kernel_rfl)
  have h50 := @run_callFunc_extern Tryz.prog 50 _ (ReflectliteValue.methodAny (ReflectliteValue.valueError "reflectlite.Value.Type" 0) (fun t _ _ _ => ReflectliteType.toType t)) Tryz.func50 (by kernel_rfl) (by kernel_rfl) (by kernel_rfl) (by kernel_rfl)
  have h51 := @run_callFunc_extern Tryz.prog 51 _ (ReflectliteValue.method (ReflectliteValue.valueError "reflectlite.Value.IsNil" 0) ReflectliteValue.isNil) Tryz.func51 (by kernel_rfl) (by kernel_rfl) (by kernel_rfl) (by kernel_rfl)
  have h152 := @run_callFunc_extern Tryz.prog 152 _ (ReflectliteType.abiMethod fun t => do pure (.int .u8 (← Rtype.kind t))) Tryz.func152 (by kernel_rfl) (by kernel_rfl) (by kernel_rfl) (by kernel_rfl)
  have h163 := @run_callFunc_extern Tryz.prog 163 _ (ReflectliteType.method ReflectliteType.elem) Tryz.func163 (by kernel_rfl) (by kernel_rfl) (by kernel_rfl) (by kernel_rfl)
  have h164 := @run_callFunc_extern Tryz.prog 164 _ (ReflectliteType.relation "Implements" ReflectliteType.implements_) Tryz.func164 (by kernel_rfl) (by kernel_rfl) (by kernel_rfl) (by kernel_rfl)
  have f49 := valueOf46
  have f50 := type46
  have mK := methodKind
  have mE := methodElem
  have mI := methodImplements
  have kP := kind46
  have kT := kind42
  have eP := elem46
  have iT := implements42
  obtain ⟨nt, nv, he⟩ := valOf_eq l e
  have k1 : Keeps Nothing w ((w.alloc (.cells #[.pointer (some ⟨t, 0, none⟩)] 46)).alloc (.cells #[.pointer (some ⟨10, 46, none⟩), .pointer (some ⟨w.heap.size, 0, none⟩), .int .u64 150] 105)) := ((Keeps.refl Nothing w).alloc _).alloc _
  have K1 := Lib.hid k1
  have HB2 := Lib.hid (hB.keeps k1 (fun x => x))
  have HC2 := Lib.hid (hc.same k1)
  have HV2 : Hid (Blk ((w.alloc (.cells #[.pointer (some ⟨t, 0, none⟩)] 46)).alloc (.cells #[.pointer (some ⟨10, 46, none⟩), .pointer (some ⟨w.heap.size, 0, none⟩), .int .u64 150] 105)) w.heap.size [.pointer (some ⟨t, 0, none⟩)] 46) := (Blk.new w [.pointer (some ⟨t, 0, none⟩)] 46).alloc _
  have hg2 : ((w.alloc (.cells #[.pointer (some ⟨t, 0, none⟩)] 46)).alloc (.cells #[.pointer (some ⟨10, 46, none⟩), .pointer (some ⟨w.heap.size, 0, none⟩), .int .u64 150] 105)).cell? ⟨0, 0, none⟩ = some (.iface 144 (.agg #[.pointer (some ⟨10, 29, none⟩)])) := (hg.same k1).et
  have n8 := isNil46 ⟨w.heap.size, 0, none⟩ ⟨t, 0, none⟩ ((w.alloc (.cells #[.pointer (some ⟨t, 0, none⟩)] 46)).alloc (.cells #[.pointer (some ⟨10, 46, none⟩), .pointer (some ⟨w.heap.size, 0, none⟩), .int .u64 150] 105)) (HV2.out.cell 0)
  have HCALL : Hid (Calls Tryz.prog 52 #[.iface nt nv, .iface 46 (.pointer (some ⟨t, 0, none⟩)), .agg #[.pointer (some ⟨10, 46, none⟩), .pointer (some ⟨w.heap.size, 0, none⟩), .int .u64 150], .iface 144 (.agg #[.pointer (some ⟨10, 42, none⟩)])] ((w.alloc (.cells #[.pointer (some ⟨t, 0, none⟩)] 46)).alloc (.cells #[.pointer (some ⟨10, 46, none⟩), .pointer (some ⟨w.heap.size, 0, none⟩), .int .u64 150] 105)) (As42 ((w.alloc (.cells #[.pointer (some ⟨t, 0, none⟩)] 46)).alloc (.cells #[.pointer (some ⟨10, 46, none⟩), .pointer (some ⟨w.heap.size, 0, none⟩), .int .u64 150] 105)) t old (firstOf false l))) := by
    have := as_in42 HC2.out HB2.out HV2.out (.iface 46 (.pointer (some ⟨t, 0, none⟩)))
    rw [he] at this
    exact this
  have HC3 := Lib.hid (HCALL.out.mono (R' := fun ev w' => ∃ b, ev = .returned (.bool b) ∧ As42 ((w.alloc (.cells #[.pointer (some ⟨t, 0, none⟩)] 46)).alloc (.cells #[.pointer (some ⟨10, 46, none⟩), .pointer (some ⟨w.heap.size, 0, none⟩), .int .u64 150] 105)) t old (firstOf false l) ev w') (fun ev w' hh => by
    obtain ⟨b, hb⟩ := as_ends42 hh
    exact ⟨b, hb, hh⟩))
  rw [he]
  clear hc hB hg k1 he HC2 HB2 HV2 HCALL
  go_enter Tryz.func20, Tryz.ntmps20
  go_wp2_with (go_at_call 52; refine HC3.out.mono ?_; rintro ev w' ⟨b, rfl, hh⟩; have HH := Lib.hid hh; clear hh)
  go_ret
  exact ⟨(K1.out.mono (fun _ x _ => x.elim)).trans HH.out.1 (fun _ x _ => x), HH.out.2⟩

theorem as_ends76 {w w' : World} {t : Nat} {old : Value} {o : Option (Nat × Int)} {ev : Ending} (h : As76 w t old o ev w') : ∃ b, ev = .returned (.bool b) := by
  cases o with
  | none => exact ⟨_, h.2.1⟩
  | some x => exact ⟨_, h.2.1⟩

set_option maxRecDepth 100000 in
set_option maxHeartbeats 8000000 in
theorem as_77 {w : World} (hg : Gl w) {l : List (Bool × Nat × Int)} {e : Er} (hc : ChainAt w l e) {t : Nat} {old : Value} (hB : Blk w t [old] 76) :
    Calls Tryz.prog 20 #[valOf l e, .iface 77 (.pointer (some ⟨t, 0, none⟩))] w (As76 w t old (firstOf true l)) := by
  have h49 := @run_callFunc_extern Tryz.prog 49 _ (fun args => ReflectliteValue.unpack (args.getD 0 (.tuple #[]))) Tryz.func49 (by kernel_rfl) (by kernel_rfl) (by kernel_rfl) (by kernel_rfl)
  have h50 := @run_callFunc_extern Tryz.prog 50 _ (ReflectliteValue.methodAny (ReflectliteValue.valueError "reflectlite.Value.Type" 0) (fun t _ _ _ => ReflectliteType.toType t)) Tryz.func50 (by kernel_rfl) (by kernel_rfl) (by kernel_rfl) (by kernel_rfl)
  have h51 := @run_callFunc_extern Tryz.prog 51 _ (ReflectliteValue.method (ReflectliteValue.valueError "reflectlite.Value.IsNil" 0) ReflectliteValue.isNil) Tryz.func51 (by kernel_rfl) (by kernel_rfl) (by kernel_rfl) (by kernel_rfl)
  have h152 := @run_callFunc_extern Tryz.prog 152 _ (ReflectliteType.abiMethod fun t => do pure (.int .u8 (← Rtype.kind t))) Tryz.func152 (by kernel_rfl) (by kernel_rfl) (by kernel_rfl) (by kernel_rfl)
  have h163 := @run_callFunc_extern Tryz.prog 163 _ (ReflectliteType.method ReflectliteType.elem) Tryz.func163 (by kernel_rfl) (by kernel_rfl) (by kernel_rfl) (by kernel_rfl)
  have h164 := @run_callFunc_extern Tryz.prog 164 _ (ReflectliteType.relation "Implements" ReflectliteType.implements_) Tryz.func164 (by kernel_rfl) (by kernel_rfl) (by kernel_rfl) (by kernel_rfl)
  have f49 := valueOf77
  have f50 := type77
  have mK := methodKind
  have mE := methodElem
  have mI := methodImplements
  have kP := kind77
  have kT := kind76
  have eP := elem77
  have iT := implements76
  obtain ⟨nt, nv, he⟩ := valOf_eq l e
  have k1 : Keeps Nothing w ((w.alloc (.cells #[.pointer (some ⟨t, 0, none⟩)] 77)).alloc (.cells #[.pointer (some ⟨10, 77, none⟩), .pointer (some ⟨w.heap.size, 0, none⟩), .int .u64 150] 105)) := ((Keeps.refl Nothing w).alloc _).alloc _
  have K1 := Lib.hid k1
  have HB2 := Lib.hid (hB.keeps k1 (fun x => x))
  have HC2 := Lib.hid (hc.same k1)
  have HV2 : Hid (Blk ((w.alloc (.cells #[.pointer (some ⟨t, 0, none⟩)] 77)).alloc (.cells #[.pointer (some ⟨10, 77, none⟩), .pointer (some ⟨w.heap.size, 0, none⟩), .int .u64 150] 105)) w.heap.size [.pointer (some ⟨t, 0, none⟩)] 77) := (Blk.new w [.pointer (some ⟨t, 0, none⟩)] 77).alloc _
  have hg2 : ((w.alloc (.cells #[.pointer (some ⟨t, 0, none⟩)] 77)).alloc (.cells #[.pointer (some ⟨10, 77, none⟩), .pointer (some ⟨w.heap.size, 0, none⟩), .int .u64 150] 105)).cell? ⟨0, 0, none⟩ = some (.iface 144 (.agg #[.pointer (some ⟨10, 29, none⟩)])) := (hg.same k1).et
  have n8 := isNil77 ⟨w.heap.size, 0, none⟩ ⟨t, 0, none⟩ ((w.alloc (.cells #[.pointer (some ⟨t, 0, none⟩)] 77)).alloc (.cells #[.pointer (some ⟨10, 77, none⟩), .pointer (some ⟨w.heap.size, 0, none⟩), .int .u64 150] 105)) (HV2.out.cell 0)
  have HCALL : Hid (Calls Tryz.prog 52 #[.iface nt nv, .iface 77 (.pointer (some ⟨t, 0, none⟩)), .agg #[.pointer (some ⟨10, 77, none⟩), .pointer (some ⟨w.heap.size, 0, none⟩), .int .u64 150], .iface 144 (.agg #[.pointer (some ⟨10, 76, none⟩)])] ((w.alloc (.cells #[.pointer (some ⟨t, 0, none⟩)] 77)).alloc (.cells #[.pointer (some ⟨10, 77, none⟩), .pointer (some ⟨w.heap.size, 0, none⟩), .int .u64 150] 105)) (As76 ((w.alloc (.cells #[.pointer (some ⟨t, 0, none⟩)] 77)).alloc (.cells #[.pointer (some ⟨10, 77, none⟩), .pointer (some ⟨w.heap.size, 0, none⟩), .int .u64 150] 105)) t old (firstOf true l))) := by
    have := as_in76 HC2.out HB2.out HV2.out (.iface 77 (.pointer (some ⟨t, 0, none⟩)))
    rw [he] at this
    exact this
  have HC3 := Lib.hid (HCALL.out.mono (R' := fun ev w' => ∃ b, ev = .returned (.bool b) ∧ As76 ((w.alloc (.cells #[.pointer (some ⟨t, 0, none⟩)] 77)).alloc (.cells #[.pointer (some ⟨10, 77, none⟩), .pointer (some ⟨w.heap.size, 0, none⟩), .int .u64 150] 105)) t old (firstOf true l) ev w') (fun ev w' hh => by
    obtain ⟨b, hb⟩ := as_ends76 hh
    exact ⟨b, hb, hh⟩))
  rw [he]
  clear hc hB hg k1 he HC2 HB2 HV2 HCALL
  go_enter Tryz.func20, Tryz.ntmps20
  go_wp2_with (go_at_call 52; refine HC3.out.mono ?_; rintro ev w' ⟨b, rfl, hh⟩; have HH := Lib.hid hh; clear hh)
  go_ret
  exact ⟨(K1.out.mono (fun _ x _ => x.elim)).trans HH.out.1 (fun _ x _ => x), HH.out.2⟩

/-! ## errors.Is at a number -/
theorem inf33 : (Tryz.prog.info? 33).map (·.comparable) = some true := by kernel_rfl
def comparableF : Array Value → Sem Value := ReflectliteType.method fun t => do Rtype.noPackHeld "Comparable" t; pure (.bool (← typeInfo t).comparable)
theorem comparable33 (w : World) : (comparableF #[.agg #[.pointer (some ⟨10, 33, none⟩)]]).run Tryz.prog w = .ok (.bool true) w := by kernel_rfl

set_option maxRecDepth 100000 in
set_option maxHeartbeats 8000000 in
theorem is_in {w : World} {l : List (Bool × Nat × Int)} {e : Er} (hc : ChainAt w l e) (k0 : Int) :
    Calls Tryz.prog 47 #[valOf l e, .iface 33 (.int .i64 k0), .bool true] w fun ev w' => ev = .returned (.bool (decide (numOf e = some k0))) ∧ w' = w := by
  obtain ⟨i, hi, hcmp⟩ := Option.map_eq_some_iff.1 inf33
  have n33 := noIs33
  have n42 := noIs42
  have n76 := noIs76
  have n112 := noIs112
  have u33 := noUnwrap33
  have u42 := hasUnwrap42
  have u76 := hasUnwrap76
  have u112 := noUnwrap112
  have us33 := noUnwraps33
  have us112 := noUnwraps112
  have m42 := methodUnwrap42
  have m76 := methodUnwrap76
  have HC := Lib.hid hc
  clear hc
  go_enter Tryz.func47, Tryz.ntmps47
  go_wp2
  go_loopg [0] (l.length) (fun k v wr => ∃ j, j + k = l.length ∧ v = valOf (l.drop j) e ∧ wr = w)
  case atStart => exact ⟨0, by omega, rfl, rfl⟩
  case round =>
    obtain ⟨j, hj, rfl, rfl⟩ := hrel
    have hch := HC.out.drop j
    by_cases hlt : j < l.length
    · obtain ⟨f, b, n, hd⟩ : ∃ f b n, l.drop j = (f, b, n) :: l.drop (j + 1) := by
        obtain ⟨⟨f, b, n⟩, hx⟩ : ∃ x, l[j]? = some x := ⟨_, List.getElem?_eq_getElem hlt⟩
        exact ⟨f, b, n, List.drop_eq_getElem?_toList_append.trans (by rw [hx]; rfl)⟩
      rw [hd] at hch
      obtain ⟨hb, -⟩ := hch
      have b1 : wr.cell? ⟨b, 1, none⟩ = some (valOf (l.drop (j + 1)) e) := hb.cell 1
      obtain ⟨nt, nv, hnx⟩ := valOf_eq (l.drop (j + 1)) e
      rw [hnx] at b1
      have HNX := Lib.hid hnx
      clear hb hnx
      cases f with
      | false =>
        rw [hd]
        simp only [valOf]
        have hty := run_eql_iface_types (P := Tryz.prog) 42 33 (.pointer (some ⟨b, 0, none⟩)) (.int .i64 k0) Tryz.underlying29 (by decide) wr
        clear hd
        go_wp2_with go_in
        go_roundg (gk - 1)
        case measure => omega
        case rel => exact ⟨j + 1, by omega, HNX.out.symm, rfl⟩
      | true =>
        rw [hd]
        simp only [valOf]
        have hty := run_eql_iface_types (P := Tryz.prog) 76 33 (.pointer (some ⟨b, 0, none⟩)) (.int .i64 k0) Tryz.underlying29 (by decide) wr
        clear hd
        go_wp2_with go_in
        go_roundg (gk - 1)
        case measure => omega
        case rel => exact ⟨j + 1, by omega, HNX.out.symm, rfl⟩
    · have hd : l.drop j = [] := List.drop_eq_nil_of_le (by omega)
      rw [hd]
      clear hch hd
      cases e with
      | num k =>
        simp only [valOf]
        have hq := run_eql_iface_int (P := Tryz.prog) wr k k0 Tryz.underlying29 Tryz.underlying33 hi hcmp
        by_cases hk : k = k0
        · subst hk
          rw [beq_self_eq_true] at hq
          go_wp2
          go_ret
          exact ⟨by simp [numOf], rfl⟩
        · rw [beq_eq_false_iff_ne.2 hk] at hq
          have hk' : ¬ (numOf (.num k) = some k0) := fun x => hk (by simpa [numOf] using x)
          have HK := Lib.hid hk'
          clear hk hk'
          go_wp2
          go_ret
          have hk := HK.out
          simp only [numOf, Option.some.injEq] at hk
          exact ⟨by simp [numOf, hk], rfl⟩
      | str b =>
        simp only [valOf]
        have hty := run_eql_iface_types (P := Tryz.prog) 112 33 (.pointer (some ⟨b, 0, none⟩)) (.int .i64 k0) Tryz.underlying29 (by decide) wr
        go_wp2
        go_ret
        exact ⟨by simp [numOf], rfl⟩

set_option maxRecDepth 100000 in
set_option maxHeartbeats 8000000 in
theorem is_ok {w : World} {l : List (Bool × Nat × Int)} {e : Er} (hc : ChainAt w l e) (k0 : Int) :
    Calls Tryz.prog 18 #[valOf l e, .iface 33 (.int .i64 k0)] w fun ev w' => ev = .returned (.bool (decide (numOf e = some k0))) ∧ w' = w := by
  have h46 := @run_callFunc_extern Tryz.prog 46 _ ReflectliteType.typeOf Tryz.func46 (by kernel_rfl) (by kernel_rfl) (by kernel_rfl) (by kernel_rfl)
  have h162 := @run_callFunc_extern Tryz.prog 162 _ comparableF Tryz.func162 (by kernel_rfl) (by kernel_rfl) (by kernel_rfl) (by kernel_rfl)
  have tT := typeOf33
  have cT := comparable33
  have mC := methodComparable
  obtain ⟨nt, nv, he⟩ := valOf_eq l e
  have HCALL := Lib.hid (is_in hc k0)
  rw [he] at HCALL ⊢
  clear hc he
  go_enter Tryz.func18, Tryz.ntmps18
  go_wp2_with (go_at_call 47; refine HCALL.out.mono ?_; rintro ev w' ⟨rfl, rfl⟩)
  go_ret
  exact ⟨rfl, rfl⟩

end Go.Proofs.YtdncojofilnhnaaGreatDoor