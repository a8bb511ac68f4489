/- script.same, Fault.Error, Fault.Unwrap: the walks. -/
import Derived.Test.YtdncojofilnhnaaGreatDoorCfB
import Derived.Test.YtdncojofilnhnaaGreatDoorErrT
import Derived.Deep.RegionWith
import Derived.WalkMore
import Derived.Laws.Strings3
namespace Go.Proofs.YtdncojofilnhnaaGreatDoor
open Go.RowKit Go.Lib

theorem results_cell59 {fn : Func} {p : Tmp} (h : fn.results = #[.cell p 59]) (tmps : Array Value) (w : World) (g : Nat) (cs : List Value) (T : TypeId) (hp : tmps.getD p undef = .pointer (some ⟨g, 0, none⟩)) (hB : Blk w g cs T) (h4 : cs.length = 8) :
    (results fn tmps).run Tryz.prog w = .ok (.agg cs.toArray) w := by
  have hi : (Tryz.prog.info? 59).map (·.size) = some 8 := by kernel_rfl
  have hl := run_loadVar_row (P := Tryz.prog) w g T 59 cs.toArray (0, 0) _ hB Tryz.underlying59 rfl (by rw [List.size_toArray, h4]; exact hi)
  have e : (results fn tmps).run Tryz.prog w = ((asAddr (tmps.getD p undef)).run Tryz.prog w).andThen fun a w₁ => (loadVar 59 a).run Tryz.prog w₁ := by
    simp only [results, h]
    simp [Sem.run_bind, Result.andThen]
  rw [e, hp]
  simp [asAddr, hl, Result.andThen]

theorem size59 : (Tryz.prog.info? 59).map (·.size) = some 8 := by kernel_rfl

theorem set_rep0 (d z : Value) (i k : Nat) : (List.replicate i d ++ List.replicate (k + 1) z).set i d = List.replicate (i + 1) d ++ List.replicate k z := by
  have := set_rep [] [] d z i k
  simpa using this

set_option maxRecDepth 100000 in
set_option maxHeartbeats 4000000 in
theorem same_ok (d : Int) (w : World) :
    Calls Tryz.prog 56 #[.int .i64 d] w fun ev w' => ev = .returned (.agg (List.replicate 8 (Value.int .i64 d)).toArray) ∧ Keeps Nothing w w' := by
  have k1 : Keeps Nothing w ((w.alloc (.cells (List.replicate 8 (Value.int .i64 0)).toArray 59)).alloc (.cells (List.replicate 8 (Value.int .i64 0)).toArray 59)) := ((Keeps.refl Nothing w).alloc _).alloc _
  have K1 := Lib.hid k1
  have HA : Hid (Blk ((w.alloc (.cells (List.replicate 8 (Value.int .i64 0)).toArray 59)).alloc (.cells (List.replicate 8 (Value.int .i64 0)).toArray 59)) w.heap.size (List.replicate 8 (Value.int .i64 0)) 59) := Lib.hid ((Blk.new w _ 59).alloc _)
  have HB : Hid (Blk ((w.alloc (.cells (List.replicate 8 (Value.int .i64 0)).toArray 59)).alloc (.cells (List.replicate 8 (Value.int .i64 0)).toArray 59)) (w.heap.size + 1) (List.replicate 8 (Value.int .i64 0)) 59) := Lib.hid (by
    have := Blk.new (w.alloc (.cells (List.replicate 8 (Value.int .i64 0)).toArray 59)) (List.replicate 8 (Value.int .i64 0)) 59
    rw [show (w.alloc (.cells (List.replicate 8 (Value.int .i64 0)).toArray 59)).heap.size = w.heap.size + 1 by simp] at this
    exact this)
  clear k1
  go_enter Tryz.func56, Tryz.ntmps56
  go_wp2
  go_loopw [5] (fun vi wr => ∃ i : Nat, vi = .int .i64 i ∧ i ≤ 8 ∧ Hid (Blk wr w.heap.size (List.replicate 8 (Value.int .i64 0)) 59) ∧ Hid (Blk wr (w.heap.size + 1) (List.replicate i (Value.int .i64 d) ++ List.replicate (8 - i) (Value.int .i64 0)) 59) ∧ Hid (Keeps Nothing w wr)) (fun vi _ => 8 - (RowKit.intOf vi).toNat)
  case atStart => exact ⟨0, rfl, by omega, HA, HB, K1⟩
  case round =>
    obtain ⟨i, rfl, hi, HA2, HB2, HK⟩ := hrel
    clear HA HB K1
    by_cases hi8 : i < 8
    · obtain ⟨k, hk⟩ : ∃ k, 8 - i = k + 1 := ⟨7 - i, by omega⟩
      rw [hk] at HB2
      have cX : wr.cell? ⟨w.heap.size + 1, i, none⟩ = some (.int .i64 0) := by
        rw [HB2.out.cell, List.getElem?_append_right (by simp)]
        simp [List.replicate_succ]
      have zX := HB2.out.frozen i
      have HBX : Hid (Blk (wr.setCell ⟨w.heap.size + 1, i, none⟩ (.int .i64 d)) (w.heap.size + 1) (List.replicate (i + 1) (Value.int .i64 d) ++ List.replicate (8 - (i + 1)) (Value.int .i64 0)) 59) := Lib.hid (by
        have := HB2.out.set i (.int .i64 d)
        rw [set_rep0] at this
        rw [show 8 - (i + 1) = k by omega]
        exact this)
      have HAX : Hid (Blk (wr.setCell ⟨w.heap.size + 1, i, none⟩ (.int .i64 d)) w.heap.size (List.replicate 8 (Value.int .i64 0)) 59) := Lib.hid (HA2.out.set_ne _ _ (by simp))
      have HKX : Hid (Keeps Nothing w (wr.setCell ⟨w.heap.size + 1, i, none⟩ (.int .i64 d))) := Lib.hid (HK.out.setCell (p := ⟨w.heap.size + 1, i, none⟩) (fun h => absurd h (by simp)) _)
      clear hk
      go_wp2
      exact ⟨⟨i + 1, by go_num, by omega, HAX, HBX, HKX⟩, by simp [RowKit.intOf]; omega⟩
    · have hi8' : i = 8 := by omega
      subst hi8'
      go_wp2_with (first | (refine wpList_getM rfl 59 (.tmp 3) rfl (w.heap.size + 1) 0 rfl (List.replicate 8 (Value.int .i64 d)) (List.replicate 8 (Value.int .i64 d)) 59 HB2.out (by rw [List.drop_zero, List.take_length]) _ Tryz.underlying59 rfl size59 ?_) | (refine wpList_putB rfl 59 (.tmp 2) (.tmp 12) rfl w.heap.size (List.replicate 8 (Value.int .i64 d)) rfl rfl 59 (List.replicate 8 (Value.int .i64 0)) HA2.out size59 rfl (fun v hv => by rw [List.eq_of_mem_replicate hv]; rfl) ?_; intro w9 hr9 k9; have HR9 := Lib.hid hr9; have K9 := Lib.hid k9; clear hr9 k9))
      refine bodyPost_ret (results_cell59 rfl _ _ w.heap.size (List.replicate 8 (Value.int .i64 d)) 59 rfl HR9.out rfl) rfl ?_
      exact ⟨rfl, HK.out.up K9.out (fun k h => Nat.le_of_eq h.symm)⟩

theorem flt_unwrap {w : World} {b : Nat} {n : Int} {v : Value} (h : Blk w b [.int .i64 n, v] 79) :
    Calls Tryz.prog 33 #[.pointer (some ⟨b, 0, none⟩)] w fun ev w' => ev = .returned v ∧ w' = w := by
  have c1 : w.cell? ⟨b, 1, none⟩ = some v := h.cell 1
  go_enter Tryz.func33, Tryz.ntmps33
  go_wp2
  go_ret
  exact ⟨rfl, rfl⟩

set_option maxRecDepth 100000 in
set_option maxHeartbeats 4000000 in
/-- What is wrong, in words: never nothing. -/
theorem fault_text {b : Nat} {n : Int} {l : List (Bool × Nat × Int)} {e : Er} (h0 : -9223372036854775808 ≤ n) (h1 : n ≤ 9223372036854775807) (x0 : -9223372036854775808 ≤ codeOf e) (x1 : codeOf e ≤ 9223372036854775807) {w : World} (hg : Gl w) (hB : Blk w b [.int .i64 n, valOf l e] 79) (hc : ChainAt w l e) :
    Calls Tryz.prog 32 #[.pointer (some ⟨b, 0, none⟩)] w fun ev w' => (∃ t, ev = .returned (strV (108 :: t))) ∧ Keeps Nothing w w' := by
  have hI := fun (w' : World) (hg : Gl w') => itoa_ok n h0 h1 hg
  have hN := fun (w' : World) (hg : Gl w') => errno_text (codeOf e) x0 x1 hg
  have hC := fun (w' : World) (hg : Gl w') (hc : ChainAt w' l e) => code_ok hg hc
  have hl := itoa_length_le n h0 h1
  have hl2 := itoa_length_le (codeOf e) x0 x1
  have c0 := hB.cell 0
  have c1 := hB.cell 1
  simp only [List.getElem?_cons_zero, List.getElem?_cons_succ] at c0 c1
  obtain ⟨nt, nv, he⟩ := valOf_eq l e
  rw [he] at c1 hC
  generalize codeOf e = x at *
  have HI := Lib.hid hI
  have hq : ([101, 114, 114, 110, 111, 32] ++ itoa x).length ≤ 27 := by simp; omega
  generalize [101, 114, 114, 110, 111, 32] ++ itoa x = u at *
  generalize itoa n = t at *
  obtain ⟨s1, ha1, hb1, hc1⟩ : ∃ s1 : Str, (⟨#[108, 105, 110, 101, 32]⟩ ++ ⟨t.toArray⟩ : ByteArray) = ⟨s1.toArray⟩ ∧ s1.length ≤ 26 ∧ ∃ r, s1 = 108 :: r := ⟨[108, 105, 110, 101, 32] ++ t, cat_s [108, 105, 110, 101, 32] t, by simp; omega, _, rfl⟩
  obtain ⟨s2, ha2, hb2, hc2⟩ : ∃ s2 : Str, (⟨s1.toArray⟩ ++ ⟨#[58, 32]⟩ : ByteArray) = ⟨s2.toArray⟩ ∧ s2.length ≤ 28 ∧ ∃ r, s2 = 108 :: r := ⟨s1 ++ [58, 32], cat_s s1 [58, 32], by simp; omega, by obtain ⟨r, rfl⟩ := hc1; exact ⟨_, rfl⟩⟩
  obtain ⟨s3, ha3, hc3⟩ : ∃ s3 : Str, (⟨s2.toArray⟩ ++ ⟨u.toArray⟩ : ByteArray) = ⟨s3.toArray⟩ ∧ ∃ r, s3 = 108 :: r := ⟨s2 ++ u, cat_s s2 u, by obtain ⟨r, rfl⟩ := hc2; exact ⟨_, rfl⟩⟩
  have HN := Lib.hid hN
  have HC := Lib.hid hC
  have HG := Lib.hid hg
  have HCH := Lib.hid hc
  have HC3 := Lib.hid hc3
  have hlim1 : ¬ 9223372036854775807 < 5 + t.length := by omega
  have hlim2 : ¬ 9223372036854775807 < s1.length + 2 := by omega
  have hlim3 : ¬ 9223372036854775807 < s2.length + u.length := by omega
  clear hc1 hc2 hc3 hb1 hb2 hq
  have d0 : w.drew.cell? ⟨b, 0, none⟩ = some (.int .i64 n) := c0
  have d1 : w.drew.cell? ⟨b, 1, none⟩ = some (.iface nt nv) := c1
  have HB := Lib.hid hB
  clear hI hN hC hg hc he hB c0 c1
  go_enter Tryz.func32, Tryz.ntmps32
  go_wp2
  go_region_held3 (fun v => v.cell? ⟨b, 0, none⟩ = some (.int .i64 n) ∧ v.cell? ⟨b, 1, none⟩ = some (.iface nt nv)) (first | exact ⟨i0, i1⟩ | exact ⟨g0, g1⟩ | exact ⟨e0, e1⟩ | exact ⟨d0, d1⟩) (first | (go_at_call 53; refine (HI.out _ (HG.out.same ((Keeps.refl _ _).drew))).mono ?_; rintro e w1 ⟨rfl, k1⟩; have K1 := Lib.hid k1; have HG1 := Lib.hid (HG.out.same ((Keeps.refl _ _).drew.same k1)); have HCH1 := Lib.hid (HCH.out.same ((Keeps.refl _ _).drew.same k1)); have e0 := (k1.cell (World.block_lt_of_cell? w.drew _ d0) (fun h => h)).trans d0; have e1 := (k1.cell (World.block_lt_of_cell? w.drew _ d1) (fun h => h)).trans d1; clear k1) | (go_at_call 15; refine (HC.out _ HG1.out HCH1.out).mono ?_; rintro e w2 ⟨rfl, k2⟩; have K2 := Lib.hid (K1.out.same k2); have HG2 := Lib.hid (HG1.out.same k2); have g0 := (k2.cell (World.block_lt_of_cell? w1 _ e0) (fun h => h)).trans e0; have g1 := (k2.cell (World.block_lt_of_cell? w1 _ e1) (fun h => h)).trans e1; clear k2) | (go_at_call 54; refine (HN.out _ HG2.out).mono ?_; rintro e w3 ⟨rfl, k3⟩; have K3 := Lib.hid (K2.out.same k3); have i0 := (k3.cell (World.block_lt_of_cell? w2 _ g0) (fun h => h)).trans g0; have i1 := (k3.cell (World.block_lt_of_cell? w2 _ g1) (fun h => h)).trans g1; clear k3))
  go_wp2
  go_ret
  obtain ⟨r, rfl⟩ := HC3.out
  exact ⟨⟨r, rfl⟩, (Keeps.refl _ _).drew.same K3.out⟩


end Go.Proofs.YtdncojofilnhnaaGreatDoor
