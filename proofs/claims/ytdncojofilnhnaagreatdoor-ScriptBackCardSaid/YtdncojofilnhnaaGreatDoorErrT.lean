/- Wrong.Error, Wrong.Unwrap, Errno.Error, errors.New: the walks. -/
import Derived.Test.YtdncojofilnhnaaGreatDoorReads
import Derived.Laws.Strings3
import Derived.Deep.RegionWith
import Derived.WalkMore
namespace Go.Proofs.YtdncojofilnhnaaGreatDoor
open Go.RowKit Go.Lib

theorem cat_s (a b : Str) : (⟨a.toArray⟩ ++ ⟨b.toArray⟩ : ByteArray) = ⟨(a ++ b).toArray⟩ := by
  apply ByteArray.ext
  rw [ByteArray.data_append]
  simp

set_option maxRecDepth 100000 in
set_option maxHeartbeats 4000000 in
theorem errno_text (x : Int) (h0 : -9223372036854775808 ≤ x) (h1 : x ≤ 9223372036854775807) {w : World} (hg : Gl w) :
    Calls Tryz.prog 54 #[.int .i64 x] w fun ev w' => ev = .returned (strV ([101, 114, 114, 110, 111, 32] ++ itoa x)) ∧ Keeps Nothing w w' := by
  have HI := Lib.hid (itoa_ok x h0 h1 hg)
  have hl := itoa_length_le x h0 h1
  have hc := cat_s [101, 114, 114, 110, 111, 32] (itoa x)
  generalize itoa x = t at *
  have hlim : ¬ 9223372036854775807 < 6 + t.length := by omega
  clear hg
  go_enter Tryz.func54, Tryz.ntmps54
  go_wp2_with (go_at_call 53; refine HI.out.mono ?_; rintro e w1 ⟨rfl, k1⟩; have K1 := Lib.hid k1; clear k1)
  go_ret
  exact ⟨rfl, K1.out⟩

set_option maxRecDepth 100000 in
set_option maxHeartbeats 4000000 in
/-- What is wrong, in words: never nothing. -/
theorem wrong_text {b : Nat} {n : Int} {l : List (Bool × Nat × Int)} {e : Er} (h0 : -9223372036854775808 ≤ n) (h1 : n ≤ 9223372036854775807) (x0 : -9223372036854775808 ≤ codeOf e) (x1 : codeOf e ≤ 9223372036854775807) {w : World} (hg : Gl w) (hB : Blk w b [.int .i64 n, valOf l e] 48) (hc : ChainAt w l e) :
    Calls Tryz.prog 21 #[.pointer (some ⟨b, 0, none⟩)] w fun ev w' => (∃ t, ev = .returned (strV (119 :: t))) ∧ Keeps Nothing w w' := by
  have hI := fun (w' : World) (hg : Gl w') => itoa_ok n h0 h1 hg
  have hN := fun (w' : World) (hg : Gl w') => errno_text (codeOf e) x0 x1 hg
  have hC := fun (w' : World) (hg : Gl w') (hc : ChainAt w' l e) => code_ok hg hc
  have hl := itoa_length_le n h0 h1
  have hl2 := itoa_length_le (codeOf e) x0 x1
  have c0 := hB.cell 0
  have c1 := hB.cell 1
  simp only [List.getElem?_cons_zero, List.getElem?_cons_succ] at c0 c1
  obtain ⟨nt, nv, he⟩ := valOf_eq l e
  rw [he] at c1 hC
  generalize codeOf e = x at *
  have HI := Lib.hid hI
  have hq : ([101, 114, 114, 110, 111, 32] ++ itoa x).length ≤ 27 := by simp; omega
  generalize [101, 114, 114, 110, 111, 32] ++ itoa x = u at *
  generalize itoa n = t at *
  obtain ⟨s1, ha1, hb1, hc1⟩ : ∃ s1 : Str, (⟨#[119, 111, 114, 100, 32]⟩ ++ ⟨t.toArray⟩ : ByteArray) = ⟨s1.toArray⟩ ∧ s1.length ≤ 26 ∧ ∃ r, s1 = 119 :: r := ⟨[119, 111, 114, 100, 32] ++ t, cat_s [119, 111, 114, 100, 32] t, by simp; omega, _, rfl⟩
  obtain ⟨s2, ha2, hb2, hc2⟩ : ∃ s2 : Str, (⟨s1.toArray⟩ ++ ⟨#[58, 32]⟩ : ByteArray) = ⟨s2.toArray⟩ ∧ s2.length ≤ 28 ∧ ∃ r, s2 = 119 :: r := ⟨s1 ++ [58, 32], cat_s s1 [58, 32], by simp; omega, by obtain ⟨r, rfl⟩ := hc1; exact ⟨_, rfl⟩⟩
  obtain ⟨s3, ha3, hc3⟩ : ∃ s3 : Str, (⟨s2.toArray⟩ ++ ⟨u.toArray⟩ : ByteArray) = ⟨s3.toArray⟩ ∧ ∃ r, s3 = 119 :: r := ⟨s2 ++ u, cat_s s2 u, by obtain ⟨r, rfl⟩ := hc2; exact ⟨_, rfl⟩⟩
  have HN := Lib.hid hN
  have HC := Lib.hid hC
  have HG := Lib.hid hg
  have HCH := Lib.hid hc
  have HC3 := Lib.hid hc3
  have hlim1 : ¬ 9223372036854775807 < 5 + t.length := by omega
  have hlim2 : ¬ 9223372036854775807 < s1.length + 2 := by omega
  have hlim3 : ¬ 9223372036854775807 < s2.length + u.length := by omega
  clear hc1 hc2 hc3 hb1 hb2 hq
  have d0 : w.drew.cell? ⟨b, 0, none⟩ = some (.int .i64 n) := c0
  have d1 : w.drew.cell? ⟨b, 1, none⟩ = some (.iface nt nv) := c1
  have HB := Lib.hid hB
  clear hI hN hC hg hc he hB c0 c1
  go_enter Tryz.func21, Tryz.ntmps21
  go_wp2
  go_region_held3 (fun v => v.cell? ⟨b, 0, none⟩ = some (.int .i64 n) ∧ v.cell? ⟨b, 1, none⟩ = some (.iface nt nv)) (first | exact ⟨i0, i1⟩ | exact ⟨g0, g1⟩ | exact ⟨e0, e1⟩ | exact ⟨d0, d1⟩) (first | (go_at_call 53; refine (HI.out _ (HG.out.same ((Keeps.refl _ _).drew))).mono ?_; rintro e w1 ⟨rfl, k1⟩; have K1 := Lib.hid k1; have HG1 := Lib.hid (HG.out.same ((Keeps.refl _ _).drew.same k1)); have HCH1 := Lib.hid (HCH.out.same ((Keeps.refl _ _).drew.same k1)); have e0 := (k1.cell (World.block_lt_of_cell? w.drew _ d0) (fun h => h)).trans d0; have e1 := (k1.cell (World.block_lt_of_cell? w.drew _ d1) (fun h => h)).trans d1; clear k1) | (go_at_call 15; refine (HC.out _ HG1.out HCH1.out).mono ?_; rintro e w2 ⟨rfl, k2⟩; have K2 := Lib.hid (K1.out.same k2); have HG2 := Lib.hid (HG1.out.same k2); have g0 := (k2.cell (World.block_lt_of_cell? w1 _ e0) (fun h => h)).trans e0; have g1 := (k2.cell (World.block_lt_of_cell? w1 _ e1) (fun h => h)).trans e1; clear k2) | (go_at_call 54; refine (HN.out _ HG2.out).mono ?_; rintro e w3 ⟨rfl, k3⟩; have K3 := Lib.hid (K2.out.same k3); have i0 := (k3.cell (World.block_lt_of_cell? w2 _ g0) (fun h => h)).trans g0; have i1 := (k3.cell (World.block_lt_of_cell? w2 _ g1) (fun h => h)).trans g1; clear k3))
  go_wp2
  go_ret
  obtain ⟨r, rfl⟩ := HC3.out
  exact ⟨⟨r, rfl⟩, (Keeps.refl _ _).drew.same K3.out⟩

theorem unwrap_ok {b : Nat} {n : Int} {l : List (Bool × Nat × Int)} {e : Er} {w : World} (hB : Blk w b [.int .i64 n, valOf l e] 48) :
    Calls Tryz.prog 22 #[.pointer (some ⟨b, 0, none⟩)] w fun ev w' => ev = .returned (valOf l e) ∧ w' = w := by
  have c1 := hB.cell 1
  simp only [List.getElem?_cons_zero, List.getElem?_cons_succ] at c1
  obtain ⟨nt, nv, he⟩ := valOf_eq l e
  rw [he] at c1 ⊢
  clear hB he
  go_enter Tryz.func22, Tryz.ntmps22
  go_wp2
  go_ret
  exact ⟨rfl, rfl⟩

theorem new_ok (s : Str) (w : World) : Calls Tryz.prog 23 #[strV s] w fun ev w' => ev = .returned (.iface 112 (.pointer (some ⟨w.heap.size, 0, none⟩))) ∧ Keeps Nothing w w' := by
  have K1 := Lib.hid ((Keeps.refl Nothing w).alloc (.cells #[strV s] 114))
  go_enter Tryz.func23, Tryz.ntmps23
  go_wp2
  go_ret
  exact ⟨rfl, K1.out⟩
end Go.Proofs.YtdncojofilnhnaaGreatDoor
