/- The law's own list that comes into force at its second cycle. -/
import Derived.Test.YtpgmkekdgchkfaaSched3
import Derived.Test.YtpgmkekdgchkfaaSched7
import Derived.Test.YtpgmkekdgchkfaaBad
namespace Go.Proofs.Ytpgmkekdgchkfaa
open Go.RowKit

theorem state_lit {w : World} {p : Nat} {S : Sch} (h : SchAt w p S) (hg : SchGood S) (t v : Int) (ht : t ≤ 9000000000000000000) (hv : S.state t = v) :
    Calls Try.prog 39 #[.pointer (some ⟨p, 0, none⟩), .int .i64 t] w (fun e w' => e = .returned (.int .i64 v) ∧ Keeps Nothing w w') := by
  subst hv; exact state_ok h hg t ht

theorem next_lit {w : World} {p : Nat} {S : Sch} (h : SchAt w p S) (hg : SchGood S) (t v : Int) (ht : t ≤ 9000000000000000000) (hv : S.next t = v) :
    Calls Try.prog 37 #[.pointer (some ⟨p, 0, none⟩), .int .i64 t] w (fun e w' => e = .returned (.int .i64 v) ∧ Keeps Nothing w w') := by
  subst hv; exact next_ok h hg t ht

def tes : List Ent := [⟨1, 30⟩, ⟨2, 30⟩]
def S0 : Sch := ⟨Lst.zero, Lst.zero, false, false, 0, 0, 0⟩
def T1 (g cap : Nat) : Sch := ⟨Lst.zero, ⟨10, 100, 0, some ⟨g, 0, none⟩, cap, tes⟩, false, true, 110, 0, 0⟩
def T2 (g cap : Nat) : Sch := ⟨⟨110, 100, 0, some ⟨g, 0, none⟩, cap, tes⟩, Lst.zero, true, false, 110, 1, 0⟩

theorem tes_good (base : Int) (h0 : 0 ≤ base) (h1 : base < 1000) : Good base 100 0 tes :=
  ⟨by decide, by decide, h0, by omega, by decide, by decide, by decide, by decide, fun e he => by
    simp [tes] at he
    rcases he with rfl | rfl <;> decide⟩

theorem S0_good : SchGood S0 := ⟨(fun h => by cases h), (fun h => by cases h)⟩
theorem T1_good (g cap : Nat) : SchGood (T1 g cap) := ⟨(fun h => by cases h), fun _ => tes_good 110 (by decide) (by decide)⟩
theorem T2_good (g cap : Nat) : SchGood (T2 g cap) := ⟨fun _ => tes_good 110 (by decide) (by decide), (fun h => by cases h)⟩
theorem T1_lone (g cap : Nat) : Lone (T1 g cap) := ⟨rfl, rfl, tes_good 110 (by decide) (by decide), by show 0 ≤ 64; omega⟩

theorem T1_eq (g cap : Nat) : ((S0.pass 50).told ⟨10, 100, 0, some ⟨g, 0, none⟩, cap, tes⟩ (gstart 10 100 50)).pass 50 = T1 g cap := by kernel_rfl
theorem T2_eq (g cap : Nat) : (T1 g cap).pass 200 = T2 g cap := by kernel_rfl
theorem e5 : S0.state 5 = 255 := by kernel_rfl
theorem n5 : S0.next 5 = -1 := by kernel_rfl
theorem e109 (g cap : Nat) : (T1 g cap).state 109 = 255 := by kernel_rfl
theorem e110 (g cap : Nat) : (T1 g cap).state 110 = 1 := by kernel_rfl
theorem n50 (g cap : Nat) : (T1 g cap).next 50 = 110 := by kernel_rfl
theorem e200 (g cap : Nat) : (T2 g cap).state 200 = 2 := by kernel_rfl
theorem u60 (g cap : Nat) : (T1 g cap).walkTo (fun s => bits .and .i64 s 2 == 0) 40 60 (T1 g cap).steps = some 110 := by kernel_rfl
theorem f115 (g cap : Nat) : (T1 g cap).walkTo (fun s => !(bits .and .i64 s 2 == 0)) 40 115 (T1 g cap).steps = some 140 := by kernel_rfl
theorem x115 (g cap : Nat) : (T1 g cap).fitAt 1 20 0 115 115 := ⟨true, 115, by kernel_rfl, fun _ => rfl, (fun h => by cases h)⟩
theorem x125 (g cap : Nat) : (T1 g cap).fitAt 1 20 0 125 210 := ⟨true, 210, by kernel_rfl, fun _ => rfl, (fun h => by cases h)⟩
theorem x125n (g cap : Nat) : (T1 g cap).fitAt 1 31 0 125 (-1) := ⟨false, 2440, by kernel_rfl, (fun h => by cases h), fun _ => ⟨by show (110 : Int) - 2000000000 ≤ 2440; decide, false, 4840, by kernel_rfl, (fun h => by cases h), fun _ => rfl⟩⟩

set_option maxRecDepth 100000 in
set_option maxHeartbeats 8000000 in
theorem turns_ok (w : World) : Calls Try.prog 34 #[] w (TrueKept w) := by
  have hW : Hid (Blk (((w.alloc (.cells #[.int .i64 0, .int .i64 0, .int .i64 0, .slice none 0 0, .int .i64 0, .int .i64 0, .int .i64 0, .slice none 0 0, .bool false, .bool false, .int .i64 0, .int .i64 0, .int .i64 0] 79)).alloc (.cells #[.int .i64 1, .int .i64 30, .int .i64 2, .int .i64 30] 104)).alloc (.cells #[.int .i64 10, .int .i64 100, .int .i64 0, .slice (some ⟨w.heap.size + 1, 0, none⟩) 2 2] 72)) w.heap.size [.int .i64 0, .int .i64 0, .int .i64 0, .slice none 0 0, .int .i64 0, .int .i64 0, .int .i64 0, .slice none 0 0, .bool false, .bool false, .int .i64 0, .int .i64 0, .int .i64 0] 79 ∧ Blk (((w.alloc (.cells #[.int .i64 0, .int .i64 0, .int .i64 0, .slice none 0 0, .int .i64 0, .int .i64 0, .int .i64 0, .slice none 0 0, .bool false, .bool false, .int .i64 0, .int .i64 0, .int .i64 0] 79)).alloc (.cells #[.int .i64 1, .int .i64 30, .int .i64 2, .int .i64 30] 104)).alloc (.cells #[.int .i64 10, .int .i64 100, .int .i64 0, .slice (some ⟨w.heap.size + 1, 0, none⟩) 2 2] 72)) (w.heap.size + 1) [.int .i64 1, .int .i64 30, .int .i64 2, .int .i64 30] 104 ∧ Blk (((w.alloc (.cells #[.int .i64 0, .int .i64 0, .int .i64 0, .slice none 0 0, .int .i64 0, .int .i64 0, .int .i64 0, .slice none 0 0, .bool false, .bool false, .int .i64 0, .int .i64 0, .int .i64 0] 79)).alloc (.cells #[.int .i64 1, .int .i64 30, .int .i64 2, .int .i64 30] 104)).alloc (.cells #[.int .i64 10, .int .i64 100, .int .i64 0, .slice (some ⟨w.heap.size + 1, 0, none⟩) 2 2] 72)) (w.heap.size + 1 + 1) [.int .i64 10, .int .i64 100, .int .i64 0, .slice (some ⟨w.heap.size + 1, 0, none⟩) 2 2] 72 ∧ Keeps Nothing w (((w.alloc (.cells #[.int .i64 0, .int .i64 0, .int .i64 0, .slice none 0 0, .int .i64 0, .int .i64 0, .int .i64 0, .slice none 0 0, .bool false, .bool false, .int .i64 0, .int .i64 0, .int .i64 0] 79)).alloc (.cells #[.int .i64 1, .int .i64 30, .int .i64 2, .int .i64 30] 104)).alloc (.cells #[.int .i64 10, .int .i64 100, .int .i64 0, .slice (some ⟨w.heap.size + 1, 0, none⟩) 2 2] 72))) := by
    refine ⟨((Blk.new w [.int .i64 0, .int .i64 0, .int .i64 0, .slice none 0 0, .int .i64 0, .int .i64 0, .int .i64 0, .slice none 0 0, .bool false, .bool false, .int .i64 0, .int .i64 0, .int .i64 0] 79).alloc _).alloc _, ?_, ?_, (((Keeps.refl _ _).alloc _).alloc _).alloc _⟩
    · have := (Blk.new (w.alloc (.cells #[.int .i64 0, .int .i64 0, .int .i64 0, .slice none 0 0, .int .i64 0, .int .i64 0, .int .i64 0, .slice none 0 0, .bool false, .bool false, .int .i64 0, .int .i64 0, .int .i64 0] 79)) [.int .i64 1, .int .i64 30, .int .i64 2, .int .i64 30] 104).alloc (.cells #[.int .i64 10, .int .i64 100, .int .i64 0, .slice (some ⟨w.heap.size + 1, 0, none⟩) 2 2] 72)
      simpa using this
    · have := Blk.new ((w.alloc (.cells #[.int .i64 0, .int .i64 0, .int .i64 0, .slice none 0 0, .int .i64 0, .int .i64 0, .int .i64 0, .slice none 0 0, .bool false, .bool false, .int .i64 0, .int .i64 0, .int .i64 0] 79)).alloc (.cells #[.int .i64 1, .int .i64 30, .int .i64 2, .int .i64 30] 104)) [.int .i64 10, .int .i64 100, .int .i64 0, .slice (some ⟨w.heap.size + 1, 0, none⟩) 2 2] 72
      simpa using this
  go_enter Try.func34, Try.ntmps34
  go_upto_region 3 with fail
  generalize (((w.alloc (.cells #[.int .i64 0, .int .i64 0, .int .i64 0, .slice none 0 0, .int .i64 0, .int .i64 0, .int .i64 0, .slice none 0 0, .bool false, .bool false, .int .i64 0, .int .i64 0, .int .i64 0] 79)).alloc (.cells #[.int .i64 1, .int .i64 30, .int .i64 2, .int .i64 30] 104)).alloc (.cells #[.int .i64 10, .int .i64 100, .int .i64 0, .slice (some ⟨w.heap.size + 1, 0, none⟩) 2 2] 72)) = w1 at *
  have HL := Lib.hid hW.out.2.2.1
  have HK := Lib.hid hW.out.2.2.2
  have HS : Hid (SchAt w1 w.heap.size S0) := ⟨hW.out.1, Lst.zero_ok _ _, Lst.zero_ok _ _⟩
  have hE := hW.out.2.1
  have ER : Hid (EntsR w1 (some ⟨w.heap.size + 1, 0, none⟩) 2 tes) := by
    refine .inr ⟨w.heap.size + 1, 0, rfl, by decide, fun j e hj => ?_⟩
    match j, hj with
    | 0, hj => simp [tes] at hj; subst hj; exact ⟨hE.cell 0, hE.cell 1⟩
    | 1, hj => simp [tes] at hj; subst hj; exact ⟨hE.cell 2, hE.cell 3⟩
    | j + 2, hj => simp [tes] at hj
  have EA : Hid (∀ b o, (some ⟨w.heap.size + 1, 0, none⟩ : Option Addr) = some ⟨b, o, none⟩ → b ≠ w.heap.size) := fun b o hb => by injection hb with hb; injection hb with hb; omega
  clear hE hW
  have A1 := state_lit HS.out S0_good 5 255 (by decide) e5
  go_upto_region 5 with (first | (go_at_call 39; refine A1.mono ?_; rintro e w2 ⟨rfl, k2⟩; clear A1; have B1 := next_lit (HS.out.same k2) S0_good 5 (-1) (by decide) n5) | (go_at_call 37; refine B1.mono ?_; rintro e w3 ⟨rfl, k3'⟩; have k3 := k2.same k3'; clear B1; have D1 := set_bad (p := w.heap.size) (w := w3) (base := 0) (cyc := 0) (ext := 0) (A := none) (c := 0) (es := []) (.inl rfl) (fun h => absurd h.pos (by decide)) 0) | (go_at_call 44; refine D1.mono ?_; rintro e w4 ⟨rfl, k4'⟩; have k4 := k3.same k4'; clear D1; have m0 : w4.cell? ⟨w.heap.size + 1 + 1, 0, none⟩ = some (.int .i64 10) := (HL.out.keeps k4 (fun h => h)).cell 0; have m1 : w4.cell? ⟨w.heap.size + 1 + 1, 1, none⟩ = some (.int .i64 100) := (HL.out.keeps k4 (fun h => h)).cell 1; have m2 : w4.cell? ⟨w.heap.size + 1 + 1, 2, none⟩ = some (.int .i64 0) := (HL.out.keeps k4 (fun h => h)).cell 2; have m3 : w4.cell? ⟨w.heap.size + 1 + 1, 3, none⟩ = some (.slice (some ⟨w.heap.size + 1, 0, none⟩) 2 2) := (HL.out.keeps k4 (fun h => h)).cell 3; have D2 := set_time (p := w.heap.size) (es := tes) (ER.out.same k4) (tes_good 10 (by decide) (by decide)) (-1) (by decide)) | (go_at_call 44; refine D2.mono ?_; rintro e w5 ⟨rfl, k5'⟩; have k5 := k4.same k5'; clear D2 m0 m1 m2 m3; have m0 : w5.cell? ⟨w.heap.size + 1 + 1, 0, none⟩ = some (.int .i64 10) := (HL.out.keeps k5 (fun h => h)).cell 0; have m1 : w5.cell? ⟨w.heap.size + 1 + 1, 1, none⟩ = some (.int .i64 100) := (HL.out.keeps k5 (fun h => h)).cell 1; have m2 : w5.cell? ⟨w.heap.size + 1 + 1, 2, none⟩ = some (.int .i64 0) := (HL.out.keeps k5 (fun h => h)).cell 2; have m3 : w5.cell? ⟨w.heap.size + 1 + 1, 3, none⟩ = some (.slice (some ⟨w.heap.size + 1, 0, none⟩) 2 2) := (HL.out.keeps k5 (fun h => h)).cell 3; have D3 := set_ok (HS.out.same k5) (es := tes) (ER.out.same k5) EA.out (tes_good 10 (by decide) (by decide)) 50 (by decide) (by decide) (by decide) ⟨by decide, by decide⟩ ⟨by decide, by decide⟩) | (go_at_call 44; refine D3.mono ?_; rintro e w6 ⟨rfl, k6, g, cap, hS6, -⟩; clear D3))
  rw [T1_eq] at hS6
  have HS6 := Lib.hid hS6
  have HK6 := Lib.hid ((HK.out.same k5).up k6 (fun k hk => by omega))
  clear hS6 k2 k3 k4 k5 k6 k3' k4' k5' m0 m1 m2 m3 HS ER EA HL HK
  have G := Lib.hid (T1_good g cap)
  have GL := Lib.hid (T1_lone g cap)
  have A1 := waits_ok HS6.out
  go_upto_region 8 with (first | (go_at_call 45; refine A1.mono ?_; rintro e w7 ⟨rfl, r7'⟩; clear A1; have r7 := r7'; have A2 := state_lit (HS6.out.same r7) G.out 109 255 (by decide) (e109 g cap)) | (go_at_call 39; refine A2.mono ?_; rintro e w8 ⟨rfl, r8'⟩; clear A2; have r8 := r7.same r8'; have A3 := state_lit (HS6.out.same r8) G.out 110 1 (by decide) (e110 g cap)) | (go_at_call 39; refine A3.mono ?_; rintro e w9 ⟨rfl, r9'⟩; clear A3; have r9 := r8.same r9'; have A4 := next_lit (HS6.out.same r9) G.out 50 110 (by decide) (n50 g cap)) | (go_at_call 37; refine A4.mono ?_; rintro e w10 ⟨rfl, r10'⟩; clear A4; have r10 := r9.same r10'; have A5 := until_ok (HS6.out.same r10) GL.out 1 2 (by decide) (by decide +kernel) 60 110 40 (u60 g cap)) | (go_at_call 55; refine A5.mono ?_; rintro e w11 ⟨rfl, r11'⟩; clear A5; have r11 := r10.same r11'; have A6 := from_ok (HS6.out.same r11) GL.out 1 2 (by decide) (by decide +kernel) 115 140 40 (f115 g cap)) | (go_at_call 56; refine A6.mono ?_; rintro e w12 ⟨rfl, r12'⟩; clear A6; have r12 := r11.same r12'; have A7 := fits_ok (HS6.out.same r12) GL.out 0 1 (by decide) (by decide +kernel) 115 20 115 (x115 g cap)) | (go_at_call 40; refine A7.mono ?_; rintro e w13 ⟨rfl, r13'⟩; clear A7; have r13 := r12.same r13'; have A8 := fits_ok (HS6.out.same r13) GL.out 0 1 (by decide) (by decide +kernel) 125 20 210 (x125 g cap)) | (go_at_call 40; refine A8.mono ?_; rintro e w14 ⟨rfl, r14'⟩; clear A8; have r14 := r13.same r14'; have A9 := fits_ok (HS6.out.same r14) GL.out 0 1 (by decide) (by decide +kernel) 125 31 (-1) (x125n g cap)) | (go_at_call 40; refine A9.mono ?_; rintro e w15 ⟨rfl, r15'⟩; clear A9; have r15 := r14.same r15'))
  have A1 := pass_ok (HS6.out.same r15) 200 ⟨by show (0 : Int) ≤ 0; decide, by show (0 : Int) ≤ 1000000000; decide⟩
  rw [T2_eq] at A1
  go_upto_region 9 with (go_at_call 46; refine A1.mono ?_; rintro e w16 ⟨rfl, hS16, k16⟩; clear A1)
  have HS7 := Lib.hid hS16
  have HK7 := Lib.hid ((HK6.out.same r15).up k16 (fun k hk => by omega))
  clear hS16 k16 HS6 G GL r7 r8 r9 r10 r11 r12 r13 r14 r15 r7' r8' r9' r10' r11' r12' r13' r14' r15' HK6
  have B1 : Calls Try.prog 47 #[.pointer (some ⟨w.heap.size, 0, none⟩)] w16 (fun e w' => ∃ g2 cap2, e = .returned (.tuple #[.agg #[.int .i64 110, .int .i64 100, .int .i64 0, .slice (some ⟨g2, 0, none⟩) 2 cap2], .bool true]) ∧ Keeps Nothing w16 w') := oper_ok HS7.out (by show 0 < 2; decide) (by show 2 ≤ 64; decide)
  have B2 : ∀ v, Keeps Nothing w16 v → Calls Try.prog 48 #[.pointer (some ⟨w.heap.size, 0, none⟩)] v (fun e w' => e = .returned (.tuple #[.int .i64 1, .int .i64 0]) ∧ Keeps Nothing v w') := fun v hv => counts_ok (HS7.out.same hv)
  have B3 := fun v (hv : Keeps Nothing w16 v) => state_lit (HS7.out.same hv) (T2_good g cap) 200 2 (by decide) (e200 g cap)
  go_wp2_with (first | (go_at_call 47; refine B1.mono ?_; rintro e w17 ⟨g2, cap2, rfl, k17⟩; clear B1) | (go_at_call 48; refine (B2 _ (k17.alloc _)).mono ?_; rintro e w18 ⟨rfl, k18⟩; clear B2; have z0 : w18.cell? ⟨w17.heap.size, 0, none⟩ = some (.int .i64 110) := ((Blk.new w17 [.int .i64 110, .int .i64 100, .int .i64 0, .slice (some ⟨g2, 0, none⟩) 2 cap2] 72).keeps k18 (fun h => h)).cell 0) | (go_at_call 39; refine (B3 _ ((k17.alloc _).same k18)).mono ?_; rintro e w19 ⟨rfl, k19⟩; clear B3))
  go_ret
  exact ⟨rfl, HK7.out.same (((k17.alloc _).same k18).same k19)⟩

end Go.Proofs.Ytpgmkekdgchkfaa
