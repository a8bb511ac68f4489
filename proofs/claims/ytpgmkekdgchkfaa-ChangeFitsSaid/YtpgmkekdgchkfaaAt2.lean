/- ChangeAt: what is asked. -/
import Derived.Test.YtpgmkekdgchkfaaAt
import Derived.Deep.DeepCutAuto
import Derived.Deep.CutBlock
namespace Go.Proofs.Ytpgmkekdgchkfaa
open Go.RowKit

theorem EntsR.lt {w : World} {A : Option Addr} {c : Nat} {es : List Ent} (h : EntsR w A c es) (h0 : 0 < es.length) : ∀ b o, A = some ⟨b, o, none⟩ → b < w.heap.size := by
  intro b o hb
  rcases h with h | ⟨b', o', h1, h2, h3⟩
  · rw [h] at h0; simp at h0
  · rw [hb] at h1
    injection h1 with h1
    injection h1 with h1 h4
    subst h1 h4
    obtain ⟨e, he⟩ : ∃ e, es[0]? = some e := ⟨_, List.getElem?_eq_getElem h0⟩
    exact World.block_lt_of_cell? _ _ (h3 0 e he).1

theorem gstart_range {base cyc t : Int} (hc : 1 ≤ cyc) : t ≤ gstart base cyc t ∧ base ≤ gstart base cyc t ∧ (gstart base cyc t = base ∨ gstart base cyc t ≤ t + cyc - 1) := by
  unfold gstart
  by_cases h : t ≤ base
  · rw [if_pos h]; exact ⟨h, Int.le_refl _, .inl rfl⟩
  · rw [if_neg h, Int.tdiv_eq_ediv_of_nonneg (by omega)]
    have h1 := Int.mul_ediv_add_emod (t - base + cyc - 1) cyc
    have h2 := Int.emod_nonneg (t - base + cyc - 1) (by omega : cyc ≠ 0)
    have h3 := Int.emod_lt_of_pos (t - base + cyc - 1) (by omega : 0 < cyc)
    rw [Int.mul_comm cyc] at h1
    omega

def U1 (now y1 x1 : Int) (g cap : Nat) (es1 : List Ent) : Sch := ⟨Lst.zero, ⟨now + 5, y1, x1, some ⟨g, 0, none⟩, cap, es1⟩, false, true, now + 5, 0, 0⟩
def U2 (b2 W y2 x2 : Int) (g cap : Nat) (es2 : List Ent) : Sch := ⟨Lst.zero, ⟨b2, y2, x2, some ⟨g, 0, none⟩, cap, es2⟩, false, true, W, 0, 1⟩
def U3 (W y2 x2 : Int) (g cap : Nat) (es2 : List Ent) : Sch := ⟨⟨W, y2, x2, some ⟨g, 0, none⟩, cap, es2⟩, Lst.zero, true, false, W, 1, 1⟩

theorem U1_eq (now y1 x1 : Int) (g cap : Nat) (es1 : List Ent) : ((S0.pass now).told ⟨now + 5, y1, x1, some ⟨g, 0, none⟩, cap, es1⟩ (gstart (now + 5) y1 now)).pass now = U1 now y1 x1 g cap es1 := by
  have e1 : S0.pass now = S0 := if_neg (fun h => by cases h.1)
  have e2 : gstart (now + 5) y1 now = now + 5 := if_pos (by omega)
  rw [e1, e2]
  exact if_neg (fun h => by have : now + 5 ≤ now := h.2; omega)

theorem U1_pass (now y1 x1 : Int) (g cap : Nat) (es1 : List Ent) : (U1 now y1 x1 g cap es1).pass now = U1 now y1 x1 g cap es1 := if_neg (fun h => by have : now + 5 ≤ now := h.2; omega)

theorem U2_eq (now b2 W y1 x1 y2 x2 : Int) (g1 cap1 g cap : Nat) (es1 es2 : List Ent) (h : now < W) : (((U1 now y1 x1 g1 cap1 es1).pass now).told ⟨b2, y2, x2, some ⟨g, 0, none⟩, cap, es2⟩ W).pass now = U2 b2 W y2 x2 g cap es2 := by
  rw [U1_pass]
  exact if_neg (fun h2 => by have : W ≤ now := h2.2; omega)

theorem U3_eq (now b2 W y1 x1 y2 x2 : Int) (g1 cap1 g cap : Nat) (es1 es2 : List Ent) (h : W ≤ now) : (((U1 now y1 x1 g1 cap1 es1).pass now).told ⟨b2, y2, x2, some ⟨g, 0, none⟩, cap, es2⟩ W).pass now = U3 W y2 x2 g cap es2 := by
  rw [U1_pass]
  exact if_pos ⟨rfl, h⟩

theorem U2_pass (b2 W y2 x2 : Int) (g cap : Nat) (es2 : List Ent) : (U2 b2 W y2 x2 g cap es2).pass W = U3 W y2 x2 g cap es2 := if_pos ⟨rfl, Int.le_refl _⟩
theorem U3_pass (W y2 x2 : Int) (g cap : Nat) (es2 : List Ent) : (U3 W y2 x2 g cap es2).pass W = U3 W y2 x2 g cap es2 := if_neg (fun h => by cases h.1)

set_option maxRecDepth 100000 in
set_option maxHeartbeats 8000000 in
theorem chat_in (w : World) (b1 y1 x1 b2 y2 x2 now : Int) (A1 A2 : Option Addr) (c1 c2 : Nat) (es1 es2 : List Ent) (h1 : EntsR w A1 c1 es1) (h2 : EntsR w A2 c2 es2)
    (g1 : Good b1 y1 x1 es1) (g2 : Good b2 y2 x2 es2) (hn0 : 0 ≤ now) (hn1 : now ≤ 2305843009213693952) (hb2 : b2 ≤ 2305843009213693952) :
    Calls Try.prog 12 #[.agg #[.int .i64 b1, .int .i64 y1, .int .i64 x1, .slice A1 es1.length c1], .agg #[.int .i64 b2, .int .i64 y2, .int .i64 x2, .slice A2 es2.length c2], .int .i64 now] w (TrueKept w) := by
  have hW : Hid (Blk ((w.alloc (.cells #[.int .i64 b1, .int .i64 y1, .int .i64 x1, .slice A1 es1.length c1] 72)).alloc (.cells #[.int .i64 b2, .int .i64 y2, .int .i64 x2, .slice A2 es2.length c2] 72)) w.heap.size [.int .i64 b1, .int .i64 y1, .int .i64 x1, .slice A1 es1.length c1] 72 ∧ Blk ((w.alloc (.cells #[.int .i64 b1, .int .i64 y1, .int .i64 x1, .slice A1 es1.length c1] 72)).alloc (.cells #[.int .i64 b2, .int .i64 y2, .int .i64 x2, .slice A2 es2.length c2] 72)) (w.heap.size + 1) [.int .i64 b2, .int .i64 y2, .int .i64 x2, .slice A2 es2.length c2] 72 ∧ Keeps Nothing w ((w.alloc (.cells #[.int .i64 b1, .int .i64 y1, .int .i64 x1, .slice A1 es1.length c1] 72)).alloc (.cells #[.int .i64 b2, .int .i64 y2, .int .i64 x2, .slice A2 es2.length c2] 72))) := by
    refine ⟨(Blk.new w [.int .i64 b1, .int .i64 y1, .int .i64 x1, .slice A1 es1.length c1] 72).alloc _, ?_, ((Keeps.refl _ _).alloc _).alloc _⟩
    have := Blk.new (w.alloc (.cells #[.int .i64 b1, .int .i64 y1, .int .i64 x1, .slice A1 es1.length c1] 72)) [.int .i64 b2, .int .i64 y2, .int .i64 x2, .slice A2 es2.length c2] 72
    simpa using this
  have H1 := Lib.hid h1
  have H2 := Lib.hid h2
  have G1 := Lib.hid g1
  have G2 := Lib.hid g2
  have q3 : decide (now < 0) = false := by simpa using hn0
  have q4 : decide ((2305843009213693952 : Int) < now) = false := by simpa using hn1
  have q5 : decide ((2305843009213693952 : Int) < b2) = false := by simpa using hb2
  clear h1 h2 g1 g2
  go_enter Try.func12, Try.ntmps12
  go_upto_region 1 with fail
  generalize ((w.alloc (.cells #[.int .i64 b1, .int .i64 y1, .int .i64 x1, .slice A1 es1.length c1] 72)).alloc (.cells #[.int .i64 b2, .int .i64 y2, .int .i64 x2, .slice A2 es2.length c2] 72)) = w1 at *
  go_upto_region 3 with (go_at_call 34; refine (turns_ok _).mono ?_; rintro e w2 ⟨rfl, k2⟩)
  have HK2 := Lib.hid (hW.out.2.2.same k2)
  have HB1 := Lib.hid (hW.out.1.keeps k2 (fun h => h))
  have HB2 := Lib.hid (hW.out.2.1.keeps k2 (fun h => h))
  have hB1 := HB1.out
  have hB2 := HB2.out
  have m0 : w2.cell? ⟨w.heap.size, 0, none⟩ = some (.int .i64 b1) := hB1.cell 0; have m1 : w2.cell? ⟨w.heap.size, 1, none⟩ = some (.int .i64 y1) := hB1.cell 1; have m2 : w2.cell? ⟨w.heap.size, 2, none⟩ = some (.int .i64 x1) := hB1.cell 2; have m3 : w2.cell? ⟨w.heap.size, 3, none⟩ = some (.slice A1 es1.length c1) := hB1.cell 3
  clear hB1 hB2 hW k2
  have K1 := check_good (H1.out.same HK2.out) G1.out
  have K2 := fun v (hv : Keeps Nothing w2 v) => check_good ((H2.out.same HK2.out).same hv) G2.out
  go_upto_region 6 with (first | (go_at_call 43; refine K1.mono ?_; rintro e w3 ⟨rfl, k3⟩; clear K1; have hB3 := HB2.out.keeps k3 (fun h => h); have n0 : w3.cell? ⟨w.heap.size + 1, 0, none⟩ = some (.int .i64 b2) := hB3.cell 0; have n1 : w3.cell? ⟨w.heap.size + 1, 1, none⟩ = some (.int .i64 y2) := hB3.cell 1; have n2 : w3.cell? ⟨w.heap.size + 1, 2, none⟩ = some (.int .i64 x2) := hB3.cell 2; have n3 : w3.cell? ⟨w.heap.size + 1, 3, none⟩ = some (.slice A2 es2.length c2) := hB3.cell 3; clear hB3) | (go_at_call 43; refine (K2 _ k3).mono ?_; rintro e w4 ⟨rfl, k4⟩; clear K2; have hB4 := HB2.out.keeps (k3.same k4) (fun h => h); have o0 : w4.cell? ⟨w.heap.size + 1, 0, none⟩ = some (.int .i64 b2) := hB4.cell 0; clear hB4))
  have HK4 := Lib.hid (HK2.out.same (k3.same k4))
  have HB14 := Lib.hid (HB1.out.keeps (k3.same k4) (fun h => h))
  have HB24 := Lib.hid (HB2.out.keeps (k3.same k4) (fun h => h))
  clear m0 m1 m2 m3 n0 n1 n2 n3 o0 k3 k4 HK2 HB1 HB2
  have HP5 : Hid (Blk (w4.alloc (.cells #[.int .i64 0, .int .i64 0, .int .i64 0, .slice none 0 0, .int .i64 0, .int .i64 0, .int .i64 0, .slice none 0 0, .bool false, .bool false, .int .i64 0, .int .i64 0, .int .i64 0] 79)) w4.heap.size [.int .i64 0, .int .i64 0, .int .i64 0, .slice none 0 0, .int .i64 0, .int .i64 0, .int .i64 0, .slice none 0 0, .bool false, .bool false, .int .i64 0, .int .i64 0, .int .i64 0] 79) := Blk.new w4 [.int .i64 0, .int .i64 0, .int .i64 0, .slice none 0 0, .int .i64 0, .int .i64 0, .int .i64 0, .slice none 0 0, .bool false, .bool false, .int .i64 0, .int .i64 0, .int .i64 0] 79
  have HB15 := Lib.hid (HB14.out.alloc (.cells #[.int .i64 0, .int .i64 0, .int .i64 0, .slice none 0 0, .int .i64 0, .int .i64 0, .int .i64 0, .slice none 0 0, .bool false, .bool false, .int .i64 0, .int .i64 0, .int .i64 0] 79))
  have HB25 := Lib.hid (HB24.out.alloc (.cells #[.int .i64 0, .int .i64 0, .int .i64 0, .slice none 0 0, .int .i64 0, .int .i64 0, .int .i64 0, .slice none 0 0, .bool false, .bool false, .int .i64 0, .int .i64 0, .int .i64 0] 79))
  have HK5 := Lib.hid (HK4.out.alloc (.cells #[.int .i64 0, .int .i64 0, .int .i64 0, .slice none 0 0, .int .i64 0, .int .i64 0, .int .i64 0, .slice none 0 0, .bool false, .bool false, .int .i64 0, .int .i64 0, .int .i64 0] 79))
  have hpl : w.heap.size + 1 < w4.heap.size := HB24.out.lt
  clear HB14 HB24 HK4
  generalize w4.alloc (.cells #[.int .i64 0, .int .i64 0, .int .i64 0, .slice none 0 0, .int .i64 0, .int .i64 0, .int .i64 0, .slice none 0 0, .bool false, .bool false, .int .i64 0, .int .i64 0, .int .i64 0] 79) = w5 at *
  generalize w4.heap.size = p at *
  have hB1 := HB15.out
  have k0 : w5.cell? ⟨w.heap.size, 0, none⟩ = some (.int .i64 b1) := hB1.cell 0; have k1 : w5.cell? ⟨w.heap.size, 1, none⟩ = some (.int .i64 y1) := hB1.cell 1; have k2 : w5.cell? ⟨w.heap.size, 2, none⟩ = some (.int .i64 x1) := hB1.cell 2; have k3 : w5.cell? ⟨w.heap.size, 3, none⟩ = some (.slice A1 es1.length c1) := hB1.cell 3; have kf := hB1.frozen 0
  clear hB1
  go_upto_region 7 with fail
  clear k0 k1 k2 k3 kf
  have HS6 : Hid (SchAt (w5.setCell ⟨w.heap.size, 0, none⟩ (.int .i64 (now + 5))) p S0) := ⟨HP5.out.set_ne _ _ (by show p ≠ w.heap.size; omega), Lst.zero_ok _ _, Lst.zero_ok _ _⟩
  have HB16 := Lib.hid (HB15.out.set 0 (.int .i64 (now + 5)))
  have HB26 := Lib.hid (HB25.out.set_ne ⟨w.heap.size, 0, none⟩ (.int .i64 (now + 5)) (by show w.heap.size + 1 ≠ w.heap.size; omega))
  have HK6 : Hid (Keeps Nothing w (w5.setCell ⟨w.heap.size, 0, none⟩ (.int .i64 (now + 5)))) := HK5.out.setCell (p := ⟨w.heap.size, 0, none⟩) (fun h => absurd h (by show ¬ w.heap.size < w.heap.size; omega)) _
  clear HP5 HB15 HB25 HK5
  generalize w5.setCell ⟨w.heap.size, 0, none⟩ (.int .i64 (now + 5)) = w6 at *
  have ge1 : Good (now + 5) y1 x1 es1 := ⟨G1.out.pos, G1.out.len, by omega, by omega, G1.out.c0, G1.out.c1, G1.out.x0, G1.out.x1, G1.out.ents⟩
  have gs1 : gstart (now + 5) y1 now < 4611686018427387904 := by rw [show gstart (now + 5) y1 now = now + 5 from if_pos (by omega)]; omega
  have hr2 := gstart_range (base := b2) (t := now) G2.out.c0
  have gs2 : gstart b2 y2 now < 4611686018427387904 := by have := G2.out.c1; omega
  have D1 := set_ok HS6.out (H1.out.same HK6.out) (fun b o hb => by have := H1.out.lt G1.out.pos b o hb; omega) ge1 now hn0 (by omega) gs1 ⟨by decide, by decide⟩ ⟨by decide, by decide⟩
  have D2 := fun v (hv : Keeps (fun k => k = p) w6 v) g cap (hS : SchAt v p (U1 now y1 x1 g cap es1)) => set_ok hS ((H2.out.same HK6.out).keeps hv (fun b o hb => by have := H2.out.lt G2.out.pos b o hb; omega)) (fun b o hb => by have := H2.out.lt G2.out.pos b o hb; omega) G2.out now hn0 (by omega) gs2 ⟨by show (0 : Int) ≤ 0; decide, by show (0 : Int) ≤ 100000000; decide⟩ ⟨by show (0 : Int) ≤ 0; decide, by show (0 : Int) ≤ 100000000; decide⟩
  have hB1 := HB16.out
  have k0 : w6.cell? ⟨w.heap.size, 0, none⟩ = some (.int .i64 (now + 5)) := hB1.cell 0; have k1 : w6.cell? ⟨w.heap.size, 1, none⟩ = some (.int .i64 y1) := hB1.cell 1; have k2 : w6.cell? ⟨w.heap.size, 2, none⟩ = some (.int .i64 x1) := hB1.cell 2; have k3 : w6.cell? ⟨w.heap.size, 3, none⟩ = some (.slice A1 es1.length c1) := hB1.cell 3
  clear hB1 ge1 gs1
  go_upto_region 9 with (first | (go_at_call 44; refine D1.mono ?_; rintro e w7 ⟨rfl, k7, g, cap, hS7, -⟩; clear D1; rw [U1_eq] at hS7; have hB7 := HB26.out.keeps k7 (fun h => by omega); have n0 : w7.cell? ⟨w.heap.size + 1, 0, none⟩ = some (.int .i64 b2) := hB7.cell 0; have n1 : w7.cell? ⟨w.heap.size + 1, 1, none⟩ = some (.int .i64 y2) := hB7.cell 1; have n2 : w7.cell? ⟨w.heap.size + 1, 2, none⟩ = some (.int .i64 x2) := hB7.cell 2; have n3 : w7.cell? ⟨w.heap.size + 1, 3, none⟩ = some (.slice A2 es2.length c2) := hB7.cell 3; clear hB7) | (go_at_call 44; refine (D2 _ k7 g cap hS7).mono ?_; rintro e w8 ⟨rfl, k8, g2, cap2, hS8, -⟩; clear D2))
  have HS8 := Lib.hid hS8
  have HB28 := Lib.hid (HB26.out.keeps (k7.trans k8 (fun _ h _ => h)) (fun h => by omega))
  have HK8 := Lib.hid (HK6.out.up (k7.trans k8 (fun _ h _ => h)) (fun k hk => by omega))
  clear hS8 hS7 k7 k8 n0 n1 n2 n3 k0 k1 k2 k3 HS6 HB16 HB26 HK6
  have hB8 := HB28.out
  have n0 : w8.cell? ⟨w.heap.size + 1, 0, none⟩ = some (.int .i64 b2) := hB8.cell 0
  have n1 : w8.cell? ⟨w.heap.size + 1, 1, none⟩ = some (.int .i64 y2) := hB8.cell 1
  clear hB8
  have hq0 : y2 ≠ 0 := by have := G2.out.c0; omega
  have gb0 := G2.out.b0
  have gb1 := G2.out.b1
  have gc0 := G2.out.c0
  have gc1 := G2.out.c1
  go_upto_if 55 with fail
  go_cut [8] from 56 to 70 (fun v wx => v = .int .i64 (gstart b2 y2 now) ∧ Keeps Nothing w8 wx)
  case first =>
    by_cases hlt : b2 < now
    · have hd : 0 ≤ (now - b2 + y2 - 1).tdiv y2 ∧ (now - b2 + y2 - 1).tdiv y2 * y2 ≤ now - b2 + y2 - 1 ∧ (now - b2 + y2 - 1).tdiv y2 ≤ now - b2 + y2 - 1 := by
        rw [Int.tdiv_eq_ediv_of_nonneg (by omega)]
        exact ⟨Int.ediv_nonneg (by omega) (by omega), Int.ediv_mul_le _ (by omega), Int.ediv_le_self _ (by omega)⟩
      obtain ⟨hd0, hd1, hd2⟩ := hd
      have hd3 : 0 ≤ (now - b2 + y2 - 1).tdiv y2 * y2 := Int.mul_nonneg hd0 (by omega)
      have hw1 : IntKind.i64.wrap (now - b2) = now - b2 := by rw [IntKind.wrap_i64]; omega
      have hw2 : IntKind.i64.wrap (now - b2 + y2) = now - b2 + y2 := by rw [IntKind.wrap_i64]; omega
      have hw3 : IntKind.i64.wrap (now - b2 + y2 - 1) = now - b2 + y2 - 1 := by rw [IntKind.wrap_i64]; omega
      have hw4 : IntKind.i64.wrap ((now - b2 + y2 - 1).tdiv y2) = (now - b2 + y2 - 1).tdiv y2 := by rw [IntKind.wrap_i64]; omega
      have hw5 : IntKind.i64.wrap ((now - b2 + y2 - 1).tdiv y2 * y2) = (now - b2 + y2 - 1).tdiv y2 * y2 := by rw [IntKind.wrap_i64]; omega
      have hw6 : IntKind.i64.wrap (b2 + (now - b2 + y2 - 1).tdiv y2 * y2) = b2 + (now - b2 + y2 - 1).tdiv y2 * y2 := by rw [IntKind.wrap_i64]; omega
      have HG : Hid (gstart b2 y2 now = b2 + (now - b2 + y2 - 1).tdiv y2 * y2) := if_neg (by omega)
      go_upto_region 11 with fail
      go_quiet (fail)
      go_wp2_with fail
      go_meet
      case rel => exact ⟨by rw [HG.out], (Keeps.refl _ _).drewN _⟩
    · have HG : Hid (gstart b2 y2 now = b2) := if_pos (by omega)
      go_wp2_with fail
      go_meet
      case rel => exact ⟨by rw [HG.out], Keeps.refl _ _⟩
  case rest =>
    obtain ⟨rfl, k9⟩ := hcut
    have HS9 := Lib.hid (HS8.out.same k9)
    have HB29 := Lib.hid (HB28.out.keeps k9 (fun h => h))
    have HK9 := Lib.hid (HK8.out.same k9)
    clear HS8 HB28 HK8 k9 n0 n1
    generalize gstart b2 y2 now = W at *
    have HU : Hid (SchAt wc p (if now < W then U2 b2 W y2 x2 g2 cap2 es2 else U3 W y2 x2 g2 cap2 es2)) := by
      by_cases hf : now < W
      · have := HS9.out
        rw [U2_eq _ _ _ _ _ _ _ _ _ _ _ _ _ hf] at this
        rw [if_pos hf]
        exact this
      · have := HS9.out
        rw [U3_eq _ _ _ _ _ _ _ _ _ _ _ _ _ (by omega)] at this
        rw [if_neg hf]
        exact this
    clear HS9
    by_cases hf : now < W
    · have HU2 : Hid (SchAt wc p (U2 b2 W y2 x2 g2 cap2 es2)) := by have := HU.out; rwa [if_pos hf] at this
      clear HU
      have D1 : Calls Try.prog 45 #[.pointer (some ⟨p, 0, none⟩)] wc (fun e w' => e = .returned (.tuple #[.int .i64 W, .bool true]) ∧ Keeps Nothing wc w') := waits_ok HU2.out
      have D2 : ∀ v, Keeps Nothing wc v → Calls Try.prog 46 #[.pointer (some ⟨p, 0, none⟩), .int .i64 W] v (Passed v p (U3 W y2 x2 g2 cap2 es2)) := fun v hv => by
        have := pass_ok (HU2.out.same hv) W ⟨by show (0 : Int) ≤ 0; decide, by show (0 : Int) ≤ 1000000000; decide⟩
        rwa [U2_pass] at this
      go_upto_region 16 with (first | (go_at_call 45; refine D1.mono ?_; rintro e w10 ⟨rfl, k10⟩; clear D1) | (go_at_call 46; refine (D2 _ k10).mono ?_; rintro e w11 ⟨rfl, hS11, k11⟩; clear D2))
      have HS11 := Lib.hid hS11
      have HK11 := Lib.hid ((HK9.out.same k10).up k11 (fun k hk => by omega))
      have HB11 := Lib.hid ((HB29.out.keeps k10 (fun h => h)).keeps k11 (fun h => by omega))
      clear hS11 k10 k11 HU2 HK9 HB29
      have B1 : Calls Try.prog 47 #[.pointer (some ⟨p, 0, none⟩)] w11 (fun e w' => ∃ g3 cap3, e = .returned (.tuple #[.agg #[.int .i64 W, .int .i64 y2, .int .i64 x2, .slice (some ⟨g3, 0, none⟩) es2.length cap3], .bool true]) ∧ Keeps Nothing w11 w') := oper_ok HS11.out G2.out.pos G2.out.len
      have B2 : ∀ v, Keeps Nothing w11 v → Calls Try.prog 48 #[.pointer (some ⟨p, 0, none⟩)] v (fun e w' => e = .returned (.tuple #[.int .i64 1, .int .i64 1]) ∧ Keeps Nothing v w') := fun v hv => counts_ok (HS11.out.same hv)
      go_wp2_with (first | (go_at_call 47; refine B1.mono ?_; rintro e w12 ⟨g3, cap3, rfl, k12⟩; clear B1) | (go_at_call 48; refine (B2 _ (k12.alloc _)).mono ?_; rintro e w13 ⟨rfl, k13⟩; clear B2; have hB13 : Blk w13 w12.heap.size [.int .i64 W, .int .i64 y2, .int .i64 x2, .slice (some ⟨g3, 0, none⟩) es2.length cap3] 72 := (Blk.new w12 [.int .i64 W, .int .i64 y2, .int .i64 x2, .slice (some ⟨g3, 0, none⟩) es2.length cap3] 72).keeps k13 (fun h => h); have z0 : w13.cell? ⟨w12.heap.size, 0, none⟩ = some (.int .i64 W) := hB13.cell 0; have z1 : w13.cell? ⟨w12.heap.size, 1, none⟩ = some (.int .i64 y2) := hB13.cell 1; have z2 : w13.cell? ⟨w.heap.size + 1, 1, none⟩ = some (.int .i64 y2) := (HB11.out.keeps ((k12.alloc _).same k13) (fun h => h)).cell 1; clear hB13))
      go_ret
      exact ⟨rfl, HK11.out.same ((k12.alloc _).same k13)⟩
    · have HU2 : Hid (SchAt wc p (U3 W y2 x2 g2 cap2 es2)) := by have := HU.out; rwa [if_neg hf] at this
      have hf1 : decide (now < W) = false := by simpa using hf
      clear HU
      have D1 : Calls Try.prog 45 #[.pointer (some ⟨p, 0, none⟩)] wc (fun e w' => e = .returned (.tuple #[.int .i64 W, .bool false]) ∧ Keeps Nothing wc w') := waits_ok HU2.out
      have D2 : ∀ v, Keeps Nothing wc v → Calls Try.prog 46 #[.pointer (some ⟨p, 0, none⟩), .int .i64 W] v (Passed v p (U3 W y2 x2 g2 cap2 es2)) := fun v hv => by
        have := pass_ok (HU2.out.same hv) W ⟨by show (0 : Int) ≤ 1; decide, by show (1 : Int) ≤ 1000000000; decide⟩
        rwa [U3_pass] at this
      go_upto_region 16 with (first | (go_at_call 45; refine D1.mono ?_; rintro e w10 ⟨rfl, k10⟩; clear D1) | (go_at_call 46; refine (D2 _ k10).mono ?_; rintro e w11 ⟨rfl, hS11, k11⟩; clear D2))
      have HS11 := Lib.hid hS11
      have HK11 := Lib.hid ((HK9.out.same k10).up k11 (fun k hk => by omega))
      have HB11 := Lib.hid ((HB29.out.keeps k10 (fun h => h)).keeps k11 (fun h => by omega))
      clear hS11 k10 k11 HU2 HK9 HB29
      have B1 : Calls Try.prog 47 #[.pointer (some ⟨p, 0, none⟩)] w11 (fun e w' => ∃ g3 cap3, e = .returned (.tuple #[.agg #[.int .i64 W, .int .i64 y2, .int .i64 x2, .slice (some ⟨g3, 0, none⟩) es2.length cap3], .bool true]) ∧ Keeps Nothing w11 w') := oper_ok HS11.out G2.out.pos G2.out.len
      have B2 : ∀ v, Keeps Nothing w11 v → Calls Try.prog 48 #[.pointer (some ⟨p, 0, none⟩)] v (fun e w' => e = .returned (.tuple #[.int .i64 1, .int .i64 1]) ∧ Keeps Nothing v w') := fun v hv => counts_ok (HS11.out.same hv)
      go_wp2_with (first | (go_at_call 47; refine B1.mono ?_; rintro e w12 ⟨g3, cap3, rfl, k12⟩; clear B1) | (go_at_call 48; refine (B2 _ (k12.alloc _)).mono ?_; rintro e w13 ⟨rfl, k13⟩; clear B2; have hB13 : Blk w13 w12.heap.size [.int .i64 W, .int .i64 y2, .int .i64 x2, .slice (some ⟨g3, 0, none⟩) es2.length cap3] 72 := (Blk.new w12 [.int .i64 W, .int .i64 y2, .int .i64 x2, .slice (some ⟨g3, 0, none⟩) es2.length cap3] 72).keeps k13 (fun h => h); have z0 : w13.cell? ⟨w12.heap.size, 0, none⟩ = some (.int .i64 W) := hB13.cell 0; have z1 : w13.cell? ⟨w12.heap.size, 1, none⟩ = some (.int .i64 y2) := hB13.cell 1; have z2 : w13.cell? ⟨w.heap.size + 1, 1, none⟩ = some (.int .i64 y2) := (HB11.out.keeps ((k12.alloc _).same k13) (fun h => h)).cell 1; clear hB13))
      go_ret
      exact ⟨rfl, HK11.out.same ((k12.alloc _).same k13)⟩

end Go.Proofs.Ytpgmkekdgchkfaa
