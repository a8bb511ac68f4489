/- The gate's state, next edge and start. -/
import Derived.Test.YtpgmkekdgchkfaaGate
import Derived.Deep.RegionWith
namespace Go.Proofs.Ytpgmkekdgchkfaa
open Go.RowKit

theorem atGo_lt {n : Nat} {cyc into : Int} (h0 : 0 < n) : ∀ (es : List Ent) (i : Nat) (E : Int), i + es.length = n → (atGo n cyc into es i E).1 < n
  | [], i, E, _ => by simp only [atGo]; omega
  | e :: rest, i, E, h => by
    simp at h
    rw [atGo]
    split
    · simp only; omega
    · split
      · simp only; omega
      · exact atGo_lt h0 rest (i + 1) _ (by omega)

theorem atGo_left {n : Nat} {cyc into : Int} (h0 : 0 ≤ into) (h1 : into < cyc) : ∀ (es : List Ent) (i : Nat) (E : Int), 1 ≤ (atGo n cyc into es i E).2 ∧ (atGo n cyc into es i E).2 ≤ cyc
  | [], i, E => by simp only [atGo]; omega
  | e :: rest, i, E => by
    rw [atGo]
    split
    · simp only; omega
    · split
      · simp only; omega
      · exact atGo_left h0 h1 rest (i + 1) _

def gst (base cyc : Int) (es : List Ent) (t : Int) : Int := if t < base then 255 else (es.getD (atGo es.length cyc ((t - base).tmod cyc) es 0 0).1 ⟨0, 0⟩).opn
def gnx (base cyc : Int) (es : List Ent) (t : Int) : Int := if t < base then base else t + (atGo es.length cyc ((t - base).tmod cyc) es 0 0).2
def gstart (base cyc t : Int) : Int := if t ≤ base then base else base + ((t - base + cyc - 1).tdiv cyc) * cyc

theorem tmod_in {a c : Int} (ha : 0 ≤ a) (hc : 1 ≤ c) : 0 ≤ a.tmod c ∧ a.tmod c < c := by
  rw [Int.tmod_eq_emod_of_nonneg ha]
  exact ⟨Int.emod_nonneg _ (by omega), Int.emod_lt_of_pos _ (by omega)⟩

theorem gnx_range {base cyc : Int} {es : List Ent} {t : Int} (hc : 1 ≤ cyc) (h : base ≤ t) : t + 1 ≤ gnx base cyc es t ∧ gnx base cyc es t ≤ t + cyc := by
  unfold gnx
  rw [if_neg (by omega)]
  obtain ⟨h1, h2⟩ := tmod_in (a := t - base) (c := cyc) (by omega) hc
  have := atGo_left h1 h2 (n := es.length) es 0 0
  omega

set_option maxRecDepth 100000 in
set_option maxHeartbeats 4000000 in
theorem gstate_ok {w : World} {base cyc ext : Int} {A : Option Addr} {c : Nat} {es : List Ent} (hr : EntsR w A c es) (hg : Good base cyc ext es) (t : Int) (ht : t ≤ 9000000000000000000) :
    Calls Try.prog 64 #[.agg #[.int .i64 base, .int .i64 cyc, .int .i64 ext, .slice A es.length c], .int .i64 t] w (fun e w' => e = .returned (.int .i64 (gst base cyc es t)) ∧ Keeps Nothing w w') := by
  obtain ⟨g0, g1, gb0, gb1, gc0, gc1, gx0, gx1, ge⟩ := hg
  have HR := Lib.hid hr
  have HE := Lib.hid ge
  clear hr ge
  by_cases hlt : t < base
  · have hv : gst base cyc es t = 255 := by unfold gst; rw [if_pos hlt]
    rw [hv]
    go_enter Try.func64, Try.ntmps64
    go_wp2_with fail
    go_ret
    exact ⟨rfl, (Keeps.refl _ _).alloc _⟩
  · obtain ⟨h1, h2⟩ := tmod_in (a := t - base) (c := cyc) (by omega) gc0
    obtain ⟨i, left, hat⟩ : ∃ i left, atGo es.length cyc ((t - base).tmod cyc) es 0 0 = (i, left) := ⟨_, _, rfl⟩
    have hi : i < es.length := by have := atGo_lt g0 (cyc := cyc) (into := (t - base).tmod cyc) es 0 0 (by omega); rw [hat] at this; exact this
    obtain ⟨e, hei⟩ : ∃ e, es[i]? = some e := ⟨_, List.getElem?_eq_getElem hi⟩
    have hv : gst base cyc es t = e.opn := by unfold gst; rw [if_neg hlt, hat]; simp [List.getD, hei]
    rw [hv]
    have HI := Lib.hid hei
    have HA := Lib.hid hat
    have H12 := Lib.hid (And.intro h1 h2)
    clear hei hat hv
    have hw1 : IntKind.i64.wrap (t - base) = t - base := by rw [IntKind.wrap_i64]; omega
    go_enter Try.func64, Try.ntmps64
    go_upto_region 3 with fail
    have HB := Lib.hid (Blk.new w [.int .i64 base, .int .i64 cyc, .int .i64 ext, .slice A es.length c] 72)
    have HK := Lib.hid ((Keeps.refl Nothing w).alloc (.cells #[.int .i64 base, .int .i64 cyc, .int .i64 ext, .slice A es.length c] 72))
    have hB0 : Blk (w.alloc (.cells #[.int .i64 base, .int .i64 cyc, .int .i64 ext, .slice A es.length c] 72)) w.heap.size [.int .i64 base, .int .i64 cyc, .int .i64 ext, .slice A es.length c] 72 := HB.out
    have HB0 := Lib.hid hB0
    clear hB0 HB
    generalize (w.alloc (.cells #[.int .i64 base, .int .i64 cyc, .int .i64 ext, .slice A es.length c] 72)) = w1 at *
    have d0 : w1.cell? ⟨w.heap.size, 0, none⟩ = some (.int .i64 base) := HB0.out.cell 0
    have d1 : w1.cell? ⟨w.heap.size, 1, none⟩ = some (.int .i64 cyc) := HB0.out.cell 1
    have d2 : w1.cell? ⟨w.heap.size, 2, none⟩ = some (.int .i64 ext) := HB0.out.cell 2
    have d3 : w1.cell? ⟨w.heap.size, 3, none⟩ = some (.slice A es.length c) := HB0.out.cell 3
    have C : ∀ v, Keeps Nothing w1 v → Calls Try.prog 74 #[.agg #[.int .i64 base, .int .i64 cyc, .int .i64 ext, .slice A es.length c], .int .i64 ((t - base).tmod cyc)] v (fun e w' => e = .returned (.tuple #[.int .i64 (i : Nat), .int .i64 left]) ∧ Keeps Nothing v w') := fun v hv => at_ok ((HR.out.same HK.out).same hv) ⟨gc0, gc1⟩ ⟨g0, g1⟩ (fun e he => (HE.out e he).2.2) H12.out i left HA.out
    have hq1 : IntKind.i64.wrap ((t - base).tmod cyc) = (t - base).tmod cyc := by rw [IntKind.wrap_i64]; omega
    have hq0 : cyc ≠ 0 := by omega
    clear HB0 HE
    go_region_held3 (fun v => v.cell? ⟨w.heap.size, 0, none⟩ = some (.int .i64 base) ∧ v.cell? ⟨w.heap.size, 1, none⟩ = some (.int .i64 cyc) ∧ v.cell? ⟨w.heap.size, 2, none⟩ = some (.int .i64 ext) ∧ v.cell? ⟨w.heap.size, 3, none⟩ = some (.slice A es.length c)) (first | exact ⟨d0, d1, d2, d3⟩ | exact ⟨k0, k1, k2, k3⟩) (first | (go_at_call 74; refine (C _ ((Keeps.refl _ _).drew)).mono ?_; rintro e w2 ⟨rfl, hk2⟩; have k0 := (hk2.cell (World.block_lt_of_cell? w1 _ d0) (fun h => h)).trans d0; have k1 := (hk2.cell (World.block_lt_of_cell? w1 _ d1) (fun h => h)).trans d1; have k2 := (hk2.cell (World.block_lt_of_cell? w1 _ d2) (fun h => h)).trans d2; have k3 := (hk2.cell (World.block_lt_of_cell? w1 _ d3) (fun h => h)).trans d3))
    have HK2 := Lib.hid (HK.out.same ((((Keeps.refl _ _).drew)).same hk2))
    clear C
    obtain ⟨b, o, hA, c1, -⟩ : ∃ b o, A = some ⟨b, o, none⟩ ∧ (w2.cell? ⟨b, o + i * 2, none⟩ = some (.int .i64 e.opn) ∧ w2.cell? ⟨b, o + i * 2 + 1, none⟩ = some (.int .i64 e.nanos)) := by
      rcases HR.out.same HK2.out with h | ⟨b, o, h1, h2, h3⟩
      · rw [h] at hi; simp at hi
      · exact ⟨b, o, h1, h3 i e HI.out⟩
    subst hA
    go_wp2_with fail
    go_ret
    exact ⟨rfl, HK2.out⟩

set_option maxRecDepth 100000 in
set_option maxHeartbeats 4000000 in
theorem gnext_ok {w : World} {base cyc ext : Int} {A : Option Addr} {c : Nat} {es : List Ent} (hr : EntsR w A c es) (hg : Good base cyc ext es) (t : Int) (ht : t ≤ 9000000000000000000) :
    Calls Try.prog 59 #[.agg #[.int .i64 base, .int .i64 cyc, .int .i64 ext, .slice A es.length c], .int .i64 t] w (fun e w' => e = .returned (.int .i64 (gnx base cyc es t)) ∧ Keeps Nothing w w') := by
  obtain ⟨g0, g1, gb0, gb1, gc0, gc1, gx0, gx1, ge⟩ := hg
  have HR := Lib.hid hr
  have HE := Lib.hid ge
  clear hr ge
  by_cases hlt : t < base
  · have hv : gnx base cyc es t = base := by unfold gnx; rw [if_pos hlt]
    rw [hv]
    go_enter Try.func59, Try.ntmps59
    go_wp2_with fail
    go_ret
    exact ⟨rfl, (Keeps.refl _ _).alloc _⟩
  · obtain ⟨h1, h2⟩ := tmod_in (a := t - base) (c := cyc) (by omega) gc0
    obtain ⟨i, left, hat⟩ : ∃ i left, atGo es.length cyc ((t - base).tmod cyc) es 0 0 = (i, left) := ⟨_, _, rfl⟩
    have hle := atGo_left h1 h2 (n := es.length) es 0 0
    rw [hat] at hle
    simp only at hle
    obtain ⟨hle1, hle2⟩ := hle
    have hv : gnx base cyc es t = t + left := by unfold gnx; rw [if_neg hlt, hat]
    rw [hv]
    have HA := Lib.hid hat
    have H12 := Lib.hid (And.intro h1 h2)
    clear hat hv
    have hw1 : IntKind.i64.wrap (t - base) = t - base := by rw [IntKind.wrap_i64]; omega
    go_enter Try.func59, Try.ntmps59
    go_upto_region 3 with fail
    have HB := Lib.hid (Blk.new w [.int .i64 base, .int .i64 cyc, .int .i64 ext, .slice A es.length c] 72)
    have HK := Lib.hid ((Keeps.refl Nothing w).alloc (.cells #[.int .i64 base, .int .i64 cyc, .int .i64 ext, .slice A es.length c] 72))
    have hB0 : Blk (w.alloc (.cells #[.int .i64 base, .int .i64 cyc, .int .i64 ext, .slice A es.length c] 72)) w.heap.size [.int .i64 base, .int .i64 cyc, .int .i64 ext, .slice A es.length c] 72 := HB.out
    have HB0 := Lib.hid hB0
    clear hB0 HB
    generalize (w.alloc (.cells #[.int .i64 base, .int .i64 cyc, .int .i64 ext, .slice A es.length c] 72)) = w1 at *
    have d0 : w1.cell? ⟨w.heap.size, 0, none⟩ = some (.int .i64 base) := HB0.out.cell 0
    have d1 : w1.cell? ⟨w.heap.size, 1, none⟩ = some (.int .i64 cyc) := HB0.out.cell 1
    have d2 : w1.cell? ⟨w.heap.size, 2, none⟩ = some (.int .i64 ext) := HB0.out.cell 2
    have d3 : w1.cell? ⟨w.heap.size, 3, none⟩ = some (.slice A es.length c) := HB0.out.cell 3
    have C : ∀ v, Keeps Nothing w1 v → Calls Try.prog 74 #[.agg #[.int .i64 base, .int .i64 cyc, .int .i64 ext, .slice A es.length c], .int .i64 ((t - base).tmod cyc)] v (fun e w' => e = .returned (.tuple #[.int .i64 (i : Nat), .int .i64 left]) ∧ Keeps Nothing v w') := fun v hv => at_ok ((HR.out.same HK.out).same hv) ⟨gc0, gc1⟩ ⟨g0, g1⟩ (fun e he => (HE.out e he).2.2) H12.out i left HA.out
    have hq1 : IntKind.i64.wrap ((t - base).tmod cyc) = (t - base).tmod cyc := by rw [IntKind.wrap_i64]; omega
    have hq0 : cyc ≠ 0 := by omega
    clear HB0 HE
    go_region_held3 (fun v => v.cell? ⟨w.heap.size, 0, none⟩ = some (.int .i64 base) ∧ v.cell? ⟨w.heap.size, 1, none⟩ = some (.int .i64 cyc) ∧ v.cell? ⟨w.heap.size, 2, none⟩ = some (.int .i64 ext) ∧ v.cell? ⟨w.heap.size, 3, none⟩ = some (.slice A es.length c)) (first | exact ⟨d0, d1, d2, d3⟩ | exact ⟨k0, k1, k2, k3⟩) (first | (go_at_call 74; refine (C _ ((Keeps.refl _ _).drew)).mono ?_; rintro e w2 ⟨rfl, hk2⟩; have k0 := (hk2.cell (World.block_lt_of_cell? w1 _ d0) (fun h => h)).trans d0; have k1 := (hk2.cell (World.block_lt_of_cell? w1 _ d1) (fun h => h)).trans d1; have k2 := (hk2.cell (World.block_lt_of_cell? w1 _ d2) (fun h => h)).trans d2; have k3 := (hk2.cell (World.block_lt_of_cell? w1 _ d3) (fun h => h)).trans d3))
    have HK2 := Lib.hid (HK.out.same ((((Keeps.refl _ _).drew)).same hk2))
    clear C
    go_wp2_with fail
    go_ret
    exact ⟨rfl, HK2.out⟩

set_option maxRecDepth 100000 in
theorem gstart_ok {w : World} {base cyc ext : Int} {v : Value} (hb : 0 ≤ base ∧ base < 4611686018427387904) (hc : 1 ≤ cyc ∧ cyc ≤ 1000000000) (t : Int) (ht : t < 4611686018427387904) :
    Calls Try.prog 70 #[.agg #[.int .i64 base, .int .i64 cyc, .int .i64 ext, v], .int .i64 t] w (fun e w' => e = .returned (.int .i64 (gstart base cyc t)) ∧ Keeps Nothing w w') := by
  by_cases hlt : t ≤ base
  · have hv : gstart base cyc t = base := by unfold gstart; rw [if_pos hlt]
    rw [hv]
    go_enter Try.func70, Try.ntmps70
    go_wp2_with fail
    go_ret
    exact ⟨rfl, (Keeps.refl _ _).alloc _⟩
  · have hv : gstart base cyc t = base + ((t - base + cyc - 1).tdiv cyc) * cyc := by unfold gstart; rw [if_neg hlt]
    rw [hv]
    have hd : 0 ≤ (t - base + cyc - 1).tdiv cyc ∧ (t - base + cyc - 1).tdiv cyc * cyc ≤ t - base + cyc - 1 := by
      rw [Int.tdiv_eq_ediv_of_nonneg (by omega)]
      exact ⟨Int.ediv_nonneg (by omega) (by omega), Int.ediv_mul_le _ (by omega)⟩
    obtain ⟨hd0, hd1⟩ := hd
    have hd2 : (t - base + cyc - 1).tdiv cyc ≤ t - base + cyc - 1 := by
      rw [Int.tdiv_eq_ediv_of_nonneg (by omega)]
      exact Int.ediv_le_self _ (by omega)
    have hd3 : 0 ≤ (t - base + cyc - 1).tdiv cyc * cyc := Int.mul_nonneg hd0 (by omega)
    have hq0 : cyc ≠ 0 := by omega
    have hw1 : IntKind.i64.wrap (t - base) = t - base := by rw [IntKind.wrap_i64]; omega
    have hw2 : IntKind.i64.wrap (t - base + cyc) = t - base + cyc := by rw [IntKind.wrap_i64]; omega
    have hw3 : IntKind.i64.wrap (t - base + cyc - 1) = t - base + cyc - 1 := by rw [IntKind.wrap_i64]; omega
    have hw4 : IntKind.i64.wrap ((t - base + cyc - 1).tdiv cyc) = (t - base + cyc - 1).tdiv cyc := by rw [IntKind.wrap_i64]; omega
    have hw5 : IntKind.i64.wrap ((t - base + cyc - 1).tdiv cyc * cyc) = (t - base + cyc - 1).tdiv cyc * cyc := by rw [IntKind.wrap_i64]; omega
    clear hv
    go_enter Try.func70, Try.ntmps70
    go_wp2_with fail
    go_ret
    exact ⟨rfl, (Keeps.refl _ _).alloc _⟩

end Go.Proofs.Ytpgmkekdgchkfaa
