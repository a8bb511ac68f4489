/- The gate's functions: what they compute of a list. The gate's state, next edge and start. May a list be: Check, and what it calls. A list of its own; and its start. -/
import Derived.Test.YtimgmobmagpmlaaBase
import Derived.Deep.DeepCutAuto
import Derived.Deep.CutBlock
import Derived.Deep.RegionWith
namespace Go.Proofs.Ytimgmobmagpmlaa

section
open Go.RowKit

structure Ent where
  opn : Int
  nanos : Int

/-- Entries that can be read. -/
def EntsR (w : World) (A : Option Addr) (c : Nat) (es : List Ent) : Prop :=
  es = [] ∨ ∃ b o, A = some ⟨b, o, none⟩ ∧ es.length ≤ c ∧ ∀ (j : Nat) (e : Ent), es[j]? = some e → w.cell? ⟨b, o + j * 2, none⟩ = some (.int .i64 e.opn) ∧ w.cell? ⟨b, o + j * 2 + 1, none⟩ = some (.int .i64 e.nanos)

theorem EntsR.keeps {w w' : World} {F : Nat → Prop} {A : Option Addr} {c : Nat} {es : List Ent} (h : EntsR w A c es) (hk : Keeps F w w') (hF : ∀ b o, A = some ⟨b, o, none⟩ → ¬ F b) : EntsR w' A c es := by
  rcases h with h | ⟨b, o, h1, h2, h3⟩
  · exact .inl h
  · exact .inr ⟨b, o, h1, h2, fun j e hj => by
      obtain ⟨c1, c2⟩ := h3 j e hj
      exact ⟨(hk.cell (World.block_lt_of_cell? _ _ c1) (hF b o h1)).trans c1, (hk.cell (World.block_lt_of_cell? _ _ c2) (hF b o h1)).trans c2⟩⟩

theorem EntsR.same {w w' : World} {A : Option Addr} {c : Nat} {es : List Ent} (h : EntsR w A c es) (hk : Keeps Nothing w w') : EntsR w' A c es := h.keeps hk (fun _ _ _ h => h)

structure Good (base cyc ext : Int) (es : List Ent) : Prop where
  pos : 0 < es.length
  len : es.length ≤ 64
  b0 : 0 ≤ base
  b1 : base < 4611686018427387904
  c0 : 1 ≤ cyc
  c1 : cyc ≤ 1000000000
  x0 : 0 ≤ ext
  x1 : ext ≤ 1000000000
  ents : ∀ e ∈ es, 0 ≤ e.opn ∧ e.opn ≤ 255 ∧ 1 ≤ e.nanos ∧ e.nanos ≤ 1000000000

def atGo (n : Nat) (cyc into : Int) : List Ent → Nat → Int → Nat × Int
  | [], _, _ => (n - 1, cyc - into)
  | e :: rest, i, en =>
    if into < en + e.nanos ∧ i + 1 < n ∧ en + e.nanos < cyc then (i, en + e.nanos - into)
    else if cyc ≤ en + e.nanos then (i, cyc - into)
    else atGo n cyc into rest (i + 1) (en + e.nanos)

def AtInv (w : World) (es : List Ent) (cyc into : Int) (k : Nat) (en i : Value) (wr : World) : Prop :=
  ∃ (j : Nat) (E : Int), j + k = es.length ∧ i = .int .i64 (j : Nat) ∧ en = .int .i64 E ∧ 0 ≤ E ∧ E ≤ j * 1000000000 ∧ atGo es.length cyc into es 0 0 = atGo es.length cyc into (es.drop j) j E ∧ Keeps Nothing w wr

set_option maxRecDepth 100000 in
set_option maxHeartbeats 4000000 in
theorem at_ok {w : World} {base cyc ext into : Int} {A : Option Addr} {c : Nat} {es : List Ent} (hr : EntsR w A c es) (hc : 1 ≤ cyc ∧ cyc ≤ 1000000000) (hn : 0 < es.length ∧ es.length ≤ 64)
    (he : ∀ e ∈ es, 1 ≤ e.nanos ∧ e.nanos ≤ 1000000000) (hi : 0 ≤ into ∧ into < cyc) (i : Nat) (left : Int) (hat : atGo es.length cyc into es 0 0 = (i, left)) :
    Calls Try.prog 96 #[.agg #[.int .i64 base, .int .i64 cyc, .int .i64 ext, .slice A es.length c], .int .i64 into] w (fun e w' => e = .returned (.tuple #[.int .i64 (i : Nat), .int .i64 left]) ∧ Keeps Nothing w w') := by
  obtain ⟨hc0, hc1⟩ := hc
  obtain ⟨hn0, hn1⟩ := hn
  obtain ⟨hi0, hi1⟩ := hi
  have HR := Lib.hid hr
  have HE := Lib.hid he
  have HT := Lib.hid hat
  clear hr he hat
  go_enter Try.func96, Try.ntmps96
  go_wp2_with fail
  have HB := Lib.hid (Blk.new w [.int .i64 base, .int .i64 cyc, .int .i64 ext, .slice A es.length c] 56)
  have HK := Lib.hid ((Keeps.refl Nothing w).alloc (.cells #[.int .i64 base, .int .i64 cyc, .int .i64 ext, .slice A es.length c] 56))
  have hB0 : Blk (w.alloc (.cells #[.int .i64 base, .int .i64 cyc, .int .i64 ext, .slice A es.length c] 56)) w.heap.size [.int .i64 base, .int .i64 cyc, .int .i64 ext, .slice A es.length c] 56 := HB.out
  have HB0 := Lib.hid hB0
  clear hB0 HB
  generalize (w.alloc (.cells #[.int .i64 base, .int .i64 cyc, .int .i64 ext, .slice A es.length c] 56)) = w1 at *
  go_loopg [6, 12] es.length (fun k en i wr => AtInv w1 es cyc into k en i wr)
  case atStart => exact ⟨0, 0, by omega, rfl, rfl, by omega, by omega, rfl, Keeps.refl _ _⟩
  case round =>
    obtain ⟨j, E, hj, rfl, rfl, hE0, hE1, hgo, hk⟩ := hrel
    have HG := Lib.hid (HT.out.symm.trans hgo)
    have HKr := Lib.hid hk
    have d1 : wr.cell? ⟨w.heap.size, 1, none⟩ = some (.int .i64 cyc) := (HB0.out.keeps hk (fun h => h)).cell 1
    have d3 : wr.cell? ⟨w.heap.size, 3, none⟩ = some (.slice A es.length c) := (HB0.out.keeps hk (fun h => h)).cell 3
    have hwl : w.heap.size < wr.heap.size := (HB0.out.keeps hk (fun h => h)).lt
    clear hk hgo
    by_cases hlt : j < es.length
    · obtain ⟨e, hej⟩ : ∃ e, es[j]? = some e := ⟨_, List.getElem?_eq_getElem hlt⟩
      obtain ⟨hlt', hej'⟩ := List.getElem?_eq_some_iff.1 hej
      obtain ⟨e1, e2⟩ := HE.out e (List.mem_of_getElem? hej)
      obtain ⟨b, o, hA, hcells⟩ : ∃ b o, A = some ⟨b, o, none⟩ ∧ (w1.cell? ⟨b, o + j * 2, none⟩ = some (.int .i64 e.opn) ∧ w1.cell? ⟨b, o + j * 2 + 1, none⟩ = some (.int .i64 e.nanos)) := by
        rcases HR.out.same HK.out with h | ⟨b, o, h1, h2, h3⟩
        · rw [h] at hlt; simp at hlt
        · exact ⟨b, o, h1, h3 j e hej⟩
      subst hA
      obtain ⟨c1, c2⟩ := hcells
      have f1 := (HKr.out.cell (World.block_lt_of_cell? _ _ c1) (fun h => h)).trans c1
      have f2 := (HKr.out.cell (World.block_lt_of_cell? _ _ c2) (fun h => h)).trans c2
      have hdrop : es.drop j = e :: es.drop (j + 1) := by rw [List.drop_eq_getElem_cons hlt, hej']
      have hgo := HG.out
      rw [hdrop, atGo] at hgo
      have HGO := Lib.hid hgo
      clear c1 c2 hej hdrop hgo hej'
      obtain ⟨opn, nanos⟩ := e
      simp only at e1 e2 f1 f2
      have hE2 : E + nanos ≤ 65000000000 := by omega
      have hK2 := Lib.hid (((HK.out.same HKr.out).alloc (.cells #[.int .i64 opn, .int .i64 nanos] 61)))
      have hK4 := Lib.hid (HKr.out.alloc (.cells #[.int .i64 opn, .int .i64 nanos] 61))
      go_upto_region 6 with fail
      go_cut [31, 37] from 21 to 36 (fun _ v wx => v = .bool (decide (into < E + nanos ∧ j + 1 < es.length ∧ E + nanos < cyc)) ∧ wx = wr.alloc (.cells #[.int .i64 opn, .int .i64 nanos] 61))
      case first =>
        by_cases g1 : into < E + nanos
        · by_cases g2 : (j : Int) < (es.length : Int) - 1
          · by_cases g3 : E + nanos < cyc
            · go_wp2_with fail
              go_meet
              case rel => exact ⟨congrArg Value.bool (decide_eq_true (by omega)).symm, rfl⟩
            · have g4 : decide (E + nanos < cyc) = false := by simpa using g3
              go_wp2_with fail
              go_meet
              case rel => exact ⟨congrArg Value.bool (decide_eq_false (by omega)).symm, rfl⟩
          · have g4 : decide ((j : Int) < (es.length : Int) - 1) = false := by simpa using g2
            go_wp2_with fail
            go_meet
            case rel => exact ⟨congrArg Value.bool (decide_eq_false (by omega)).symm, rfl⟩
        · have g4 : decide (into < E + nanos) = false := by simpa using g1
          go_wp2_with fail
          go_meet
          case rel => exact ⟨congrArg Value.bool (decide_eq_false (by omega)).symm, rfl⟩
      case rest =>
        obtain ⟨rfl, rfl⟩ := hcut
        have k1 : (wr.alloc (.cells #[.int .i64 opn, .int .i64 nanos] 61)).cell? ⟨w.heap.size, 1, none⟩ = some (.int .i64 cyc) := ((HB0.out.keeps HKr.out (fun h => h)).alloc _).cell 1
        generalize (wr.alloc (.cells #[.int .i64 opn, .int .i64 nanos] 61)) = wa at *
        by_cases h1 : into < E + nanos ∧ j + 1 < es.length ∧ E + nanos < cyc
        · have h2 : (i, left) = (j, E + nanos - into) := by
            have := HGO.out
            rw [if_pos h1] at this
            exact this
          injection h2 with h2 h3
          have hdt : decide (into < E + nanos ∧ j + 1 < es.length ∧ E + nanos < cyc) = true := decide_eq_true h1
          rw [hdt]
          subst h2 h3
          clear HGO HG HT
          go_wp2_with fail
          go_ret2
          exact ⟨rfl, hK2.out⟩
        · have hdt : decide (into < E + nanos ∧ j + 1 < es.length ∧ E + nanos < cyc) = false := decide_eq_false h1
          rw [hdt]
          have hgo := HGO.out
          rw [if_neg h1] at hgo
          by_cases h5 : cyc ≤ E + nanos
          · rw [if_pos h5] at hgo
            injection hgo with h2 h3
            subst h2 h3
            clear HGO HG HT h1 hdt
            go_upto_region 9 with fail
            go_quiet (fail)
            go_wp2_with fail
            go_ret2
            exact ⟨rfl, hK2.out.drewN _⟩
          · rw [if_neg h5] at hgo
            have HGO2 := Lib.hid hgo
            have HK3 := Lib.hid (HKr.out)
            clear HGO HG hdt hgo h1
            go_wp2_with fail
            go_roundg (gk - 1)
            case measure => omega
            case rel => exact ⟨j + 1, E + nanos, by omega, by go_num, rfl, by omega, by omega, HT.out.trans HGO2.out, hK4.out⟩
    · obtain rfl : j = es.length := by omega
      have hgo := HG.out
      rw [List.drop_length, atGo] at hgo
      injection hgo with h2 h3
      subst h2 h3
      have HK5 := Lib.hid (HK.out.same HKr.out)
      clear HG HT
      go_upto_region 11 with fail
      go_quiet (fail)
      go_wp2_with fail
      go_ret2
      exact ⟨by rw [show ((es.length - 1 : Nat) : Int) = (es.length : Int) - 1 by omega]; rfl, HK5.out.drewN _⟩
end

section
open Go.RowKit

theorem atGo_lt {n : Nat} {cyc into : Int} (h0 : 0 < n) : ∀ (es : List Ent) (i : Nat) (E : Int), i + es.length = n → (atGo n cyc into es i E).1 < n
  | [], i, E, _ => by simp only [atGo]; omega
  | e :: rest, i, E, h => by
    simp at h
    rw [atGo]
    split
    · simp only; omega
    · split
      · simp only; omega
      · exact atGo_lt h0 rest (i + 1) _ (by omega)

theorem atGo_left {n : Nat} {cyc into : Int} (h0 : 0 ≤ into) (h1 : into < cyc) : ∀ (es : List Ent) (i : Nat) (E : Int), 1 ≤ (atGo n cyc into es i E).2 ∧ (atGo n cyc into es i E).2 ≤ cyc
  | [], i, E => by simp only [atGo]; omega
  | e :: rest, i, E => by
    rw [atGo]
    split
    · simp only; omega
    · split
      · simp only; omega
      · exact atGo_left h0 h1 rest (i + 1) _

def gst (base cyc : Int) (es : List Ent) (t : Int) : Int := if t < base then 255 else (es.getD (atGo es.length cyc ((t - base).tmod cyc) es 0 0).1 ⟨0, 0⟩).opn
def gnx (base cyc : Int) (es : List Ent) (t : Int) : Int := if t < base then base else t + (atGo es.length cyc ((t - base).tmod cyc) es 0 0).2
def gstart (base cyc t : Int) : Int := if t ≤ base then base else base + ((t - base + cyc - 1).tdiv cyc) * cyc

theorem tmod_in {a c : Int} (ha : 0 ≤ a) (hc : 1 ≤ c) : 0 ≤ a.tmod c ∧ a.tmod c < c := by
  rw [Int.tmod_eq_emod_of_nonneg ha]
  exact ⟨Int.emod_nonneg _ (by omega), Int.emod_lt_of_pos _ (by omega)⟩

theorem gnx_range {base cyc : Int} {es : List Ent} {t : Int} (hc : 1 ≤ cyc) (h : base ≤ t) : t + 1 ≤ gnx base cyc es t ∧ gnx base cyc es t ≤ t + cyc := by
  unfold gnx
  rw [if_neg (by omega)]
  obtain ⟨h1, h2⟩ := tmod_in (a := t - base) (c := cyc) (by omega) hc
  have := atGo_left h1 h2 (n := es.length) es 0 0
  omega

set_option maxRecDepth 100000 in
set_option maxHeartbeats 4000000 in
theorem gstate_ok {w : World} {base cyc ext : Int} {A : Option Addr} {c : Nat} {es : List Ent} (hr : EntsR w A c es) (hg : Good base cyc ext es) (t : Int) (ht : t ≤ 9000000000000000000) :
    Calls Try.prog 92 #[.agg #[.int .i64 base, .int .i64 cyc, .int .i64 ext, .slice A es.length c], .int .i64 t] w (fun e w' => e = .returned (.int .i64 (gst base cyc es t)) ∧ Keeps Nothing w w') := by
  obtain ⟨g0, g1, gb0, gb1, gc0, gc1, gx0, gx1, ge⟩ := hg
  have HR := Lib.hid hr
  have HE := Lib.hid ge
  clear hr ge
  by_cases hlt : t < base
  · have hv : gst base cyc es t = 255 := by unfold gst; rw [if_pos hlt]
    rw [hv]
    go_enter Try.func92, Try.ntmps92
    go_wp2_with fail
    go_ret
    exact ⟨rfl, (Keeps.refl _ _).alloc _⟩
  · obtain ⟨h1, h2⟩ := tmod_in (a := t - base) (c := cyc) (by omega) gc0
    obtain ⟨i, left, hat⟩ : ∃ i left, atGo es.length cyc ((t - base).tmod cyc) es 0 0 = (i, left) := ⟨_, _, rfl⟩
    have hi : i < es.length := by have := atGo_lt g0 (cyc := cyc) (into := (t - base).tmod cyc) es 0 0 (by omega); rw [hat] at this; exact this
    obtain ⟨e, hei⟩ : ∃ e, es[i]? = some e := ⟨_, List.getElem?_eq_getElem hi⟩
    have hv : gst base cyc es t = e.opn := by unfold gst; rw [if_neg hlt, hat]; simp [List.getD, hei]
    rw [hv]
    have HI := Lib.hid hei
    have HA := Lib.hid hat
    have H12 := Lib.hid (And.intro h1 h2)
    clear hei hat hv
    have hw1 : IntKind.i64.wrap (t - base) = t - base := by rw [IntKind.wrap_i64]; omega
    go_enter Try.func92, Try.ntmps92
    go_upto_region 3 with fail
    have HB := Lib.hid (Blk.new w [.int .i64 base, .int .i64 cyc, .int .i64 ext, .slice A es.length c] 56)
    have HK := Lib.hid ((Keeps.refl Nothing w).alloc (.cells #[.int .i64 base, .int .i64 cyc, .int .i64 ext, .slice A es.length c] 56))
    have hB0 : Blk (w.alloc (.cells #[.int .i64 base, .int .i64 cyc, .int .i64 ext, .slice A es.length c] 56)) w.heap.size [.int .i64 base, .int .i64 cyc, .int .i64 ext, .slice A es.length c] 56 := HB.out
    have HB0 := Lib.hid hB0
    clear hB0 HB
    generalize (w.alloc (.cells #[.int .i64 base, .int .i64 cyc, .int .i64 ext, .slice A es.length c] 56)) = w1 at *
    have d0 : w1.cell? ⟨w.heap.size, 0, none⟩ = some (.int .i64 base) := HB0.out.cell 0
    have d1 : w1.cell? ⟨w.heap.size, 1, none⟩ = some (.int .i64 cyc) := HB0.out.cell 1
    have d2 : w1.cell? ⟨w.heap.size, 2, none⟩ = some (.int .i64 ext) := HB0.out.cell 2
    have d3 : w1.cell? ⟨w.heap.size, 3, none⟩ = some (.slice A es.length c) := HB0.out.cell 3
    have C : ∀ v, Keeps Nothing w1 v → Calls Try.prog 96 #[.agg #[.int .i64 base, .int .i64 cyc, .int .i64 ext, .slice A es.length c], .int .i64 ((t - base).tmod cyc)] v (fun e w' => e = .returned (.tuple #[.int .i64 (i : Nat), .int .i64 left]) ∧ Keeps Nothing v w') := fun v hv => at_ok ((HR.out.same HK.out).same hv) ⟨gc0, gc1⟩ ⟨g0, g1⟩ (fun e he => (HE.out e he).2.2) H12.out i left HA.out
    have hq1 : IntKind.i64.wrap ((t - base).tmod cyc) = (t - base).tmod cyc := by rw [IntKind.wrap_i64]; omega
    have hq0 : cyc ≠ 0 := by omega
    clear HB0 HE
    go_region_held3 (fun v => v.cell? ⟨w.heap.size, 0, none⟩ = some (.int .i64 base) ∧ v.cell? ⟨w.heap.size, 1, none⟩ = some (.int .i64 cyc) ∧ v.cell? ⟨w.heap.size, 2, none⟩ = some (.int .i64 ext) ∧ v.cell? ⟨w.heap.size, 3, none⟩ = some (.slice A es.length c)) (first | exact ⟨d0, d1, d2, d3⟩ | exact ⟨k0, k1, k2, k3⟩) (first | (go_at_call 96; refine (C _ ((Keeps.refl _ _).drew)).mono ?_; rintro e w2 ⟨rfl, hk2⟩; have k0 := (hk2.cell (World.block_lt_of_cell? w1 _ d0) (fun h => h)).trans d0; have k1 := (hk2.cell (World.block_lt_of_cell? w1 _ d1) (fun h => h)).trans d1; have k2 := (hk2.cell (World.block_lt_of_cell? w1 _ d2) (fun h => h)).trans d2; have k3 := (hk2.cell (World.block_lt_of_cell? w1 _ d3) (fun h => h)).trans d3))
    have HK2 := Lib.hid (HK.out.same ((((Keeps.refl _ _).drew)).same hk2))
    clear C
    obtain ⟨b, o, hA, c1, -⟩ : ∃ b o, A = some ⟨b, o, none⟩ ∧ (w2.cell? ⟨b, o + i * 2, none⟩ = some (.int .i64 e.opn) ∧ w2.cell? ⟨b, o + i * 2 + 1, none⟩ = some (.int .i64 e.nanos)) := by
      rcases HR.out.same HK2.out with h | ⟨b, o, h1, h2, h3⟩
      · rw [h] at hi; simp at hi
      · exact ⟨b, o, h1, h3 i e HI.out⟩
    subst hA
    go_wp2_with fail
    go_ret
    exact ⟨rfl, HK2.out⟩

set_option maxRecDepth 100000 in
set_option maxHeartbeats 4000000 in
theorem gnext_ok {w : World} {base cyc ext : Int} {A : Option Addr} {c : Nat} {es : List Ent} (hr : EntsR w A c es) (hg : Good base cyc ext es) (t : Int) (ht : t ≤ 9000000000000000000) :
    Calls Try.prog 97 #[.agg #[.int .i64 base, .int .i64 cyc, .int .i64 ext, .slice A es.length c], .int .i64 t] w (fun e w' => e = .returned (.int .i64 (gnx base cyc es t)) ∧ Keeps Nothing w w') := by
  obtain ⟨g0, g1, gb0, gb1, gc0, gc1, gx0, gx1, ge⟩ := hg
  have HR := Lib.hid hr
  have HE := Lib.hid ge
  clear hr ge
  by_cases hlt : t < base
  · have hv : gnx base cyc es t = base := by unfold gnx; rw [if_pos hlt]
    rw [hv]
    go_enter Try.func97, Try.ntmps97
    go_wp2_with fail
    go_ret
    exact ⟨rfl, (Keeps.refl _ _).alloc _⟩
  · obtain ⟨h1, h2⟩ := tmod_in (a := t - base) (c := cyc) (by omega) gc0
    obtain ⟨i, left, hat⟩ : ∃ i left, atGo es.length cyc ((t - base).tmod cyc) es 0 0 = (i, left) := ⟨_, _, rfl⟩
    have hle := atGo_left h1 h2 (n := es.length) es 0 0
    rw [hat] at hle
    simp only at hle
    obtain ⟨hle1, hle2⟩ := hle
    have hv : gnx base cyc es t = t + left := by unfold gnx; rw [if_neg hlt, hat]
    rw [hv]
    have HA := Lib.hid hat
    have H12 := Lib.hid (And.intro h1 h2)
    clear hat hv
    have hw1 : IntKind.i64.wrap (t - base) = t - base := by rw [IntKind.wrap_i64]; omega
    go_enter Try.func97, Try.ntmps97
    go_upto_region 3 with fail
    have HB := Lib.hid (Blk.new w [.int .i64 base, .int .i64 cyc, .int .i64 ext, .slice A es.length c] 56)
    have HK := Lib.hid ((Keeps.refl Nothing w).alloc (.cells #[.int .i64 base, .int .i64 cyc, .int .i64 ext, .slice A es.length c] 56))
    have hB0 : Blk (w.alloc (.cells #[.int .i64 base, .int .i64 cyc, .int .i64 ext, .slice A es.length c] 56)) w.heap.size [.int .i64 base, .int .i64 cyc, .int .i64 ext, .slice A es.length c] 56 := HB.out
    have HB0 := Lib.hid hB0
    clear hB0 HB
    generalize (w.alloc (.cells #[.int .i64 base, .int .i64 cyc, .int .i64 ext, .slice A es.length c] 56)) = w1 at *
    have d0 : w1.cell? ⟨w.heap.size, 0, none⟩ = some (.int .i64 base) := HB0.out.cell 0
    have d1 : w1.cell? ⟨w.heap.size, 1, none⟩ = some (.int .i64 cyc) := HB0.out.cell 1
    have d2 : w1.cell? ⟨w.heap.size, 2, none⟩ = some (.int .i64 ext) := HB0.out.cell 2
    have d3 : w1.cell? ⟨w.heap.size, 3, none⟩ = some (.slice A es.length c) := HB0.out.cell 3
    have C : ∀ v, Keeps Nothing w1 v → Calls Try.prog 96 #[.agg #[.int .i64 base, .int .i64 cyc, .int .i64 ext, .slice A es.length c], .int .i64 ((t - base).tmod cyc)] v (fun e w' => e = .returned (.tuple #[.int .i64 (i : Nat), .int .i64 left]) ∧ Keeps Nothing v w') := fun v hv => at_ok ((HR.out.same HK.out).same hv) ⟨gc0, gc1⟩ ⟨g0, g1⟩ (fun e he => (HE.out e he).2.2) H12.out i left HA.out
    have hq1 : IntKind.i64.wrap ((t - base).tmod cyc) = (t - base).tmod cyc := by rw [IntKind.wrap_i64]; omega
    have hq0 : cyc ≠ 0 := by omega
    clear HB0 HE
    go_region_held3 (fun v => v.cell? ⟨w.heap.size, 0, none⟩ = some (.int .i64 base) ∧ v.cell? ⟨w.heap.size, 1, none⟩ = some (.int .i64 cyc) ∧ v.cell? ⟨w.heap.size, 2, none⟩ = some (.int .i64 ext) ∧ v.cell? ⟨w.heap.size, 3, none⟩ = some (.slice A es.length c)) (first | exact ⟨d0, d1, d2, d3⟩ | exact ⟨k0, k1, k2, k3⟩) (first | (go_at_call 96; refine (C _ ((Keeps.refl _ _).drew)).mono ?_; rintro e w2 ⟨rfl, hk2⟩; have k0 := (hk2.cell (World.block_lt_of_cell? w1 _ d0) (fun h => h)).trans d0; have k1 := (hk2.cell (World.block_lt_of_cell? w1 _ d1) (fun h => h)).trans d1; have k2 := (hk2.cell (World.block_lt_of_cell? w1 _ d2) (fun h => h)).trans d2; have k3 := (hk2.cell (World.block_lt_of_cell? w1 _ d3) (fun h => h)).trans d3))
    have HK2 := Lib.hid (HK.out.same ((((Keeps.refl _ _).drew)).same hk2))
    clear C
    go_wp2_with fail
    go_ret
    exact ⟨rfl, HK2.out⟩

set_option maxRecDepth 100000 in
theorem gstart_ok {w : World} {base cyc ext : Int} {v : Value} (hb : 0 ≤ base ∧ base < 4611686018427387904) (hc : 1 ≤ cyc ∧ cyc ≤ 1000000000) (t : Int) (ht : t < 4611686018427387904) :
    Calls Try.prog 61 #[.agg #[.int .i64 base, .int .i64 cyc, .int .i64 ext, v], .int .i64 t] w (fun e w' => e = .returned (.int .i64 (gstart base cyc t)) ∧ Keeps Nothing w w') := by
  by_cases hlt : t ≤ base
  · have hv : gstart base cyc t = base := by unfold gstart; rw [if_pos hlt]
    rw [hv]
    go_enter Try.func61, Try.ntmps61
    go_wp2_with fail
    go_ret
    exact ⟨rfl, (Keeps.refl _ _).alloc _⟩
  · have hv : gstart base cyc t = base + ((t - base + cyc - 1).tdiv cyc) * cyc := by unfold gstart; rw [if_neg hlt]
    rw [hv]
    have hd : 0 ≤ (t - base + cyc - 1).tdiv cyc ∧ (t - base + cyc - 1).tdiv cyc * cyc ≤ t - base + cyc - 1 := by
      rw [Int.tdiv_eq_ediv_of_nonneg (by omega)]
      exact ⟨Int.ediv_nonneg (by omega) (by omega), Int.ediv_mul_le _ (by omega)⟩
    obtain ⟨hd0, hd1⟩ := hd
    have hd2 : (t - base + cyc - 1).tdiv cyc ≤ t - base + cyc - 1 := by
      rw [Int.tdiv_eq_ediv_of_nonneg (by omega)]
      exact Int.ediv_le_self _ (by omega)
    have hd3 : 0 ≤ (t - base + cyc - 1).tdiv cyc * cyc := Int.mul_nonneg hd0 (by omega)
    have hq0 : cyc ≠ 0 := by omega
    have hw1 : IntKind.i64.wrap (t - base) = t - base := by rw [IntKind.wrap_i64]; omega
    have hw2 : IntKind.i64.wrap (t - base + cyc) = t - base + cyc := by rw [IntKind.wrap_i64]; omega
    have hw3 : IntKind.i64.wrap (t - base + cyc - 1) = t - base + cyc - 1 := by rw [IntKind.wrap_i64]; omega
    have hw4 : IntKind.i64.wrap ((t - base + cyc - 1).tdiv cyc) = (t - base + cyc - 1).tdiv cyc := by rw [IntKind.wrap_i64]; omega
    have hw5 : IntKind.i64.wrap ((t - base + cyc - 1).tdiv cyc * cyc) = (t - base + cyc - 1).tdiv cyc * cyc := by rw [IntKind.wrap_i64]; omega
    clear hv
    go_enter Try.func61, Try.ntmps61
    go_wp2_with fail
    go_ret
    exact ⟨rfl, (Keeps.refl _ _).alloc _⟩
end

section
open Go.RowKit

def Ent.bad (e : Ent) : Prop := e.opn < 0 ∨ 255 < e.opn ∨ e.nanos < 1 ∨ 1000000000 < e.nanos

set_option maxRecDepth 100000 in
theorem bad_ok {w : World} (opn nanos : Int) (b : Bool) (hb : b = true ↔ (⟨opn, nanos⟩ : Ent).bad) : Calls Try.prog 75 #[.agg #[.int .i64 opn, .int .i64 nanos]] w (fun e w' => e = .returned (.bool b) ∧ Keeps Nothing w w') := by
  simp only [Ent.bad] at hb
  go_enter Try.func75, Try.ntmps75
  by_cases h1 : opn < 0
  · have : b = true := hb.2 (.inl h1)
    subst this
    clear hb
    go_wp2_with fail
    go_ret
    exact ⟨rfl, (Keeps.refl _ _).alloc _⟩
  · have h1' : decide (opn < 0) = false := by simpa using h1
    by_cases h2 : 255 < opn
    · have : b = true := hb.2 (.inr (.inl h2))
      subst this
      clear hb
      go_wp2_with fail
      go_ret
      exact ⟨rfl, (Keeps.refl _ _).alloc _⟩
    · have h2' : decide (255 < opn) = false := by simpa using h2
      by_cases h3 : nanos < 1
      · have : b = true := hb.2 (.inr (.inr (.inl h3)))
        subst this
        clear hb
        go_wp2_with fail
        go_ret
        exact ⟨rfl, (Keeps.refl _ _).alloc _⟩
      · have h3' : decide (nanos < 1) = false := by simpa using h3
        by_cases h4 : 1000000000 < nanos
        · have : b = true := hb.2 (.inr (.inr (.inr h4)))
          subst this
          clear hb
          go_wp2_with fail
          go_ret
          exact ⟨rfl, (Keeps.refl _ _).alloc _⟩
        · have h4' : decide (1000000000 < nanos) = false := by simpa using h4
          have : b = false := by
            cases b
            · rfl
            · have := hb.1 rfl; omega
          subst this
          clear hb
          go_wp2_with fail
          go_ret
          exact ⟨rfl, (Keeps.refl _ _).alloc _⟩

def IxInv (w : World) (es : List Ent) (k : Nat) (i : Value) (wr : World) : Prop :=
  ∃ j : Nat, j + k = es.length ∧ i = .int .i64 (j : Nat) ∧ (∀ (l : Nat) (e : Ent), l < j → es[l]? = some e → ¬ e.bad) ∧ Keeps Nothing w wr

set_option maxRecDepth 100000 in
set_option maxHeartbeats 2000000 in
theorem index_ok {w : World} {A : Option Addr} {c : Nat} {es : List Ent} (hr : EntsR w A c es) (hn : es.length ≤ 64) :
    Calls Try.prog 87 #[.slice A es.length c, .func (.func 75) #[] #[]] w (fun e w' => ∃ r : Int, e = .returned (.int .i64 r) ∧ -1 ≤ r ∧ r ≤ 64 ∧ (0 ≤ r ↔ ∃ e ∈ es, e.bad) ∧ Keeps Nothing w w') := by
  have HR := Lib.hid hr
  clear hr
  go_enter Try.func87, Try.ntmps87
  go_wp2_with fail
  go_loopg [8] es.length (fun k i wr => IxInv w es k i wr)
  case atStart => exact ⟨0, by omega, rfl, fun l e h => by omega, Keeps.refl _ _⟩
  case round =>
    obtain ⟨j, hj, rfl, hno, hk⟩ := hrel
    have HN := Lib.hid hno
    have HK := Lib.hid hk
    clear hno hk
    by_cases hlt : j < es.length
    · obtain ⟨e, hej⟩ : ∃ e, es[j]? = some e := ⟨_, List.getElem?_eq_getElem hlt⟩
      obtain ⟨b, o, hA, c1, c2⟩ : ∃ b o, A = some ⟨b, o, none⟩ ∧ (w.cell? ⟨b, o + j * 2, none⟩ = some (.int .i64 e.opn) ∧ w.cell? ⟨b, o + j * 2 + 1, none⟩ = some (.int .i64 e.nanos)) := by
        rcases HR.out with h | ⟨b, o, h1, h2, h3⟩
        · rw [h] at hlt; simp at hlt
        · exact ⟨b, o, h1, h3 j e hej⟩
      subst hA
      have f1 := (HK.out.cell (World.block_lt_of_cell? _ _ c1) (fun h => h)).trans c1
      have f2 := (HK.out.cell (World.block_lt_of_cell? _ _ c2) (fun h => h)).trans c2
      have HJ := Lib.hid hej
      obtain ⟨opn, nanos⟩ := e
      simp only at f1 f2
      clear c1 c2 hej
      by_cases hb : (⟨opn, nanos⟩ : Ent).bad
      · have HBad := Lib.hid hb
        clear hb
        go_wp2_with (go_at_call 75; refine (bad_ok opn nanos true ⟨fun _ => HBad.out, fun _ => rfl⟩).mono ?_; rintro e w2 ⟨rfl, hk2⟩)
        go_ret
        exact ⟨_, rfl, by omega, by omega, ⟨fun _ => ⟨_, List.mem_of_getElem? HJ.out, HBad.out⟩, fun _ => by omega⟩, HK.out.same hk2⟩
      · have HBad := Lib.hid hb
        clear hb
        go_wp2_with (go_at_call 75; refine (bad_ok opn nanos false ⟨(fun h => by cases h), fun h => absurd h HBad.out⟩).mono ?_; rintro e w2 ⟨rfl, hk2⟩)
        go_roundg (gk - 1)
        case measure => omega
        case rel =>
          refine ⟨j + 1, by omega, by go_num, fun l e hl he => ?_, HK.out.same hk2⟩
          by_cases e1 : l = j
          · subst e1
            rw [HJ.out] at he
            injection he with he
            subst he
            exact HBad.out
          · exact HN.out l e (by omega) he
    · go_wp2_with fail
      go_ret
      refine ⟨-1, rfl, by omega, by omega, ⟨fun h => by omega, ?_⟩, HK.out⟩
      rintro ⟨e, he, hb⟩
      obtain ⟨l, hl⟩ := List.getElem?_of_mem he
      exact absurd hb (HN.out l e (by have := (List.getElem?_eq_some_iff.1 hl).1; omega) hl)

set_option maxRecDepth 100000 in
theorem contains_ok {w : World} {A : Option Addr} {c : Nat} {es : List Ent} (hr : EntsR w A c es) (hn : es.length ≤ 64) (b : Bool) (hb : b = true ↔ ∃ e ∈ es, e.bad) :
    Calls Try.prog 76 #[.slice A es.length c, .func (.func 75) #[] #[]] w (fun e w' => e = .returned (.bool b) ∧ Keeps Nothing w w') := by
  have C := index_ok hr hn
  go_enter Try.func76, Try.ntmps76
  go_wp2_with (go_at_call 87; refine C.mono ?_; rintro e w2 ⟨r, rfl, h1, h2, h3, hk2⟩)
  go_ret
  refine ⟨?_, hk2⟩
  rw [← h3] at hb
  cases b
  · simp at hb ⊢; exact hb
  · simp at hb ⊢; exact hb

theorem good_of {base cyc ext : Int} {es : List Ent} (h1 : ¬ (es.length = 0 ∨ 64 < es.length)) (h2 : ¬ (base < 0 ∨ 4611686018427387904 ≤ base ∨ cyc < 1 ∨ 1000000000 < cyc ∨ ext < 0 ∨ 1000000000 < ext)) (h3 : ¬ ∃ e ∈ es, e.bad) : Good base cyc ext es :=
  ⟨by omega, by omega, by omega, by omega, by omega, by omega, by omega, by omega, fun e he => by
    have : ¬ e.bad := fun hb => h3 ⟨e, he, hb⟩
    unfold Ent.bad at this
    omega⟩

set_option maxRecDepth 100000 in
set_option maxHeartbeats 2000000 in
/-- A list that may be. -/
theorem check_good {w : World} {base cyc ext : Int} {A : Option Addr} {c : Nat} {es : List Ent} (hr : EntsR w A c es) (hg : Good base cyc ext es) :
    Calls Try.prog 55 #[.agg #[.int .i64 base, .int .i64 cyc, .int .i64 ext, .slice A es.length c]] w (fun e w' => e = .returned (.int .i64 0) ∧ Keeps Nothing w w') := by
  obtain ⟨g0, g1, gb0, gb1, gc0, gc1, gx0, gx1, ge⟩ := hg
  have C := fun w' (hk : Keeps Nothing w w') => contains_ok (hr.same hk) g1 false ⟨fun h => (by cases h), fun ⟨e, he, hb⟩ => (by have := ge e he; unfold Ent.bad at hb; omega)⟩
  clear hr ge
  have hl : (es.length : Int) ≤ 64 := by omega
  have hp : (0 : Int) < es.length := by omega
  have hn2 : es ≠ [] := fun h => by rw [h] at g0; simp at g0
  have hn1 : ((es.length : Int) == 0) = false := by simpa using hn2
  have q1 : decide ((64 : Int) < es.length) = false := by simp; omega
  have q2 : decide (base < 0) = false := by simp; omega
  have q3 : decide ((4611686018427387904 : Int) ≤ base) = false := by simp; omega
  have q4 : decide (cyc < 1) = false := by simp; omega
  have q5 : decide ((1000000000 : Int) < cyc) = false := by simp; omega
  have q6 : decide (ext < 0) = false := by simp; omega
  have q7 : decide ((1000000000 : Int) < ext) = false := by simp; omega
  go_enter Try.func55, Try.ntmps55
  go_wp2_with (go_at_call 76; refine (C _ ((Keeps.refl _ _).alloc _)).mono ?_; rintro e w2 ⟨rfl, hk2⟩; clear C)
  go_ret
  exact ⟨rfl, ((Keeps.refl _ _).alloc _).same hk2⟩
end

section
open Go.RowKit

def ecells (es : List Ent) : List Value := (es.map fun e => [Value.int .i64 e.opn, Value.int .i64 e.nanos]).flatten

theorem ecells_len (es : List Ent) : (ecells es).length = es.length * 2 := by
  induction es with
  | nil => rfl
  | cons e es ih =>
    have : ecells (e :: es) = [Value.int .i64 e.opn, Value.int .i64 e.nanos] ++ ecells es := rfl
    rw [this, List.length_append, ih]
    simp
    omega

theorem ecells_get : ∀ (es : List Ent) (j : Nat) (e : Ent), es[j]? = some e → (ecells es)[j * 2]? = some (.int .i64 e.opn) ∧ (ecells es)[j * 2 + 1]? = some (.int .i64 e.nanos)
  | [], j, e, h => by simp at h
  | x :: es, 0, e, h => by
    simp at h
    subst h
    exact ⟨rfl, rfl⟩
  | x :: es, j + 1, e, h => by
    have := ecells_get es j e (by simpa using h)
    have h2 : ecells (x :: es) = Value.int .i64 x.opn :: Value.int .i64 x.nanos :: ecells es := rfl
    rw [h2]
    have e1 : (j + 1) * 2 = (j * 2) + 1 + 1 := by omega
    rw [e1]
    exact this

theorem ecells_one (es : List Ent) : ∀ u ∈ ecells es, u.oneCell' = true := by
  intro u hu
  simp only [ecells, List.mem_flatten, List.mem_map] at hu
  obtain ⟨l, ⟨e, _, rfl⟩, hu⟩ := hu
  simp at hu
  rcases hu with rfl | rfl <;> rfl

theorem EntsR.news {w : World} {A : Option Addr} {c : Nat} {es : List Ent} (h : EntsR w A c es) (h0 : 0 < es.length) : ∃ b o, A = some ⟨b, o, none⟩ ∧ es.length ≤ c ∧ ∀ (j : Nat) (u : Value), (ecells es)[j]? = some u → w.cell? ((⟨b, o, none⟩ : Addr).add j) = some u := by
  rcases h with h | ⟨b, o, h1, h2, h3⟩
  · rw [h] at h0; simp at h0
  · refine ⟨b, o, h1, h2, fun j u hj => ?_⟩
    have hl := (List.getElem?_eq_some_iff.1 hj).1
    rw [ecells_len] at hl
    obtain ⟨e, he⟩ : ∃ e, es[j / 2]? = some e := ⟨_, List.getElem?_eq_getElem (by omega)⟩
    obtain ⟨c1, c2⟩ := h3 _ e he
    obtain ⟨d1, d2⟩ := ecells_get es _ e he
    rw [Addr.add_lit]
    by_cases hp : j % 2 = 0
    · have e1 : j = j / 2 * 2 := by omega
      rw [← e1] at c1 d1
      rw [d1] at hj
      injection hj with hj
      rw [c1, hj]
    · have e1 : j = j / 2 * 2 + 1 := by omega
      rw [Nat.add_assoc] at c2
      rw [← e1] at c2 d2
      rw [d2] at hj
      injection hj with hj
      rw [c2, hj]

theorem EntsR.ofS {w : World} {F : Nat → Prop} {g cap n : Nat} {es : List Ent} (h : OwnS w F 61 2 (.slice (some ⟨g, 0, none⟩) n cap) n (ecells es)) (hn : n = es.length) : EntsR w (some ⟨g, 0, none⟩) cap es := by
  rcases h.1.2 with ⟨hv, -⟩ | ⟨g', cap', cur, hv, -, hh, hc, -, -, ht⟩
  · cases hv
  · injection hv with h1 h2 h3
    injection h1 with h1
    injection h1 with h1
    subst h1 h3
    refine .inr ⟨g, 0, rfl, by omega, fun j e he => ?_⟩
    obtain ⟨d1, d2⟩ := ecells_get es j e he
    have hc2 : ∀ i u, (ecells es)[i]? = some u → w.cell? ⟨g, i, none⟩ = some u := fun i u hi => by
      rw [← ht, List.getElem?_take] at hi
      split at hi
      · simpa [World.cell?, hh] using hi
      · cases hi
    exact ⟨by simpa using hc2 _ _ d1, by simpa using hc2 _ _ d2⟩

def Cloned (w : World) (es : List Ent) (e : Ending) (w' : World) : Prop :=
  ∃ g cap, e = .returned (.slice (some ⟨g, 0, none⟩) es.length cap) ∧ w.heap.size ≤ g ∧ EntsR w' (some ⟨g, 0, none⟩) cap es ∧ Keeps Nothing w w'

theorem own_none (w : World) (h : Nat) (hb : Blk w h [] 61) (F : Nat → Prop) (hF : F h) : OwnS w F 61 2 (.slice (some ⟨h, 0, none⟩) 0 0) 0 [] :=
  ⟨⟨by simp, .inr ⟨h, 0, #[], rfl, Nat.zero_le _, hb, by omega, by unfold maxLen; omega, by simp, by simp⟩⟩, fun g hg => by simp [Value.ownBlock] at hg; subst hg; exact hF⟩

set_option maxRecDepth 100000 in
theorem sclone_ok {w : World} {A : Option Addr} {c : Nat} {es : List Ent} (hr : EntsR w A c es) (h0 : 0 < es.length) (hn : es.length ≤ 64) :
    Calls Try.prog 81 #[.slice A es.length c] w (Cloned w es) := by
  obtain ⟨i0, hi0, hz0, hz1, hz2⟩ := info_parts (P := Try.prog) (e := 61) (z := .agg #[.int .i64 0, .int .i64 0]) (size := 2) (bytes := 16) (by kernel_rfl)
  obtain ⟨b, o, rfl, hcap, hnews⟩ := hr.news h0
  have HN := Lib.hid hnews
  have h1c := Lib.hid (ecells_one es)
  have hnb := Lib.hid (ecells_len es)
  clear hr hnews
  have hq : ∀ w : World, (binOp .eql 54 (.slice (some ⟨b, o, none⟩) es.length c) (.slice none 0 0)).run Try.prog w = .ok (.bool false) w := fun _ => rfl
  go_enter Try.func81, Try.ntmps81
  go_wp2_with (at_builtin; refine wpList_app rfl (.tmp 5) (.tmp 6) 54 rfl 61 i0 (.agg #[.int .i64 0, .int .i64 0]) 2 16 Try.underlying54 hi0 hz0 hz1 hz2 rfl (by decide) (fun k => w.heap.size ≤ k) (.slice (some ⟨w.heap.size, 0, none⟩) 0 0) 0 [] rfl (own_none _ _ (Blk.new w [] 61) _ (Nat.le_refl _)) ⟨b, o, none⟩ es.length c (ecells es) rfl hnb.out (news_keeps HN.out ((Keeps.refl _ _).alloc _)) h1c.out h0 ?h63 ?hby ?_)
  case h63 => omega
  case hby => omega
  intro g2 cap2 w3 ho3 hk3
  have HO3 := Lib.hid ho3
  clear ho3
  go_wp2_with fail
  go_ret
  refine ⟨g2, cap2, by simp, ?_, EntsR.ofS (by simpa using HO3.out) rfl, ((Keeps.refl _ _).alloc _).trans hk3 (fun k hk hl => by simp [Value.ownBlock] at hk; omega)⟩
  have := HO3.out.2 g2 rfl
  simp at this
  omega

def ClonedL (w : World) (base cyc ext : Int) (es : List Ent) (e : Ending) (w' : World) : Prop :=
  ∃ g cap, e = .returned (.agg #[.int .i64 base, .int .i64 cyc, .int .i64 ext, .slice (some ⟨g, 0, none⟩) es.length cap]) ∧ w.heap.size ≤ g ∧ EntsR w' (some ⟨g, 0, none⟩) cap es ∧ Keeps Nothing w w'

set_option maxRecDepth 100000 in
set_option maxHeartbeats 2000000 in
theorem clone_ok {w : World} {base cyc ext : Int} {A : Option Addr} {c : Nat} {es : List Ent} (hr : EntsR w A c es) (h0 : 0 < es.length) (hn : es.length ≤ 64) :
    Calls Try.prog 62 #[.agg #[.int .i64 base, .int .i64 cyc, .int .i64 ext, .slice A es.length c]] w (ClonedL w base cyc ext es) := by
  have C := fun v (hv : Keeps Nothing w v) => sclone_ok (hr.same hv) h0 hn
  clear hr
  go_enter Try.func62, Try.ntmps62
  go_wp2_with (go_at_call 81; refine (C _ (((Keeps.refl _ _).alloc _).alloc _)).mono ?_; rintro e w3 ⟨g, cap, rfl, hg, hE, hk3⟩; have hB1 : Blk w3 w.heap.size [.int .i64 base, .int .i64 cyc, .int .i64 ext, .slice A es.length c] 56 := ((Blk.new w [.int .i64 base, .int .i64 cyc, .int .i64 ext, .slice A es.length c] 56).alloc _).keeps hk3 (fun h => h); have hB2 : Blk w3 (w.heap.size + 1) [.int .i64 0, .int .i64 0, .int .i64 0, .slice none 0 0] 56 := (by have := (Blk.new (w.alloc (.cells #[.int .i64 base, .int .i64 cyc, .int .i64 ext, .slice A es.length c] 56)) [.int .i64 0, .int .i64 0, .int .i64 0, .slice none 0 0] 56).keeps hk3 (fun h => h); simpa using this); have x0 : w3.cell? ⟨w.heap.size, 0, none⟩ = some (.int .i64 base) := hB1.cell 0; have x1 : w3.cell? ⟨w.heap.size, 1, none⟩ = some (.int .i64 cyc) := hB1.cell 1; have x2 : w3.cell? ⟨w.heap.size, 2, none⟩ = some (.int .i64 ext) := hB1.cell 2; have x3 : w3.cell? ⟨w.heap.size, 3, none⟩ = some (.slice A es.length c) := hB1.cell 3; have f3 := hB1.frozen 3; have y0 : w3.cell? ⟨w.heap.size + 1, 0, none⟩ = some (.int .i64 0) := hB2.cell 0; have y1 : w3.cell? ⟨w.heap.size + 1, 1, none⟩ = some (.int .i64 0) := hB2.cell 1; have y2 : w3.cell? ⟨w.heap.size + 1, 2, none⟩ = some (.int .i64 0) := hB2.cell 2; have y3 : w3.cell? ⟨w.heap.size + 1, 3, none⟩ = some (.slice none 0 0) := hB2.cell 3; have z0 := hB2.frozen 0; have z1 := hB2.frozen 1; have z2 := hB2.frozen 2; have z3 := hB2.frozen 3; have HB2 := Lib.hid hB2; clear hB1 hB2 C)
  have hF : Blk (((((w3.setCell ⟨w.heap.size, 3, none⟩ (.slice (some ⟨g, 0, none⟩) es.length cap)).setCell ⟨w.heap.size + 1, 0, none⟩ (.int .i64 base)).setCell ⟨w.heap.size + 1, 1, none⟩ (.int .i64 cyc)).setCell ⟨w.heap.size + 1, 2, none⟩ (.int .i64 ext)).setCell ⟨w.heap.size + 1, 3, none⟩ (.slice (some ⟨g, 0, none⟩) es.length cap)) (w.heap.size + 1) [.int .i64 base, .int .i64 cyc, .int .i64 ext, .slice (some ⟨g, 0, none⟩) es.length cap] 56 :=
    ((((HB2.out.set_ne _ _ (by simp)).set 0 _).set 1 _).set 2 _).set 3 _
  have hs : w.heap.size + 2 ≤ g := by simpa using hg
  refine bodyPost_ret (results_cell_row rfl _ _ (w.heap.size + 1) 56 #[.int .i64 base, .int .i64 cyc, .int .i64 ext, .slice (some ⟨g, 0, none⟩) es.length cap] (0, 0) _ rfl hF Try.underlying56 rfl (by kernel_rfl)) rfl ?_
  have hK : Keeps (fun k => k = w.heap.size ∨ k = w.heap.size + 1) w3 _ := (((((Keeps.refl (fun k => k = w.heap.size ∨ k = w.heap.size + 1) w3).setCell (p := ⟨w.heap.size, 3, none⟩) (fun _ => .inl rfl) (.slice (some ⟨g, 0, none⟩) es.length cap)).setCell (p := ⟨w.heap.size + 1, 0, none⟩) (fun _ => .inr rfl) (.int .i64 base)).setCell (p := ⟨w.heap.size + 1, 1, none⟩) (fun _ => .inr rfl) (.int .i64 cyc)).setCell (p := ⟨w.heap.size + 1, 2, none⟩) (fun _ => .inr rfl) (.int .i64 ext)).setCell (p := ⟨w.heap.size + 1, 3, none⟩) (fun _ => .inr rfl) (.slice (some ⟨g, 0, none⟩) es.length cap)
  refine ⟨g, cap, rfl, by omega, hE.keeps hK (fun b o hb => ?_), ((((Keeps.refl Nothing w).alloc _).alloc _).same hk3).up hK (fun k hk => by omega)⟩
  injection hb with hb
  injection hb with hb
  omega
end

end Go.Proofs.Ytimgmobmagpmlaa
