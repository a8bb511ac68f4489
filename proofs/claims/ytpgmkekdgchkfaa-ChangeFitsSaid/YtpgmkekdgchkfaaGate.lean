/- The gate's functions: what they compute of a list. -/
import Derived.Test.YtpgmkekdgchkfaaBase
import Derived.Deep.DeepCutAuto
import Derived.Deep.CutBlock
namespace Go.Proofs.Ytpgmkekdgchkfaa
open Go.RowKit

structure Ent where
  opn : Int
  nanos : Int

/-- Entries that can be read. -/
def EntsR (w : World) (A : Option Addr) (c : Nat) (es : List Ent) : Prop :=
  es = [] ∨ ∃ b o, A = some ⟨b, o, none⟩ ∧ es.length ≤ c ∧ ∀ (j : Nat) (e : Ent), es[j]? = some e → w.cell? ⟨b, o + j * 2, none⟩ = some (.int .i64 e.opn) ∧ w.cell? ⟨b, o + j * 2 + 1, none⟩ = some (.int .i64 e.nanos)

theorem EntsR.keeps {w w' : World} {F : Nat → Prop} {A : Option Addr} {c : Nat} {es : List Ent} (h : EntsR w A c es) (hk : Keeps F w w') (hF : ∀ b o, A = some ⟨b, o, none⟩ → ¬ F b) : EntsR w' A c es := by
  rcases h with h | ⟨b, o, h1, h2, h3⟩
  · exact .inl h
  · exact .inr ⟨b, o, h1, h2, fun j e hj => by
      obtain ⟨c1, c2⟩ := h3 j e hj
      exact ⟨(hk.cell (World.block_lt_of_cell? _ _ c1) (hF b o h1)).trans c1, (hk.cell (World.block_lt_of_cell? _ _ c2) (hF b o h1)).trans c2⟩⟩

theorem EntsR.same {w w' : World} {A : Option Addr} {c : Nat} {es : List Ent} (h : EntsR w A c es) (hk : Keeps Nothing w w') : EntsR w' A c es := h.keeps hk (fun _ _ _ h => h)

structure Good (base cyc ext : Int) (es : List Ent) : Prop where
  pos : 0 < es.length
  len : es.length ≤ 64
  b0 : 0 ≤ base
  b1 : base < 4611686018427387904
  c0 : 1 ≤ cyc
  c1 : cyc ≤ 1000000000
  x0 : 0 ≤ ext
  x1 : ext ≤ 1000000000
  ents : ∀ e ∈ es, 0 ≤ e.opn ∧ e.opn ≤ 255 ∧ 1 ≤ e.nanos ∧ e.nanos ≤ 1000000000

def atGo (n : Nat) (cyc into : Int) : List Ent → Nat → Int → Nat × Int
  | [], _, _ => (n - 1, cyc - into)
  | e :: rest, i, en =>
    if into < en + e.nanos ∧ i + 1 < n ∧ en + e.nanos < cyc then (i, en + e.nanos - into)
    else if cyc ≤ en + e.nanos then (i, cyc - into)
    else atGo n cyc into rest (i + 1) (en + e.nanos)

def AtInv (w : World) (es : List Ent) (cyc into : Int) (k : Nat) (en i : Value) (wr : World) : Prop :=
  ∃ (j : Nat) (E : Int), j + k = es.length ∧ i = .int .i64 (j : Nat) ∧ en = .int .i64 E ∧ 0 ≤ E ∧ E ≤ j * 1000000000 ∧ atGo es.length cyc into es 0 0 = atGo es.length cyc into (es.drop j) j E ∧ Keeps Nothing w wr

set_option maxRecDepth 100000 in
set_option maxHeartbeats 4000000 in
theorem at_ok {w : World} {base cyc ext into : Int} {A : Option Addr} {c : Nat} {es : List Ent} (hr : EntsR w A c es) (hc : 1 ≤ cyc ∧ cyc ≤ 1000000000) (hn : 0 < es.length ∧ es.length ≤ 64)
    (he : ∀ e ∈ es, 1 ≤ e.nanos ∧ e.nanos ≤ 1000000000) (hi : 0 ≤ into ∧ into < cyc) (i : Nat) (left : Int) (hat : atGo es.length cyc into es 0 0 = (i, left)) :
    Calls Try.prog 74 #[.agg #[.int .i64 base, .int .i64 cyc, .int .i64 ext, .slice A es.length c], .int .i64 into] w (fun e w' => e = .returned (.tuple #[.int .i64 (i : Nat), .int .i64 left]) ∧ Keeps Nothing w w') := by
  obtain ⟨hc0, hc1⟩ := hc
  obtain ⟨hn0, hn1⟩ := hn
  obtain ⟨hi0, hi1⟩ := hi
  have HR := Lib.hid hr
  have HE := Lib.hid he
  have HT := Lib.hid hat
  clear hr he hat
  go_enter Try.func74, Try.ntmps74
  go_wp2_with fail
  have HB := Lib.hid (Blk.new w [.int .i64 base, .int .i64 cyc, .int .i64 ext, .slice A es.length c] 72)
  have HK := Lib.hid ((Keeps.refl Nothing w).alloc (.cells #[.int .i64 base, .int .i64 cyc, .int .i64 ext, .slice A es.length c] 72))
  have hB0 : Blk (w.alloc (.cells #[.int .i64 base, .int .i64 cyc, .int .i64 ext, .slice A es.length c] 72)) w.heap.size [.int .i64 base, .int .i64 cyc, .int .i64 ext, .slice A es.length c] 72 := HB.out
  have HB0 := Lib.hid hB0
  clear hB0 HB
  generalize (w.alloc (.cells #[.int .i64 base, .int .i64 cyc, .int .i64 ext, .slice A es.length c] 72)) = w1 at *
  go_loopg [6, 12] es.length (fun k en i wr => AtInv w1 es cyc into k en i wr)
  case atStart => exact ⟨0, 0, by omega, rfl, rfl, by omega, by omega, rfl, Keeps.refl _ _⟩
  case round =>
    obtain ⟨j, E, hj, rfl, rfl, hE0, hE1, hgo, hk⟩ := hrel
    have HG := Lib.hid (HT.out.symm.trans hgo)
    have HKr := Lib.hid hk
    have d1 : wr.cell? ⟨w.heap.size, 1, none⟩ = some (.int .i64 cyc) := (HB0.out.keeps hk (fun h => h)).cell 1
    have d3 : wr.cell? ⟨w.heap.size, 3, none⟩ = some (.slice A es.length c) := (HB0.out.keeps hk (fun h => h)).cell 3
    have hwl : w.heap.size < wr.heap.size := (HB0.out.keeps hk (fun h => h)).lt
    clear hk hgo
    by_cases hlt : j < es.length
    · obtain ⟨e, hej⟩ : ∃ e, es[j]? = some e := ⟨_, List.getElem?_eq_getElem hlt⟩
      obtain ⟨hlt', hej'⟩ := List.getElem?_eq_some_iff.1 hej
      obtain ⟨e1, e2⟩ := HE.out e (List.mem_of_getElem? hej)
      obtain ⟨b, o, hA, hcells⟩ : ∃ b o, A = some ⟨b, o, none⟩ ∧ (w1.cell? ⟨b, o + j * 2, none⟩ = some (.int .i64 e.opn) ∧ w1.cell? ⟨b, o + j * 2 + 1, none⟩ = some (.int .i64 e.nanos)) := by
        rcases HR.out.same HK.out with h | ⟨b, o, h1, h2, h3⟩
        · rw [h] at hlt; simp at hlt
        · exact ⟨b, o, h1, h3 j e hej⟩
      subst hA
      obtain ⟨c1, c2⟩ := hcells
      have f1 := (HKr.out.cell (World.block_lt_of_cell? _ _ c1) (fun h => h)).trans c1
      have f2 := (HKr.out.cell (World.block_lt_of_cell? _ _ c2) (fun h => h)).trans c2
      have hdrop : es.drop j = e :: es.drop (j + 1) := by rw [List.drop_eq_getElem_cons hlt, hej']
      have hgo := HG.out
      rw [hdrop, atGo] at hgo
      have HGO := Lib.hid hgo
      clear c1 c2 hej hdrop hgo hej'
      obtain ⟨opn, nanos⟩ := e
      simp only at e1 e2 f1 f2
      have hE2 : E + nanos ≤ 65000000000 := by omega
      have hK2 := Lib.hid (((HK.out.same HKr.out).alloc (.cells #[.int .i64 opn, .int .i64 nanos] 104)))
      have hK4 := Lib.hid (HKr.out.alloc (.cells #[.int .i64 opn, .int .i64 nanos] 104))
      go_upto_region 6 with fail
      go_cut [31, 37] from 21 to 36 (fun _ v wx => v = .bool (decide (into < E + nanos ∧ j + 1 < es.length ∧ E + nanos < cyc)) ∧ wx = wr.alloc (.cells #[.int .i64 opn, .int .i64 nanos] 104))
      case first =>
        by_cases g1 : into < E + nanos
        · by_cases g2 : (j : Int) < (es.length : Int) - 1
          · by_cases g3 : E + nanos < cyc
            · go_wp2_with fail
              go_meet
              case rel => exact ⟨congrArg Value.bool (decide_eq_true (by omega)).symm, rfl⟩
            · have g4 : decide (E + nanos < cyc) = false := by simpa using g3
              go_wp2_with fail
              go_meet
              case rel => exact ⟨congrArg Value.bool (decide_eq_false (by omega)).symm, rfl⟩
          · have g4 : decide ((j : Int) < (es.length : Int) - 1) = false := by simpa using g2
            go_wp2_with fail
            go_meet
            case rel => exact ⟨congrArg Value.bool (decide_eq_false (by omega)).symm, rfl⟩
        · have g4 : decide (into < E + nanos) = false := by simpa using g1
          go_wp2_with fail
          go_meet
          case rel => exact ⟨congrArg Value.bool (decide_eq_false (by omega)).symm, rfl⟩
      case rest =>
        obtain ⟨rfl, rfl⟩ := hcut
        have k1 : (wr.alloc (.cells #[.int .i64 opn, .int .i64 nanos] 104)).cell? ⟨w.heap.size, 1, none⟩ = some (.int .i64 cyc) := ((HB0.out.keeps HKr.out (fun h => h)).alloc _).cell 1
        generalize (wr.alloc (.cells #[.int .i64 opn, .int .i64 nanos] 104)) = wa at *
        by_cases h1 : into < E + nanos ∧ j + 1 < es.length ∧ E + nanos < cyc
        · have h2 : (i, left) = (j, E + nanos - into) := by
            have := HGO.out
            rw [if_pos h1] at this
            exact this
          injection h2 with h2 h3
          have hdt : decide (into < E + nanos ∧ j + 1 < es.length ∧ E + nanos < cyc) = true := decide_eq_true h1
          rw [hdt]
          subst h2 h3
          clear HGO HG HT
          go_wp2_with fail
          go_ret2
          exact ⟨rfl, hK2.out⟩
        · have hdt : decide (into < E + nanos ∧ j + 1 < es.length ∧ E + nanos < cyc) = false := decide_eq_false h1
          rw [hdt]
          have hgo := HGO.out
          rw [if_neg h1] at hgo
          by_cases h5 : cyc ≤ E + nanos
          · rw [if_pos h5] at hgo
            injection hgo with h2 h3
            subst h2 h3
            clear HGO HG HT h1 hdt
            go_upto_region 9 with fail
            go_quiet (fail)
            go_wp2_with fail
            go_ret2
            exact ⟨rfl, hK2.out.drewN _⟩
          · rw [if_neg h5] at hgo
            have HGO2 := Lib.hid hgo
            have HK3 := Lib.hid (HKr.out)
            clear HGO HG hdt hgo h1
            go_wp2_with fail
            go_roundg (gk - 1)
            case measure => omega
            case rel => exact ⟨j + 1, E + nanos, by omega, by go_num, rfl, by omega, by omega, HT.out.trans HGO2.out, hK4.out⟩
    · obtain rfl : j = es.length := by omega
      have hgo := HG.out
      rw [List.drop_length, atGo] at hgo
      injection hgo with h2 h3
      subst h2 h3
      have HK5 := Lib.hid (HK.out.same HKr.out)
      clear HG HT
      go_upto_region 11 with fail
      go_quiet (fail)
      go_wp2_with fail
      go_ret2
      exact ⟨by rw [show ((es.length - 1 : Nat) : Int) = (es.length : Int) - 1 by omega]; rfl, HK5.out.drewN _⟩

end Go.Proofs.Ytpgmkekdgchkfaa
