/- The document's state of a list. -/
import Derived.Test.YtpgmkekdgchkfaaRNext
namespace Go.Proofs.Ytpgmkekdgchkfaa
open Go.RowKit

def pre (es : List Ent) : Nat → Int
  | 0 => 0
  | i + 1 => pre es i + (es.getD i ⟨0, 0⟩).nanos

theorem pre_mono {es : List Ent} (h : ∀ e ∈ es, 1 ≤ e.nanos) : ∀ (d : Nat) {i : Nat}, i + d ≤ es.length → pre es i ≤ pre es (i + d)
  | 0, i, _ => Int.le_refl _
  | d + 1, i, hd => by
    have h1 := pre_mono h d (i := i) (by omega)
    have h2 : es.getD (i + d) ⟨0, 0⟩ ∈ es := by
      rw [List.getD_eq_getElem?_getD, List.getElem?_eq_getElem (by omega)]
      exact List.getElem_mem _
    have h3 := h _ h2
    show pre es i ≤ pre es (i + d) + (es.getD (i + d) ⟨0, 0⟩).nanos
    omega

theorem pre_top {es : List Ent} (h : ∀ e ∈ es, e.nanos ≤ 1000000000) : ∀ (i : Nat), i ≤ es.length → pre es i ≤ i * 1000000000
  | 0, _ => by simp [pre]
  | i + 1, hi => by
    have h1 := pre_top h i (by omega)
    have h2 : es.getD i ⟨0, 0⟩ ∈ es := by
      rw [List.getD_eq_getElem?_getD, List.getElem?_eq_getElem (by omega)]
      exact List.getElem_mem _
    have h3 := h _ h2
    show pre es i + (es.getD i ⟨0, 0⟩).nanos ≤ _
    omega

theorem atGo_pre {es : List Ent} {cyc into : Int} (hi : into < cyc) (h0 : 0 < es.length) (he : ∀ e ∈ es, 1 ≤ e.nanos) : ∀ (rest : List Ent) (i : Nat), es.drop i = rest → i < es.length → pre es i ≤ into →
    ∃ j, (atGo es.length cyc into rest i (pre es i)).1 = j ∧ j < es.length ∧ pre es j ≤ into ∧ (j + 1 < es.length → into < pre es (j + 1))
  | [], i, hd, hl, _ => by
    have := congrArg List.length hd
    rw [List.length_drop] at this
    simp at this
    omega
  | e :: rest, i, hd, hl, hp => by
    rw [List.drop_eq_getElem_cons hl] at hd
    injection hd with h1 h2
    have hpre : pre es (i + 1) = pre es i + e.nanos := by
      show pre es i + (es.getD i ⟨0, 0⟩).nanos = _
      rw [List.getD_eq_getElem?_getD, List.getElem?_eq_getElem hl, h1]
      rfl
    rw [atGo, ← hpre]
    by_cases c1 : into < pre es (i + 1) ∧ i + 1 < es.length ∧ pre es (i + 1) < cyc
    · rw [if_pos c1]
      exact ⟨i, rfl, hl, hp, fun _ => c1.1⟩
    · rw [if_neg c1]
      by_cases c2 : cyc ≤ pre es (i + 1)
      · rw [if_pos c2]
        exact ⟨i, rfl, hl, hp, fun _ => by omega⟩
      · rw [if_neg c2]
        by_cases hn : i + 1 < es.length
        · exact atGo_pre hi h0 he rest (i + 1) h2 hn (by omega)
        · have : rest = [] := by rw [← h2]; exact List.drop_eq_nil_of_le (by omega)
          subst this
          refine ⟨i, ?_, hl, hp, fun h => absurd h hn⟩
          rw [atGo]
          omega

def RsInv (w : World) (es : List Ent) (into : Int) (k : Nat) (i : Value) (wr : World) : Prop :=
  ∃ x : Int, x = (k : Int) - 1 ∧ k ≤ es.length ∧ i = .int .i64 x ∧ (∀ m, k ≤ m → m < es.length → into < pre es m) ∧ Keeps Nothing w wr

def RsIn (w : World) (es : List Ent) (n k : Nat) (a i : Value) (wr : World) : Prop :=
  ∃ (j : Nat) (x : Int), j + k = n ∧ i = .int .i64 (j : Nat) ∧ a = .int .i64 x ∧ x = pre es j ∧ Keeps Nothing w wr

set_option maxRecDepth 100000 in
set_option maxHeartbeats 4000000 in
theorem rstate_ok {w : World} {base cyc ext : Int} {A : Option Addr} {c : Nat} {es : List Ent} (hr : EntsR w A c es) (hg : Good base cyc ext es) (t : Int) (ht : t ≤ 9000000000000000000) :
    Calls Try.prog 76 #[.agg #[.int .i64 base, .int .i64 cyc, .int .i64 ext, .slice A es.length c], .int .i64 t] w (fun e w' => e = .returned (.int .i64 (gst base cyc es t)) ∧ Keeps Nothing w w') := by
  have HR := Lib.hid hr
  have HG := Lib.hid hg
  have gp := hg.pos
  have gl := hg.len
  have gb0 := hg.b0
  have gb1 := hg.b1
  have gc0 := hg.c0
  have gc1 := hg.c1
  clear hr hg
  by_cases hlt : t < base
  · have HV : Hid (gst base cyc es t = 255) := if_pos hlt
    go_enter Try.func76, Try.ntmps76
    go_wp2_with fail
    go_ret
    exact ⟨by rw [HV.out]; rfl, (Keeps.refl _ _).alloc _⟩
  · obtain ⟨m0, m1⟩ := tmod_in (a := t - base) (c := cyc) (by omega) gc0
    have he : (t - base).tmod cyc = (t - base) % cyc := Int.tmod_eq_emod_of_nonneg (by omega)
    obtain ⟨jj, hjj, hj1, hj2, hj3⟩ := atGo_pre (es := es) m1 gp (fun e h => (HG.out.ents e h).2.2.1) es 0 rfl gp m0
    have HV : Hid (gst base cyc es t = (es.getD jj ⟨0, 0⟩).opn) := by
      show gst base cyc es t = _
      unfold gst
      rw [if_neg hlt]
      have : pre es 0 = 0 := rfl
      rw [this] at hjj
      rw [hjj]
    clear hjj
    have hq0 : cyc ≠ 0 := by omega
    have hw1 : IntKind.i64.wrap (t - base) = t - base := by rw [IntKind.wrap_i64]; omega
    obtain ⟨into, hin⟩ : ∃ x, x = (t - base).tmod cyc := ⟨_, rfl⟩
    rw [← hin] at m0 m1 hj2 hj3
    rw [← hin] at he
    have hw2 : IntKind.i64.wrap ((t - base).tmod cyc) = into := by rw [IntKind.wrap_i64]; omega
    have hw3 : (t - base) % cyc = into := he.symm
    have hw4 : IntKind.i64.wrap into = into := by rw [IntKind.wrap_i64]; omega
    clear he hin
    have hW : Hid (Blk (w.alloc (.cells #[.int .i64 base, .int .i64 cyc, .int .i64 ext, .slice A es.length c] 72)) w.heap.size [.int .i64 base, .int .i64 cyc, .int .i64 ext, .slice A es.length c] 72 ∧ Keeps Nothing w (w.alloc (.cells #[.int .i64 base, .int .i64 cyc, .int .i64 ext, .slice A es.length c] 72))) := ⟨Blk.new w [.int .i64 base, .int .i64 cyc, .int .i64 ext, .slice A es.length c] 72, (Keeps.refl _ _).alloc _⟩
    go_enter Try.func76, Try.ntmps76
    go_upto_region 3 with fail
    generalize (w.alloc (.cells #[.int .i64 base, .int .i64 cyc, .int .i64 ext, .slice A es.length c] 72)) = w1 at *
    obtain ⟨b, o, hA, hcell⟩ : ∃ b o, A = some ⟨b, o, none⟩ ∧ ∀ (j : Nat) (e : Ent), es[j]? = some e → w.cell? ⟨b, o + j * 2, none⟩ = some (.int .i64 e.opn) ∧ w.cell? ⟨b, o + j * 2 + 1, none⟩ = some (.int .i64 e.nanos) := by
      rcases HR.out with h | ⟨b, o, h1, h2, h3⟩
      · rw [h] at gp; simp at gp
      · exact ⟨b, o, h1, h3⟩
    subst hA
    have HC := Lib.hid (fun (v : World) (hv : Keeps Nothing w1 v) (j : Nat) (e : Ent) (he : es[j]? = some e) => show v.cell? ⟨b, o + j * 2, none⟩ = some (.int .i64 e.opn) ∧ v.cell? ⟨b, o + j * 2 + 1, none⟩ = some (.int .i64 e.nanos) from
      ⟨((hW.out.2.same hv).cell (World.block_lt_of_cell? _ _ (hcell j e he).1) (fun h => h)).trans (hcell j e he).1, ((hW.out.2.same hv).cell (World.block_lt_of_cell? _ _ (hcell j e he).2) (fun h => h)).trans (hcell j e he).2⟩)
    clear hcell
    obtain ⟨lst, hlst⟩ : ∃ l, l + 1 = es.length := ⟨es.length - 1, by omega⟩
    obtain ⟨el, hel⟩ : ∃ e, es[lst]? = some e := ⟨_, List.getElem?_eq_getElem (by omega)⟩
    have z1 := (HC.out w1 (Keeps.refl _ _) lst el hel).1
    have d0 : w1.cell? ⟨w.heap.size, 0, none⟩ = some (.int .i64 base) := hW.out.1.cell 0
    have d1 : w1.cell? ⟨w.heap.size, 1, none⟩ = some (.int .i64 cyc) := hW.out.1.cell 1
    have d3 : w1.cell? ⟨w.heap.size, 3, none⟩ = some (.slice (some ⟨b, o, none⟩) es.length c) := hW.out.1.cell 3
    have hl1 : (es.length : Int) - 1 = (lst : Int) := by omega
    have hl2 : (lst : Int) < (es.length : Int) := by omega
    have hl3 : IntKind.i64.wrap (lst : Int) = (lst : Int) := IntWalk.i64_in _ (by omega)
    clear hel
    go_wp2_with fail
    go_loopg [7] es.length (fun k i wr => RsInv w1 es into k i wr)
    case atStart => exact ⟨_, by omega, Nat.le_refl _, rfl, fun m a b => by omega, Keeps.refl _ _⟩
    case round =>
      obtain ⟨x, hx, hk0, rfl, hno, hk⟩ := hrel
      have HK := Lib.hid hk
      have hjk : jj < gk := Classical.byContradiction fun g => by have := hno jj (by omega) hj1; omega
      obtain ⟨ii, hii⟩ : ∃ ii, gk = ii + 1 := ⟨gk - 1, by omega⟩
      obtain rfl : x = (ii : Int) := by omega
      have hB2 := hW.out.1.keeps hk (fun h => h)
      have e3 : wr.cell? ⟨w.heap.size, 3, none⟩ = some (.slice (some ⟨b, o, none⟩) es.length c) := hB2.cell 3
      have HNo := Lib.hid hno
      clear hk hB2 hno d0 d1 d3 z1 hl1 hl2 hl3 hx
      obtain ⟨wo, rfl⟩ : ∃ wo, wo = wr := ⟨_, rfl⟩
      obtain ⟨gO, rfl⟩ : ∃ g, g = gk := ⟨_, rfl⟩
      go_wp2_with fail
      go_loopg [8, 9] ii (fun k a i wr => RsIn wo es ii k a i wr)
      case atStart => exact ⟨0, 0, by omega, rfl, rfl, rfl, Keeps.refl _ _⟩
      case round =>
        obtain ⟨j, x, hj, rfl, rfl, hx, hk⟩ := hrel
        have HKi := Lib.hid hk
        have f3 : wr.cell? ⟨w.heap.size, 3, none⟩ = some (.slice (some ⟨b, o, none⟩) es.length c) := (hk.cell (World.block_lt_of_cell? _ _ e3) (fun h => h)).trans e3
        by_cases hlt2 : j < ii
        · obtain ⟨e, hej⟩ : ∃ e, es[j]? = some e := ⟨_, List.getElem?_eq_getElem (by omega)⟩
          have y1 := (HC.out wr (HK.out.same hk) j e hej).2
          have hen := (HG.out.ents e (List.mem_of_getElem? hej)).2.2
          have hpt := pre_top (es := es) (fun e h => (HG.out.ents e h).2.2.2) j (by omega)
          have hp0 := pre_mono (es := es) (fun e h => (HG.out.ents e h).2.2.1) j (i := 0) (by omega)
          rw [Nat.zero_add] at hp0
          have hp00 : pre es 0 = 0 := rfl
          have hnx : pre es (j + 1) = x + e.nanos := by
            show pre es j + (es.getD j ⟨0, 0⟩).nanos = _
            rw [List.getD_eq_getElem?_getD, hej, hx]
            rfl
          have hxb : 0 ≤ x ∧ x ≤ 64000000000 := by omega
          obtain ⟨hxb1, hxb2⟩ := hxb
          obtain ⟨hen1, hen2⟩ := hen
          have HNX := Lib.hid hnx
          have hji : (j : Int) < (ii : Int) := by omega
          have hjl : (j : Int) < (es.length : Int) := by omega
          clear hk hej hx hpt hp0 hp00 hnx
          go_wp2_with fail
          go_roundg (gk - 1)
          case measure => omega
          case rel => exact ⟨j + 1, _, by omega, by go_num, rfl, HNX.out.symm, HKi.out⟩
        · obtain rfl : j = ii := by omega
          obtain ⟨e, hej⟩ : ∃ e, es[j]? = some e := ⟨_, List.getElem?_eq_getElem (by omega)⟩
          have y1 := (HC.out wr (HK.out.same hk) j e hej).1
          have hjl : (j : Int) < (es.length : Int) := by omega
          by_cases hge : x ≤ into
          · have hjj : jj = j := by
              by_cases e1 : jj < j
              · have h1 := pre_mono (es := es) (fun e h => (HG.out.ents e h).2.2.1) (j - (jj + 1)) (i := jj + 1) (by omega)
                rw [show jj + 1 + (j - (jj + 1)) = j by omega] at h1
                have := hj3 (by omega)
                omega
              · omega
            subst hjj
            have hop : (es.getD jj ⟨0, 0⟩).opn = e.opn := by rw [List.getD_eq_getElem?_getD, hej]; rfl
            have HO := Lib.hid (HV.out.trans hop)
            clear hk hej hx hop hj2 hj3 HV
            go_wp2_with fail
            go_ret
            exact ⟨by rw [HO.out]; rfl, (hW.out.2.same HK.out).same HKi.out⟩
          · have hge' : decide (x ≤ into) = false := by simpa using hge
            have HXp := Lib.hid hx
            have hwi : IntKind.i64.wrap ((j : Int) - 1) = (j : Int) - 1 := by rw [IntKind.wrap_i64]; omega
            clear hk hej hx
            go_wp2_with fail
            go_roundg (gO - 1)
            case measure => omega
            case rel =>
              refine ⟨_, by omega, by omega, rfl, fun m a b => ?_, HK.out.same HKi.out⟩
              by_cases e1 : m = j
              · rw [e1, ← HXp.out]; omega
              · exact HNo.out m (by omega) b

end Go.Proofs.Ytpgmkekdgchkfaa
