/- The document's state of a list. The document's state of a pair; whether a whole cycle went by. The document's pair: whether a whole cycle went by. The document's search: is a class open for so long. -/
import Derived.Test.YtimgmobmagpmlaaPair
import Derived.Test.YtimgmobmagpmlaaLeap
namespace Go.Proofs.Ytimgmobmagpmlaa

section
open Go.RowKit

def pre (es : List Ent) : Nat → Int
  | 0 => 0
  | i + 1 => pre es i + (es.getD i ⟨0, 0⟩).nanos

theorem pre_mono {es : List Ent} (h : ∀ e ∈ es, 1 ≤ e.nanos) : ∀ (d : Nat) {i : Nat}, i + d ≤ es.length → pre es i ≤ pre es (i + d)
  | 0, i, _ => Int.le_refl _
  | d + 1, i, hd => by
    have h1 := pre_mono h d (i := i) (by omega)
    have h2 : es.getD (i + d) ⟨0, 0⟩ ∈ es := by
      rw [List.getD_eq_getElem?_getD, List.getElem?_eq_getElem (by omega)]
      exact List.getElem_mem _
    have h3 := h _ h2
    show pre es i ≤ pre es (i + d) + (es.getD (i + d) ⟨0, 0⟩).nanos
    omega

theorem pre_top {es : List Ent} (h : ∀ e ∈ es, e.nanos ≤ 1000000000) : ∀ (i : Nat), i ≤ es.length → pre es i ≤ i * 1000000000
  | 0, _ => by simp [pre]
  | i + 1, hi => by
    have h1 := pre_top h i (by omega)
    have h2 : es.getD i ⟨0, 0⟩ ∈ es := by
      rw [List.getD_eq_getElem?_getD, List.getElem?_eq_getElem (by omega)]
      exact List.getElem_mem _
    have h3 := h _ h2
    show pre es i + (es.getD i ⟨0, 0⟩).nanos ≤ _
    omega

theorem atGo_pre {es : List Ent} {cyc into : Int} (hi : into < cyc) (h0 : 0 < es.length) (he : ∀ e ∈ es, 1 ≤ e.nanos) : ∀ (rest : List Ent) (i : Nat), es.drop i = rest → i < es.length → pre es i ≤ into →
    ∃ j, (atGo es.length cyc into rest i (pre es i)).1 = j ∧ j < es.length ∧ pre es j ≤ into ∧ (j + 1 < es.length → into < pre es (j + 1))
  | [], i, hd, hl, _ => by
    have := congrArg List.length hd
    rw [List.length_drop] at this
    simp at this
    omega
  | e :: rest, i, hd, hl, hp => by
    rw [List.drop_eq_getElem_cons hl] at hd
    injection hd with h1 h2
    have hpre : pre es (i + 1) = pre es i + e.nanos := by
      show pre es i + (es.getD i ⟨0, 0⟩).nanos = _
      rw [List.getD_eq_getElem?_getD, List.getElem?_eq_getElem hl, h1]
      rfl
    rw [atGo, ← hpre]
    by_cases c1 : into < pre es (i + 1) ∧ i + 1 < es.length ∧ pre es (i + 1) < cyc
    · rw [if_pos c1]
      exact ⟨i, rfl, hl, hp, fun _ => c1.1⟩
    · rw [if_neg c1]
      by_cases c2 : cyc ≤ pre es (i + 1)
      · rw [if_pos c2]
        exact ⟨i, rfl, hl, hp, fun _ => by omega⟩
      · rw [if_neg c2]
        by_cases hn : i + 1 < es.length
        · exact atGo_pre hi h0 he rest (i + 1) h2 hn (by omega)
        · have : rest = [] := by rw [← h2]; exact List.drop_eq_nil_of_le (by omega)
          subst this
          refine ⟨i, ?_, hl, hp, fun h => absurd h hn⟩
          rw [atGo]
          omega

def RsInv (w : World) (es : List Ent) (into : Int) (k : Nat) (i : Value) (wr : World) : Prop :=
  ∃ x : Int, x = (k : Int) - 1 ∧ k ≤ es.length ∧ i = .int .i64 x ∧ (∀ m, k ≤ m → m < es.length → into < pre es m) ∧ Keeps Nothing w wr

def RsIn (w : World) (es : List Ent) (n k : Nat) (a i : Value) (wr : World) : Prop :=
  ∃ (j : Nat) (x : Int), j + k = n ∧ i = .int .i64 (j : Nat) ∧ a = .int .i64 x ∧ x = pre es j ∧ Keeps Nothing w wr

set_option maxRecDepth 100000 in
set_option maxHeartbeats 4000000 in
theorem rstate_ok {w : World} {base cyc ext : Int} {A : Option Addr} {c : Nat} {es : List Ent} (hr : EntsR w A c es) (hg : Good base cyc ext es) (t : Int) (ht : t ≤ 9000000000000000000) :
    Calls Try.prog 77 #[.agg #[.int .i64 base, .int .i64 cyc, .int .i64 ext, .slice A es.length c], .int .i64 t] w (fun e w' => e = .returned (.int .i64 (gst base cyc es t)) ∧ Keeps Nothing w w') := by
  have HR := Lib.hid hr
  have HG := Lib.hid hg
  have gp := hg.pos
  have gl := hg.len
  have gb0 := hg.b0
  have gb1 := hg.b1
  have gc0 := hg.c0
  have gc1 := hg.c1
  clear hr hg
  by_cases hlt : t < base
  · have HV : Hid (gst base cyc es t = 255) := if_pos hlt
    go_enter Try.func77, Try.ntmps77
    go_wp2_with fail
    go_ret
    exact ⟨by rw [HV.out]; rfl, (Keeps.refl _ _).alloc _⟩
  · obtain ⟨m0, m1⟩ := tmod_in (a := t - base) (c := cyc) (by omega) gc0
    have he : (t - base).tmod cyc = (t - base) % cyc := Int.tmod_eq_emod_of_nonneg (by omega)
    obtain ⟨jj, hjj, hj1, hj2, hj3⟩ := atGo_pre (es := es) m1 gp (fun e h => (HG.out.ents e h).2.2.1) es 0 rfl gp m0
    have HV : Hid (gst base cyc es t = (es.getD jj ⟨0, 0⟩).opn) := by
      show gst base cyc es t = _
      unfold gst
      rw [if_neg hlt]
      have : pre es 0 = 0 := rfl
      rw [this] at hjj
      rw [hjj]
    clear hjj
    have hq0 : cyc ≠ 0 := by omega
    have hw1 : IntKind.i64.wrap (t - base) = t - base := by rw [IntKind.wrap_i64]; omega
    obtain ⟨into, hin⟩ : ∃ x, x = (t - base).tmod cyc := ⟨_, rfl⟩
    rw [← hin] at m0 m1 hj2 hj3
    rw [← hin] at he
    have hw2 : IntKind.i64.wrap ((t - base).tmod cyc) = into := by rw [IntKind.wrap_i64]; omega
    have hw3 : (t - base) % cyc = into := he.symm
    have hw4 : IntKind.i64.wrap into = into := by rw [IntKind.wrap_i64]; omega
    clear he hin
    have hW : Hid (Blk (w.alloc (.cells #[.int .i64 base, .int .i64 cyc, .int .i64 ext, .slice A es.length c] 56)) w.heap.size [.int .i64 base, .int .i64 cyc, .int .i64 ext, .slice A es.length c] 56 ∧ Keeps Nothing w (w.alloc (.cells #[.int .i64 base, .int .i64 cyc, .int .i64 ext, .slice A es.length c] 56))) := ⟨Blk.new w [.int .i64 base, .int .i64 cyc, .int .i64 ext, .slice A es.length c] 56, (Keeps.refl _ _).alloc _⟩
    go_enter Try.func77, Try.ntmps77
    go_upto_region 3 with fail
    generalize (w.alloc (.cells #[.int .i64 base, .int .i64 cyc, .int .i64 ext, .slice A es.length c] 56)) = w1 at *
    obtain ⟨b, o, hA, hcell⟩ : ∃ b o, A = some ⟨b, o, none⟩ ∧ ∀ (j : Nat) (e : Ent), es[j]? = some e → w.cell? ⟨b, o + j * 2, none⟩ = some (.int .i64 e.opn) ∧ w.cell? ⟨b, o + j * 2 + 1, none⟩ = some (.int .i64 e.nanos) := by
      rcases HR.out with h | ⟨b, o, h1, h2, h3⟩
      · rw [h] at gp; simp at gp
      · exact ⟨b, o, h1, h3⟩
    subst hA
    have HC := Lib.hid (fun (v : World) (hv : Keeps Nothing w1 v) (j : Nat) (e : Ent) (he : es[j]? = some e) => show v.cell? ⟨b, o + j * 2, none⟩ = some (.int .i64 e.opn) ∧ v.cell? ⟨b, o + j * 2 + 1, none⟩ = some (.int .i64 e.nanos) from
      ⟨((hW.out.2.same hv).cell (World.block_lt_of_cell? _ _ (hcell j e he).1) (fun h => h)).trans (hcell j e he).1, ((hW.out.2.same hv).cell (World.block_lt_of_cell? _ _ (hcell j e he).2) (fun h => h)).trans (hcell j e he).2⟩)
    clear hcell
    obtain ⟨lst, hlst⟩ : ∃ l, l + 1 = es.length := ⟨es.length - 1, by omega⟩
    obtain ⟨el, hel⟩ : ∃ e, es[lst]? = some e := ⟨_, List.getElem?_eq_getElem (by omega)⟩
    have z1 := (HC.out w1 (Keeps.refl _ _) lst el hel).1
    have d0 : w1.cell? ⟨w.heap.size, 0, none⟩ = some (.int .i64 base) := hW.out.1.cell 0
    have d1 : w1.cell? ⟨w.heap.size, 1, none⟩ = some (.int .i64 cyc) := hW.out.1.cell 1
    have d3 : w1.cell? ⟨w.heap.size, 3, none⟩ = some (.slice (some ⟨b, o, none⟩) es.length c) := hW.out.1.cell 3
    have hl1 : (es.length : Int) - 1 = (lst : Int) := by omega
    have hl2 : (lst : Int) < (es.length : Int) := by omega
    have hl3 : IntKind.i64.wrap (lst : Int) = (lst : Int) := IntWalk.i64_in _ (by omega)
    clear hel
    go_wp2_with fail
    go_loopg [7] es.length (fun k i wr => RsInv w1 es into k i wr)
    case atStart => exact ⟨_, by omega, Nat.le_refl _, rfl, fun m a b => by omega, Keeps.refl _ _⟩
    case round =>
      obtain ⟨x, hx, hk0, rfl, hno, hk⟩ := hrel
      have HK := Lib.hid hk
      have hjk : jj < gk := Classical.byContradiction fun g => by have := hno jj (by omega) hj1; omega
      obtain ⟨ii, hii⟩ : ∃ ii, gk = ii + 1 := ⟨gk - 1, by omega⟩
      obtain rfl : x = (ii : Int) := by omega
      have hB2 := hW.out.1.keeps hk (fun h => h)
      have e3 : wr.cell? ⟨w.heap.size, 3, none⟩ = some (.slice (some ⟨b, o, none⟩) es.length c) := hB2.cell 3
      have HNo := Lib.hid hno
      clear hk hB2 hno d0 d1 d3 z1 hl1 hl2 hl3 hx
      obtain ⟨wo, rfl⟩ : ∃ wo, wo = wr := ⟨_, rfl⟩
      obtain ⟨gO, rfl⟩ : ∃ g, g = gk := ⟨_, rfl⟩
      go_wp2_with fail
      go_loopg [8, 9] ii (fun k a i wr => RsIn wo es ii k a i wr)
      case atStart => exact ⟨0, 0, by omega, rfl, rfl, rfl, Keeps.refl _ _⟩
      case round =>
        obtain ⟨j, x, hj, rfl, rfl, hx, hk⟩ := hrel
        have HKi := Lib.hid hk
        have f3 : wr.cell? ⟨w.heap.size, 3, none⟩ = some (.slice (some ⟨b, o, none⟩) es.length c) := (hk.cell (World.block_lt_of_cell? _ _ e3) (fun h => h)).trans e3
        by_cases hlt2 : j < ii
        · obtain ⟨e, hej⟩ : ∃ e, es[j]? = some e := ⟨_, List.getElem?_eq_getElem (by omega)⟩
          have y1 := (HC.out wr (HK.out.same hk) j e hej).2
          have hen := (HG.out.ents e (List.mem_of_getElem? hej)).2.2
          have hpt := pre_top (es := es) (fun e h => (HG.out.ents e h).2.2.2) j (by omega)
          have hp0 := pre_mono (es := es) (fun e h => (HG.out.ents e h).2.2.1) j (i := 0) (by omega)
          rw [Nat.zero_add] at hp0
          have hp00 : pre es 0 = 0 := rfl
          have hnx : pre es (j + 1) = x + e.nanos := by
            show pre es j + (es.getD j ⟨0, 0⟩).nanos = _
            rw [List.getD_eq_getElem?_getD, hej, hx]
            rfl
          have hxb : 0 ≤ x ∧ x ≤ 64000000000 := by omega
          obtain ⟨hxb1, hxb2⟩ := hxb
          obtain ⟨hen1, hen2⟩ := hen
          have HNX := Lib.hid hnx
          have hji : (j : Int) < (ii : Int) := by omega
          have hjl : (j : Int) < (es.length : Int) := by omega
          clear hk hej hx hpt hp0 hp00 hnx
          go_wp2_with fail
          go_roundg (gk - 1)
          case measure => omega
          case rel => exact ⟨j + 1, _, by omega, by go_num, rfl, HNX.out.symm, HKi.out⟩
        · obtain rfl : j = ii := by omega
          obtain ⟨e, hej⟩ : ∃ e, es[j]? = some e := ⟨_, List.getElem?_eq_getElem (by omega)⟩
          have y1 := (HC.out wr (HK.out.same hk) j e hej).1
          have hjl : (j : Int) < (es.length : Int) := by omega
          by_cases hge : x ≤ into
          · have hjj : jj = j := by
              by_cases e1 : jj < j
              · have h1 := pre_mono (es := es) (fun e h => (HG.out.ents e h).2.2.1) (j - (jj + 1)) (i := jj + 1) (by omega)
                rw [show jj + 1 + (j - (jj + 1)) = j by omega] at h1
                have := hj3 (by omega)
                omega
              · omega
            subst hjj
            have hop : (es.getD jj ⟨0, 0⟩).opn = e.opn := by rw [List.getD_eq_getElem?_getD, hej]; rfl
            have HO := Lib.hid (HV.out.trans hop)
            clear hk hej hx hop hj2 hj3 HV
            go_wp2_with fail
            go_ret
            exact ⟨by rw [HO.out]; rfl, (hW.out.2.same HK.out).same HKi.out⟩
          · have hge' : decide (x ≤ into) = false := by simpa using hge
            have HXp := Lib.hid hx
            have hwi : IntKind.i64.wrap ((j : Int) - 1) = (j : Int) - 1 := by rw [IntKind.wrap_i64]; omega
            clear hk hej hx
            go_wp2_with fail
            go_roundg (gO - 1)
            case measure => omega
            case rel =>
              refine ⟨_, by omega, by omega, rfl, fun m a b => ?_, HK.out.same HKi.out⟩
              by_cases e1 : m = j
              · rw [e1, ← HXp.out]; omega
              · exact HNo.out m (by omega) b
end

section
open Go.RowKit

def Par.state (P : Par) (t : Int) : Int :=
  if P.waits = true ∧ P.due ≤ t then gst P.due P.admin.cyc P.admin.es t
  else if P.has = true then (if 0 ≤ P.longer ∧ P.longer ≤ t then gst P.oper.base P.oper.cyc P.oper.es (P.longer - 1) else gst P.oper.base P.oper.cyc P.oper.es t) else 255

theorem state_eq {S : Sch} {P : Par} (h : Alike S P) (hg : SchGood S) (t : Int) : P.state t = S.state t := by
  unfold Par.state
  by_cases hw : P.waits = true ∧ P.due ≤ t
  · have ha := h.admin hw.1
    have hs : S.waits = true := by rw [h.waits]; exact hw.1
    rw [if_pos hw, Sch.state_due hs (by rw [h.due hw.1]; exact hw.2), h.due hw.1, ha.cyc, ha.es]
  · rw [if_neg hw]
    have hd : S.waits = true → ¬ S.due ≤ t := fun x y => hw ⟨by rw [← h.waits]; exact x, by rw [← h.due (by rw [← h.waits]; exact x)]; exact y⟩
    have hl := longer_eq h hg
    by_cases hh : P.has = true
    · have ho := h.oper hh
      have hs : S.has = true := by rw [h.has]; exact hh
      rw [if_pos hh, hl, ← ho.base, ← ho.cyc, ← ho.es]
      cases hT : S.tail with
      | none => rw [Sch.state_none hd hT, if_pos hs, if_neg (by simp)]
      | some f =>
        have g := hg.oper hs
        have := Sch.tail_ge hT g.b0 g.c0
        rw [Sch.state_tail hd hT, if_pos hs]
        simp only [Option.getD_some]
        by_cases hf : f ≤ t
        · rw [if_pos hf, if_pos ⟨this, hf⟩]
        · rw [if_neg hf, if_neg (fun x => hf x.2)]
    · have hs : S.has = false := by rw [h.has]; simpa using hh
      rw [if_neg hh, Sch.state_none hd (Sch.lone_none hs), if_neg (by rw [hs]; decide)]

theorem Par.longer_top {P : Par} (hg : ParGood P) : P.longer ≤ 4700000000000000000 := by
  unfold Par.longer
  by_cases hh : P.has = true ∧ P.waits = true
  · have g1 := hg.oper hh.1
    have g2 := hg.admin hh.2
    have h1 := tmod_abs (a := P.due - P.oper.base) g1.c0
    have := g2.b1
    have := g1.c1
    rw [if_pos hh]
    split <;> omega
  · rw [if_neg hh]; decide

set_option maxRecDepth 100000 in
set_option maxHeartbeats 8000000 in
theorem pstate_ok {w : World} {q : Nat} {P : Par} (h : ParAt w q P) (hg : ParGood P) (t : Int) (ht : t ≤ 9000000000000000000) :
    Calls Try.prog 57 #[.pointer (some ⟨q, 0, none⟩), .int .i64 t] w (fun e w' => e = .returned (.int .i64 (P.state t)) ∧ Keeps Nothing w w') := by
  have hlt := Par.longer_top hg
  obtain ⟨⟨ob, oc, ox, oA, ocap, oes⟩, ⟨ab, ac, ax, aA, acap, aes⟩, has, waits, due⟩ := P
  have hB : Blk w q [.int .i64 ob, .int .i64 oc, .int .i64 ox, .slice oA oes.length ocap, .int .i64 ab, .int .i64 ac, .int .i64 ax, .slice aA aes.length acap, .bool has, .bool waits, .int .i64 due] 96 := h.blk
  have HS := Lib.hid h
  have HG := Lib.hid hg
  have C63 := fun v (hv : Keeps Nothing w v) => longer_ok (HS.out.same hv) HG.out
  have hql := hB.lt
  have s0 : w.cell? ⟨q, 0, none⟩ = some (.int .i64 ob) := hB.cell 0
  have s1 : w.cell? ⟨q, 1, none⟩ = some (.int .i64 oc) := hB.cell 1
  have s2 : w.cell? ⟨q, 2, none⟩ = some (.int .i64 ox) := hB.cell 2
  have s3 : w.cell? ⟨q, 3, none⟩ = some (.slice oA oes.length ocap) := hB.cell 3
  have s4 : w.cell? ⟨q, 4, none⟩ = some (.int .i64 ab) := hB.cell 4
  have s5 : w.cell? ⟨q, 5, none⟩ = some (.int .i64 ac) := hB.cell 5
  have s6 : w.cell? ⟨q, 6, none⟩ = some (.int .i64 ax) := hB.cell 6
  have s7 : w.cell? ⟨q, 7, none⟩ = some (.slice aA aes.length acap) := hB.cell 7
  have s8 : w.cell? ⟨q, 8, none⟩ = some (.bool has) := hB.cell 8
  have s9 : w.cell? ⟨q, 9, none⟩ = some (.bool waits) := hB.cell 9
  have s10 : w.cell? ⟨q, 10, none⟩ = some (.int .i64 due) := hB.cell 10
  clear h hB hg
  by_cases hwd : waits = true ∧ due ≤ t
  · obtain ⟨hw1, hd⟩ := hwd
    subst hw1
    have HV : Hid (Par.state (⟨⟨ob, oc, ox, oA, ocap, oes⟩, ⟨ab, ac, ax, aA, acap, aes⟩, has, true, due⟩ : Par) t = gst due ac aes t) := if_pos ⟨rfl, hd⟩
    have C := fun v (hv : Keeps Nothing w v) => rstate_ok (HS.out.admin.1.same hv) (HG.out.admin rfl) t ht
    clear C63 hlt
    go_enter Try.func57, Try.ntmps57
    go_wp2_with (go_at_call 77; refine (C _ ((Keeps.refl _ _).alloc _)).mono ?_; rintro e w3 ⟨rfl, hk3⟩; clear C)
    go_ret
    exact ⟨by rw [HV.out]; rfl, ((Keeps.refl _ _).alloc _).same hk3⟩
  · have HV : Hid (Par.state (⟨⟨ob, oc, ox, oA, ocap, oes⟩, ⟨ab, ac, ax, aA, acap, aes⟩, has, waits, due⟩ : Par) t = if has = true then (if 0 ≤ Par.longer (⟨⟨ob, oc, ox, oA, ocap, oes⟩, ⟨ab, ac, ax, aA, acap, aes⟩, has, waits, due⟩ : Par) ∧ Par.longer (⟨⟨ob, oc, ox, oA, ocap, oes⟩, ⟨ab, ac, ax, aA, acap, aes⟩, has, waits, due⟩ : Par) ≤ t then gst ob oc oes (Par.longer (⟨⟨ob, oc, ox, oA, ocap, oes⟩, ⟨ab, ac, ax, aA, acap, aes⟩, has, waits, due⟩ : Par) - 1) else gst ob oc oes t) else 255) := if_neg hwd
    have HWD : Hid (waits = true → ¬ due ≤ t) := fun x y => hwd ⟨x, y⟩
    cases has
    · clear hlt C63
      have HV2 := Lib.hid (HV.out.trans (if_neg (by decide)))
      clear HV
      cases waits
      · clear hwd
        go_enter Try.func57, Try.ntmps57
        go_wp2_with fail
        go_ret
        exact ⟨by rw [HV2.out]; rfl, Keeps.refl _ _⟩
      · have hd' : decide (due ≤ t) = false := by simpa using HWD.out rfl
        clear hwd
        go_enter Try.func57, Try.ntmps57
        go_wp2_with fail
        go_ret
        exact ⟨by rw [HV2.out]; rfl, Keeps.refl _ _⟩
    · have HV2 := Lib.hid (HV.out.trans (if_pos rfl))
      clear HV
      have CA := fun v (hv : Keeps Nothing w v) (u : Int) (hu : u ≤ 9000000000000000000) => rstate_ok (HS.out.oper.1.same hv) (HG.out.oper rfl) u hu
      cases waits
      · clear hwd HWD
        generalize Par.longer (⟨⟨ob, oc, ox, oA, ocap, oes⟩, ⟨ab, ac, ax, aA, acap, aes⟩, true, false, due⟩ : Par) = L at *
        by_cases hL : 0 ≤ L ∧ L ≤ t
        · have HV3 := Lib.hid (HV2.out.trans (if_pos hL))
          have C := fun v (hv : Keeps Nothing w v) => CA v hv (L - 1) (by omega)
          obtain ⟨hL1, hL2⟩ := hL
          have hwl : IntKind.i64.wrap (L - 1) = L - 1 := by rw [IntKind.wrap_i64]; omega
          clear HV2 CA
          go_enter Try.func57, Try.ntmps57
          go_wp2_with (first | (go_at_call 78; refine (C63 _ (Keeps.refl _ _)).mono ?_; rintro e w2 ⟨rfl, hk2⟩; clear C63; have hB2 := HS.out.blk.keeps hk2 (fun h => h); have s0 : w2.cell? ⟨q, 0, none⟩ = some (.int .i64 ob) := hB2.cell 0; have s1 : w2.cell? ⟨q, 1, none⟩ = some (.int .i64 oc) := hB2.cell 1; have s2 : w2.cell? ⟨q, 2, none⟩ = some (.int .i64 ox) := hB2.cell 2; have s3 : w2.cell? ⟨q, 3, none⟩ = some (.slice oA oes.length ocap) := hB2.cell 3; have s4 : w2.cell? ⟨q, 4, none⟩ = some (.int .i64 ab) := hB2.cell 4; have s5 : w2.cell? ⟨q, 5, none⟩ = some (.int .i64 ac) := hB2.cell 5; have s6 : w2.cell? ⟨q, 6, none⟩ = some (.int .i64 ax) := hB2.cell 6; have s7 : w2.cell? ⟨q, 7, none⟩ = some (.slice aA aes.length acap) := hB2.cell 7; have s8 : w2.cell? ⟨q, 8, none⟩ = some (.bool true) := hB2.cell 8; have s9 : w2.cell? ⟨q, 9, none⟩ = some (.bool false) := hB2.cell 9; have s10 : w2.cell? ⟨q, 10, none⟩ = some (.int .i64 due) := hB2.cell 10; clear hB2) | (go_at_call 77; refine (C _ hk2).mono ?_; rintro e w3 ⟨rfl, hk3⟩; clear C))
          go_ret
          exact ⟨by rw [HV3.out]; rfl, hk2.same hk3⟩
        · have HV3 := Lib.hid (HV2.out.trans (if_neg hL))
          have C := fun v (hv : Keeps Nothing w v) => CA v hv t ht
          clear HV2 CA
          by_cases hL1 : 0 ≤ L
          · have hL2 : decide (L ≤ t) = false := by simp; omega
            clear hL
            go_enter Try.func57, Try.ntmps57
            go_wp2_with (first | (go_at_call 78; refine (C63 _ (Keeps.refl _ _)).mono ?_; rintro e w2 ⟨rfl, hk2⟩; clear C63; have hB2 := HS.out.blk.keeps hk2 (fun h => h); have s0 : w2.cell? ⟨q, 0, none⟩ = some (.int .i64 ob) := hB2.cell 0; have s1 : w2.cell? ⟨q, 1, none⟩ = some (.int .i64 oc) := hB2.cell 1; have s2 : w2.cell? ⟨q, 2, none⟩ = some (.int .i64 ox) := hB2.cell 2; have s3 : w2.cell? ⟨q, 3, none⟩ = some (.slice oA oes.length ocap) := hB2.cell 3; have s4 : w2.cell? ⟨q, 4, none⟩ = some (.int .i64 ab) := hB2.cell 4; have s5 : w2.cell? ⟨q, 5, none⟩ = some (.int .i64 ac) := hB2.cell 5; have s6 : w2.cell? ⟨q, 6, none⟩ = some (.int .i64 ax) := hB2.cell 6; have s7 : w2.cell? ⟨q, 7, none⟩ = some (.slice aA aes.length acap) := hB2.cell 7; have s8 : w2.cell? ⟨q, 8, none⟩ = some (.bool true) := hB2.cell 8; have s9 : w2.cell? ⟨q, 9, none⟩ = some (.bool false) := hB2.cell 9; have s10 : w2.cell? ⟨q, 10, none⟩ = some (.int .i64 due) := hB2.cell 10; clear hB2) | (go_at_call 77; refine (C _ hk2).mono ?_; rintro e w3 ⟨rfl, hk3⟩; clear C))
            go_ret
            exact ⟨by rw [HV3.out]; rfl, hk2.same hk3⟩
          · have hL2 : decide (0 ≤ L) = false := by simpa using hL1
            clear hL
            go_enter Try.func57, Try.ntmps57
            go_wp2_with (first | (go_at_call 78; refine (C63 _ (Keeps.refl _ _)).mono ?_; rintro e w2 ⟨rfl, hk2⟩; clear C63; have hB2 := HS.out.blk.keeps hk2 (fun h => h); have s0 : w2.cell? ⟨q, 0, none⟩ = some (.int .i64 ob) := hB2.cell 0; have s1 : w2.cell? ⟨q, 1, none⟩ = some (.int .i64 oc) := hB2.cell 1; have s2 : w2.cell? ⟨q, 2, none⟩ = some (.int .i64 ox) := hB2.cell 2; have s3 : w2.cell? ⟨q, 3, none⟩ = some (.slice oA oes.length ocap) := hB2.cell 3; have s4 : w2.cell? ⟨q, 4, none⟩ = some (.int .i64 ab) := hB2.cell 4; have s5 : w2.cell? ⟨q, 5, none⟩ = some (.int .i64 ac) := hB2.cell 5; have s6 : w2.cell? ⟨q, 6, none⟩ = some (.int .i64 ax) := hB2.cell 6; have s7 : w2.cell? ⟨q, 7, none⟩ = some (.slice aA aes.length acap) := hB2.cell 7; have s8 : w2.cell? ⟨q, 8, none⟩ = some (.bool true) := hB2.cell 8; have s9 : w2.cell? ⟨q, 9, none⟩ = some (.bool false) := hB2.cell 9; have s10 : w2.cell? ⟨q, 10, none⟩ = some (.int .i64 due) := hB2.cell 10; clear hB2) | (go_at_call 77; refine (C _ hk2).mono ?_; rintro e w3 ⟨rfl, hk3⟩; clear C))
            go_ret
            exact ⟨by rw [HV3.out]; rfl, hk2.same hk3⟩
      · have hd' : decide (due ≤ t) = false := by simpa using HWD.out rfl
        clear hwd HWD
        generalize Par.longer (⟨⟨ob, oc, ox, oA, ocap, oes⟩, ⟨ab, ac, ax, aA, acap, aes⟩, true, true, due⟩ : Par) = L at *
        by_cases hL : 0 ≤ L ∧ L ≤ t
        · have HV3 := Lib.hid (HV2.out.trans (if_pos hL))
          have C := fun v (hv : Keeps Nothing w v) => CA v hv (L - 1) (by omega)
          obtain ⟨hL1, hL2⟩ := hL
          have hwl : IntKind.i64.wrap (L - 1) = L - 1 := by rw [IntKind.wrap_i64]; omega
          clear HV2 CA
          go_enter Try.func57, Try.ntmps57
          go_wp2_with (first | (go_at_call 78; refine (C63 _ (Keeps.refl _ _)).mono ?_; rintro e w2 ⟨rfl, hk2⟩; clear C63; have hB2 := HS.out.blk.keeps hk2 (fun h => h); have s0 : w2.cell? ⟨q, 0, none⟩ = some (.int .i64 ob) := hB2.cell 0; have s1 : w2.cell? ⟨q, 1, none⟩ = some (.int .i64 oc) := hB2.cell 1; have s2 : w2.cell? ⟨q, 2, none⟩ = some (.int .i64 ox) := hB2.cell 2; have s3 : w2.cell? ⟨q, 3, none⟩ = some (.slice oA oes.length ocap) := hB2.cell 3; have s4 : w2.cell? ⟨q, 4, none⟩ = some (.int .i64 ab) := hB2.cell 4; have s5 : w2.cell? ⟨q, 5, none⟩ = some (.int .i64 ac) := hB2.cell 5; have s6 : w2.cell? ⟨q, 6, none⟩ = some (.int .i64 ax) := hB2.cell 6; have s7 : w2.cell? ⟨q, 7, none⟩ = some (.slice aA aes.length acap) := hB2.cell 7; have s8 : w2.cell? ⟨q, 8, none⟩ = some (.bool true) := hB2.cell 8; have s9 : w2.cell? ⟨q, 9, none⟩ = some (.bool true) := hB2.cell 9; have s10 : w2.cell? ⟨q, 10, none⟩ = some (.int .i64 due) := hB2.cell 10; clear hB2) | (go_at_call 77; refine (C _ hk2).mono ?_; rintro e w3 ⟨rfl, hk3⟩; clear C))
          go_ret
          exact ⟨by rw [HV3.out]; rfl, hk2.same hk3⟩
        · have HV3 := Lib.hid (HV2.out.trans (if_neg hL))
          have C := fun v (hv : Keeps Nothing w v) => CA v hv t ht
          clear HV2 CA
          by_cases hL1 : 0 ≤ L
          · have hL2 : decide (L ≤ t) = false := by simp; omega
            clear hL
            go_enter Try.func57, Try.ntmps57
            go_wp2_with (first | (go_at_call 78; refine (C63 _ (Keeps.refl _ _)).mono ?_; rintro e w2 ⟨rfl, hk2⟩; clear C63; have hB2 := HS.out.blk.keeps hk2 (fun h => h); have s0 : w2.cell? ⟨q, 0, none⟩ = some (.int .i64 ob) := hB2.cell 0; have s1 : w2.cell? ⟨q, 1, none⟩ = some (.int .i64 oc) := hB2.cell 1; have s2 : w2.cell? ⟨q, 2, none⟩ = some (.int .i64 ox) := hB2.cell 2; have s3 : w2.cell? ⟨q, 3, none⟩ = some (.slice oA oes.length ocap) := hB2.cell 3; have s4 : w2.cell? ⟨q, 4, none⟩ = some (.int .i64 ab) := hB2.cell 4; have s5 : w2.cell? ⟨q, 5, none⟩ = some (.int .i64 ac) := hB2.cell 5; have s6 : w2.cell? ⟨q, 6, none⟩ = some (.int .i64 ax) := hB2.cell 6; have s7 : w2.cell? ⟨q, 7, none⟩ = some (.slice aA aes.length acap) := hB2.cell 7; have s8 : w2.cell? ⟨q, 8, none⟩ = some (.bool true) := hB2.cell 8; have s9 : w2.cell? ⟨q, 9, none⟩ = some (.bool true) := hB2.cell 9; have s10 : w2.cell? ⟨q, 10, none⟩ = some (.int .i64 due) := hB2.cell 10; clear hB2) | (go_at_call 77; refine (C _ hk2).mono ?_; rintro e w3 ⟨rfl, hk3⟩; clear C))
            go_ret
            exact ⟨by rw [HV3.out]; rfl, hk2.same hk3⟩
          · have hL2 : decide (0 ≤ L) = false := by simpa using hL1
            clear hL
            go_enter Try.func57, Try.ntmps57
            go_wp2_with (first | (go_at_call 78; refine (C63 _ (Keeps.refl _ _)).mono ?_; rintro e w2 ⟨rfl, hk2⟩; clear C63; have hB2 := HS.out.blk.keeps hk2 (fun h => h); have s0 : w2.cell? ⟨q, 0, none⟩ = some (.int .i64 ob) := hB2.cell 0; have s1 : w2.cell? ⟨q, 1, none⟩ = some (.int .i64 oc) := hB2.cell 1; have s2 : w2.cell? ⟨q, 2, none⟩ = some (.int .i64 ox) := hB2.cell 2; have s3 : w2.cell? ⟨q, 3, none⟩ = some (.slice oA oes.length ocap) := hB2.cell 3; have s4 : w2.cell? ⟨q, 4, none⟩ = some (.int .i64 ab) := hB2.cell 4; have s5 : w2.cell? ⟨q, 5, none⟩ = some (.int .i64 ac) := hB2.cell 5; have s6 : w2.cell? ⟨q, 6, none⟩ = some (.int .i64 ax) := hB2.cell 6; have s7 : w2.cell? ⟨q, 7, none⟩ = some (.slice aA aes.length acap) := hB2.cell 7; have s8 : w2.cell? ⟨q, 8, none⟩ = some (.bool true) := hB2.cell 8; have s9 : w2.cell? ⟨q, 9, none⟩ = some (.bool true) := hB2.cell 9; have s10 : w2.cell? ⟨q, 10, none⟩ = some (.int .i64 due) := hB2.cell 10; clear hB2) | (go_at_call 77; refine (C _ hk2).mono ?_; rintro e w3 ⟨rfl, hk3⟩; clear C))
            go_ret
            exact ⟨by rw [HV3.out]; rfl, hk2.same hk3⟩
end

section
open Go.RowKit

def Par.whole (P : Par) (begun t : Int) : Bool :=
  if P.waits = true ∧ P.due ≤ t then decide (P.admin.cyc ≤ t - (if begun < P.due then P.due else begun))
  else if P.has = true then decide (P.oper.cyc ≤ t - (if begun < P.oper.base then P.oper.base else begun)) else false

theorem whole_eq {S : Sch} {P : Par} (h : Alike S P) (now begun t : Int) : P.whole begun t = (S.sys now).wholeR begun t := by
  have e : (S.sys now).wholeR begun t = if S.waits = true ∧ S.due ≤ t then decide (S.admin.cyc ≤ t - (if begun < S.due then S.due else begun)) else if S.has = true then decide (S.oper.cyc ≤ t - (if begun < S.oper.base then S.oper.base else begun)) else false := rfl
  rw [e]
  unfold Par.whole
  by_cases hw : P.waits = true ∧ P.due ≤ t
  · have hd := h.due hw.1
    have c : S.waits = true ∧ S.due ≤ t := ⟨by rw [h.waits]; exact hw.1, by rw [hd]; exact hw.2⟩
    rw [if_pos hw, if_pos c, hd, (h.admin hw.1).cyc]
  · have c : ¬ (S.waits = true ∧ S.due ≤ t) := fun x => by
      have x1 : P.waits = true := by rw [← h.waits]; exact x.1
      exact hw ⟨x1, by rw [← h.due x1]; exact x.2⟩
    rw [if_neg hw, if_neg c]
    by_cases hh : P.has = true
    · have c2 : S.has = true := by rw [h.has]; exact hh
      rw [if_pos hh, if_pos c2, (h.oper hh).cyc, (h.oper hh).base]
    · have c2 : ¬ S.has = true := by rw [h.has]; exact hh
      rw [if_neg hh, if_neg c2]

set_option maxRecDepth 100000 in
set_option maxHeartbeats 8000000 in
theorem pwhole_ok {w : World} {q : Nat} {P : Par} (h : ParAt w q P) (hg : ParGood P) (begun t : Int) (h0 : 0 ≤ begun) (h1 : begun ≤ t) (ht : t ≤ 9000000000000000000) :
    Calls Try.prog 58 #[.pointer (some ⟨q, 0, none⟩), .int .i64 begun, .int .i64 t] w (fun e w' => e = .returned (.bool (P.whole begun t)) ∧ Keeps Nothing w w') := by
  obtain ⟨⟨ob, oc, ox, oA, ocap, oes⟩, ⟨ab, ac, ax, aA, acap, aes⟩, has, waits, due⟩ := P
  have hB : Blk w q [.int .i64 ob, .int .i64 oc, .int .i64 ox, .slice oA oes.length ocap, .int .i64 ab, .int .i64 ac, .int .i64 ax, .slice aA aes.length acap, .bool has, .bool waits, .int .i64 due] 96 := h.blk
  have HG := Lib.hid hg
  have hql := hB.lt
  have s0 : w.cell? ⟨q, 0, none⟩ = some (.int .i64 ob) := hB.cell 0
  have s1 : w.cell? ⟨q, 1, none⟩ = some (.int .i64 oc) := hB.cell 1
  have s2 : w.cell? ⟨q, 2, none⟩ = some (.int .i64 ox) := hB.cell 2
  have s3 : w.cell? ⟨q, 3, none⟩ = some (.slice oA oes.length ocap) := hB.cell 3
  have s4 : w.cell? ⟨q, 4, none⟩ = some (.int .i64 ab) := hB.cell 4
  have s5 : w.cell? ⟨q, 5, none⟩ = some (.int .i64 ac) := hB.cell 5
  have s6 : w.cell? ⟨q, 6, none⟩ = some (.int .i64 ax) := hB.cell 6
  have s7 : w.cell? ⟨q, 7, none⟩ = some (.slice aA aes.length acap) := hB.cell 7
  have s8 : w.cell? ⟨q, 8, none⟩ = some (.bool has) := hB.cell 8
  have s9 : w.cell? ⟨q, 9, none⟩ = some (.bool waits) := hB.cell 9
  have s10 : w.cell? ⟨q, 10, none⟩ = some (.int .i64 due) := hB.cell 10
  clear h hB hg
  by_cases hwd : waits = true ∧ due ≤ t
  · obtain ⟨hw1, hd⟩ := hwd
    subst hw1
    have HV : Hid (Par.whole (⟨⟨ob, oc, ox, oA, ocap, oes⟩, ⟨ab, ac, ax, aA, acap, aes⟩, has, true, due⟩ : Par) begun t = decide (ac ≤ t - (if begun < due then due else begun))) := if_pos ⟨rfl, hd⟩
    have g := HG.out.admin rfl
    have g0 := g.b0
    have g1 := g.b1
    simp only at g0 g1
    clear g
    by_cases hb : begun < due
    · have HV2 := HV.out
      rw [if_pos hb] at HV2
      have HV3 := Lib.hid HV2
      have hwr : IntKind.i64.wrap (t - due) = t - due := by rw [IntKind.wrap_i64]; omega
      clear HV HV2
      go_enter Try.func58, Try.ntmps58
      go_wp2_with fail
      go_ret
      exact ⟨by rw [HV3.out]; rfl, by first | exact (Keeps.refl _ _).alloc _ | exact ((Keeps.refl _ _).alloc _).drew | exact ((Keeps.refl _ _).alloc _).drewN _⟩
    · have HV2 := HV.out
      rw [if_neg hb] at HV2
      have HV3 := Lib.hid HV2
      have hb' : decide (begun < due) = false := by simpa using hb
      have hwr : IntKind.i64.wrap (t - begun) = t - begun := by rw [IntKind.wrap_i64]; omega
      clear HV HV2
      go_enter Try.func58, Try.ntmps58
      go_wp2_with fail
      go_ret
      exact ⟨by rw [HV3.out]; rfl, by first | exact (Keeps.refl _ _).alloc _ | exact ((Keeps.refl _ _).alloc _).drew | exact ((Keeps.refl _ _).alloc _).drewN _⟩
  · have HV : Hid (Par.whole (⟨⟨ob, oc, ox, oA, ocap, oes⟩, ⟨ab, ac, ax, aA, acap, aes⟩, has, waits, due⟩ : Par) begun t = if has = true then decide (oc ≤ t - (if begun < ob then ob else begun)) else false) := if_neg hwd
    have HWD : Hid (waits = true → ¬ due ≤ t) := fun x y => hwd ⟨x, y⟩
    have hwf : waits = false ∨ (waits = true ∧ decide (due ≤ t) = false) := by
      cases waits
      · exact .inl rfl
      · exact .inr ⟨rfl, by simpa using HWD.out rfl⟩
    clear hwd HWD
    cases has
    · have HV3 := Lib.hid (HV.out.trans (if_neg (by decide)))
      clear HV
      rcases hwf with hwf | ⟨hwf, hwf2⟩
      · rw [hwf] at s9
        clear hwf
        go_enter Try.func58, Try.ntmps58
        go_wp2_with fail
        go_ret
        exact ⟨by rw [HV3.out]; try rfl, by first | exact (Keeps.refl _ _).alloc _ | exact ((Keeps.refl _ _).alloc _).drew | exact ((Keeps.refl _ _).alloc _).drewN _⟩
      · rw [hwf] at s9
        clear hwf
        go_enter Try.func58, Try.ntmps58
        go_wp2_with fail
        go_ret
        exact ⟨by rw [HV3.out]; try rfl, by first | exact (Keeps.refl _ _).alloc _ | exact ((Keeps.refl _ _).alloc _).drew | exact ((Keeps.refl _ _).alloc _).drewN _⟩
    · have HV2 := HV.out.trans (if_pos rfl)
      have g := HG.out.oper rfl
      have g0 := g.b0
      have g1 := g.b1
      simp only at g0 g1
      clear g HV
      by_cases hb : begun < ob
      · rw [if_pos hb] at HV2
        have hwr : IntKind.i64.wrap (t - ob) = t - ob := by rw [IntKind.wrap_i64]; omega
        have HV3 := Lib.hid HV2
        clear HV2
        rcases hwf with hwf | ⟨hwf, hwf2⟩
        · rw [hwf] at s9
          clear hwf
          go_enter Try.func58, Try.ntmps58
          go_wp2_with fail
          go_ret
          exact ⟨by rw [HV3.out]; try rfl, by first | exact (Keeps.refl _ _).alloc _ | exact ((Keeps.refl _ _).alloc _).drew | exact ((Keeps.refl _ _).alloc _).drewN _⟩
        · rw [hwf] at s9
          clear hwf
          go_enter Try.func58, Try.ntmps58
          go_wp2_with fail
          go_ret
          exact ⟨by rw [HV3.out]; try rfl, by first | exact (Keeps.refl _ _).alloc _ | exact ((Keeps.refl _ _).alloc _).drew | exact ((Keeps.refl _ _).alloc _).drewN _⟩
      · rw [if_neg hb] at HV2
        have hb' : decide (begun < ob) = false := by simpa using hb
        have hwr : IntKind.i64.wrap (t - begun) = t - begun := by rw [IntKind.wrap_i64]; omega
        have HV3 := Lib.hid HV2
        clear HV2
        rcases hwf with hwf | ⟨hwf, hwf2⟩
        · rw [hwf] at s9
          clear hwf
          go_enter Try.func58, Try.ntmps58
          go_wp2_with fail
          go_ret
          exact ⟨by rw [HV3.out]; try rfl, by first | exact (Keeps.refl _ _).alloc _ | exact ((Keeps.refl _ _).alloc _).drew | exact ((Keeps.refl _ _).alloc _).drewN _⟩
        · rw [hwf] at s9
          clear hwf
          go_enter Try.func58, Try.ntmps58
          go_wp2_with fail
          go_ret
          exact ⟨by rw [HV3.out]; try rfl, by first | exact (Keeps.refl _ _).alloc _ | exact ((Keeps.refl _ _).alloc _).drew | exact ((Keeps.refl _ _).alloc _).drewN _⟩
end

section
open Go.RowKit

theorem gst_range {base cyc ext : Int} {es : List Ent} (g : Good base cyc ext es) (t : Int) : 0 ≤ gst base cyc es t ∧ gst base cyc es t ≤ 255 := by
  unfold gst
  split
  · omega
  · have hi := atGo_lt g.pos (cyc := cyc) (into := (t - base).tmod cyc) es 0 0 (by omega)
    have hm : es.getD (atGo es.length cyc ((t - base).tmod cyc) es 0 0).1 ⟨0, 0⟩ ∈ es := by
      rw [List.getD_eq_getElem?_getD, List.getElem?_eq_getElem hi]
      exact List.getElem_mem _
    exact ⟨(g.ents _ hm).1, (g.ents _ hm).2.1⟩

theorem Sch.state_range {S : Sch} (hg : SchGood S) (t : Int) : 0 ≤ S.state t ∧ S.state t ≤ 255 := by
  unfold Sch.state
  split
  · rename_i hw
    exact gst_range (hg.admin hw.1) t
  · split
    · rename_i f hT
      have hh := (Sch.tail_some hT).2
      split
      · exact gst_range (hg.oper hh) _
      · first | exact gst_range (hg.oper hh) _ | (rw [if_pos hh]; exact gst_range (hg.oper hh) _)
    · split
      · rename_i hh
        exact gst_range (hg.oper hh) _
      · omega

theorem bit_fin : ∀ v : Fin 256, ∀ c : Fin 8, ((((v.val : Nat) : Int) / (2 : Int) ^ c.val).tmod 2 == 0) = (bits .and .i64 ((v.val : Nat) : Int) (wrap64 ((2 : Int) ^ c.val)) == 0) := by decide +kernel

theorem bit_eq {V b : Int} {c : Nat} (h0 : 0 ≤ V) (h1 : V ≤ 255) (hc : c < 8) (hb : wrap64 ((2 : Int) ^ c) = b) : ((V / (2 : Int) ^ c).tmod 2 == 0) = !(opn b V) := by
  obtain ⟨n, rfl⟩ : ∃ n : Nat, V = (n : Int) := ⟨V.toNat, by omega⟩
  have := bit_fin ⟨n, by omega⟩ ⟨c, hc⟩
  simp only at this
  rw [this, hb]
  unfold opn
  rw [Bool.not_not]

def POInv (w : World) (S : Sch) (now b fin : Int) (r : Bool) (N k : Nat) (t g i : Value) (wr : World) : Prop :=
  ∃ (j : Nat) (t' g' : Int), j + k = N ∧ i = .int .i64 (j : Nat) ∧ t = .int .i64 t' ∧ g = .int .i64 g' ∧ 0 ≤ g' ∧ g' ≤ t' ∧ t' ≤ 9000000000000000000 ∧ (S.sys now).openR (opn b) fin k t' g' = r ∧ Keeps Nothing w wr

set_option maxRecDepth 100000 in
set_option maxHeartbeats 8000000 in
theorem popen_ok {w : World} {q : Nat} {P : Par} {S : Sch} (h : ParAt w q P) (ha : Alike S P) (hg : SchGood S) {now : Int} (c : Nat) (b : Int) (hc : c < 8) (hb : wrap64 ((2 : Int) ^ c) = b) (t need : Int) (ht0 : 0 ≤ t) (ht : t ≤ 4650000000000000000) (hn0 : 1 ≤ need) (hn1 : need ≤ 2000000) :
    Calls Try.prog 24 #[.pointer (some ⟨q, 0, none⟩), .int .i64 (c : Nat), .int .i64 t, .int .i64 need, .int .i64 3000] w (fun e w' => e = .returned (.bool ((S.sys now).openR (opn b) (t + need) 3000 t t)) ∧ Keeps Nothing w w') := by
  have HS := Lib.hid h
  have HA := Lib.hid ha
  have HG := Lib.hid hg
  have HPG := Lib.hid (Par.good ha hg)
  obtain ⟨r, hr⟩ : ∃ r, r = (S.sys now).openR (opn b) (t + need) 3000 t t := ⟨_, rfl⟩
  rw [← hr]
  have HR := Lib.hid hr
  clear h ha hg hr
  go_enter Try.func24, Try.ntmps24
  go_wp2_with fail
  generalize hfin : t + need = fin at *
  go_loopg [2, 12, 13] 3000 (fun k t g i wr => POInv w S now b fin r 3000 k t g i wr)
  case atStart => exact ⟨0, t, t, by omega, rfl, rfl, rfl, ht0, Int.le_refl _, by omega, HR.out.symm, Keeps.refl _ _⟩
  case round =>
    obtain ⟨j, t', g', hj, rfl, rfl, rfl, hg0, hgt, htb, ho, hk⟩ := hrel
    have HK := Lib.hid hk
    have hq := HS.out.blk.keeps hk (fun h => h)
    have p9 : wr.cell? ⟨q, 9, none⟩ = some (.bool P.waits) := hq.cell 9
    have p10 : wr.cell? ⟨q, 10, none⟩ = some (.int .i64 P.due) := hq.cell 10
    by_cases hlt : j < 3000
    · obtain ⟨k0, hk0⟩ : ∃ k0, gk = k0 + 1 := ⟨gk - 1, by omega⟩
      have C1 := fun v (hv : Keeps Nothing wr v) => pstate_ok ((HS.out.same HK.out).same hv) HPG.out t' (by omega)
      rw [state_eq HA.out HG.out] at C1
      have C2 := fun v (hv : Keeps Nothing wr v) => pwhole_ok ((HS.out.same HK.out).same hv) HPG.out g' t' hg0 hgt (by omega)
      rw [whole_eq HA.out now] at C2
      have C3 := fun v (hv : Keeps Nothing wr v) => pnext_ok ((HS.out.same HK.out).same hv) HPG.out t' (by omega)
      rw [next_eq HA.out HG.out] at C3
      obtain ⟨v0, v1⟩ := Sch.state_range HG.out t'
      have hbit := bit_eq v0 v1 hc hb
      rw [hk0, Fit.Sys.openR] at ho
      have e1 : (S.sys now).st t' = S.state t' := rfl
      have e2 : (S.sys now).nx t' = S.next t' := rfl
      have e3 : (S.sys now).due = S.due := rfl
      have e4 : (S.sys now).waits = S.waits := rfl
      rw [e1, e2, e3, e4] at ho
      have hgt2 : 0 ≤ S.next t' → t' < S.next t' := fun h => Sch.next_gt HG.out t' h (by omega)
      have hcl : (c : Int) < 8 := by omega
      have hP := Lib.hid (show P.waits = S.waits ∧ (S.waits = true → P.due = S.due ∧ 0 ≤ S.due ∧ S.due < 4611686018427387904) from ⟨HA.out.waits.symm, fun hw => ⟨(HA.out.due (by rw [← HA.out.waits]; exact hw)).symm, (HG.out.admin hw).b0, (HG.out.admin hw).b1⟩⟩)
      rw [hP.out.1] at p9
      generalize S.state t' = V at *
      generalize S.next t' = N at *
      generalize (S.sys now).wholeR g' t' = W at *
      clear hk hq e1 e2 e3 e4
      by_cases hp : opn b V = true
      · rw [if_pos hp] at ho
        rw [hp] at hbit
        have hbit2 : ((V / (2 : Int) ^ c).tmod 2 == 0) = false := hbit
        clear hbit hp
        cases W
        · rw [if_neg (by decide)] at ho
          by_cases hn : N < 0
          · rw [if_pos (.inl hn)] at ho
            subst ho
            go_wp2_with (first | (go_at_call 57; refine (C1 _ (Keeps.refl _ _)).mono ?_; rintro e w3 ⟨rfl, hk3⟩; clear C1) | (go_at_call 58; refine (C2 _ hk3).mono ?_; rintro e w4 ⟨rfl, hk4⟩; clear C2) | (go_at_call 59; refine (C3 _ (hk3.same hk4)).mono ?_; rintro e w5 ⟨rfl, hk5⟩; clear C3))
            go_ret
            exact ⟨rfl, HK.out.same ((hk3.same hk4).same hk5)⟩
          · have hn' : decide (N < 0) = false := by simpa using hn
            by_cases hf : fin ≤ N
            · rw [if_pos (.inr hf)] at ho
              subst ho
              go_wp2_with (first | (go_at_call 57; refine (C1 _ (Keeps.refl _ _)).mono ?_; rintro e w3 ⟨rfl, hk3⟩; clear C1) | (go_at_call 58; refine (C2 _ hk3).mono ?_; rintro e w4 ⟨rfl, hk4⟩; clear C2) | (go_at_call 59; refine (C3 _ (hk3.same hk4)).mono ?_; rintro e w5 ⟨rfl, hk5⟩; clear C3))
              go_ret
              exact ⟨rfl, HK.out.same ((hk3.same hk4).same hk5)⟩
            · rw [if_neg (by omega)] at ho
              have HO := Lib.hid ho
              have hf' : decide (fin ≤ N) = false := by simpa using hf
              have hNt := hgt2 (by omega)
              clear ho hgt2
              go_wp2_with (first | (go_at_call 57; refine (C1 _ (Keeps.refl _ _)).mono ?_; rintro e w3 ⟨rfl, hk3⟩; clear C1) | (go_at_call 58; refine (C2 _ hk3).mono ?_; rintro e w4 ⟨rfl, hk4⟩; clear C2) | (go_at_call 59; refine (C3 _ (hk3.same hk4)).mono ?_; rintro e w5 ⟨rfl, hk5⟩; clear C3))
              go_roundg (gk - 1)
              case measure => omega
              case rel => exact ⟨j + 1, N, g', by omega, by go_num, rfl, rfl, hg0, by omega, by omega, (by rw [show gk - 1 = k0 by omega]; exact HO.out), HK.out.same ((hk3.same hk4).same hk5)⟩
        · rw [if_pos rfl] at ho
          cases hw : S.waits with
          | false =>
            rw [hw] at p9
            rw [if_pos (.inl hw)] at ho
            subst ho
            clear C3 hgt2 hw
            go_wp2_with (first | (go_at_call 57; refine (C1 _ (Keeps.refl _ _)).mono ?_; rintro e w3 ⟨rfl, hk3⟩; clear C1) | (go_at_call 58; refine (C2 _ hk3).mono ?_; rintro e w4 ⟨rfl, hk4⟩; clear C2; have z9 : w4.cell? ⟨q, 9, none⟩ = some (.bool false) := ((hk3.same hk4).cell (World.block_lt_of_cell? _ _ p9) (fun h => h)).trans p9; have z10 : w4.cell? ⟨q, 10, none⟩ = some (.int .i64 P.due) := ((hk3.same hk4).cell (World.block_lt_of_cell? _ _ p10) (fun h => h)).trans p10; clear p9 p10))
            go_ret
            exact ⟨rfl, HK.out.same (hk3.same hk4)⟩
          | true =>
            rw [hw] at p9
            obtain ⟨d1, d2, d3⟩ := hP.out.2 hw
            rw [d1] at p10
            by_cases c1 : S.due ≤ t'
            · rw [if_pos (.inr (.inl c1))] at ho
              subst ho
              clear C3 hgt2 hw d1
              go_wp2_with (first | (go_at_call 57; refine (C1 _ (Keeps.refl _ _)).mono ?_; rintro e w3 ⟨rfl, hk3⟩; clear C1) | (go_at_call 58; refine (C2 _ hk3).mono ?_; rintro e w4 ⟨rfl, hk4⟩; clear C2; have z9 : w4.cell? ⟨q, 9, none⟩ = some (.bool true) := ((hk3.same hk4).cell (World.block_lt_of_cell? _ _ p9) (fun h => h)).trans p9; have z10 : w4.cell? ⟨q, 10, none⟩ = some (.int .i64 S.due) := ((hk3.same hk4).cell (World.block_lt_of_cell? _ _ p10) (fun h => h)).trans p10; clear p9 p10))
              go_ret
              exact ⟨rfl, HK.out.same (hk3.same hk4)⟩
            · have c1' : decide (S.due ≤ t') = false := by simpa using c1
              by_cases c2 : fin ≤ S.due
              · rw [if_pos (.inr (.inr c2))] at ho
                subst ho
                clear C3 hgt2 hw d1
                go_wp2_with (first | (go_at_call 57; refine (C1 _ (Keeps.refl _ _)).mono ?_; rintro e w3 ⟨rfl, hk3⟩; clear C1) | (go_at_call 58; refine (C2 _ hk3).mono ?_; rintro e w4 ⟨rfl, hk4⟩; clear C2; have z9 : w4.cell? ⟨q, 9, none⟩ = some (.bool true) := ((hk3.same hk4).cell (World.block_lt_of_cell? _ _ p9) (fun h => h)).trans p9; have z10 : w4.cell? ⟨q, 10, none⟩ = some (.int .i64 S.due) := ((hk3.same hk4).cell (World.block_lt_of_cell? _ _ p10) (fun h => h)).trans p10; clear p9 p10))
                go_ret
                exact ⟨rfl, HK.out.same (hk3.same hk4)⟩
              · have c2' : decide (fin ≤ S.due) = false := by simpa using c2
                rw [if_neg (fun x => by rcases x with x | x | x; (· rw [hw] at x; cases x); (· exact c1 x); (· exact c2 x))] at ho
                have HO := Lib.hid ho
                clear C3 hgt2 hw d1 ho
                go_upto_region 10 with (first | (go_at_call 57; refine (C1 _ (Keeps.refl _ _)).mono ?_; rintro e w3 ⟨rfl, hk3⟩; clear C1) | (go_at_call 58; refine (C2 _ hk3).mono ?_; rintro e w4 ⟨rfl, hk4⟩; clear C2; have z9 : w4.cell? ⟨q, 9, none⟩ = some (.bool true) := ((hk3.same hk4).cell (World.block_lt_of_cell? _ _ p9) (fun h => h)).trans p9; have z10 : w4.cell? ⟨q, 10, none⟩ = some (.int .i64 S.due) := ((hk3.same hk4).cell (World.block_lt_of_cell? _ _ p10) (fun h => h)).trans p10; clear p9 p10))
                go_quiet (fail)
                go_wp2_with fail
                go_roundg (gk - 1)
                case measure => omega
                case rel => exact ⟨j + 1, S.due, S.due, by omega, by go_num, rfl, rfl, by omega, Int.le_refl _, by omega, (by rw [show gk - 1 = k0 by omega]; exact HO.out), by first | exact HK.out.same ((hk3.same hk4).drewN _) | exact HK.out.same ((hk3.same hk4).drew) | exact HK.out.same (hk3.same hk4)⟩
      · rw [if_neg hp] at ho
        have hpf : opn b V = false := by simpa using hp
        rw [hpf] at hbit
        have hbit2 : ((V / (2 : Int) ^ c).tmod 2 == 0) = true := hbit
        subst ho
        clear hbit hp hpf
        go_wp2_with (go_at_call 57; refine (C1 _ (Keeps.refl _ _)).mono ?_; rintro e w3 ⟨rfl, hk3⟩; clear C1)
        go_ret
        exact ⟨rfl, HK.out.same hk3⟩
    · have hk0 : gk = 0 := by omega
      rw [hk0, Fit.Sys.openR] at ho
      subst ho
      have hlt' : decide ((j : Int) < 3000) = false := by simp; omega
      clear hk hq
      go_wp2_with fail
      go_ret
      exact ⟨rfl, HK.out⟩
end

end Go.Proofs.Ytimgmobmagpmlaa
