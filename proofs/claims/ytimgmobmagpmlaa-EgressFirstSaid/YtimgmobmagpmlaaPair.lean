/- The edges of a cycle, and the next of them, as the document has them. The document's next edge of a list. The document's pair: what it is told, and what passes. The document's pair: the longer last cycle, and the next edge. The document's pair: it is told a list. ChangeAt: what is asked. What both have in common as lists are told; few acts. Lists that are told one after the other, to the schedule and to the document's pair. -/
import Derived.Test.YtimgmobmagpmlaaSched4
import Derived.Deep.DeepCutAuto
import Derived.Deep.CutBlock
import Derived.Deep.RegionWith
import Derived.Test.YtimgmobmagpmlaaSched
namespace Go.Proofs.Ytimgmobmagpmlaa

section
open Go.RowKit

def lcells (xs : List Int) : List Value := xs.map fun x => .int .i64 x

theorem lcells_append (a b : List Int) : lcells (a ++ b) = lcells a ++ lcells b := by simp [lcells]
theorem lcells_len (a : List Int) : (lcells a).length = a.length := by simp [lcells]
theorem lcells_one (l : List Int) : ∀ u ∈ lcells l, u.oneCell' = true := by
  intro u hu
  obtain ⟨x, _, rfl⟩ := List.mem_map.1 hu
  rfl

/-- The edges found so far, and those to come. -/
def EdInv (B : Nat) (w : World) (cyc : Int) (es : List Ent) (k : Nat) (v a i : Value) (wr : World) : Prop :=
  ∃ (j : Nat) (E : Int) (xs : List Int), j + 1 + k = es.length ∧ i = .int .i64 (j : Nat) ∧ a = .int .i64 E ∧ 0 ≤ E ∧ E ≤ j * 1000000000 ∧ xs.length ≤ j + 1 ∧ 0 :: edGo cyc es 0 = xs ++ edGo cyc (es.drop j) E ∧
    OwnS wr (fun k => B + 1 ≤ k) 2 1 v xs.length (lcells xs) ∧ (∃ A n c, v = .slice A n c) ∧ Keeps (fun k => B + 1 ≤ k) w wr

def EdgesAre (w : World) (xs : List Int) (e : Ending) (w' : World) : Prop :=
  ∃ v, e = .returned v ∧ OwnF w' (fun k => w.heap.size ≤ k) 2 v (lcells xs) ∧ Keeps Nothing w w'

theorem lit1 (w : World) (v : Value) (T : TypeId) : ∀ (j : Nat) (u : Value), [v][j]? = some u → (w.alloc (.cells #[v] T)).cell? ((⟨w.heap.size, 0, none⟩ : Addr).add j) = some u := by
  intro j u hj
  cases j with
  | zero =>
    simp at hj
    subst hj
    rw [Addr.add_lit]
    exact (Blk.new w [v] T).cell 0
  | succ j => simp at hj

set_option maxRecDepth 100000 in
set_option maxHeartbeats 4000000 in
theorem edges_ok {w : World} {base cyc ext : Int} {A : Option Addr} {c : Nat} {es : List Ent} (hr : EntsR w A c es) (hg : Good base cyc ext es) :
    Calls Try.prog 88 #[.agg #[.int .i64 base, .int .i64 cyc, .int .i64 ext, .slice A es.length c]] w (EdgesAre w (0 :: (edGo cyc es 0 ++ [cyc]))) := by
  obtain ⟨i0, hi0, hz0, hz1, hz2⟩ := info_parts (P := Try.prog) (e := 2) (z := .int .i64 0) (size := 1) (bytes := 8) (by kernel_rfl)
  obtain ⟨g0, g1, gb0, gb1, gc0, gc1, gx0, gx1, ge⟩ := hg
  have HR := Lib.hid hr
  have HE := Lib.hid ge
  clear hr ge
  have hW : Hid (Blk ((w.alloc (.cells #[.int .i64 base, .int .i64 cyc, .int .i64 ext, .slice A es.length c] 56)).alloc (.cells #[.int .i64 0] 2)) w.heap.size [.int .i64 base, .int .i64 cyc, .int .i64 ext, .slice A es.length c] 56 ∧ OwnF ((w.alloc (.cells #[.int .i64 base, .int .i64 cyc, .int .i64 ext, .slice A es.length c] 56)).alloc (.cells #[.int .i64 0] 2)) (fun k => w.heap.size + 1 ≤ k) 2 (.slice (some ⟨w.heap.size + 1, 0, none⟩) 1 1) (lcells [0]) ∧ Keeps Nothing w ((w.alloc (.cells #[.int .i64 base, .int .i64 cyc, .int .i64 ext, .slice A es.length c] 56)).alloc (.cells #[.int .i64 0] 2))) := by
    refine ⟨(Blk.new w [.int .i64 base, .int .i64 cyc, .int .i64 ext, .slice A es.length c] 56).alloc _, ?_, ((Keeps.refl _ _).alloc _).alloc _⟩
    have := OwnF.lit (w.alloc (.cells #[.int .i64 base, .int .i64 cyc, .int .i64 ext, .slice A es.length c] 56)) [.int .i64 0] 2 (by decide)
    have h2 : (w.alloc (.cells #[.int .i64 base, .int .i64 cyc, .int .i64 ext, .slice A es.length c] 56)).heap.size = w.heap.size + 1 := by simp
    rw [h2] at this
    exact this.mono (fun k hk => by omega)
  go_enter Try.func88, Try.ntmps88
  go_wp2_with fail
  generalize ((w.alloc (.cells #[.int .i64 base, .int .i64 cyc, .int .i64 ext, .slice A es.length c] 56)).alloc (.cells #[.int .i64 0] 2)) = w1 at *
  go_loopg [3, 4, 5] (es.length - 1) (fun k v a i wr => EdInv w.heap.size w1 cyc es k v a i wr)
  case atStart => exact ⟨0, 0, [0], by omega, rfl, rfl, by omega, by omega, by simp, by simp, hW.out.2.1.toS, ⟨_, _, _, rfl⟩, Keeps.refl _ _⟩
  case round =>
    obtain ⟨j, E, xs, hj, rfl, rfl, hE0, hE1, hxl, hxs, hO, ⟨A0, n0, c0, rfl⟩, hk⟩ := hrel
    have HO := Lib.hid hO
    have HK := Lib.hid hk
    have HX := Lib.hid hxs
    have hB := hW.out.1.keeps hk (fun h => by omega)
    have d1 : wr.cell? ⟨w.heap.size, 1, none⟩ = some (.int .i64 cyc) := hB.cell 1
    have d3 : wr.cell? ⟨w.heap.size, 3, none⟩ = some (.slice A es.length c) := hB.cell 3
    have HBr := Lib.hid hB
    have hown : ∀ k, (Value.slice A0 n0 c0).ownBlock = some k → w.heap.size + 1 ≤ k := fun k hk => hO.2 k hk
    clear hO hk hxs hB
    by_cases hlt : j + 1 < es.length
    · obtain ⟨e, hej⟩ : ∃ e, es[j]? = some e := ⟨_, List.getElem?_eq_getElem (by omega)⟩
      obtain ⟨hlt', hej'⟩ := List.getElem?_eq_some_iff.1 hej
      obtain ⟨e2, hej2⟩ : ∃ e, es[j + 1]? = some e := ⟨_, List.getElem?_eq_getElem hlt⟩
      obtain ⟨hlt2, hej2'⟩ := List.getElem?_eq_some_iff.1 hej2
      have hdrop : es.drop j = e :: e2 :: es.drop (j + 1 + 1) := by rw [List.drop_eq_getElem_cons hlt', hej', List.drop_eq_getElem_cons hlt2, hej2']
      have hdrop2 : es.drop (j + 1) = e2 :: es.drop (j + 1 + 1) := by rw [List.drop_eq_getElem_cons hlt2, hej2']
      have hx := HX.out
      rw [hdrop, edGo, ← hdrop2] at hx
      have HX2 := Lib.hid hx
      obtain ⟨-, -, ge3, ge4⟩ := HE.out e (List.mem_of_getElem? hej)
      obtain ⟨b, o, hA, c2⟩ : ∃ b o, A = some ⟨b, o, none⟩ ∧ w.cell? ⟨b, o + j * 2 + 1, none⟩ = some (.int .i64 e.nanos) := by
        rcases HR.out with h | ⟨b, o, h1, h2, h3⟩
        · rw [h] at hlt; simp at hlt
        · exact ⟨b, o, h1, (h3 j e hej).2⟩
      subst hA
      have hb1 := World.block_lt_of_cell? _ _ c2
      have f1 := (hW.out.2.2.cell hb1 (fun h => h)).trans c2
      have f2 := (HK.out.cell (World.block_lt_of_cell? _ _ f1) (fun h => by simp only at hb1 h; omega)).trans f1
      obtain ⟨opn, nanos⟩ := e
      simp only at ge3 ge4 f2
      have hj1 : (j : Int) + 1 < es.length := by omega
      have hE2 : E + nanos ≤ 65000000000 := by omega
      clear hej hej2 hdrop hdrop2 hx c2 f1 hej' hej2' HX
      by_cases hc : E + nanos < cyc
      · have HX3 := HX2.out
        rw [if_pos hc] at HX3
        have HX4 := Lib.hid HX3
        clear HX2 HX3
        have hlen5 : xs.length + 1 ≤ 100 := by omega
        go_wp2_with (at_builtin; refine wpList_app rfl (.tmp 27) (.tmp 29) 123 rfl 2 i0 (.int .i64 0) 1 8 Try.underlying123 hi0 hz0 hz1 hz2 rfl (by decide) (fun k => w.heap.size + 1 ≤ k) (.slice A0 n0 c0) _ _ rfl (HO.out.keeps ((Keeps.refl Nothing _).alloc _) (fun _ _ h => h)) ⟨wr.heap.size, 0, none⟩ 1 1 [.int .i64 (E + nanos)] rfl rfl (lit1 wr _ 2) (lcells_one [E + nanos]) (by decide) ?h63 ?hby ?_)
        case h63 => omega
        case hby => omega
        intro g2 cap2 w3 ho3 hk3
        have HO3 := Lib.hid ho3
        have HK3 : Hid (Keeps (fun k => w.heap.size + 1 ≤ k) w1 w3) := (HK.out.alloc _).trans hk3 (fun k hk _ => hown k hk)
        have hsz := HK.out.size
        have hB1 := hW.out.1.lt
        clear ho3 hk3
        go_wp2_with fail
        go_roundg (gk - 1)
        case measure => omega
        case rel =>
          refine ⟨j + 1, E + nanos, xs ++ [E + nanos], by omega, by go_num, rfl, by omega, by omega, by simp; omega, ?_, ?_, ⟨_, _, _, rfl⟩, HK3.out⟩
          · rw [HX4.out]; simp
          · rw [lcells_append, List.length_append]
            exact HO3.out.mono (fun k hk => by
              rcases hk with h | h
              · exact h
              · have h2 : wr.heap.size + 1 ≤ k := h
                show w.heap.size + 1 ≤ k
                omega)
      · have HX3 := HX2.out
        rw [if_neg hc] at HX3
        have HX4 := Lib.hid HX3
        have hc' : decide (E + nanos < cyc) = false := by simpa using hc
        clear HX2 HX3
        go_wp2_with fail
        go_roundg (gk - 1)
        case measure => omega
        case rel => exact ⟨j + 1, E + nanos, xs, by omega, by go_num, rfl, by omega, by omega, by omega, by rw [HX4.out]; simp, HO.out, ⟨_, _, _, rfl⟩, HK.out⟩
    · have hjl : j + 1 = es.length := by omega
      obtain ⟨e, hej⟩ : ∃ e, es[j]? = some e := ⟨_, List.getElem?_eq_getElem (by omega)⟩
      obtain ⟨hlt', hej'⟩ := List.getElem?_eq_some_iff.1 hej
      have hdrop : es.drop j = [e] := by rw [List.drop_eq_getElem_cons hlt', hej', List.drop_eq_nil_of_le (by omega)]
      have hx := HX.out
      rw [hdrop, edGo, List.append_nil] at hx
      have HX2 := Lib.hid hx
      have hq : ¬ (j : Int) + 1 < es.length := by omega
      have hlen5 : xs.length + 1 ≤ 100 := by omega
      clear hej hdrop hx HX hej'
      go_wp2_with (at_builtin; refine wpList_app rfl (.tmp 31) (.tmp 34) 123 rfl 2 i0 (.int .i64 0) 1 8 Try.underlying123 hi0 hz0 hz1 hz2 rfl (by decide) (fun k => w.heap.size + 1 ≤ k) (.slice A0 n0 c0) _ _ rfl (HO.out.keeps ((Keeps.refl Nothing _).alloc _) (fun _ _ h => h)) ⟨wr.heap.size, 0, none⟩ 1 1 [.int .i64 cyc] rfl rfl (lit1 wr _ 2) (lcells_one [cyc]) (by decide) ?h63 ?hby ?_)
      case h63 => omega
      case hby => omega
      intro g2 cap2 w3 ho3 hk3
      have HO3 := Lib.hid ho3
      have HK3 : Hid (Keeps (fun k => w.heap.size + 1 ≤ k) w1 w3) := (HK.out.alloc _).trans hk3 (fun k hk _ => hown k hk)
      have hsz := HK.out.size
      have hB1 := hW.out.1.lt
      clear ho3 hk3
      go_wp2_with fail
      go_ret
      refine ⟨_, rfl, ?_, hW.out.2.2.up HK3.out (fun k hk => by omega)⟩
      have e1 : (0 : Int) :: (edGo cyc es 0 ++ [cyc]) = xs ++ [cyc] := by rw [← HX2.out]; rfl
      rw [e1, lcells_append]
      exact (HO3.out.mono (fun k hk => by
              rcases hk with h | h
              · exact Nat.le_trans (Nat.le_succ _) h
              · have h2 : wr.heap.size + 1 ≤ k := h
                show w.heap.size ≤ k
                omega)).toF
end

section
open Go.RowKit

theorem own2_at {w : World} {F : Nat → Prop} {v : Value} {xs : List Int} (h : OwnF w F 2 v (lcells xs)) : ∃ A c, v = .slice A xs.length c ∧ ∀ (j : Nat) (x : Int), xs[j]? = some x → ∃ g, A = some ⟨g, 0, none⟩ ∧ w.cell? ⟨g, j, none⟩ = some (.int .i64 x) := by
  rcases h.blk with ⟨rfl, hx⟩ | ⟨g, cap, cur, rfl, -, hb, hc, -, hl, ht⟩
  · have : xs = [] := by cases xs; rfl; cases hx
    subst this
    exact ⟨none, 0, rfl, fun j x hj => by simp at hj⟩
  · refine ⟨_, _, by rw [lcells_len], fun j x hj => ⟨g, rfl, ?_⟩⟩
    have h1 : (lcells xs)[j]? = some (.int .i64 x) := by simp [lcells, hj]
    rw [hb.cell, ← h1, ← ht, List.getElem?_take, if_pos]
    have := (List.getElem?_eq_some_iff.1 hj).1
    rw [lcells_len]
    exact this

theorem edGo_len {cyc : Int} : ∀ (es : List Ent) (a : Int), (edGo cyc es a).length ≤ es.length
  | [], _ => by simp [edGo]
  | [_], _ => by simp [edGo]
  | e :: e' :: rest, a => by
    have := edGo_len (cyc := cyc) (e' :: rest) (a + e.nanos)
    rw [edGo, List.length_append]
    simp only [List.length_cons] at this ⊢
    split <;> simp <;> omega

def FindInv (w : World) (xs : List Int) (into r : Int) (k : Nat) (i : Value) (wr : World) : Prop :=
  ∃ j : Nat, j + k = xs.length ∧ i = .int .i64 (j : Nat) ∧ (xs.drop j).find? (fun x => decide (into < x)) = some r ∧ Keeps Nothing w wr

set_option maxRecDepth 100000 in
set_option maxHeartbeats 4000000 in
theorem rnext_ok {w : World} {base cyc ext : Int} {A : Option Addr} {c : Nat} {es : List Ent} (hr : EntsR w A c es) (hg : Good base cyc ext es) (t : Int) (ht : t ≤ 9000000000000000000) :
    Calls Try.prog 79 #[.agg #[.int .i64 base, .int .i64 cyc, .int .i64 ext, .slice A es.length c], .int .i64 t] w (fun e w' => e = .returned (.int .i64 (gnx base cyc es t)) ∧ Keeps Nothing w w') := by
  have HR := Lib.hid hr
  have HG := Lib.hid hg
  have gb0 := hg.b0
  have gb1 := hg.b1
  have gc0 := hg.c0
  have gc1 := hg.c1
  clear hr hg
  by_cases hlt : t < base
  · have HV : Hid (gnx base cyc es t = base) := if_pos hlt
    go_enter Try.func79, Try.ntmps79
    go_wp2_with fail
    go_ret
    exact ⟨by rw [HV.out]; rfl, (Keeps.refl _ _).alloc _⟩
  · obtain ⟨m0, m1⟩ := tmod_in (a := t - base) (c := cyc) (by omega) gc0
    have he : (t - base).tmod cyc = (t - base) % cyc := Int.tmod_eq_emod_of_nonneg (by omega)
    have hf := find_edge (n := es.length) m1 es 0 0 (by omega) (fun e h => (HG.out.ents e h).2.2.1)
    have hl1 := (atGo_left m0 m1 (n := es.length) es 0 0).1
    have hl2 := atGo_left2 m1 (n := es.length) es 0 0
    have HV : Hid (gnx base cyc es t = t + (atGo es.length cyc ((t - base).tmod cyc) es 0 0).2) := if_neg hlt
    have hf2 : (0 :: (edGo cyc es 0 ++ [cyc])).find? (fun x => decide ((t - base).tmod cyc < x)) = some ((t - base).tmod cyc + (atGo es.length cyc ((t - base).tmod cyc) es 0 0).2) := by
      rw [List.find?_cons, decide_eq_false (by omega)]
      exact hf
    rw [he] at m0 m1 hf2 hl1 hl2 HV
    have HF := Lib.hid hf2
    have hq0 : cyc ≠ 0 := by omega
    have hw1 : IntKind.i64.wrap (t - base) = t - base := by rw [IntKind.wrap_i64]; omega
    have hw2 : IntKind.i64.wrap ((t - base) % cyc) = (t - base) % cyc := by rw [IntKind.wrap_i64]; omega
    clear he hf hf2
    have hW : Hid (Blk (w.alloc (.cells #[.int .i64 base, .int .i64 cyc, .int .i64 ext, .slice A es.length c] 56)) w.heap.size [.int .i64 base, .int .i64 cyc, .int .i64 ext, .slice A es.length c] 56 ∧ Keeps Nothing w (w.alloc (.cells #[.int .i64 base, .int .i64 cyc, .int .i64 ext, .slice A es.length c] 56))) := ⟨Blk.new w _ 56, (Keeps.refl _ _).alloc _⟩
    have C := fun v (hv : Keeps Nothing w v) => edges_ok (HR.out.same hv) HG.out
    obtain ⟨xs, hX⟩ : ∃ xs, xs = 0 :: (edGo cyc es 0 ++ [cyc]) := ⟨_, rfl⟩
    rw [← hX] at HF
    rw [← hX] at C
    have hxl : xs.length ≤ 100 := by
      have h1 := edGo_len (cyc := cyc) es 0
      have h2 := HG.out.len
      rw [hX]
      simp
      omega
    clear hX
    generalize hL : (atGo es.length cyc ((t - base) % cyc) es 0 0).2 = left at *
    go_enter Try.func79, Try.ntmps79
    go_upto_region 4 with fail
    generalize (w.alloc (.cells #[.int .i64 base, .int .i64 cyc, .int .i64 ext, .slice A es.length c] 56)) = w1 at *
    have hB := hW.out.1
    have d0 : w1.cell? ⟨w.heap.size, 0, none⟩ = some (.int .i64 base) := hB.cell 0
    have d1 : w1.cell? ⟨w.heap.size, 1, none⟩ = some (.int .i64 cyc) := hB.cell 1
    have d2 : w1.cell? ⟨w.heap.size, 2, none⟩ = some (.int .i64 ext) := hB.cell 2
    have d3 : w1.cell? ⟨w.heap.size, 3, none⟩ = some (.slice A es.length c) := hB.cell 3
    clear hB
    generalize (t - base) % cyc = into at *
    go_wp2_with (go_at_call 88; refine (C _ hW.out.2).mono ?_; rintro e w2 ⟨v, rfl, ho, hk2⟩; obtain ⟨A2, c2, rfl, hat⟩ := own2_at ho; clear C)
    have HAT := Lib.hid hat
    have HK2 := Lib.hid (hW.out.2.same hk2)
    clear hat hk2 ho d0 d1 d2 d3
    go_loopg [7] xs.length (fun k i wr => FindInv w2 xs into (into + left) k i wr)
    case atStart => exact ⟨0, by omega, rfl, HF.out, Keeps.refl _ _⟩
    case round =>
      obtain ⟨j, hj, rfl, hfd, hk⟩ := hrel
      have HKr := Lib.hid (HK2.out.same hk)
      by_cases hjl : j < xs.length
      · obtain ⟨x, hx⟩ : ∃ x, xs[j]? = some x := ⟨_, List.getElem?_eq_getElem hjl⟩
        obtain ⟨hjl', hx'⟩ := List.getElem?_eq_some_iff.1 hx
        obtain ⟨g, rfl, hc⟩ := HAT.out j x hx
        have f1 := (hk.cell (World.block_lt_of_cell? _ _ hc) (fun h => h)).trans hc
        rw [List.drop_eq_getElem_cons hjl', hx', List.find?_cons] at hfd
        by_cases hix : into < x
        · rw [decide_eq_true hix] at hfd
          have hxe : x = into + left := by injection hfd
          subst hxe
          have hw3 : IntKind.i64.wrap (t - into) = t - into := by rw [IntKind.wrap_i64]; omega
          have hw4 : IntKind.i64.wrap (t - into + (into + left)) = t - into + (into + left) := by rw [IntKind.wrap_i64]; omega
          clear hfd hx hx' hc
          go_wp2_with fail
          go_ret
          exact ⟨by rw [HV.out, show t + left = t - into + (into + left) by omega]; rfl, HKr.out⟩
        · have hix' : decide (into < x) = false := by simpa using hix
          rw [hix'] at hfd
          have HFD := Lib.hid hfd
          have HKK := Lib.hid hk
          clear hfd hx hx' hc hk
          go_wp2_with fail
          go_roundg (gk - 1)
          case measure => omega
          case rel => exact ⟨j + 1, by omega, by go_num, HFD.out, HKK.out⟩
      · rw [List.drop_eq_nil_of_le (by omega)] at hfd
        cases hfd
end

section
open Go.RowKit

def Par.cells (P : Par) : List Value := [.int .i64 P.oper.base, .int .i64 P.oper.cyc, .int .i64 P.oper.ext, .slice P.oper.A P.oper.es.length P.oper.cap, .int .i64 P.admin.base, .int .i64 P.admin.cyc, .int .i64 P.admin.ext, .slice P.admin.A P.admin.es.length P.admin.cap, .bool P.has, .bool P.waits, .int .i64 P.due]

structure ParAt (w : World) (q : Nat) (P : Par) : Prop where
  blk : Blk w q P.cells 96
  oper : P.oper.ok w q
  admin : P.admin.ok w q

theorem ParAt.same {w w' : World} {q : Nat} {P : Par} (h : ParAt w q P) (hk : Keeps Nothing w w') : ParAt w' q P := ⟨h.blk.keeps hk (fun h => h), h.oper.same hk, h.admin.same hk⟩

def Par.passed (P : Par) : Par := { oper := { P.admin with base := P.due }, admin := P.admin, has := true, waits := false, due := P.due }
def Par.pass (P : Par) (now : Int) : Par := if P.waits = true ∧ P.due ≤ now then P.passed else P
def Par.told (P : Par) (l : Lst) (due : Int) : Par := { oper := P.oper, admin := l, has := P.has, waits := true, due := due }

def PPassed (w : World) (q : Nat) (P : Par) (e : Ending) (w' : World) : Prop := e = .returned (.tuple #[]) ∧ ParAt w' q P ∧ Keeps (fun k => k = q) w w'

set_option maxRecDepth 100000 in
set_option maxHeartbeats 4000000 in
theorem ppass_ok {w : World} {q : Nat} {P : Par} (h : ParAt w q P) (now : Int) :
    Calls Try.prog 53 #[.pointer (some ⟨q, 0, none⟩), .int .i64 now] w (PPassed w q (P.pass now)) := by
  obtain ⟨⟨ob, oc, ox, oA, ocap, oes⟩, ⟨ab, ac, ax, aA, acap, aes⟩, has, waits, due⟩ := P
  have HS := Lib.hid h
  have hB : Blk w q [.int .i64 ob, .int .i64 oc, .int .i64 ox, .slice oA oes.length ocap, .int .i64 ab, .int .i64 ac, .int .i64 ax, .slice aA aes.length acap, .bool has, .bool waits, .int .i64 due] 96 := h.blk
  have HB := Lib.hid hB
  have s0 : w.cell? ⟨q, 0, none⟩ = some (.int .i64 ob) := hB.cell 0
  have s1 : w.cell? ⟨q, 1, none⟩ = some (.int .i64 oc) := hB.cell 1
  have s2 : w.cell? ⟨q, 2, none⟩ = some (.int .i64 ox) := hB.cell 2
  have s3 : w.cell? ⟨q, 3, none⟩ = some (.slice oA oes.length ocap) := hB.cell 3
  have s4 : w.cell? ⟨q, 4, none⟩ = some (.int .i64 ab) := hB.cell 4
  have s5 : w.cell? ⟨q, 5, none⟩ = some (.int .i64 ac) := hB.cell 5
  have s6 : w.cell? ⟨q, 6, none⟩ = some (.int .i64 ax) := hB.cell 6
  have s7 : w.cell? ⟨q, 7, none⟩ = some (.slice aA aes.length acap) := hB.cell 7
  have s8 : w.cell? ⟨q, 8, none⟩ = some (.bool has) := hB.cell 8
  have s9 : w.cell? ⟨q, 9, none⟩ = some (.bool waits) := hB.cell 9
  have s10 : w.cell? ⟨q, 10, none⟩ = some (.int .i64 due) := hB.cell 10
  have f0 := hB.frozen 0
  have f1 := hB.frozen 1
  have f2 := hB.frozen 2
  have f3 := hB.frozen 3
  have f4 := hB.frozen 4
  have f5 := hB.frozen 5
  have f6 := hB.frozen 6
  have f7 := hB.frozen 7
  have f8 := hB.frozen 8
  have f9 := hB.frozen 9
  have f10 := hB.frozen 10
  clear h hB
  cases waits
  · have hp : Par.pass ⟨⟨ob, oc, ox, oA, ocap, oes⟩, ⟨ab, ac, ax, aA, acap, aes⟩, has, false, due⟩ now = ⟨⟨ob, oc, ox, oA, ocap, oes⟩, ⟨ab, ac, ax, aA, acap, aes⟩, has, false, due⟩ := if_neg (fun x => by cases x.1)
    rw [hp]
    go_enter Try.func53, Try.ntmps53
    go_wp2_with fail
    go_end0
    exact ⟨rfl, HS.out, Keeps.refl _ _⟩
  · by_cases hd : due ≤ now
    · have hp : Par.pass ⟨⟨ob, oc, ox, oA, ocap, oes⟩, ⟨ab, ac, ax, aA, acap, aes⟩, has, true, due⟩ now = ⟨⟨due, ac, ax, aA, acap, aes⟩, ⟨ab, ac, ax, aA, acap, aes⟩, true, false, due⟩ := if_pos ⟨rfl, hd⟩
      rw [hp]
      go_enter Try.func53, Try.ntmps53
      go_wp2_with fail
      go_end0
      refine ⟨rfl, ⟨(((((((HB.out.set 0 _).set 1 _).set 2 _).set 3 _).set 8 _).set 9 _).set 0 _), ?_, ?_⟩, ?_⟩
      · exact Lst.ok.turn (l := ⟨due, ac, ax, aA, acap, aes⟩) (w := w) HS.out.admin (by exact ((((((((Keeps.refl (fun k => k = q) w).setCell (p := ⟨q, 0, none⟩) (fun _ => rfl) _).setCell (p := ⟨q, 1, none⟩) (fun _ => rfl) _).setCell (p := ⟨q, 2, none⟩) (fun _ => rfl) _).setCell (p := ⟨q, 3, none⟩) (fun _ => rfl) _).setCell (p := ⟨q, 8, none⟩) (fun _ => rfl) _).setCell (p := ⟨q, 9, none⟩) (fun _ => rfl) _).setCell (p := ⟨q, 0, none⟩) (fun _ => rfl) _))
      · exact Lst.ok.turn (l := ⟨ab, ac, ax, aA, acap, aes⟩) (w := w) HS.out.admin (by exact ((((((((Keeps.refl (fun k => k = q) w).setCell (p := ⟨q, 0, none⟩) (fun _ => rfl) _).setCell (p := ⟨q, 1, none⟩) (fun _ => rfl) _).setCell (p := ⟨q, 2, none⟩) (fun _ => rfl) _).setCell (p := ⟨q, 3, none⟩) (fun _ => rfl) _).setCell (p := ⟨q, 8, none⟩) (fun _ => rfl) _).setCell (p := ⟨q, 9, none⟩) (fun _ => rfl) _).setCell (p := ⟨q, 0, none⟩) (fun _ => rfl) _))
      · exact ((((((((Keeps.refl (fun k => k = q) w).setCell (p := ⟨q, 0, none⟩) (fun _ => rfl) _).setCell (p := ⟨q, 1, none⟩) (fun _ => rfl) _).setCell (p := ⟨q, 2, none⟩) (fun _ => rfl) _).setCell (p := ⟨q, 3, none⟩) (fun _ => rfl) _).setCell (p := ⟨q, 8, none⟩) (fun _ => rfl) _).setCell (p := ⟨q, 9, none⟩) (fun _ => rfl) _).setCell (p := ⟨q, 0, none⟩) (fun _ => rfl) _)
    · have hd' : decide (due ≤ now) = false := by simpa using hd
      have hp : Par.pass ⟨⟨ob, oc, ox, oA, ocap, oes⟩, ⟨ab, ac, ax, aA, acap, aes⟩, has, true, due⟩ now = ⟨⟨ob, oc, ox, oA, ocap, oes⟩, ⟨ab, ac, ax, aA, acap, aes⟩, has, true, due⟩ := if_neg (fun x => hd x.2)
      rw [hp]
      go_enter Try.func53, Try.ntmps53
      go_wp2_with fail
      go_end0
      exact ⟨rfl, HS.out, Keeps.refl _ _⟩

set_option maxRecDepth 100000 in
theorem rstart_ok {w : World} {base cyc ext : Int} {v : Value} (hb : 0 ≤ base ∧ base < 4611686018427387904) (hc : 1 ≤ cyc ∧ cyc ≤ 1000000000) (t : Int) (ht : t < 4611686018427387904) :
    Calls Try.prog 56 #[.agg #[.int .i64 base, .int .i64 cyc, .int .i64 ext, v], .int .i64 t] w (fun e w' => e = .returned (.int .i64 (rstart base cyc t)) ∧ Keeps Nothing w w') := by
  by_cases hlt : t ≤ base
  · have HV : Hid (rstart base cyc t = base) := if_pos hlt
    go_enter Try.func56, Try.ntmps56
    go_wp2_with fail
    go_ret
    exact ⟨by rw [HV.out]; rfl, (Keeps.refl _ _).alloc _⟩
  · obtain ⟨m0, m1⟩ := tmod_in (a := t - base) (c := cyc) (by omega) hc.1
    have he : (t - base).tmod cyc = (t - base) % cyc := Int.tmod_eq_emod_of_nonneg (by omega)
    have hq0 : cyc ≠ 0 := by omega
    have hw1 : IntKind.i64.wrap (t - base) = t - base := by rw [IntKind.wrap_i64]; omega
    have HV : Hid (rstart base cyc t = if (t - base) % cyc = 0 then t else t - (t - base) % cyc + cyc) := by
      show _ = _
      unfold rstart
      rw [if_neg hlt, he]
    rw [he] at m0 m1
    have hw2 : IntKind.i64.wrap ((t - base) % cyc) = (t - base) % cyc := by rw [IntKind.wrap_i64]; omega
    have HHE := Lib.hid he
    clear he
    by_cases hz : (t - base) % cyc = 0
    · have HV2 : Hid (rstart base cyc t = t) := HV.out.trans (if_pos hz)
      have hz2 : ((t - base) % cyc == 0) = true := by simpa using hz
      clear HV
      go_enter Try.func56, Try.ntmps56
      go_wp2_with fail
      go_ret
      exact ⟨by rw [HV2.out]; rfl, (Keeps.refl _ _).alloc _⟩
    · have HV2 : Hid (rstart base cyc t = t - (t - base) % cyc + cyc) := HV.out.trans (if_neg hz)
      have hz2 : ((t - base) % cyc == 0) = false := by simpa using hz
      have hw3 : IntKind.i64.wrap (t - (t - base) % cyc) = t - (t - base) % cyc := by rw [IntKind.wrap_i64]; omega
      have hw4 : IntKind.i64.wrap (t - (t - base) % cyc + cyc) = t - (t - base) % cyc + cyc := by rw [IntKind.wrap_i64]; omega
      clear HV
      go_enter Try.func56, Try.ntmps56
      go_wp2_with fail
      go_ret
      exact ⟨by rw [HV2.out]; rfl, (Keeps.refl _ _).alloc _⟩
end

section
open Go.RowKit

structure ParGood (P : Par) : Prop where
  oper : P.has = true → Good P.oper.base P.oper.cyc P.oper.ext P.oper.es
  admin : P.waits = true → Good P.due P.admin.cyc P.admin.ext P.admin.es

theorem tmod_abs {a c : Int} (hc : 1 ≤ c) : -c < a.tmod c ∧ a.tmod c < c := by
  by_cases h : 0 ≤ a
  · obtain ⟨h1, h2⟩ := tmod_in h hc
    omega
  · obtain ⟨h1, h2⟩ := tmod_in (a := -a) (c := c) (by omega) hc
    rw [Int.neg_tmod] at h1 h2
    omega

set_option maxRecDepth 100000 in
set_option maxHeartbeats 4000000 in
theorem longer_ok {w : World} {q : Nat} {P : Par} (h : ParAt w q P) (hg : ParGood P) :
    Calls Try.prog 78 #[.pointer (some ⟨q, 0, none⟩)] w (fun e w' => e = .returned (.int .i64 P.longer) ∧ Keeps Nothing w w') := by
  obtain ⟨⟨ob, oc, ox, oA, ocap, oes⟩, ⟨ab, ac, ax, aA, acap, aes⟩, has, waits, due⟩ := P
  have hB : Blk w q [.int .i64 ob, .int .i64 oc, .int .i64 ox, .slice oA oes.length ocap, .int .i64 ab, .int .i64 ac, .int .i64 ax, .slice aA aes.length acap, .bool has, .bool waits, .int .i64 due] 96 := h.blk
  have HG := Lib.hid hg
  have s0 : w.cell? ⟨q, 0, none⟩ = some (.int .i64 ob) := hB.cell 0
  have s1 : w.cell? ⟨q, 1, none⟩ = some (.int .i64 oc) := hB.cell 1
  have s2 : w.cell? ⟨q, 2, none⟩ = some (.int .i64 ox) := hB.cell 2
  have s3 : w.cell? ⟨q, 3, none⟩ = some (.slice oA oes.length ocap) := hB.cell 3
  have s4 : w.cell? ⟨q, 4, none⟩ = some (.int .i64 ab) := hB.cell 4
  have s5 : w.cell? ⟨q, 5, none⟩ = some (.int .i64 ac) := hB.cell 5
  have s6 : w.cell? ⟨q, 6, none⟩ = some (.int .i64 ax) := hB.cell 6
  have s7 : w.cell? ⟨q, 7, none⟩ = some (.slice aA aes.length acap) := hB.cell 7
  have s8 : w.cell? ⟨q, 8, none⟩ = some (.bool has) := hB.cell 8
  have s9 : w.cell? ⟨q, 9, none⟩ = some (.bool waits) := hB.cell 9
  have s10 : w.cell? ⟨q, 10, none⟩ = some (.int .i64 due) := hB.cell 10
  clear h hB hg
  cases has
  · have HV : Hid (Par.longer (⟨⟨ob, oc, ox, oA, ocap, oes⟩, ⟨ab, ac, ax, aA, acap, aes⟩, false, waits, due⟩ : Par) = -1) := if_neg (fun x => by cases x.1)
    go_enter Try.func78, Try.ntmps78
    go_wp2_with fail
    go_ret
    exact ⟨by rw [HV.out]; rfl, Keeps.refl _ _⟩
  · cases waits
    · have HV : Hid (Par.longer (⟨⟨ob, oc, ox, oA, ocap, oes⟩, ⟨ab, ac, ax, aA, acap, aes⟩, true, false, due⟩ : Par) = -1) := if_neg (fun x => by cases x.2)
      go_enter Try.func78, Try.ntmps78
      go_wp2_with fail
      go_ret
      exact ⟨by rw [HV.out]; rfl, Keeps.refl _ _⟩
    · have hgo := HG.out.oper rfl
      have hga := HG.out.admin rfl
      have gb0 := hgo.b0
      have gb1 := hgo.b1
      have gc0 := hgo.c0
      have gc1 := hgo.c1
      have gx0 := hgo.x0
      have gx1 := hgo.x1
      have gd0 := hga.b0
      have gd1 := hga.b1
      simp only at gb0 gb1 gc0 gc1 gx0 gx1 gd0 gd1
      clear hgo hga
      have HV : Hid (Par.longer (⟨⟨ob, oc, ox, oA, ocap, oes⟩, ⟨ab, ac, ax, aA, acap, aes⟩, true, true, due⟩ : Par) = if (due - ob).tmod oc = 0 ∨ ox < (due - ob).tmod oc ∨ due - (due - ob).tmod oc ≤ ob then -1 else due - (due - ob).tmod oc) := if_pos ⟨rfl, rfl⟩
      obtain ⟨r0, r1⟩ := tmod_abs (a := due - ob) gc0
      have hq0 : oc ≠ 0 := by omega
      have hw1 : IntKind.i64.wrap (due - ob) = due - ob := by rw [IntKind.wrap_i64]; omega
      have hw2 : IntKind.i64.wrap ((due - ob).tmod oc) = (due - ob).tmod oc := by rw [IntKind.wrap_i64]; omega
      go_enter Try.func78, Try.ntmps78
      go_upto_region 3 with fail
      go_quiet (fail)
      go_upto_region 4 with fail
      generalize (due - ob).tmod oc = R at *
      have hw3 : IntKind.i64.wrap (due - R) = due - R := by rw [IntKind.wrap_i64]; omega
      by_cases h1 : R = 0
      · have HV2 := Lib.hid (HV.out.trans (if_pos (.inl h1)))
        have e1 : (R == 0) = true := by simpa using h1
        clear HV h1
        go_wp2_with fail
        go_ret
        exact ⟨by rw [HV2.out]; rfl, (Keeps.refl _ _).drewN _⟩
      · have e1 : (R == 0) = false := by simpa using h1
        by_cases h2 : ox < R
        · have HV2 := Lib.hid (HV.out.trans (if_pos (.inr (.inl h2))))
          clear HV
          go_wp2_with fail
          go_ret
          exact ⟨by rw [HV2.out]; rfl, (Keeps.refl _ _).drewN _⟩
        · have e2 : decide (ox < R) = false := by simpa using h2
          by_cases h3 : due - R ≤ ob
          · have HV2 := Lib.hid (HV.out.trans (if_pos (.inr (.inr h3))))
            clear HV
            go_wp2_with fail
            go_ret
            exact ⟨by rw [HV2.out]; rfl, (Keeps.refl _ _).drewN _⟩
          · have e3 : decide (due - R ≤ ob) = false := by simpa using h3
            have HV2 := Lib.hid (HV.out.trans (if_neg (by omega)))
            clear HV
            go_wp2_with fail
            go_ret
            exact ⟨by rw [HV2.out]; rfl, (Keeps.refl _ _).drewN _⟩

theorem Par.best_0 {P : Par} {t : Int} (h : P.has = false) : P.best t = -1 := by
  unfold Par.best; rw [if_neg (fun x => by rw [h] at x; cases x.1)]
theorem Par.best_1 {P : Par} {t : Int} (h : P.has = true) (h1 : P.longer < 0) : P.best t = gnx P.oper.base P.oper.cyc P.oper.es t := by
  unfold Par.best; rw [if_pos ⟨h, .inl h1⟩, if_neg (fun x => by omega)]
theorem Par.best_2 {P : Par} {t : Int} (h : P.has = true) (h1 : 0 ≤ P.longer) (h2 : t < P.longer) (h3 : P.longer < gnx P.oper.base P.oper.cyc P.oper.es t) : P.best t = P.longer := by
  unfold Par.best; rw [if_pos ⟨h, .inr h2⟩, if_pos ⟨h1, h3⟩]
theorem Par.best_3 {P : Par} {t : Int} (h : P.has = true) (h2 : t < P.longer) (h3 : ¬ P.longer < gnx P.oper.base P.oper.cyc P.oper.es t) : P.best t = gnx P.oper.base P.oper.cyc P.oper.es t := by
  unfold Par.best; rw [if_pos ⟨h, .inr h2⟩, if_neg (fun x => h3 x.2)]
theorem Par.best_4 {P : Par} {t : Int} (h1 : 0 ≤ P.longer) (h2 : ¬ t < P.longer) : P.best t = -1 := by
  unfold Par.best; rw [if_neg (fun x => by rcases x.2 with y | y <;> omega)]

theorem Par.next_of {P : Par} {t : Int} (h : P.waits = true → ¬ P.due ≤ t) : P.next t = if P.waits = true ∧ (P.best t < 0 ∨ P.due < P.best t) then P.due else P.best t := by
  unfold Par.next
  rw [if_neg (fun x => h x.1 x.2)]

set_option maxRecDepth 100000 in
set_option maxHeartbeats 8000000 in
theorem pnext_ok {w : World} {q : Nat} {P : Par} (h : ParAt w q P) (hg : ParGood P) (t : Int) (ht : t ≤ 9000000000000000000) :
    Calls Try.prog 59 #[.pointer (some ⟨q, 0, none⟩), .int .i64 t] w (fun e w' => e = .returned (.int .i64 (P.next t)) ∧ Keeps Nothing w w') := by
  obtain ⟨⟨ob, oc, ox, oA, ocap, oes⟩, ⟨ab, ac, ax, aA, acap, aes⟩, has, waits, due⟩ := P
  have hB : Blk w q [.int .i64 ob, .int .i64 oc, .int .i64 ox, .slice oA oes.length ocap, .int .i64 ab, .int .i64 ac, .int .i64 ax, .slice aA aes.length acap, .bool has, .bool waits, .int .i64 due] 96 := h.blk
  have HS := Lib.hid h
  have HG := Lib.hid hg
  have C63 := fun v (hv : Keeps Nothing w v) => longer_ok (HS.out.same hv) HG.out
  have hql := hB.lt
  have s0 : w.cell? ⟨q, 0, none⟩ = some (.int .i64 ob) := hB.cell 0
  have s1 : w.cell? ⟨q, 1, none⟩ = some (.int .i64 oc) := hB.cell 1
  have s2 : w.cell? ⟨q, 2, none⟩ = some (.int .i64 ox) := hB.cell 2
  have s3 : w.cell? ⟨q, 3, none⟩ = some (.slice oA oes.length ocap) := hB.cell 3
  have s4 : w.cell? ⟨q, 4, none⟩ = some (.int .i64 ab) := hB.cell 4
  have s5 : w.cell? ⟨q, 5, none⟩ = some (.int .i64 ac) := hB.cell 5
  have s6 : w.cell? ⟨q, 6, none⟩ = some (.int .i64 ax) := hB.cell 6
  have s7 : w.cell? ⟨q, 7, none⟩ = some (.slice aA aes.length acap) := hB.cell 7
  have s8 : w.cell? ⟨q, 8, none⟩ = some (.bool has) := hB.cell 8
  have s9 : w.cell? ⟨q, 9, none⟩ = some (.bool waits) := hB.cell 9
  have s10 : w.cell? ⟨q, 10, none⟩ = some (.int .i64 due) := hB.cell 10
  clear h hB hg
  by_cases hwd : waits = true ∧ due ≤ t
  · obtain ⟨hw1, hd⟩ := hwd
    subst hw1
    have HV : Hid (Par.next (⟨⟨ob, oc, ox, oA, ocap, oes⟩, ⟨ab, ac, ax, aA, acap, aes⟩, has, true, due⟩ : Par) t = gnx due ac aes t) := if_pos ⟨rfl, hd⟩
    have C := fun v (hv : Keeps Nothing w v) => rnext_ok (HS.out.admin.1.same hv) (HG.out.admin rfl) t ht
    clear C63
    go_enter Try.func59, Try.ntmps59
    go_wp2_with (go_at_call 79; refine (C _ ((Keeps.refl _ _).alloc _)).mono ?_; rintro e w3 ⟨rfl, hk3⟩; clear C)
    go_ret
    exact ⟨by rw [HV.out]; rfl, ((Keeps.refl _ _).alloc _).same hk3⟩
  · have HWD : Hid (waits = true → ¬ due ≤ t) := fun x y => hwd ⟨x, y⟩
    have HV := Lib.hid (Par.next_of (P := (⟨⟨ob, oc, ox, oA, ocap, oes⟩, ⟨ab, ac, ax, aA, acap, aes⟩, has, waits, due⟩ : Par)) (t := t) HWD.out)
    go_enter Try.func59, Try.ntmps59
    cases waits
    · clear HWD
      cases has
      · have HB : Hid (Par.best (⟨⟨ob, oc, ox, oA, ocap, oes⟩, ⟨ab, ac, ax, aA, acap, aes⟩, false, false, due⟩ : Par) t = -1) := Par.best_0 rfl
        go_wp2_with (first | (go_at_call 78; refine (C63 _ (Keeps.refl _ _)).mono ?_; rintro e w2 ⟨rfl, hk2⟩; clear C63; have hB2 := HS.out.blk.keeps hk2 (fun h => h); have s0 : w2.cell? ⟨q, 0, none⟩ = some (.int .i64 ob) := hB2.cell 0; have s1 : w2.cell? ⟨q, 1, none⟩ = some (.int .i64 oc) := hB2.cell 1; have s2 : w2.cell? ⟨q, 2, none⟩ = some (.int .i64 ox) := hB2.cell 2; have s3 : w2.cell? ⟨q, 3, none⟩ = some (.slice oA oes.length ocap) := hB2.cell 3; have s4 : w2.cell? ⟨q, 4, none⟩ = some (.int .i64 ab) := hB2.cell 4; have s5 : w2.cell? ⟨q, 5, none⟩ = some (.int .i64 ac) := hB2.cell 5; have s6 : w2.cell? ⟨q, 6, none⟩ = some (.int .i64 ax) := hB2.cell 6; have s7 : w2.cell? ⟨q, 7, none⟩ = some (.slice aA aes.length acap) := hB2.cell 7; have s8 : w2.cell? ⟨q, 8, none⟩ = some (.bool false) := hB2.cell 8; have s9 : w2.cell? ⟨q, 9, none⟩ = some (.bool false) := hB2.cell 9; have s10 : w2.cell? ⟨q, 10, none⟩ = some (.int .i64 due) := hB2.cell 10; clear hB2) | (go_at_call 79; refine (C _ hk2).mono ?_; rintro e w3 ⟨rfl, hk3⟩; clear C; have hB3 := HS.out.blk.keeps (hk2.same hk3) (fun h => h); skip; clear hB3))
        go_ret
        exact ⟨by rw [HV.out, HB.out, if_neg (fun x => by cases x.1)]; rfl, hk2⟩
      · have hgo := HG.out.oper rfl
        have hge := gnx_ge (base := ob) (cyc := oc) (es := oes) (t := t) hgo.b0 hgo.c0
        have C := fun v (hv : Keeps Nothing w v) => rnext_ok (HS.out.oper.1.same hv) hgo t ht
        have hb1 := fun h1 => Par.best_1 (P := (⟨⟨ob, oc, ox, oA, ocap, oes⟩, ⟨ab, ac, ax, aA, acap, aes⟩, true, false, due⟩ : Par)) (t := t) rfl h1
        have hb2 := fun h1 h2 h3 => Par.best_2 (P := (⟨⟨ob, oc, ox, oA, ocap, oes⟩, ⟨ab, ac, ax, aA, acap, aes⟩, true, false, due⟩ : Par)) (t := t) rfl h1 h2 h3
        have hb3 := fun h2 h3 => Par.best_3 (P := (⟨⟨ob, oc, ox, oA, ocap, oes⟩, ⟨ab, ac, ax, aA, acap, aes⟩, true, false, due⟩ : Par)) (t := t) rfl h2 h3
        have hb4 := fun h1 h2 => Par.best_4 (P := (⟨⟨ob, oc, ox, oA, ocap, oes⟩, ⟨ab, ac, ax, aA, acap, aes⟩, true, false, due⟩ : Par)) (t := t) h1 h2
        have H1 := Lib.hid hb1
        have H2 := Lib.hid hb2
        have H3 := Lib.hid hb3
        have H4 := Lib.hid hb4
        clear hb1 hb2 hb3 hb4 hgo
        generalize Par.longer (⟨⟨ob, oc, ox, oA, ocap, oes⟩, ⟨ab, ac, ax, aA, acap, aes⟩, true, false, due⟩ : Par) = L at *
        generalize gnx ob oc oes t = N at *
        by_cases hL : L < 0
        · have hL' : decide (0 ≤ L) = false := by simp; omega
          have HB := Lib.hid (H1.out hL)
          clear H1 H2 H3 H4
          go_wp2_with (first | (go_at_call 78; refine (C63 _ (Keeps.refl _ _)).mono ?_; rintro e w2 ⟨rfl, hk2⟩; clear C63; have hB2 := HS.out.blk.keeps hk2 (fun h => h); have s0 : w2.cell? ⟨q, 0, none⟩ = some (.int .i64 ob) := hB2.cell 0; have s1 : w2.cell? ⟨q, 1, none⟩ = some (.int .i64 oc) := hB2.cell 1; have s2 : w2.cell? ⟨q, 2, none⟩ = some (.int .i64 ox) := hB2.cell 2; have s3 : w2.cell? ⟨q, 3, none⟩ = some (.slice oA oes.length ocap) := hB2.cell 3; have s4 : w2.cell? ⟨q, 4, none⟩ = some (.int .i64 ab) := hB2.cell 4; have s5 : w2.cell? ⟨q, 5, none⟩ = some (.int .i64 ac) := hB2.cell 5; have s6 : w2.cell? ⟨q, 6, none⟩ = some (.int .i64 ax) := hB2.cell 6; have s7 : w2.cell? ⟨q, 7, none⟩ = some (.slice aA aes.length acap) := hB2.cell 7; have s8 : w2.cell? ⟨q, 8, none⟩ = some (.bool true) := hB2.cell 8; have s9 : w2.cell? ⟨q, 9, none⟩ = some (.bool false) := hB2.cell 9; have s10 : w2.cell? ⟨q, 10, none⟩ = some (.int .i64 due) := hB2.cell 10; clear hB2) | (go_at_call 79; refine (C _ hk2).mono ?_; rintro e w3 ⟨rfl, hk3⟩; clear C; have hB3 := HS.out.blk.keeps (hk2.same hk3) (fun h => h); have s0 : w3.cell? ⟨q, 0, none⟩ = some (.int .i64 ob) := hB3.cell 0; have s1 : w3.cell? ⟨q, 1, none⟩ = some (.int .i64 oc) := hB3.cell 1; have s2 : w3.cell? ⟨q, 2, none⟩ = some (.int .i64 ox) := hB3.cell 2; have s3 : w3.cell? ⟨q, 3, none⟩ = some (.slice oA oes.length ocap) := hB3.cell 3; have s4 : w3.cell? ⟨q, 4, none⟩ = some (.int .i64 ab) := hB3.cell 4; have s5 : w3.cell? ⟨q, 5, none⟩ = some (.int .i64 ac) := hB3.cell 5; have s6 : w3.cell? ⟨q, 6, none⟩ = some (.int .i64 ax) := hB3.cell 6; have s7 : w3.cell? ⟨q, 7, none⟩ = some (.slice aA aes.length acap) := hB3.cell 7; have s8 : w3.cell? ⟨q, 8, none⟩ = some (.bool true) := hB3.cell 8; have s9 : w3.cell? ⟨q, 9, none⟩ = some (.bool false) := hB3.cell 9; have s10 : w3.cell? ⟨q, 10, none⟩ = some (.int .i64 due) := hB3.cell 10; clear hB3))
          go_ret
          exact ⟨by rw [HV.out, HB.out, if_neg (fun x => by cases x.1)]; rfl, hk2.same hk3⟩
        · have hL' : decide (L < 0) = false := by simp; omega
          have hL0 : 0 ≤ L := by omega
          by_cases h5 : t < L
          · by_cases h6 : L < N
            · have HB := Lib.hid (H2.out hL0 h5 h6)
              clear H1 H2 H3 H4
              go_wp2_with (first | (go_at_call 78; refine (C63 _ (Keeps.refl _ _)).mono ?_; rintro e w2 ⟨rfl, hk2⟩; clear C63; have hB2 := HS.out.blk.keeps hk2 (fun h => h); have s0 : w2.cell? ⟨q, 0, none⟩ = some (.int .i64 ob) := hB2.cell 0; have s1 : w2.cell? ⟨q, 1, none⟩ = some (.int .i64 oc) := hB2.cell 1; have s2 : w2.cell? ⟨q, 2, none⟩ = some (.int .i64 ox) := hB2.cell 2; have s3 : w2.cell? ⟨q, 3, none⟩ = some (.slice oA oes.length ocap) := hB2.cell 3; have s4 : w2.cell? ⟨q, 4, none⟩ = some (.int .i64 ab) := hB2.cell 4; have s5 : w2.cell? ⟨q, 5, none⟩ = some (.int .i64 ac) := hB2.cell 5; have s6 : w2.cell? ⟨q, 6, none⟩ = some (.int .i64 ax) := hB2.cell 6; have s7 : w2.cell? ⟨q, 7, none⟩ = some (.slice aA aes.length acap) := hB2.cell 7; have s8 : w2.cell? ⟨q, 8, none⟩ = some (.bool true) := hB2.cell 8; have s9 : w2.cell? ⟨q, 9, none⟩ = some (.bool false) := hB2.cell 9; have s10 : w2.cell? ⟨q, 10, none⟩ = some (.int .i64 due) := hB2.cell 10; clear hB2) | (go_at_call 79; refine (C _ hk2).mono ?_; rintro e w3 ⟨rfl, hk3⟩; clear C; have hB3 := HS.out.blk.keeps (hk2.same hk3) (fun h => h); have s0 : w3.cell? ⟨q, 0, none⟩ = some (.int .i64 ob) := hB3.cell 0; have s1 : w3.cell? ⟨q, 1, none⟩ = some (.int .i64 oc) := hB3.cell 1; have s2 : w3.cell? ⟨q, 2, none⟩ = some (.int .i64 ox) := hB3.cell 2; have s3 : w3.cell? ⟨q, 3, none⟩ = some (.slice oA oes.length ocap) := hB3.cell 3; have s4 : w3.cell? ⟨q, 4, none⟩ = some (.int .i64 ab) := hB3.cell 4; have s5 : w3.cell? ⟨q, 5, none⟩ = some (.int .i64 ac) := hB3.cell 5; have s6 : w3.cell? ⟨q, 6, none⟩ = some (.int .i64 ax) := hB3.cell 6; have s7 : w3.cell? ⟨q, 7, none⟩ = some (.slice aA aes.length acap) := hB3.cell 7; have s8 : w3.cell? ⟨q, 8, none⟩ = some (.bool true) := hB3.cell 8; have s9 : w3.cell? ⟨q, 9, none⟩ = some (.bool false) := hB3.cell 9; have s10 : w3.cell? ⟨q, 10, none⟩ = some (.int .i64 due) := hB3.cell 10; clear hB3))
              go_ret
              exact ⟨by rw [HV.out, HB.out, if_neg (fun x => by cases x.1)]; rfl, hk2.same hk3⟩
            · have h6' : decide (L < N) = false := by simp; omega
              have HB := Lib.hid (H3.out h5 (by omega))
              clear H1 H2 H3 H4
              go_wp2_with (first | (go_at_call 78; refine (C63 _ (Keeps.refl _ _)).mono ?_; rintro e w2 ⟨rfl, hk2⟩; clear C63; have hB2 := HS.out.blk.keeps hk2 (fun h => h); have s0 : w2.cell? ⟨q, 0, none⟩ = some (.int .i64 ob) := hB2.cell 0; have s1 : w2.cell? ⟨q, 1, none⟩ = some (.int .i64 oc) := hB2.cell 1; have s2 : w2.cell? ⟨q, 2, none⟩ = some (.int .i64 ox) := hB2.cell 2; have s3 : w2.cell? ⟨q, 3, none⟩ = some (.slice oA oes.length ocap) := hB2.cell 3; have s4 : w2.cell? ⟨q, 4, none⟩ = some (.int .i64 ab) := hB2.cell 4; have s5 : w2.cell? ⟨q, 5, none⟩ = some (.int .i64 ac) := hB2.cell 5; have s6 : w2.cell? ⟨q, 6, none⟩ = some (.int .i64 ax) := hB2.cell 6; have s7 : w2.cell? ⟨q, 7, none⟩ = some (.slice aA aes.length acap) := hB2.cell 7; have s8 : w2.cell? ⟨q, 8, none⟩ = some (.bool true) := hB2.cell 8; have s9 : w2.cell? ⟨q, 9, none⟩ = some (.bool false) := hB2.cell 9; have s10 : w2.cell? ⟨q, 10, none⟩ = some (.int .i64 due) := hB2.cell 10; clear hB2) | (go_at_call 79; refine (C _ hk2).mono ?_; rintro e w3 ⟨rfl, hk3⟩; clear C; have hB3 := HS.out.blk.keeps (hk2.same hk3) (fun h => h); have s0 : w3.cell? ⟨q, 0, none⟩ = some (.int .i64 ob) := hB3.cell 0; have s1 : w3.cell? ⟨q, 1, none⟩ = some (.int .i64 oc) := hB3.cell 1; have s2 : w3.cell? ⟨q, 2, none⟩ = some (.int .i64 ox) := hB3.cell 2; have s3 : w3.cell? ⟨q, 3, none⟩ = some (.slice oA oes.length ocap) := hB3.cell 3; have s4 : w3.cell? ⟨q, 4, none⟩ = some (.int .i64 ab) := hB3.cell 4; have s5 : w3.cell? ⟨q, 5, none⟩ = some (.int .i64 ac) := hB3.cell 5; have s6 : w3.cell? ⟨q, 6, none⟩ = some (.int .i64 ax) := hB3.cell 6; have s7 : w3.cell? ⟨q, 7, none⟩ = some (.slice aA aes.length acap) := hB3.cell 7; have s8 : w3.cell? ⟨q, 8, none⟩ = some (.bool true) := hB3.cell 8; have s9 : w3.cell? ⟨q, 9, none⟩ = some (.bool false) := hB3.cell 9; have s10 : w3.cell? ⟨q, 10, none⟩ = some (.int .i64 due) := hB3.cell 10; clear hB3))
              go_ret
              exact ⟨by rw [HV.out, HB.out, if_neg (fun x => by cases x.1)]; rfl, hk2.same hk3⟩
          · have h5' : decide (t < L) = false := by simp; omega
            have HB := Lib.hid (H4.out hL0 (by omega))
            clear H1 H2 H3 H4
            go_wp2_with (first | (go_at_call 78; refine (C63 _ (Keeps.refl _ _)).mono ?_; rintro e w2 ⟨rfl, hk2⟩; clear C63; have hB2 := HS.out.blk.keeps hk2 (fun h => h); have s0 : w2.cell? ⟨q, 0, none⟩ = some (.int .i64 ob) := hB2.cell 0; have s1 : w2.cell? ⟨q, 1, none⟩ = some (.int .i64 oc) := hB2.cell 1; have s2 : w2.cell? ⟨q, 2, none⟩ = some (.int .i64 ox) := hB2.cell 2; have s3 : w2.cell? ⟨q, 3, none⟩ = some (.slice oA oes.length ocap) := hB2.cell 3; have s4 : w2.cell? ⟨q, 4, none⟩ = some (.int .i64 ab) := hB2.cell 4; have s5 : w2.cell? ⟨q, 5, none⟩ = some (.int .i64 ac) := hB2.cell 5; have s6 : w2.cell? ⟨q, 6, none⟩ = some (.int .i64 ax) := hB2.cell 6; have s7 : w2.cell? ⟨q, 7, none⟩ = some (.slice aA aes.length acap) := hB2.cell 7; have s8 : w2.cell? ⟨q, 8, none⟩ = some (.bool true) := hB2.cell 8; have s9 : w2.cell? ⟨q, 9, none⟩ = some (.bool false) := hB2.cell 9; have s10 : w2.cell? ⟨q, 10, none⟩ = some (.int .i64 due) := hB2.cell 10; clear hB2) | (go_at_call 79; refine (C _ hk2).mono ?_; rintro e w3 ⟨rfl, hk3⟩; clear C; have hB3 := HS.out.blk.keeps (hk2.same hk3) (fun h => h); skip; clear hB3))
            go_ret
            exact ⟨by rw [HV.out, HB.out, if_neg (fun x => by cases x.1)]; rfl, hk2⟩
    · have hd' : decide (due ≤ t) = false := by simpa using HWD.out rfl
      have gd0 : 0 ≤ due := (HG.out.admin rfl).b0
      clear HWD
      cases has
      · have HB : Hid (Par.best (⟨⟨ob, oc, ox, oA, ocap, oes⟩, ⟨ab, ac, ax, aA, acap, aes⟩, false, true, due⟩ : Par) t = -1) := Par.best_0 rfl
        go_wp2_with (first | (go_at_call 78; refine (C63 _ (Keeps.refl _ _)).mono ?_; rintro e w2 ⟨rfl, hk2⟩; clear C63; have hB2 := HS.out.blk.keeps hk2 (fun h => h); have s0 : w2.cell? ⟨q, 0, none⟩ = some (.int .i64 ob) := hB2.cell 0; have s1 : w2.cell? ⟨q, 1, none⟩ = some (.int .i64 oc) := hB2.cell 1; have s2 : w2.cell? ⟨q, 2, none⟩ = some (.int .i64 ox) := hB2.cell 2; have s3 : w2.cell? ⟨q, 3, none⟩ = some (.slice oA oes.length ocap) := hB2.cell 3; have s4 : w2.cell? ⟨q, 4, none⟩ = some (.int .i64 ab) := hB2.cell 4; have s5 : w2.cell? ⟨q, 5, none⟩ = some (.int .i64 ac) := hB2.cell 5; have s6 : w2.cell? ⟨q, 6, none⟩ = some (.int .i64 ax) := hB2.cell 6; have s7 : w2.cell? ⟨q, 7, none⟩ = some (.slice aA aes.length acap) := hB2.cell 7; have s8 : w2.cell? ⟨q, 8, none⟩ = some (.bool false) := hB2.cell 8; have s9 : w2.cell? ⟨q, 9, none⟩ = some (.bool true) := hB2.cell 9; have s10 : w2.cell? ⟨q, 10, none⟩ = some (.int .i64 due) := hB2.cell 10; clear hB2) | (go_at_call 79; refine (C _ hk2).mono ?_; rintro e w3 ⟨rfl, hk3⟩; clear C; have hB3 := HS.out.blk.keeps (hk2.same hk3) (fun h => h); skip; clear hB3))
        go_ret
        exact ⟨by rw [HV.out, HB.out, if_pos (by first | exact ⟨rfl, .inl (by decide)⟩ | exact ⟨trivial, .inl (by decide)⟩)]; rfl, hk2⟩
      · have hgo := HG.out.oper rfl
        have hge := gnx_ge (base := ob) (cyc := oc) (es := oes) (t := t) hgo.b0 hgo.c0
        have C := fun v (hv : Keeps Nothing w v) => rnext_ok (HS.out.oper.1.same hv) hgo t ht
        have hb1 := fun h1 => Par.best_1 (P := (⟨⟨ob, oc, ox, oA, ocap, oes⟩, ⟨ab, ac, ax, aA, acap, aes⟩, true, true, due⟩ : Par)) (t := t) rfl h1
        have hb2 := fun h1 h2 h3 => Par.best_2 (P := (⟨⟨ob, oc, ox, oA, ocap, oes⟩, ⟨ab, ac, ax, aA, acap, aes⟩, true, true, due⟩ : Par)) (t := t) rfl h1 h2 h3
        have hb3 := fun h2 h3 => Par.best_3 (P := (⟨⟨ob, oc, ox, oA, ocap, oes⟩, ⟨ab, ac, ax, aA, acap, aes⟩, true, true, due⟩ : Par)) (t := t) rfl h2 h3
        have hb4 := fun h1 h2 => Par.best_4 (P := (⟨⟨ob, oc, ox, oA, ocap, oes⟩, ⟨ab, ac, ax, aA, acap, aes⟩, true, true, due⟩ : Par)) (t := t) h1 h2
        have H1 := Lib.hid hb1
        have H2 := Lib.hid hb2
        have H3 := Lib.hid hb3
        have H4 := Lib.hid hb4
        clear hb1 hb2 hb3 hb4 hgo
        generalize Par.longer (⟨⟨ob, oc, ox, oA, ocap, oes⟩, ⟨ab, ac, ax, aA, acap, aes⟩, true, true, due⟩ : Par) = L at *
        generalize gnx ob oc oes t = N at *
        by_cases hL : L < 0
        · have hL' : decide (0 ≤ L) = false := by simp; omega
          have HB := Lib.hid (H1.out hL)
          clear H1 H2 H3 H4
          by_cases h9 : due < N
          · go_wp2_with (first | (go_at_call 78; refine (C63 _ (Keeps.refl _ _)).mono ?_; rintro e w2 ⟨rfl, hk2⟩; clear C63; have hB2 := HS.out.blk.keeps hk2 (fun h => h); have s0 : w2.cell? ⟨q, 0, none⟩ = some (.int .i64 ob) := hB2.cell 0; have s1 : w2.cell? ⟨q, 1, none⟩ = some (.int .i64 oc) := hB2.cell 1; have s2 : w2.cell? ⟨q, 2, none⟩ = some (.int .i64 ox) := hB2.cell 2; have s3 : w2.cell? ⟨q, 3, none⟩ = some (.slice oA oes.length ocap) := hB2.cell 3; have s4 : w2.cell? ⟨q, 4, none⟩ = some (.int .i64 ab) := hB2.cell 4; have s5 : w2.cell? ⟨q, 5, none⟩ = some (.int .i64 ac) := hB2.cell 5; have s6 : w2.cell? ⟨q, 6, none⟩ = some (.int .i64 ax) := hB2.cell 6; have s7 : w2.cell? ⟨q, 7, none⟩ = some (.slice aA aes.length acap) := hB2.cell 7; have s8 : w2.cell? ⟨q, 8, none⟩ = some (.bool true) := hB2.cell 8; have s9 : w2.cell? ⟨q, 9, none⟩ = some (.bool true) := hB2.cell 9; have s10 : w2.cell? ⟨q, 10, none⟩ = some (.int .i64 due) := hB2.cell 10; clear hB2) | (go_at_call 79; refine (C _ hk2).mono ?_; rintro e w3 ⟨rfl, hk3⟩; clear C; have hB3 := HS.out.blk.keeps (hk2.same hk3) (fun h => h); have s0 : w3.cell? ⟨q, 0, none⟩ = some (.int .i64 ob) := hB3.cell 0; have s1 : w3.cell? ⟨q, 1, none⟩ = some (.int .i64 oc) := hB3.cell 1; have s2 : w3.cell? ⟨q, 2, none⟩ = some (.int .i64 ox) := hB3.cell 2; have s3 : w3.cell? ⟨q, 3, none⟩ = some (.slice oA oes.length ocap) := hB3.cell 3; have s4 : w3.cell? ⟨q, 4, none⟩ = some (.int .i64 ab) := hB3.cell 4; have s5 : w3.cell? ⟨q, 5, none⟩ = some (.int .i64 ac) := hB3.cell 5; have s6 : w3.cell? ⟨q, 6, none⟩ = some (.int .i64 ax) := hB3.cell 6; have s7 : w3.cell? ⟨q, 7, none⟩ = some (.slice aA aes.length acap) := hB3.cell 7; have s8 : w3.cell? ⟨q, 8, none⟩ = some (.bool true) := hB3.cell 8; have s9 : w3.cell? ⟨q, 9, none⟩ = some (.bool true) := hB3.cell 9; have s10 : w3.cell? ⟨q, 10, none⟩ = some (.int .i64 due) := hB3.cell 10; clear hB3))
            go_ret
            exact ⟨by rw [HV.out, HB.out, if_pos (by first | exact ⟨rfl, .inr h9⟩ | exact ⟨trivial, .inr h9⟩)]; rfl, hk2.same hk3⟩
          · have h9' : decide (due < N) = false := by simpa using h9
            have h9n : decide (N < 0) = false := by simp; omega
            go_wp2_with (first | (go_at_call 78; refine (C63 _ (Keeps.refl _ _)).mono ?_; rintro e w2 ⟨rfl, hk2⟩; clear C63; have hB2 := HS.out.blk.keeps hk2 (fun h => h); have s0 : w2.cell? ⟨q, 0, none⟩ = some (.int .i64 ob) := hB2.cell 0; have s1 : w2.cell? ⟨q, 1, none⟩ = some (.int .i64 oc) := hB2.cell 1; have s2 : w2.cell? ⟨q, 2, none⟩ = some (.int .i64 ox) := hB2.cell 2; have s3 : w2.cell? ⟨q, 3, none⟩ = some (.slice oA oes.length ocap) := hB2.cell 3; have s4 : w2.cell? ⟨q, 4, none⟩ = some (.int .i64 ab) := hB2.cell 4; have s5 : w2.cell? ⟨q, 5, none⟩ = some (.int .i64 ac) := hB2.cell 5; have s6 : w2.cell? ⟨q, 6, none⟩ = some (.int .i64 ax) := hB2.cell 6; have s7 : w2.cell? ⟨q, 7, none⟩ = some (.slice aA aes.length acap) := hB2.cell 7; have s8 : w2.cell? ⟨q, 8, none⟩ = some (.bool true) := hB2.cell 8; have s9 : w2.cell? ⟨q, 9, none⟩ = some (.bool true) := hB2.cell 9; have s10 : w2.cell? ⟨q, 10, none⟩ = some (.int .i64 due) := hB2.cell 10; clear hB2) | (go_at_call 79; refine (C _ hk2).mono ?_; rintro e w3 ⟨rfl, hk3⟩; clear C; have hB3 := HS.out.blk.keeps (hk2.same hk3) (fun h => h); have s0 : w3.cell? ⟨q, 0, none⟩ = some (.int .i64 ob) := hB3.cell 0; have s1 : w3.cell? ⟨q, 1, none⟩ = some (.int .i64 oc) := hB3.cell 1; have s2 : w3.cell? ⟨q, 2, none⟩ = some (.int .i64 ox) := hB3.cell 2; have s3 : w3.cell? ⟨q, 3, none⟩ = some (.slice oA oes.length ocap) := hB3.cell 3; have s4 : w3.cell? ⟨q, 4, none⟩ = some (.int .i64 ab) := hB3.cell 4; have s5 : w3.cell? ⟨q, 5, none⟩ = some (.int .i64 ac) := hB3.cell 5; have s6 : w3.cell? ⟨q, 6, none⟩ = some (.int .i64 ax) := hB3.cell 6; have s7 : w3.cell? ⟨q, 7, none⟩ = some (.slice aA aes.length acap) := hB3.cell 7; have s8 : w3.cell? ⟨q, 8, none⟩ = some (.bool true) := hB3.cell 8; have s9 : w3.cell? ⟨q, 9, none⟩ = some (.bool true) := hB3.cell 9; have s10 : w3.cell? ⟨q, 10, none⟩ = some (.int .i64 due) := hB3.cell 10; clear hB3))
            go_ret
            exact ⟨by rw [HV.out, HB.out, if_neg (by rintro ⟨-, x⟩; (try simp only at x); omega)]; rfl, hk2.same hk3⟩
        · have hL' : decide (L < 0) = false := by simp; omega
          have hL0 : 0 ≤ L := by omega
          by_cases h5 : t < L
          · by_cases h6 : L < N
            · have HB := Lib.hid (H2.out hL0 h5 h6)
              clear H1 H2 H3 H4
              by_cases h9 : due < L
              · go_wp2_with (first | (go_at_call 78; refine (C63 _ (Keeps.refl _ _)).mono ?_; rintro e w2 ⟨rfl, hk2⟩; clear C63; have hB2 := HS.out.blk.keeps hk2 (fun h => h); have s0 : w2.cell? ⟨q, 0, none⟩ = some (.int .i64 ob) := hB2.cell 0; have s1 : w2.cell? ⟨q, 1, none⟩ = some (.int .i64 oc) := hB2.cell 1; have s2 : w2.cell? ⟨q, 2, none⟩ = some (.int .i64 ox) := hB2.cell 2; have s3 : w2.cell? ⟨q, 3, none⟩ = some (.slice oA oes.length ocap) := hB2.cell 3; have s4 : w2.cell? ⟨q, 4, none⟩ = some (.int .i64 ab) := hB2.cell 4; have s5 : w2.cell? ⟨q, 5, none⟩ = some (.int .i64 ac) := hB2.cell 5; have s6 : w2.cell? ⟨q, 6, none⟩ = some (.int .i64 ax) := hB2.cell 6; have s7 : w2.cell? ⟨q, 7, none⟩ = some (.slice aA aes.length acap) := hB2.cell 7; have s8 : w2.cell? ⟨q, 8, none⟩ = some (.bool true) := hB2.cell 8; have s9 : w2.cell? ⟨q, 9, none⟩ = some (.bool true) := hB2.cell 9; have s10 : w2.cell? ⟨q, 10, none⟩ = some (.int .i64 due) := hB2.cell 10; clear hB2) | (go_at_call 79; refine (C _ hk2).mono ?_; rintro e w3 ⟨rfl, hk3⟩; clear C; have hB3 := HS.out.blk.keeps (hk2.same hk3) (fun h => h); have s0 : w3.cell? ⟨q, 0, none⟩ = some (.int .i64 ob) := hB3.cell 0; have s1 : w3.cell? ⟨q, 1, none⟩ = some (.int .i64 oc) := hB3.cell 1; have s2 : w3.cell? ⟨q, 2, none⟩ = some (.int .i64 ox) := hB3.cell 2; have s3 : w3.cell? ⟨q, 3, none⟩ = some (.slice oA oes.length ocap) := hB3.cell 3; have s4 : w3.cell? ⟨q, 4, none⟩ = some (.int .i64 ab) := hB3.cell 4; have s5 : w3.cell? ⟨q, 5, none⟩ = some (.int .i64 ac) := hB3.cell 5; have s6 : w3.cell? ⟨q, 6, none⟩ = some (.int .i64 ax) := hB3.cell 6; have s7 : w3.cell? ⟨q, 7, none⟩ = some (.slice aA aes.length acap) := hB3.cell 7; have s8 : w3.cell? ⟨q, 8, none⟩ = some (.bool true) := hB3.cell 8; have s9 : w3.cell? ⟨q, 9, none⟩ = some (.bool true) := hB3.cell 9; have s10 : w3.cell? ⟨q, 10, none⟩ = some (.int .i64 due) := hB3.cell 10; clear hB3))
                go_ret
                exact ⟨by rw [HV.out, HB.out, if_pos (by first | exact ⟨rfl, .inr h9⟩ | exact ⟨trivial, .inr h9⟩)]; rfl, hk2.same hk3⟩
              · have h9' : decide (due < L) = false := by simpa using h9
                have h9n : decide (L < 0) = false := by simp; omega
                go_wp2_with (first | (go_at_call 78; refine (C63 _ (Keeps.refl _ _)).mono ?_; rintro e w2 ⟨rfl, hk2⟩; clear C63; have hB2 := HS.out.blk.keeps hk2 (fun h => h); have s0 : w2.cell? ⟨q, 0, none⟩ = some (.int .i64 ob) := hB2.cell 0; have s1 : w2.cell? ⟨q, 1, none⟩ = some (.int .i64 oc) := hB2.cell 1; have s2 : w2.cell? ⟨q, 2, none⟩ = some (.int .i64 ox) := hB2.cell 2; have s3 : w2.cell? ⟨q, 3, none⟩ = some (.slice oA oes.length ocap) := hB2.cell 3; have s4 : w2.cell? ⟨q, 4, none⟩ = some (.int .i64 ab) := hB2.cell 4; have s5 : w2.cell? ⟨q, 5, none⟩ = some (.int .i64 ac) := hB2.cell 5; have s6 : w2.cell? ⟨q, 6, none⟩ = some (.int .i64 ax) := hB2.cell 6; have s7 : w2.cell? ⟨q, 7, none⟩ = some (.slice aA aes.length acap) := hB2.cell 7; have s8 : w2.cell? ⟨q, 8, none⟩ = some (.bool true) := hB2.cell 8; have s9 : w2.cell? ⟨q, 9, none⟩ = some (.bool true) := hB2.cell 9; have s10 : w2.cell? ⟨q, 10, none⟩ = some (.int .i64 due) := hB2.cell 10; clear hB2) | (go_at_call 79; refine (C _ hk2).mono ?_; rintro e w3 ⟨rfl, hk3⟩; clear C; have hB3 := HS.out.blk.keeps (hk2.same hk3) (fun h => h); have s0 : w3.cell? ⟨q, 0, none⟩ = some (.int .i64 ob) := hB3.cell 0; have s1 : w3.cell? ⟨q, 1, none⟩ = some (.int .i64 oc) := hB3.cell 1; have s2 : w3.cell? ⟨q, 2, none⟩ = some (.int .i64 ox) := hB3.cell 2; have s3 : w3.cell? ⟨q, 3, none⟩ = some (.slice oA oes.length ocap) := hB3.cell 3; have s4 : w3.cell? ⟨q, 4, none⟩ = some (.int .i64 ab) := hB3.cell 4; have s5 : w3.cell? ⟨q, 5, none⟩ = some (.int .i64 ac) := hB3.cell 5; have s6 : w3.cell? ⟨q, 6, none⟩ = some (.int .i64 ax) := hB3.cell 6; have s7 : w3.cell? ⟨q, 7, none⟩ = some (.slice aA aes.length acap) := hB3.cell 7; have s8 : w3.cell? ⟨q, 8, none⟩ = some (.bool true) := hB3.cell 8; have s9 : w3.cell? ⟨q, 9, none⟩ = some (.bool true) := hB3.cell 9; have s10 : w3.cell? ⟨q, 10, none⟩ = some (.int .i64 due) := hB3.cell 10; clear hB3))
                go_ret
                exact ⟨by rw [HV.out, HB.out, if_neg (by rintro ⟨-, x⟩; (try simp only at x); omega)]; rfl, hk2.same hk3⟩
            · have h6' : decide (L < N) = false := by simp; omega
              have HB := Lib.hid (H3.out h5 (by omega))
              clear H1 H2 H3 H4
              by_cases h9 : due < N
              · go_wp2_with (first | (go_at_call 78; refine (C63 _ (Keeps.refl _ _)).mono ?_; rintro e w2 ⟨rfl, hk2⟩; clear C63; have hB2 := HS.out.blk.keeps hk2 (fun h => h); have s0 : w2.cell? ⟨q, 0, none⟩ = some (.int .i64 ob) := hB2.cell 0; have s1 : w2.cell? ⟨q, 1, none⟩ = some (.int .i64 oc) := hB2.cell 1; have s2 : w2.cell? ⟨q, 2, none⟩ = some (.int .i64 ox) := hB2.cell 2; have s3 : w2.cell? ⟨q, 3, none⟩ = some (.slice oA oes.length ocap) := hB2.cell 3; have s4 : w2.cell? ⟨q, 4, none⟩ = some (.int .i64 ab) := hB2.cell 4; have s5 : w2.cell? ⟨q, 5, none⟩ = some (.int .i64 ac) := hB2.cell 5; have s6 : w2.cell? ⟨q, 6, none⟩ = some (.int .i64 ax) := hB2.cell 6; have s7 : w2.cell? ⟨q, 7, none⟩ = some (.slice aA aes.length acap) := hB2.cell 7; have s8 : w2.cell? ⟨q, 8, none⟩ = some (.bool true) := hB2.cell 8; have s9 : w2.cell? ⟨q, 9, none⟩ = some (.bool true) := hB2.cell 9; have s10 : w2.cell? ⟨q, 10, none⟩ = some (.int .i64 due) := hB2.cell 10; clear hB2) | (go_at_call 79; refine (C _ hk2).mono ?_; rintro e w3 ⟨rfl, hk3⟩; clear C; have hB3 := HS.out.blk.keeps (hk2.same hk3) (fun h => h); have s0 : w3.cell? ⟨q, 0, none⟩ = some (.int .i64 ob) := hB3.cell 0; have s1 : w3.cell? ⟨q, 1, none⟩ = some (.int .i64 oc) := hB3.cell 1; have s2 : w3.cell? ⟨q, 2, none⟩ = some (.int .i64 ox) := hB3.cell 2; have s3 : w3.cell? ⟨q, 3, none⟩ = some (.slice oA oes.length ocap) := hB3.cell 3; have s4 : w3.cell? ⟨q, 4, none⟩ = some (.int .i64 ab) := hB3.cell 4; have s5 : w3.cell? ⟨q, 5, none⟩ = some (.int .i64 ac) := hB3.cell 5; have s6 : w3.cell? ⟨q, 6, none⟩ = some (.int .i64 ax) := hB3.cell 6; have s7 : w3.cell? ⟨q, 7, none⟩ = some (.slice aA aes.length acap) := hB3.cell 7; have s8 : w3.cell? ⟨q, 8, none⟩ = some (.bool true) := hB3.cell 8; have s9 : w3.cell? ⟨q, 9, none⟩ = some (.bool true) := hB3.cell 9; have s10 : w3.cell? ⟨q, 10, none⟩ = some (.int .i64 due) := hB3.cell 10; clear hB3))
                go_ret
                exact ⟨by rw [HV.out, HB.out, if_pos (by first | exact ⟨rfl, .inr h9⟩ | exact ⟨trivial, .inr h9⟩)]; rfl, hk2.same hk3⟩
              · have h9' : decide (due < N) = false := by simpa using h9
                have h9n : decide (N < 0) = false := by simp; omega
                go_wp2_with (first | (go_at_call 78; refine (C63 _ (Keeps.refl _ _)).mono ?_; rintro e w2 ⟨rfl, hk2⟩; clear C63; have hB2 := HS.out.blk.keeps hk2 (fun h => h); have s0 : w2.cell? ⟨q, 0, none⟩ = some (.int .i64 ob) := hB2.cell 0; have s1 : w2.cell? ⟨q, 1, none⟩ = some (.int .i64 oc) := hB2.cell 1; have s2 : w2.cell? ⟨q, 2, none⟩ = some (.int .i64 ox) := hB2.cell 2; have s3 : w2.cell? ⟨q, 3, none⟩ = some (.slice oA oes.length ocap) := hB2.cell 3; have s4 : w2.cell? ⟨q, 4, none⟩ = some (.int .i64 ab) := hB2.cell 4; have s5 : w2.cell? ⟨q, 5, none⟩ = some (.int .i64 ac) := hB2.cell 5; have s6 : w2.cell? ⟨q, 6, none⟩ = some (.int .i64 ax) := hB2.cell 6; have s7 : w2.cell? ⟨q, 7, none⟩ = some (.slice aA aes.length acap) := hB2.cell 7; have s8 : w2.cell? ⟨q, 8, none⟩ = some (.bool true) := hB2.cell 8; have s9 : w2.cell? ⟨q, 9, none⟩ = some (.bool true) := hB2.cell 9; have s10 : w2.cell? ⟨q, 10, none⟩ = some (.int .i64 due) := hB2.cell 10; clear hB2) | (go_at_call 79; refine (C _ hk2).mono ?_; rintro e w3 ⟨rfl, hk3⟩; clear C; have hB3 := HS.out.blk.keeps (hk2.same hk3) (fun h => h); have s0 : w3.cell? ⟨q, 0, none⟩ = some (.int .i64 ob) := hB3.cell 0; have s1 : w3.cell? ⟨q, 1, none⟩ = some (.int .i64 oc) := hB3.cell 1; have s2 : w3.cell? ⟨q, 2, none⟩ = some (.int .i64 ox) := hB3.cell 2; have s3 : w3.cell? ⟨q, 3, none⟩ = some (.slice oA oes.length ocap) := hB3.cell 3; have s4 : w3.cell? ⟨q, 4, none⟩ = some (.int .i64 ab) := hB3.cell 4; have s5 : w3.cell? ⟨q, 5, none⟩ = some (.int .i64 ac) := hB3.cell 5; have s6 : w3.cell? ⟨q, 6, none⟩ = some (.int .i64 ax) := hB3.cell 6; have s7 : w3.cell? ⟨q, 7, none⟩ = some (.slice aA aes.length acap) := hB3.cell 7; have s8 : w3.cell? ⟨q, 8, none⟩ = some (.bool true) := hB3.cell 8; have s9 : w3.cell? ⟨q, 9, none⟩ = some (.bool true) := hB3.cell 9; have s10 : w3.cell? ⟨q, 10, none⟩ = some (.int .i64 due) := hB3.cell 10; clear hB3))
                go_ret
                exact ⟨by rw [HV.out, HB.out, if_neg (by rintro ⟨-, x⟩; (try simp only at x); omega)]; rfl, hk2.same hk3⟩
          · have h5' : decide (t < L) = false := by simp; omega
            have HB := Lib.hid (H4.out hL0 (by omega))
            clear H1 H2 H3 H4
            go_wp2_with (first | (go_at_call 78; refine (C63 _ (Keeps.refl _ _)).mono ?_; rintro e w2 ⟨rfl, hk2⟩; clear C63; have hB2 := HS.out.blk.keeps hk2 (fun h => h); have s0 : w2.cell? ⟨q, 0, none⟩ = some (.int .i64 ob) := hB2.cell 0; have s1 : w2.cell? ⟨q, 1, none⟩ = some (.int .i64 oc) := hB2.cell 1; have s2 : w2.cell? ⟨q, 2, none⟩ = some (.int .i64 ox) := hB2.cell 2; have s3 : w2.cell? ⟨q, 3, none⟩ = some (.slice oA oes.length ocap) := hB2.cell 3; have s4 : w2.cell? ⟨q, 4, none⟩ = some (.int .i64 ab) := hB2.cell 4; have s5 : w2.cell? ⟨q, 5, none⟩ = some (.int .i64 ac) := hB2.cell 5; have s6 : w2.cell? ⟨q, 6, none⟩ = some (.int .i64 ax) := hB2.cell 6; have s7 : w2.cell? ⟨q, 7, none⟩ = some (.slice aA aes.length acap) := hB2.cell 7; have s8 : w2.cell? ⟨q, 8, none⟩ = some (.bool true) := hB2.cell 8; have s9 : w2.cell? ⟨q, 9, none⟩ = some (.bool true) := hB2.cell 9; have s10 : w2.cell? ⟨q, 10, none⟩ = some (.int .i64 due) := hB2.cell 10; clear hB2) | (go_at_call 79; refine (C _ hk2).mono ?_; rintro e w3 ⟨rfl, hk3⟩; clear C; have hB3 := HS.out.blk.keeps (hk2.same hk3) (fun h => h); skip; clear hB3))
            go_ret
            exact ⟨by rw [HV.out, HB.out, if_pos (by first | exact ⟨rfl, .inl (by decide)⟩ | exact ⟨trivial, .inl (by decide)⟩)]; rfl, hk2⟩
end

section
open Go.RowKit

theorem cell_set1 {w : World} {b p o o' : Nat} (v : Value) {u : Value} (h : p ≠ b) (hc : w.cell? ⟨p, o, none⟩ = some u) : (w.setCell ⟨b, o', none⟩ v).cell? ⟨p, o, none⟩ = some u :=
  ((Keeps.refl (fun k => k = b) w).setCell (p := ⟨b, o', none⟩) (fun _ => rfl) v |>.cell (World.block_lt_of_cell? _ _ hc) h).trans hc

set_option maxRecDepth 100000 in
set_option maxHeartbeats 8000000 in
theorem pset_ok {w : World} {q : Nat} {P : Par} (h : ParAt w q P) {base cyc ext : Int} {A : Option Addr} {c : Nat} {es : List Ent} (hr : EntsR w A c es) (hA : ∀ b o, A = some ⟨b, o, none⟩ → b ≠ q)
    (hb : 0 ≤ base ∧ base < 4611686018427387904) (hc : 1 ≤ cyc ∧ cyc ≤ 1000000000) (now : Int) (h1 : now < 4611686018427387904) :
    Calls Try.prog 54 #[.pointer (some ⟨q, 0, none⟩), .agg #[.int .i64 base, .int .i64 cyc, .int .i64 ext, .slice A es.length c], .int .i64 now] w (PPassed w q (((P.pass now).told ⟨base, cyc, ext, A, c, es⟩ (rstart base cyc now)).pass now)) := by
  have HS := Lib.hid h
  have HR := Lib.hid hr
  have HA := Lib.hid hA
  have hpl := h.blk.lt
  have hW : Hid (Blk (w.alloc (.cells #[.int .i64 base, .int .i64 cyc, .int .i64 ext, .slice A es.length c] 56)) w.heap.size [.int .i64 base, .int .i64 cyc, .int .i64 ext, .slice A es.length c] 56 ∧ Keeps Nothing w (w.alloc (.cells #[.int .i64 base, .int .i64 cyc, .int .i64 ext, .slice A es.length c] 56))) := ⟨Blk.new w _ 56, (Keeps.refl _ _).alloc _⟩
  clear h hr hA
  have C1 := fun v (hv : Keeps Nothing w v) => ppass_ok (HS.out.same hv) now
  have C57 := fun v => rstart_ok (w := v) (ext := ext) (v := .slice A es.length c) hb hc now h1
  go_enter Try.func54, Try.ntmps54
  go_upto_region 1 with fail
  generalize (w.alloc (.cells #[.int .i64 base, .int .i64 cyc, .int .i64 ext, .slice A es.length c] 56)) = w1 at *
  go_upto_region 2 with (go_at_call 53; refine (C1 _ hW.out.2).mono ?_; rintro e w2 ⟨rfl, hS2, k2⟩; clear C1)
  have HB2 := Lib.hid (hW.out.1.keeps k2 (fun h => by omega))
  have HK2 : Hid (Keeps (fun k => k = q) w w2) := (hW.out.2.mono (G := fun k => k = q) (fun _ h _ => h.elim)).trans k2 (fun _ h _ => h)
  have hSE : ∃ P1, P1 = P.pass now := ⟨_, rfl⟩
  obtain ⟨P1, hP1⟩ := hSE
  rw [← hP1] at hS2
  have HE1 := Lib.hid hP1
  have HS2 := Lib.hid hS2
  clear hP1 hS2 k2
  obtain ⟨⟨ob, oc, ox, oA, ocap, oes⟩, ⟨ab, ac, ax, aA, acap, aes⟩, has, waits, due⟩ := P1
  have hB2 := HB2.out
  have m0 : w2.cell? ⟨w.heap.size, 0, none⟩ = some (.int .i64 base) := hB2.cell 0; have m1 : w2.cell? ⟨w.heap.size, 1, none⟩ = some (.int .i64 cyc) := hB2.cell 1; have m2 : w2.cell? ⟨w.heap.size, 2, none⟩ = some (.int .i64 ext) := hB2.cell 2; have m3 : w2.cell? ⟨w.heap.size, 3, none⟩ = some (.slice A es.length c) := hB2.cell 3
  clear hB2
  have md0 : w2.drew.cell? ⟨w.heap.size, 0, none⟩ = some (.int .i64 base) := m0
  have md1 : w2.drew.cell? ⟨w.heap.size, 1, none⟩ = some (.int .i64 cyc) := m1
  have md2 : w2.drew.cell? ⟨w.heap.size, 2, none⟩ = some (.int .i64 ext) := m2
  have md3 : w2.drew.cell? ⟨w.heap.size, 3, none⟩ = some (.slice A es.length c) := m3
  have hne : w.heap.size ≠ q := by omega
  go_region_held3 (fun v => v.cell? ⟨w.heap.size, 0, none⟩ = some (.int .i64 base) ∧ v.cell? ⟨w.heap.size, 1, none⟩ = some (.int .i64 cyc) ∧ v.cell? ⟨w.heap.size, 2, none⟩ = some (.int .i64 ext) ∧ v.cell? ⟨w.heap.size, 3, none⟩ = some (.slice A es.length c)) (first | with_reducible exact ⟨md0, md1, md2, md3⟩ | with_reducible exact ⟨n0, n1, n2, n3⟩ | with_reducible exact ⟨cell_set1 _ hne (cell_set1 _ hne (cell_set1 _ hne (cell_set1 _ hne (n0)))), cell_set1 _ hne (cell_set1 _ hne (cell_set1 _ hne (cell_set1 _ hne (n1)))), cell_set1 _ hne (cell_set1 _ hne (cell_set1 _ hne (cell_set1 _ hne (n2)))), cell_set1 _ hne (cell_set1 _ hne (cell_set1 _ hne (cell_set1 _ hne (n3))))⟩ | with_reducible exact ⟨cell_set1 _ hne (cell_set1 _ hne (cell_set1 _ hne (cell_set1 _ hne (cell_set1 _ hne (n0))))), cell_set1 _ hne (cell_set1 _ hne (cell_set1 _ hne (cell_set1 _ hne (cell_set1 _ hne (n1))))), cell_set1 _ hne (cell_set1 _ hne (cell_set1 _ hne (cell_set1 _ hne (cell_set1 _ hne (n2))))), cell_set1 _ hne (cell_set1 _ hne (cell_set1 _ hne (cell_set1 _ hne (cell_set1 _ hne (n3)))))⟩ | with_reducible exact ⟨cell_set1 _ hne (cell_set1 _ hne (cell_set1 _ hne (cell_set1 _ hne (cell_set1 _ hne (cell_set1 _ hne (n0)))))), cell_set1 _ hne (cell_set1 _ hne (cell_set1 _ hne (cell_set1 _ hne (cell_set1 _ hne (cell_set1 _ hne (n1)))))), cell_set1 _ hne (cell_set1 _ hne (cell_set1 _ hne (cell_set1 _ hne (cell_set1 _ hne (cell_set1 _ hne (n2)))))), cell_set1 _ hne (cell_set1 _ hne (cell_set1 _ hne (cell_set1 _ hne (cell_set1 _ hne (cell_set1 _ hne (n3))))))⟩) (first | (go_at_call 56; refine (C57 _).mono ?_; rintro e w3 ⟨rfl, k3⟩; have hB3 := HB2.out.drew.keeps k3 (fun h => h); have n0 : w3.cell? ⟨w.heap.size, 0, none⟩ = some (.int .i64 base) := hB3.cell 0; have n1 : w3.cell? ⟨w.heap.size, 1, none⟩ = some (.int .i64 cyc) := hB3.cell 1; have n2 : w3.cell? ⟨w.heap.size, 2, none⟩ = some (.int .i64 ext) := hB3.cell 2; have n3 : w3.cell? ⟨w.heap.size, 3, none⟩ = some (.slice A es.length c) := hB3.cell 3; have hQ := HS2.out.blk.drew.keeps k3 (fun h => h); have s0 : w3.cell? ⟨q, 0, none⟩ = some (.int .i64 ob) := hQ.cell 0; have s1 : w3.cell? ⟨q, 1, none⟩ = some (.int .i64 oc) := hQ.cell 1; have s2 : w3.cell? ⟨q, 2, none⟩ = some (.int .i64 ox) := hQ.cell 2; have s3 : w3.cell? ⟨q, 3, none⟩ = some (.slice oA oes.length ocap) := hQ.cell 3; have s4 : w3.cell? ⟨q, 4, none⟩ = some (.int .i64 ab) := hQ.cell 4; have s5 : w3.cell? ⟨q, 5, none⟩ = some (.int .i64 ac) := hQ.cell 5; have s6 : w3.cell? ⟨q, 6, none⟩ = some (.int .i64 ax) := hQ.cell 6; have s7 : w3.cell? ⟨q, 7, none⟩ = some (.slice aA aes.length acap) := hQ.cell 7; have s8 : w3.cell? ⟨q, 8, none⟩ = some (.bool has) := hQ.cell 8; have s9 : w3.cell? ⟨q, 9, none⟩ = some (.bool waits) := hQ.cell 9; have s10 : w3.cell? ⟨q, 10, none⟩ = some (.int .i64 due) := hQ.cell 10; have f0 := hQ.frozen 0; have f1 := hQ.frozen 1; have f2 := hQ.frozen 2; have f3 := hQ.frozen 3; have f4 := hQ.frozen 4; have f5 := hQ.frozen 5; have f6 := hQ.frozen 6; have f7 := hQ.frozen 7; have f8 := hQ.frozen 8; have f9 := hQ.frozen 9; have f10 := hQ.frozen 10; clear hB3 C57))
  have HB7 := Lib.hid ((((((hQ.set 4 (.int .i64 base)).set 5 (.int .i64 cyc)).set 6 (.int .i64 ext)).set 7 (.slice A es.length c)).set 9 (.bool true)).set 10 (.int .i64 (rstart base cyc now)))
  have HK7 : Hid (Keeps (fun k => k = q) w3 _) := ((((((Keeps.refl (fun k => k = q) w3).setCell (p := ⟨q, 4, none⟩) (fun _ => rfl) (.int .i64 base)).setCell (p := ⟨q, 5, none⟩) (fun _ => rfl) (.int .i64 cyc)).setCell (p := ⟨q, 6, none⟩) (fun _ => rfl) (.int .i64 ext)).setCell (p := ⟨q, 7, none⟩) (fun _ => rfl) (.slice A es.length c)).setCell (p := ⟨q, 9, none⟩) (fun _ => rfl) (.bool true)).setCell (p := ⟨q, 10, none⟩) (fun _ => rfl) (.int .i64 (rstart base cyc now))
  have HK3 := Lib.hid (((Keeps.refl Nothing w2).drew).same k3)
  clear hQ s0 s1 s2 s3 s4 s5 s6 s7 s8 s9 s10 f0 f1 f2 f3 f4 f5 f6 f7 f8 f9 f10 m0 m1 m2 m3 md0 md1 md2 md3 n0 n1 n2 n3
  generalize (((((w3.setCell ⟨q, 4, none⟩ (.int .i64 base)).setCell ⟨q, 5, none⟩ (.int .i64 cyc)).setCell ⟨q, 6, none⟩ (.int .i64 ext)).setCell ⟨q, 7, none⟩ (.slice A es.length c)).setCell ⟨q, 9, none⟩ (.bool true)).setCell ⟨q, 10, none⟩ (.int .i64 (rstart base cyc now)) = w7 at *
  have hS7 : ParAt w7 q (Par.told ⟨⟨ob, oc, ox, oA, ocap, oes⟩, ⟨ab, ac, ax, aA, acap, aes⟩, has, waits, due⟩ ⟨base, cyc, ext, A, c, es⟩ (rstart base cyc now)) :=
    ⟨HB7.out, (HS2.out.oper.same HK3.out).turn HK7.out, Lst.ok.turn (w := w3) ⟨((HR.out.keeps HK2.out (fun b o hb => HA.out b o hb)).same HK3.out), HA.out⟩ HK7.out⟩
  have C6 := ppass_ok hS7 now
  go_wp2_with (go_at_call 53; refine C6.mono ?_; rintro e w8 ⟨rfl, hS8, hk8⟩; clear C6)
  go_end0
  exact ⟨rfl, (by rw [← HE1.out]; exact hS8), ((HK2.out.trans HK3.out (fun _ h _ => h.elim)).trans HK7.out (fun _ h _ => h)).trans hk8 (fun _ h _ => h)⟩
end

section
open Go.RowKit

theorem EntsR.lt {w : World} {A : Option Addr} {c : Nat} {es : List Ent} (h : EntsR w A c es) (h0 : 0 < es.length) : ∀ b o, A = some ⟨b, o, none⟩ → b < w.heap.size := by
  intro b o hb
  rcases h with h | ⟨b', o', h1, h2, h3⟩
  · rw [h] at h0; simp at h0
  · rw [hb] at h1
    injection h1 with h1
    injection h1 with h1 h4
    subst h1 h4
    obtain ⟨e, he⟩ : ∃ e, es[0]? = some e := ⟨_, List.getElem?_eq_getElem h0⟩
    exact World.block_lt_of_cell? _ _ (h3 0 e he).1

theorem gstart_range {base cyc t : Int} (hc : 1 ≤ cyc) : t ≤ gstart base cyc t ∧ base ≤ gstart base cyc t ∧ (gstart base cyc t = base ∨ gstart base cyc t ≤ t + cyc - 1) := by
  unfold gstart
  by_cases h : t ≤ base
  · rw [if_pos h]; exact ⟨h, Int.le_refl _, .inl rfl⟩
  · rw [if_neg h, Int.tdiv_eq_ediv_of_nonneg (by omega)]
    have h1 := Int.mul_ediv_add_emod (t - base + cyc - 1) cyc
    have h2 := Int.emod_nonneg (t - base + cyc - 1) (by omega : cyc ≠ 0)
    have h3 := Int.emod_lt_of_pos (t - base + cyc - 1) (by omega : 0 < cyc)
    rw [Int.mul_comm cyc] at h1
    omega
end

section
open Go.RowKit

theorem Alike.pass {S : Sch} {P : Par} (h : Alike S P) (now : Int) : Alike (S.pass now) (P.pass now) := by
  unfold Sch.pass Par.pass
  by_cases hw : P.waits = true
  · have hd := h.due hw
    have ha := h.admin hw
    rw [h.waits, hd]
    by_cases hn : P.due ≤ now
    · rw [if_pos ⟨hw, hn⟩, if_pos ⟨hw, hn⟩]
      exact ⟨rfl, rfl, (fun x => by cases x), (fun x => by cases x), fun _ => ⟨hd, ha.cyc, ha.ext, ha.es⟩⟩
    · rw [if_neg (fun x => hn x.2), if_neg (fun x => hn x.2)]
      exact h
  · rw [if_neg (fun x => hw (by rw [← h.waits]; exact x.1)), if_neg (fun x => hw x.1)]
    exact h

theorem SchGood.pass {S : Sch} (h : SchGood S) (now : Int) : SchGood (S.pass now) := by
  unfold Sch.pass
  split
  · rename_i hw
    have g := h.admin hw.1
    exact ⟨fun _ => g, fun x => by cases x⟩
  · exact h

theorem Alike.told {S : Sch} {P : Par} (h : Alike S P) {a b : Lst} (hl : a.like b) (D : Int) : Alike (S.told a D) (P.told b D) :=
  ⟨h.has, rfl, fun _ => rfl, fun _ => hl, h.oper⟩

theorem SchGood.told {S : Sch} (h : SchGood S) {a : Lst} {D : Int} (hg : Good D a.cyc a.ext a.es) : SchGood (S.told a D) := ⟨h.oper, fun _ => hg⟩

def Sch.cnt (S : Sch) : Int := S.chg + (if S.waits = true then 1 else 0)

theorem Sch.cnt_pass (S : Sch) (now : Int) : (S.pass now).cnt = S.cnt := by
  unfold Sch.pass
  split
  · rename_i hw
    unfold Sch.cnt Sch.passed
    rw [if_pos hw.1]
    simp
  · rfl

theorem Sch.cnt_told (S : Sch) (l : Lst) (D : Int) : (S.told l D).cnt ≤ S.cnt + 1 := by
  unfold Sch.cnt Sch.told
  simp only [if_true]
  split <;> omega

theorem Sch.rep_told (S : Sch) {P : Par} (h : Alike S P) (now : Int) (l : Lst) (D : Int) : (((S.pass now).told l D).pass now).rep = if P.waits = true ∧ now < P.due then S.rep + 1 else S.rep := by
  rw [(Sch.pass_chg _ now).2.2]
  show (if (S.pass now).waits = true then (S.pass now).rep + 1 else (S.pass now).rep) = _
  by_cases hc : P.waits = true ∧ P.due ≤ now
  · have e : S.pass now = S.passed := if_pos ⟨by rw [h.waits]; exact hc.1, by rw [h.due hc.1]; exact hc.2⟩
    have e2 : ¬ S.passed.waits = true := fun x => by cases x
    rw [e, if_neg e2, if_neg (fun x => by have := x.2; have := hc.2; omega)]
    rfl
  · have e : S.pass now = S := if_neg (fun x => by
      have hw : P.waits = true := by rw [← h.waits]; exact x.1
      exact hc ⟨hw, by rw [← h.due hw]; exact x.2⟩)
    rw [e, h.waits]
    by_cases hw : P.waits = true
    · rw [if_pos hw, if_pos ⟨hw, by have : ¬ P.due ≤ now := fun y => hc ⟨hw, y⟩; omega⟩]
    · rw [if_neg hw, if_neg (fun x => hw x.1)]

structure KAct where
  later : Int
  base : Int
  cyc : Int
  ext : Int
  A : Option Addr
  cap : Nat
  es : List Ent

def KAct.cells (a : KAct) : List Value := [.int .i64 a.later, .int .i64 a.base, .int .i64 a.cyc, .int .i64 a.ext, .slice a.A a.es.length a.cap]

def KActs (w : World) (A : Option Addr) (acts : List KAct) (c : Nat) : Prop :=
  acts = [] ∨ ∃ b o, A = some ⟨b, o, none⟩ ∧ acts.length ≤ c ∧ ∀ (j : Nat) (a : KAct), acts[j]? = some a → (∀ i u, a.cells[i]? = some u → w.cell? ⟨b, o + j * 5 + i, none⟩ = some u) ∧ EntsR w a.A a.cap a.es

theorem KActs.at_ {w wr : World} {A : Option Addr} {acts : List KAct} {c j : Nat} (h : KActs w A acts c) (hk : Keeps Nothing w wr) (hj : j < acts.length) :
    ∃ b o later base cyc ext A2 cap es, A = some ⟨b, o, none⟩ ∧ acts[j]? = some ⟨later, base, cyc, ext, A2, cap, es⟩ ∧ wr.cell? ⟨b, o + j * 5, none⟩ = some (.int .i64 later) ∧ wr.cell? ⟨b, o + j * 5 + 1, none⟩ = some (.int .i64 base) ∧ wr.cell? ⟨b, o + j * 5 + 2, none⟩ = some (.int .i64 cyc) ∧ wr.cell? ⟨b, o + j * 5 + 3, none⟩ = some (.int .i64 ext) ∧ wr.cell? ⟨b, o + j * 5 + 4, none⟩ = some (.slice A2 es.length cap) ∧ EntsR w A2 cap es := by
  rcases h with h | ⟨b, o, h1, h2, h3⟩
  · rw [h] at hj; simp at hj
  · obtain ⟨a, ha⟩ : ∃ a, acts[j]? = some a := ⟨_, List.getElem?_eq_getElem hj⟩
    obtain ⟨hc, he⟩ := h3 j a ha
    obtain ⟨later, base, cyc, ext, A2, cap, es⟩ := a
    have up : ∀ i u, KAct.cells ⟨later, base, cyc, ext, A2, cap, es⟩ = KAct.cells ⟨later, base, cyc, ext, A2, cap, es⟩ → (KAct.cells ⟨later, base, cyc, ext, A2, cap, es⟩)[i]? = some u → wr.cell? ⟨b, o + j * 5 + i, none⟩ = some u := fun i u _ hu => by
      have := hc i u hu
      exact (hk.cell (World.block_lt_of_cell? _ _ this) (fun h => h)).trans this
    exact ⟨b, o, later, base, cyc, ext, A2, cap, es, h1, ha, up 0 _ rfl rfl, up 1 _ rfl rfl, up 2 _ rfl rfl, up 3 _ rfl rfl, up 4 _ rfl rfl, he⟩

def Sm (acts : List KAct) : Prop := acts.length ≤ 30 ∧ ∀ (l : Nat) (a : KAct), acts[l]? = some a → a.es.length ≤ 70

def SmallIs (w : World) (acts : List KAct) (e : Ending) (w' : World) : Prop := ∃ b, e = .returned (.bool b) ∧ (b = true ↔ Sm acts) ∧ Keeps Nothing w w'

def SmInv (w : World) (acts : List KAct) (k : Nat) (i : Value) (wr : World) : Prop := ∃ j : Nat, j + k = acts.length ∧ i = .int .i64 (j : Nat) ∧ (∀ (l : Nat) (a : KAct), l < j → acts[l]? = some a → a.es.length ≤ 70) ∧ Keeps Nothing w wr

theorem KActs.same {w w' : World} {A : Option Addr} {acts : List KAct} {c : Nat} (h : KActs w A acts c) (hk : Keeps Nothing w w') : KActs w' A acts c := by
  rcases h with h | ⟨b, o, h1, h2, h3⟩
  · exact .inl h
  · refine .inr ⟨b, o, h1, h2, fun j a ha => ?_⟩
    obtain ⟨hc, he⟩ := h3 j a ha
    exact ⟨fun i u hu => by have := hc i u hu; exact (hk.cell (World.block_lt_of_cell? _ _ this) (fun h => h)).trans this, he.same hk⟩
end

section
open Go.RowKit

theorem results_tmp4 {fn : Func} {t u v x : Tmp} (h : fn.results = #[.tmp t, .tmp u, .tmp v, .tmp x]) (tmps : Array Value) (P : Program) (w : World) :
    (results fn tmps).run P w = .ok (.tuple #[tmps.getD t undef, tmps.getD u undef, tmps.getD v undef, tmps.getD x undef]) w := by
  simp [results, h]

/-- What is known besides: the list in force has begun; lists are short. -/
structure Ext (S : Sch) (n : Int) : Prop where
  base : S.has = true → S.oper.base ≤ n
  ol : S.oper.es.length ≤ 64
  al : S.admin.es.length ≤ 64

theorem Ext.mono {S : Sch} {n m : Int} (h : Ext S n) (hm : n ≤ m) : Ext S m := ⟨fun x => Int.le_trans (h.base x) hm, h.ol, h.al⟩

theorem Ext.pass {S : Sch} {n m : Int} (h : Ext S n) (hm : n ≤ m) : Ext (S.pass m) m := by
  unfold Sch.pass
  split
  · rename_i hw
    exact ⟨fun _ => hw.2, h.al, by show (0 : Nat) ≤ 64; omega⟩
  · exact h.mono hm

theorem Ext.told {S : Sch} {n : Int} (h : Ext S n) {l : Lst} (hl : l.es.length ≤ 64) (D : Int) : Ext (S.told l D) n := ⟨h.base, h.ol, hl⟩

structure PlayAt (w0 w : World) (p q : Nat) (S : Sch) (P : Par) (j : Nat) (n cn : Int) : Prop where
  keeps : Keeps Nothing w0 w
  sch : SchAt w p S
  par : ParAt w q P
  alike : Alike S P
  good : SchGood S
  np : w0.heap.size ≤ p
  nq : w0.heap.size ≤ q
  pq : p ≠ q
  n0 : 0 ≤ n
  n1 : n ≤ j * 1099511627776
  rep0 : 0 ≤ S.rep
  rep1 : S.rep ≤ j
  chg0 : 0 ≤ S.chg
  cn0 : S.cnt ≤ cn
  cn1 : cn ≤ j
  so : ∀ b o, S.oper.A = some ⟨b, o, none⟩ → b ≠ q
  sa : ∀ b o, S.admin.A = some ⟨b, o, none⟩ → b ≠ q
  po : ∀ b o, P.oper.A = some ⟨b, o, none⟩ → b ≠ p
  pa : ∀ b o, P.admin.A = some ⟨b, o, none⟩ → b ≠ p
  ex : Ext S n

def PlayInv (w0 : World) (p q m k : Nat) (now cnt rp i : Value) (wr : World) : Prop :=
  ∃ (j : Nat) (n c : Int) (S : Sch) (P : Par), j + k = m ∧ i = .int .i64 (j : Nat) ∧ now = .int .i64 n ∧ cnt = .int .i64 c ∧ rp = .int .i64 S.rep ∧ PlayAt w0 wr p q S P j n c

def Played (w0 : World) (m : Nat) (e : Ending) (w : World) : Prop :=
  ∃ (p q : Nat) (n c : Int) (S : Sch) (P : Par), e = .returned (.tuple #[.pointer (some ⟨p, 0, none⟩), .pointer (some ⟨q, 0, none⟩), .int .i64 n, .bool true]) ∧ PlayAt w0 w p q S P m n c

theorem PlayAt.same {w0 w w' : World} {p q : Nat} {S : Sch} {P : Par} {j : Nat} {n c : Int} (h : PlayAt w0 w p q S P j n c) (hk : Keeps Nothing w w') : PlayAt w0 w' p q S P j n c :=
  ⟨h.keeps.same hk, h.sch.same hk, h.par.same hk, h.alike, h.good, h.np, h.nq, h.pq, h.n0, h.n1, h.rep0, h.rep1, h.chg0, h.cn0, h.cn1, h.so, h.sa, h.po, h.pa, h.ex⟩

theorem Par.good {S : Sch} {P : Par} (h : Alike S P) (hg : SchGood S) : ParGood P :=
  ⟨fun x => by have g := hg.oper (by rw [h.has]; exact x); have o := h.oper x; rw [o.base, o.cyc, o.ext, o.es] at g; exact g,
   fun x => by have g := hg.admin (by rw [h.waits]; exact x); have o := h.admin x; rw [h.due x, o.cyc, o.ext, o.es] at g; exact g⟩

theorem Good.start {base cyc ext : Int} {es : List Ent} (g : Good base cyc ext es) {now : Int} (h0 : 0 ≤ now) (h1 : now ≤ 1000000000000000) : Good (gstart base cyc now) cyc ext es := by
  have hr := gstart_range (base := base) (t := now) g.c0
  have := g.c1
  have := g.b1
  exact ⟨g.pos, g.len, by omega, by omega, g.c0, g.c1, g.x0, g.x1, g.ents⟩

theorem ParAt.turn {w w' : World} {p q : Nat} {P : Par} (h : ParAt w q P) (hk : Keeps (fun k => k = p) w w') (hq : q ≠ p) (h1 : ∀ b o, P.oper.A = some ⟨b, o, none⟩ → b ≠ p) (h2 : ∀ b o, P.admin.A = some ⟨b, o, none⟩ → b ≠ p) : ParAt w' q P :=
  ⟨h.blk.keeps hk hq, ⟨h.oper.1.keeps hk (fun b o e => h1 b o e), h.oper.2⟩, ⟨h.admin.1.keeps hk (fun b o e => h2 b o e), h.admin.2⟩⟩

theorem SchAt.turn {w w' : World} {p q : Nat} {S : Sch} (h : SchAt w p S) (hk : Keeps (fun k => k = q) w w') (hq : p ≠ q) (h1 : ∀ b o, S.oper.A = some ⟨b, o, none⟩ → b ≠ q) (h2 : ∀ b o, S.admin.A = some ⟨b, o, none⟩ → b ≠ q) : SchAt w' p S :=
  ⟨h.blk.keeps hk hq, ⟨h.oper.1.keeps hk (fun b o e => h1 b o e), h.oper.2⟩, ⟨h.admin.1.keeps hk (fun b o e => h2 b o e), h.admin.2⟩⟩

theorem Sch.pass_A (Q : Option Addr → Prop) (h0 : Q none) {S : Sch} (h1 : Q S.oper.A) (h2 : Q S.admin.A) (now : Int) : Q (S.pass now).oper.A ∧ Q (S.pass now).admin.A := by
  unfold Sch.pass
  split
  · exact ⟨h2, h0⟩
  · exact ⟨h1, h2⟩

theorem Par.pass_A (Q : Option Addr → Prop) {P : Par} (h1 : Q P.oper.A) (h2 : Q P.admin.A) (now : Int) : Q (P.pass now).oper.A ∧ Q (P.pass now).admin.A := by
  unfold Par.pass
  split
  · exact ⟨h2, h2⟩
  · exact ⟨h1, h2⟩
end

end Go.Proofs.Ytimgmobmagpmlaa
