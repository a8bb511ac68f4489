/- The document's next edge of a list. -/
import Derived.Test.YtpgmkekdgchkfaaEdges
namespace Go.Proofs.Ytpgmkekdgchkfaa
open Go.RowKit

theorem own2_at {w : World} {F : Nat → Prop} {v : Value} {xs : List Int} (h : OwnF w F 2 v (lcells xs)) : ∃ A c, v = .slice A xs.length c ∧ ∀ (j : Nat) (x : Int), xs[j]? = some x → ∃ g, A = some ⟨g, 0, none⟩ ∧ w.cell? ⟨g, j, none⟩ = some (.int .i64 x) := by
  rcases h.blk with ⟨rfl, hx⟩ | ⟨g, cap, cur, rfl, -, hb, hc, -, hl, ht⟩
  · have : xs = [] := by cases xs; rfl; cases hx
    subst this
    exact ⟨none, 0, rfl, fun j x hj => by simp at hj⟩
  · refine ⟨_, _, by rw [lcells_len], fun j x hj => ⟨g, rfl, ?_⟩⟩
    have h1 : (lcells xs)[j]? = some (.int .i64 x) := by simp [lcells, hj]
    rw [hb.cell, ← h1, ← ht, List.getElem?_take, if_pos]
    have := (List.getElem?_eq_some_iff.1 hj).1
    rw [lcells_len]
    exact this

theorem edGo_len {cyc : Int} : ∀ (es : List Ent) (a : Int), (edGo cyc es a).length ≤ es.length
  | [], _ => by simp [edGo]
  | [_], _ => by simp [edGo]
  | e :: e' :: rest, a => by
    have := edGo_len (cyc := cyc) (e' :: rest) (a + e.nanos)
    rw [edGo, List.length_append]
    simp only [List.length_cons] at this ⊢
    split <;> simp <;> omega

def FindInv (w : World) (xs : List Int) (into r : Int) (k : Nat) (i : Value) (wr : World) : Prop :=
  ∃ j : Nat, j + k = xs.length ∧ i = .int .i64 (j : Nat) ∧ (xs.drop j).find? (fun x => decide (into < x)) = some r ∧ Keeps Nothing w wr

set_option maxRecDepth 100000 in
set_option maxHeartbeats 4000000 in
theorem rnext_ok {w : World} {base cyc ext : Int} {A : Option Addr} {c : Nat} {es : List Ent} (hr : EntsR w A c es) (hg : Good base cyc ext es) (t : Int) (ht : t ≤ 9000000000000000000) :
    Calls Try.prog 62 #[.agg #[.int .i64 base, .int .i64 cyc, .int .i64 ext, .slice A es.length c], .int .i64 t] w (fun e w' => e = .returned (.int .i64 (gnx base cyc es t)) ∧ Keeps Nothing w w') := by
  have HR := Lib.hid hr
  have HG := Lib.hid hg
  have gb0 := hg.b0
  have gb1 := hg.b1
  have gc0 := hg.c0
  have gc1 := hg.c1
  clear hr hg
  by_cases hlt : t < base
  · have HV : Hid (gnx base cyc es t = base) := if_pos hlt
    go_enter Try.func62, Try.ntmps62
    go_wp2_with fail
    go_ret
    exact ⟨by rw [HV.out]; rfl, (Keeps.refl _ _).alloc _⟩
  · obtain ⟨m0, m1⟩ := tmod_in (a := t - base) (c := cyc) (by omega) gc0
    have he : (t - base).tmod cyc = (t - base) % cyc := Int.tmod_eq_emod_of_nonneg (by omega)
    have hf := find_edge (n := es.length) m1 es 0 0 (by omega) (fun e h => (HG.out.ents e h).2.2.1)
    have hl1 := (atGo_left m0 m1 (n := es.length) es 0 0).1
    have hl2 := atGo_left2 m1 (n := es.length) es 0 0
    have HV : Hid (gnx base cyc es t = t + (atGo es.length cyc ((t - base).tmod cyc) es 0 0).2) := if_neg hlt
    have hf2 : (0 :: (edGo cyc es 0 ++ [cyc])).find? (fun x => decide ((t - base).tmod cyc < x)) = some ((t - base).tmod cyc + (atGo es.length cyc ((t - base).tmod cyc) es 0 0).2) := by
      rw [List.find?_cons, decide_eq_false (by omega)]
      exact hf
    rw [he] at m0 m1 hf2 hl1 hl2 HV
    have HF := Lib.hid hf2
    have hq0 : cyc ≠ 0 := by omega
    have hw1 : IntKind.i64.wrap (t - base) = t - base := by rw [IntKind.wrap_i64]; omega
    have hw2 : IntKind.i64.wrap ((t - base) % cyc) = (t - base) % cyc := by rw [IntKind.wrap_i64]; omega
    clear he hf hf2
    have hW : Hid (Blk (w.alloc (.cells #[.int .i64 base, .int .i64 cyc, .int .i64 ext, .slice A es.length c] 72)) w.heap.size [.int .i64 base, .int .i64 cyc, .int .i64 ext, .slice A es.length c] 72 ∧ Keeps Nothing w (w.alloc (.cells #[.int .i64 base, .int .i64 cyc, .int .i64 ext, .slice A es.length c] 72))) := ⟨Blk.new w _ 72, (Keeps.refl _ _).alloc _⟩
    have C := fun v (hv : Keeps Nothing w v) => edges_ok (HR.out.same hv) HG.out
    obtain ⟨xs, hX⟩ : ∃ xs, xs = 0 :: (edGo cyc es 0 ++ [cyc]) := ⟨_, rfl⟩
    rw [← hX] at HF
    rw [← hX] at C
    have hxl : xs.length ≤ 100 := by
      have h1 := edGo_len (cyc := cyc) es 0
      have h2 := HG.out.len
      rw [hX]
      simp
      omega
    clear hX
    generalize hL : (atGo es.length cyc ((t - base) % cyc) es 0 0).2 = left at *
    go_enter Try.func62, Try.ntmps62
    go_upto_region 4 with fail
    generalize (w.alloc (.cells #[.int .i64 base, .int .i64 cyc, .int .i64 ext, .slice A es.length c] 72)) = w1 at *
    have hB := hW.out.1
    have d0 : w1.cell? ⟨w.heap.size, 0, none⟩ = some (.int .i64 base) := hB.cell 0
    have d1 : w1.cell? ⟨w.heap.size, 1, none⟩ = some (.int .i64 cyc) := hB.cell 1
    have d2 : w1.cell? ⟨w.heap.size, 2, none⟩ = some (.int .i64 ext) := hB.cell 2
    have d3 : w1.cell? ⟨w.heap.size, 3, none⟩ = some (.slice A es.length c) := hB.cell 3
    clear hB
    generalize (t - base) % cyc = into at *
    go_wp2_with (go_at_call 75; refine (C _ hW.out.2).mono ?_; rintro e w2 ⟨v, rfl, ho, hk2⟩; obtain ⟨A2, c2, rfl, hat⟩ := own2_at ho; clear C)
    have HAT := Lib.hid hat
    have HK2 := Lib.hid (hW.out.2.same hk2)
    clear hat hk2 ho d0 d1 d2 d3
    go_loopg [7] xs.length (fun k i wr => FindInv w2 xs into (into + left) k i wr)
    case atStart => exact ⟨0, by omega, rfl, HF.out, Keeps.refl _ _⟩
    case round =>
      obtain ⟨j, hj, rfl, hfd, hk⟩ := hrel
      have HKr := Lib.hid (HK2.out.same hk)
      by_cases hjl : j < xs.length
      · obtain ⟨x, hx⟩ : ∃ x, xs[j]? = some x := ⟨_, List.getElem?_eq_getElem hjl⟩
        obtain ⟨hjl', hx'⟩ := List.getElem?_eq_some_iff.1 hx
        obtain ⟨g, rfl, hc⟩ := HAT.out j x hx
        have f1 := (hk.cell (World.block_lt_of_cell? _ _ hc) (fun h => h)).trans hc
        rw [List.drop_eq_getElem_cons hjl', hx', List.find?_cons] at hfd
        by_cases hix : into < x
        · rw [decide_eq_true hix] at hfd
          have hxe : x = into + left := by injection hfd
          subst hxe
          have hw3 : IntKind.i64.wrap (t - into) = t - into := by rw [IntKind.wrap_i64]; omega
          have hw4 : IntKind.i64.wrap (t - into + (into + left)) = t - into + (into + left) := by rw [IntKind.wrap_i64]; omega
          clear hfd hx hx' hc
          go_wp2_with fail
          go_ret
          exact ⟨by rw [HV.out, show t + left = t - into + (into + left) by omega]; rfl, HKr.out⟩
        · have hix' : decide (into < x) = false := by simpa using hix
          rw [hix'] at hfd
          have HFD := Lib.hid hfd
          have HKK := Lib.hid hk
          clear hfd hx hx' hc hk
          go_wp2_with fail
          go_roundg (gk - 1)
          case measure => omega
          case rel => exact ⟨j + 1, by omega, by go_num, HFD.out, HKK.out⟩
      · rw [List.drop_eq_nil_of_le (by omega)] at hfd
        cases hfd

end Go.Proofs.Ytpgmkekdgchkfaa
