/- The edges of a cycle, and the next of them, as the document has them. -/
import Derived.Test.YtpgmkekdgchkfaaNexts
namespace Go.Proofs.Ytpgmkekdgchkfaa
open Go.RowKit

def lcells (xs : List Int) : List Value := xs.map fun x => .int .i64 x

theorem lcells_append (a b : List Int) : lcells (a ++ b) = lcells a ++ lcells b := by simp [lcells]
theorem lcells_len (a : List Int) : (lcells a).length = a.length := by simp [lcells]
theorem lcells_one (l : List Int) : ∀ u ∈ lcells l, u.oneCell' = true := by
  intro u hu
  obtain ⟨x, _, rfl⟩ := List.mem_map.1 hu
  rfl

/-- The edges found so far, and those to come. -/
def EdInv (B : Nat) (w : World) (cyc : Int) (es : List Ent) (k : Nat) (v a i : Value) (wr : World) : Prop :=
  ∃ (j : Nat) (E : Int) (xs : List Int), j + 1 + k = es.length ∧ i = .int .i64 (j : Nat) ∧ a = .int .i64 E ∧ 0 ≤ E ∧ E ≤ j * 1000000000 ∧ xs.length ≤ j + 1 ∧ 0 :: edGo cyc es 0 = xs ++ edGo cyc (es.drop j) E ∧
    OwnS wr (fun k => B + 1 ≤ k) 2 1 v xs.length (lcells xs) ∧ (∃ A n c, v = .slice A n c) ∧ Keeps (fun k => B + 1 ≤ k) w wr

def EdgesAre (w : World) (xs : List Int) (e : Ending) (w' : World) : Prop :=
  ∃ v, e = .returned v ∧ OwnF w' (fun k => w.heap.size ≤ k) 2 v (lcells xs) ∧ Keeps Nothing w w'

theorem lit1 (w : World) (v : Value) (T : TypeId) : ∀ (j : Nat) (u : Value), [v][j]? = some u → (w.alloc (.cells #[v] T)).cell? ((⟨w.heap.size, 0, none⟩ : Addr).add j) = some u := by
  intro j u hj
  cases j with
  | zero =>
    simp at hj
    subst hj
    rw [Addr.add_lit]
    exact (Blk.new w [v] T).cell 0
  | succ j => simp at hj

set_option maxRecDepth 100000 in
set_option maxHeartbeats 4000000 in
theorem edges_ok {w : World} {base cyc ext : Int} {A : Option Addr} {c : Nat} {es : List Ent} (hr : EntsR w A c es) (hg : Good base cyc ext es) :
    Calls Try.prog 75 #[.agg #[.int .i64 base, .int .i64 cyc, .int .i64 ext, .slice A es.length c]] w (EdgesAre w (0 :: (edGo cyc es 0 ++ [cyc]))) := by
  obtain ⟨i0, hi0, hz0, hz1, hz2⟩ := info_parts (P := Try.prog) (e := 2) (z := .int .i64 0) (size := 1) (bytes := 8) (by kernel_rfl)
  obtain ⟨g0, g1, gb0, gb1, gc0, gc1, gx0, gx1, ge⟩ := hg
  have HR := Lib.hid hr
  have HE := Lib.hid ge
  clear hr ge
  have hW : Hid (Blk ((w.alloc (.cells #[.int .i64 base, .int .i64 cyc, .int .i64 ext, .slice A es.length c] 72)).alloc (.cells #[.int .i64 0] 2)) w.heap.size [.int .i64 base, .int .i64 cyc, .int .i64 ext, .slice A es.length c] 72 ∧ OwnF ((w.alloc (.cells #[.int .i64 base, .int .i64 cyc, .int .i64 ext, .slice A es.length c] 72)).alloc (.cells #[.int .i64 0] 2)) (fun k => w.heap.size + 1 ≤ k) 2 (.slice (some ⟨w.heap.size + 1, 0, none⟩) 1 1) (lcells [0]) ∧ Keeps Nothing w ((w.alloc (.cells #[.int .i64 base, .int .i64 cyc, .int .i64 ext, .slice A es.length c] 72)).alloc (.cells #[.int .i64 0] 2))) := by
    refine ⟨(Blk.new w [.int .i64 base, .int .i64 cyc, .int .i64 ext, .slice A es.length c] 72).alloc _, ?_, ((Keeps.refl _ _).alloc _).alloc _⟩
    have := OwnF.lit (w.alloc (.cells #[.int .i64 base, .int .i64 cyc, .int .i64 ext, .slice A es.length c] 72)) [.int .i64 0] 2 (by decide)
    have h2 : (w.alloc (.cells #[.int .i64 base, .int .i64 cyc, .int .i64 ext, .slice A es.length c] 72)).heap.size = w.heap.size + 1 := by simp
    rw [h2] at this
    exact this.mono (fun k hk => by omega)
  go_enter Try.func75, Try.ntmps75
  go_wp2_with fail
  generalize ((w.alloc (.cells #[.int .i64 base, .int .i64 cyc, .int .i64 ext, .slice A es.length c] 72)).alloc (.cells #[.int .i64 0] 2)) = w1 at *
  go_loopg [3, 4, 5] (es.length - 1) (fun k v a i wr => EdInv w.heap.size w1 cyc es k v a i wr)
  case atStart => exact ⟨0, 0, [0], by omega, rfl, rfl, by omega, by omega, by simp, by simp, hW.out.2.1.toS, ⟨_, _, _, rfl⟩, Keeps.refl _ _⟩
  case round =>
    obtain ⟨j, E, xs, hj, rfl, rfl, hE0, hE1, hxl, hxs, hO, ⟨A0, n0, c0, rfl⟩, hk⟩ := hrel
    have HO := Lib.hid hO
    have HK := Lib.hid hk
    have HX := Lib.hid hxs
    have hB := hW.out.1.keeps hk (fun h => by omega)
    have d1 : wr.cell? ⟨w.heap.size, 1, none⟩ = some (.int .i64 cyc) := hB.cell 1
    have d3 : wr.cell? ⟨w.heap.size, 3, none⟩ = some (.slice A es.length c) := hB.cell 3
    have HBr := Lib.hid hB
    have hown : ∀ k, (Value.slice A0 n0 c0).ownBlock = some k → w.heap.size + 1 ≤ k := fun k hk => hO.2 k hk
    clear hO hk hxs hB
    by_cases hlt : j + 1 < es.length
    · obtain ⟨e, hej⟩ : ∃ e, es[j]? = some e := ⟨_, List.getElem?_eq_getElem (by omega)⟩
      obtain ⟨hlt', hej'⟩ := List.getElem?_eq_some_iff.1 hej
      obtain ⟨e2, hej2⟩ : ∃ e, es[j + 1]? = some e := ⟨_, List.getElem?_eq_getElem hlt⟩
      obtain ⟨hlt2, hej2'⟩ := List.getElem?_eq_some_iff.1 hej2
      have hdrop : es.drop j = e :: e2 :: es.drop (j + 1 + 1) := by rw [List.drop_eq_getElem_cons hlt', hej', List.drop_eq_getElem_cons hlt2, hej2']
      have hdrop2 : es.drop (j + 1) = e2 :: es.drop (j + 1 + 1) := by rw [List.drop_eq_getElem_cons hlt2, hej2']
      have hx := HX.out
      rw [hdrop, edGo, ← hdrop2] at hx
      have HX2 := Lib.hid hx
      obtain ⟨-, -, ge3, ge4⟩ := HE.out e (List.mem_of_getElem? hej)
      obtain ⟨b, o, hA, c2⟩ : ∃ b o, A = some ⟨b, o, none⟩ ∧ w.cell? ⟨b, o + j * 2 + 1, none⟩ = some (.int .i64 e.nanos) := by
        rcases HR.out with h | ⟨b, o, h1, h2, h3⟩
        · rw [h] at hlt; simp at hlt
        · exact ⟨b, o, h1, (h3 j e hej).2⟩
      subst hA
      have hb1 := World.block_lt_of_cell? _ _ c2
      have f1 := (hW.out.2.2.cell hb1 (fun h => h)).trans c2
      have f2 := (HK.out.cell (World.block_lt_of_cell? _ _ f1) (fun h => by simp only at hb1 h; omega)).trans f1
      obtain ⟨opn, nanos⟩ := e
      simp only at ge3 ge4 f2
      have hj1 : (j : Int) + 1 < es.length := by omega
      have hE2 : E + nanos ≤ 65000000000 := by omega
      clear hej hej2 hdrop hdrop2 hx c2 f1 hej' hej2' HX
      by_cases hc : E + nanos < cyc
      · have HX3 := HX2.out
        rw [if_pos hc] at HX3
        have HX4 := Lib.hid HX3
        clear HX2 HX3
        have hlen5 : xs.length + 1 ≤ 100 := by omega
        go_wp2_with (at_builtin; refine wpList_app rfl (.tmp 27) (.tmp 29) 123 rfl 2 i0 (.int .i64 0) 1 8 Try.underlying123 hi0 hz0 hz1 hz2 rfl (by decide) (fun k => w.heap.size + 1 ≤ k) (.slice A0 n0 c0) _ _ rfl (HO.out.keeps ((Keeps.refl Nothing _).alloc _) (fun _ _ h => h)) ⟨wr.heap.size, 0, none⟩ 1 1 [.int .i64 (E + nanos)] rfl rfl (lit1 wr _ 2) (lcells_one [E + nanos]) (by decide) ?h63 ?hby ?_)
        case h63 => omega
        case hby => omega
        intro g2 cap2 w3 ho3 hk3
        have HO3 := Lib.hid ho3
        have HK3 : Hid (Keeps (fun k => w.heap.size + 1 ≤ k) w1 w3) := (HK.out.alloc _).trans hk3 (fun k hk _ => hown k hk)
        have hsz := HK.out.size
        have hB1 := hW.out.1.lt
        clear ho3 hk3
        go_wp2_with fail
        go_roundg (gk - 1)
        case measure => omega
        case rel =>
          refine ⟨j + 1, E + nanos, xs ++ [E + nanos], by omega, by go_num, rfl, by omega, by omega, by simp; omega, ?_, ?_, ⟨_, _, _, rfl⟩, HK3.out⟩
          · rw [HX4.out]; simp
          · rw [lcells_append, List.length_append]
            exact HO3.out.mono (fun k hk => by
              rcases hk with h | h
              · exact h
              · have h2 : wr.heap.size + 1 ≤ k := h
                show w.heap.size + 1 ≤ k
                omega)
      · have HX3 := HX2.out
        rw [if_neg hc] at HX3
        have HX4 := Lib.hid HX3
        have hc' : decide (E + nanos < cyc) = false := by simpa using hc
        clear HX2 HX3
        go_wp2_with fail
        go_roundg (gk - 1)
        case measure => omega
        case rel => exact ⟨j + 1, E + nanos, xs, by omega, by go_num, rfl, by omega, by omega, by omega, by rw [HX4.out]; simp, HO.out, ⟨_, _, _, rfl⟩, HK.out⟩
    · have hjl : j + 1 = es.length := by omega
      obtain ⟨e, hej⟩ : ∃ e, es[j]? = some e := ⟨_, List.getElem?_eq_getElem (by omega)⟩
      obtain ⟨hlt', hej'⟩ := List.getElem?_eq_some_iff.1 hej
      have hdrop : es.drop j = [e] := by rw [List.drop_eq_getElem_cons hlt', hej', List.drop_eq_nil_of_le (by omega)]
      have hx := HX.out
      rw [hdrop, edGo, List.append_nil] at hx
      have HX2 := Lib.hid hx
      have hq : ¬ (j : Int) + 1 < es.length := by omega
      have hlen5 : xs.length + 1 ≤ 100 := by omega
      clear hej hdrop hx HX hej'
      go_wp2_with (at_builtin; refine wpList_app rfl (.tmp 31) (.tmp 34) 123 rfl 2 i0 (.int .i64 0) 1 8 Try.underlying123 hi0 hz0 hz1 hz2 rfl (by decide) (fun k => w.heap.size + 1 ≤ k) (.slice A0 n0 c0) _ _ rfl (HO.out.keeps ((Keeps.refl Nothing _).alloc _) (fun _ _ h => h)) ⟨wr.heap.size, 0, none⟩ 1 1 [.int .i64 cyc] rfl rfl (lit1 wr _ 2) (lcells_one [cyc]) (by decide) ?h63 ?hby ?_)
      case h63 => omega
      case hby => omega
      intro g2 cap2 w3 ho3 hk3
      have HO3 := Lib.hid ho3
      have HK3 : Hid (Keeps (fun k => w.heap.size + 1 ≤ k) w1 w3) := (HK.out.alloc _).trans hk3 (fun k hk _ => hown k hk)
      have hsz := HK.out.size
      have hB1 := hW.out.1.lt
      clear ho3 hk3
      go_wp2_with fail
      go_ret
      refine ⟨_, rfl, ?_, hW.out.2.2.up HK3.out (fun k hk => by omega)⟩
      have e1 : (0 : Int) :: (edGo cyc es 0 ++ [cyc]) = xs ++ [cyc] := by rw [← HX2.out]; rfl
      rw [e1, lcells_append]
      exact (HO3.out.mono (fun k hk => by
              rcases hk with h | h
              · exact Nat.le_trans (Nat.le_succ _) h
              · have h2 : wr.heap.size + 1 ≤ k := h
                show w.heap.size ≤ k
                omega)).toF

end Go.Proofs.Ytpgmkekdgchkfaa
