/- What the law's own look comes to: where the rows at hand say what the port holds, it says true. -/
import Derived.Test.YtpgmkekdgchkfaaApartLaw
namespace Go.Proofs.Ytpgmkekdgchkfaa
open Go.RowKit

theorem RingAt.drewN {w : World} {p : Nat} {F : Nat → Prop} {rs : List RSt} (h : RingAt w p F rs) (n : Nat) : RingAt (w.drewN n) p F rs := h.same ((Keeps.refl _ _).drewN n)

theorem RingAt.eight {w : World} {p : Nat} {F : Nat → Prop} {rs : List RSt} (h : RingAt w p F rs) : rs.length = 8 := by
  obtain ⟨_, _, _, _, h⟩ := h
  exact h.eight

/-- A slice that reads as the numbers xs. -/
def SlI (w : World) (v : Value) (xs : List Int) : Prop := ∃ A c, v = .slice A xs.length c ∧ IntsR w A xs c

theorem SlI.same {w w' : World} {v : Value} {xs : List Int} (h : SlI w v xs) (hk : Keeps Nothing w w') : SlI w' v xs := by
  obtain ⟨A, c, rfl, h⟩ := h
  refine ⟨A, c, rfl, ?_⟩
  rcases h with h | ⟨b, o, h1, h2, h3⟩
  · exact .inl h
  · exact .inr ⟨b, o, h1, h2, fun j x hj => by rw [hk.cell (World.block_lt_of_cell? w _ (h3 j x hj)) (fun h => h)]; exact h3 j x hj⟩

def lostOf (rs : List RSt) : List Value := rs.map fun r => .int .i64 (r.lost : Nat)

theorem lostOf_get {rs : List RSt} {j : Nat} {r : RSt} (h : rs[j]? = some r) : (lostOf rs)[j]? = some (.int .i64 (r.lost : Nat)) := by simp [lostOf, h]

theorem eight_arr (L : List Value) (h : L.length = 8) (h0 : 0 < L.length) (h1 : 1 < L.length) (h2 : 2 < L.length) (h3 : 3 < L.length) (h4 : 4 < L.length) (h5 : 5 < L.length) (h6 : 6 < L.length) (h7 : 7 < L.length) :
    (#[L[0], L[1], L[2], L[3], L[4], L[5], L[6], L[7]] : Array Value) = L.toArray := by
  match L, h with
  | [_, _, _, _, _, _, _, _], _ => rfl

def SameInv (rs : List RSt) (w : World) (k : Nat) (total bits i : Value) (wr : World) : Prop :=
  ∃ j : Nat, j + k = 8 ∧ i = .int .i64 (j : Nat) ∧ total = .int .i64 (totalOf (rs.take j) : Nat) ∧ bits = .int .i64 (bitsTo rs j : Nat) ∧ Keeps Nothing w wr

def EachInv (n : Nat) (w : World) (k : Nat) (i : Value) (wr : World) : Prop := ∃ j : Nat, j + k = n ∧ i = .int .i64 (j : Nat) ∧ Keeps Nothing w wr

set_option maxRecDepth 100000 in
set_option maxHeartbeats 8000000 in
theorem same_true {w : World} {p : Nat} {F : Nat → Prop} {rs : List RSt} (h : RingAt w p F rs) (L : List Value) (l0 l1 l2 l3 l4 l5 l6 l7 : Value) (m0 m1 m2 m3 m4 m5 m6 m7 : Value)
    (hL : L = [l0, l1, l2, l3, l4, l5, l6, l7]) (hM : lostOf rs = [m0, m1, m2, m3, m4, m5, m6, m7])
    (hq : ∀ (j : Nat) (r : RSt), rs[j]? = some r → ∃ v, L[j]? = some v ∧ SlI w v r.q) :
    Calls Try.prog 29 #[.pointer (some ⟨p, 0, none⟩), .agg #[l0, l1, l2, l3, l4, l5, l6, l7], .agg #[m0, m1, m2, m3, m4, m5, m6, m7]] w (TrueKept w) := by
  have HH := Lib.hid h
  have HQ := Lib.hid hq
  have HL := Lib.hid hL
  have HM := Lib.hid hM
  have h8 := h.eight
  have ht := h.total_le
  clear h hq hL hM
  go_enter Try.func29, Try.ntmps29
  go_wp2
  have HB : Hid (Blk ((w.alloc (.cells #[l0, l1, l2, l3, l4, l5, l6, l7] 48)).alloc (.cells #[m0, m1, m2, m3, m4, m5, m6, m7] 43)) (w.heap.size + 1) [m0, m1, m2, m3, m4, m5, m6, m7] 43) := by
    have := Blk.new (w.alloc (.cells #[l0, l1, l2, l3, l4, l5, l6, l7] 48)) [m0, m1, m2, m3, m4, m5, m6, m7] 43
    exact Lib.hid (by simpa using this)
  have HW : Hid (Keeps Nothing w ((w.alloc (.cells #[l0, l1, l2, l3, l4, l5, l6, l7] 48)).alloc (.cells #[m0, m1, m2, m3, m4, m5, m6, m7] 43))) := ((Keeps.refl _ _).alloc _).alloc _
  generalize ((w.alloc (.cells #[l0, l1, l2, l3, l4, l5, l6, l7] 48)).alloc (.cells #[m0, m1, m2, m3, m4, m5, m6, m7] 43)) = w0 at *
  go_loopg [7, 8, 14] 8 (fun k total bits i wr => SameInv rs w0 k total bits i wr)
  case atStart => exact ⟨0, by omega, rfl, by simp [totalOf], rfl, Keeps.refl _ _⟩
  case round =>
    obtain ⟨j, hj, rfl, rfl, rfl, hk⟩ := hrel
    have HK := Lib.hid hk
    clear hk
    by_cases hlt : j < 8
    · obtain ⟨r, hr⟩ : ∃ r, rs[j]? = some r := ⟨_, List.getElem?_eq_getElem (by omega)⟩
      obtain ⟨v, hv, A, c, hv2, hi⟩ := HQ.out j r hr
      subst hv2
      have HI := Lib.hid hi
      have HR := Lib.hid hr
      have hix : ∀ w, (Instr.index 48 (.agg #[l0, l1, l2, l3, l4, l5, l6, l7]) (.int .i64 (j : Nat))).run Try.prog w = .ok (.slice A r.q.length c) w := fun w => by
        refine run_index_arr w Try.underlying48 (by kernel_rfl) (by kernel_rfl) hlt ?_ (by omega)
        rw [HL.out] at hv
        rw [← hv]
        simp
      have D := list_in ((HH.out.same HW.out).same HK.out) j r hr
      have hlt' : (j : Int) < 8 := by omega
      have hcl : [m0, m1, m2, m3, m4, m5, m6, m7][j]? = some (.int .i64 (r.lost : Nat)) := by rw [← HM.out]; exact lostOf_get hr
      have hcl := Lib.hid hcl
      clear hi hv hr
      go_upto_region 6 with (go_at_call 32; refine D.mono ?_; rintro e w3 ⟨g, cap, rfl, ho, hk3⟩; have hpt : RingAt w3 p F rs := ((HH.out.same HW.out).same HK.out).same hk3; have dm : w3.cell? ⟨w.heap.size + 1, j, none⟩ = some (.int .i64 (r.lost : Nat)) := ((((HB.out.keeps HK.out (fun h => h)).keeps hk3 (fun h => h)).cell j).trans hcl.out); have D1 : ∀ n, Calls Try.prog 30 #[.pointer (some ⟨p, 0, none⟩), .int .i64 (j : Nat)] (w3.drewN n) (fun e w' => e = .returned (.int .i64 (r.q.length : Nat)) ∧ w' = w3.drewN n) := fun n => Calls.mono (len_in (hpt.drewN n) j r HR.out) (fun _ _ h => ⟨h.1, h.2.symm⟩); have D2 : ∀ n, Calls Try.prog 31 #[.pointer (some ⟨p, 0, none⟩), .int .i64 (j : Nat)] (w3.drewN n) (fun e w' => e = .returned (.int .i64 (r.lost : Nat)) ∧ w' = w3.drewN n) := fun n => Calls.mono (lost_in (hpt.drewN n) j r HR.out) (fun _ _ h => ⟨h.1, h.2.symm⟩))
      go_quiet ((first | (go_at_call 30; with_reducible exact Calls.quiet_of_same (D1 _)) | (go_at_call 31; with_reducible exact Calls.quiet_of_same (D2 _))))
      go_wp2
      have hs := Lib.hid (totalOf_take_succ rs j r HR.out)
      have hb : Hid (bitsTo rs (j + 1) = bitsTo rs j + if 0 < r.q.length then 2 ^ j else 0) := by
        show _ = _
        simp [bitsTo, HR.out]
      have h1 := totalOf_take_le rs (j + 1)
      rw [hs.out] at h1
      have hsml := bitsTo_lt rs j
      have HO := Lib.hid ho
      have K3 : Hid (Keeps Nothing wr (w3.drewN nq)) := hk3.drewN nq
      clear ho D D1 D2 hk3
      obtain ⟨wm, rfl⟩ : ∃ wm : World, wm = wr := ⟨_, rfl⟩
      obtain ⟨gq, rfl⟩ : ∃ gq : Nat, gq = gk := ⟨_, rfl⟩
      go_loopg [45] r.q.length (fun k i wx => EachInv r.q.length (w3.drewN nq) k i wx)
      case atStart => exact ⟨0, by omega, rfl, Keeps.refl _ _⟩
      case round =>
        obtain ⟨i, hi, rfl, hk⟩ := hrel
        by_cases hil : i < r.q.length
        · obtain ⟨x, hx⟩ : ∃ x, r.q[i]? = some x := ⟨_, List.getElem?_eq_getElem hil⟩
          obtain ⟨ab, ao, hA, hcell⟩ : ∃ b o, A = some ⟨b, o, none⟩ ∧ w.cell? ⟨b, o + i, none⟩ = some (.int .i64 x) := by
            rcases HI.out with h | ⟨b, o, h1, h2, h3⟩
            · rw [h] at hil; simp at hil
            · exact ⟨b, o, h1, h3 i x hx⟩
          subst hA
          have KK : Keeps Nothing w wr := ((HW.out.same HK.out).same K3.out).same hk
          have e1 := (KK.cell (World.block_lt_of_cell? w _ hcell) (fun h => h)).trans hcell
          have e2 : wr.cell? ⟨g, i, none⟩ = some (.int .i64 x) := by
            have h2 := HO.out.1.cells (g := g) (by simp [Value.ownBlock]) i (.int .i64 x) (by simp [icells, hx])
            have h3 : w3.cell? ⟨g, i, none⟩ = some (.int .i64 x) := by rw [Addr.add_lit, Nat.zero_add] at h2; exact h2
            have h4 : (w3.drewN nq).cell? ⟨g, i, none⟩ = some (.int .i64 x) := h3
            exact (hk.cell (World.block_lt_of_cell? _ _ h4) (fun h => h)).trans h4
          clear hcell hx
          go_upto_region 11 with fail
          go_quiet (fail)
          go_wp2
          go_roundg (gk - 1)
          case measure => omega
          case rel => exact ⟨i + 1, by omega, by go_num, hk.drewN _⟩
        · have hts := Lib.hid hs.out
          have h2w : Hid (wrap64 ((2 : Int) ^ j) = ((2 ^ j : Nat) : Int) ∧ (2 ^ j : Nat) ≤ 128) := by
            obtain rfl | rfl | rfl | rfl | rfl | rfl | rfl | rfl : j = 0 ∨ j = 1 ∨ j = 2 ∨ j = 3 ∨ j = 4 ∨ j = 5 ∨ j = 6 ∨ j = 7 := by omega
            all_goals exact Lib.hid (by decide +kernel)
          have HB2 := Lib.hid hb.out
          have HSM := Lib.hid hsml
          have K5 : Hid (Keeps Nothing w0 wr) := (HK.out.same K3.out).same hk
          clear hs hb hk HO hsml
          generalize totalOf (rs.take j) = S at *
          generalize bitsTo rs j = B at *
          by_cases hq : 0 < r.q.length
          · go_wp2_with fail
            go_roundg (gq - 1)
            case measure => omega
            case rel =>
              refine ⟨j + 1, by omega, by go_num, by rw [hts.out]; go_num, ?_, K5.out⟩
              rw [HB2.out, if_pos hq]
              obtain ⟨e1, e2⟩ := h2w.out
              have e3 := HSM.out
              rw [e1]
              clear e1 h2w HSM HB2
              generalize (2 ^ j : Nat) = T at *
              rw [IntWalk.wrap64_in _ (by omega)]
              rfl
          · go_wp2_with fail
            go_roundg (gq - 1)
            case measure => omega
            case rel => exact ⟨j + 1, by omega, by go_num, by rw [hts.out]; go_num, by rw [HB2.out, if_neg hq]; rfl, K5.out⟩
    · have he : Hid (totalOf (rs.take j) = totalOf rs) := by
        have e : rs.take j = rs := List.take_of_length_le (by omega)
        show _ = _
        rw [e]
      obtain rfl : j = 8 := by omega
      have hpt := (HH.out.same HW.out).same HK.out
      have D1 := all_any hpt
      have D2 := waits_any hpt
      rw [he.out]
      go_wp2_with (first | (go_at_call 50; refine D1.mono ?_; rintro e w' ⟨rfl, rfl⟩) | (go_at_call 33; refine D2.mono ?_; rintro e w' ⟨rfl, rfl⟩))
      go_ret
      exact ⟨rfl, HW.out.same HK.out⟩

end Go.Proofs.Ytpgmkekdgchkfaa
