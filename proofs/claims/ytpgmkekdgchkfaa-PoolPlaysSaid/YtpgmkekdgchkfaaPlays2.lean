/- PoolPlays: the walk. -/
import Derived.Test.YtpgmkekdgchkfaaPlays1
namespace Go.Proofs.Ytpgmkekdgchkfaa
open Go.RowKit

set_option maxRecDepth 100000 in
theorem plays_long (x : Int) (A : Option Addr) (n c : Nat) (w : World) (hn : 100 < n) (hm : n ≤ 9223372036854775807) : Calls Try.prog 3 #[.int .i64 x, .slice A n c] w (TrueKept w) := by
  go_enter Try.func3, Try.ntmps3
  go_wp2_with (go_at_call 13; refine (keeps6 _).mono ?_; rintro e w1 ⟨rfl, hk1⟩)
  go_ret
  exact ⟨rfl, hk1⟩

def PlaysMid (w : World) (p bf bh R j : Nat) (wx : World) : Prop := ∃ ps F Mf Mh, PlaysAt w p bf bh R j wx ps F Mf Mh

set_option maxRecDepth 100000 in
set_option maxHeartbeats 8000000 in
theorem plays_in (x : Int) (A : Option Addr) (c : Nat) (acts : List PAct) (R : Nat) (w : World) (hn : acts.length ≤ 100) (hx : x ≤ 0 ∧ R = 0 ∨ 0 < x ∧ x ≤ 4096 ∧ x = R ∨ 4096 < x ∧ R = 4096)
    (ha : ActsR w (.slice A acts.length c) acts) :
    Calls Try.prog 3 #[.int .i64 x, .slice A acts.length c] w (TrueKept w) := by
  have hmm := @run_makeMap Try.prog
  have HA := Lib.hid ha
  have HX := Lib.hid hx
  have e6 : (if 4096 < (if x < 0 then 0 else x) then 4096 else (if x < 0 then 0 else x) : Int) = (R : Nat) := by
    by_cases h : x < 0
    · simp only [h, if_true]; rw [if_neg (by omega)]; omega
    · simp only [h, if_false]; split <;> omega
  clear ha hx
  go_enter Try.func3, Try.ntmps3
  go_upto_region 7 with (first | (go_at_call 13; refine (keeps6 _).mono ?_; rintro e w1 ⟨rfl, hk1⟩) | (go_at_call 14; refine (new_any x _ R HX.out).mono ?_; rintro e wn ⟨p, F, rfl, hP, hF, hk⟩))
  have hR : (min (max x 0) 4096).toNat = R := by have := HX.out; omega
  rw [hR] at hP
  have HP := Lib.hid hP
  have HK := Lib.hid (hk1.same hk)
  have HF : Hid (∀ x, F x → w.heap.size ≤ x) := fun y hy => by have := hF y hy; have := hk1.size; omega
  have hm : R ≤ 4096 := by have := HX.out; omega
  clear hP hF hk hk1 hR HX e6
  generalize (if x < 0 then (0 : Int) else x) = z
  have D := room_any HP.out
  rw [List.length_replicate] at D
  go_wp2_with (first | (go_at_call 15; refine D.mono ?_; rintro e w' ⟨rfl, rfl⟩))
  clear D
  go_loopg [49] acts.length (fun k i wr => PlaysInv w p wn.heap.size (wn.heap.size + 1) R acts.length k i wr)
  case atStart =>
    exact ⟨0, List.replicate R ([], 0), F, [], [], by omega, rfl, plays_start _ _ _ _ HP.out HF.out HK.out⟩
  case round =>
    obtain ⟨j, ps, G, Mf, Mh, hj, rfl, hI⟩ := hrel
    have HI := Lib.hid hI
    clear hI
    by_cases hlt : j < acts.length
    · obtain ⟨a, hat⟩ : ∃ a, acts[j]? = some a := ⟨_, List.getElem?_eq_getElem hlt⟩
      obtain ⟨hn1, hn2, hsl, hkd, hid⟩ := HA.out.2 a (List.mem_of_getElem? hat)
      obtain ⟨ab, ao, hA, hcells⟩ : ∃ b o, A = some ⟨b, o, none⟩ ∧ ∀ j2 u, (PAct.cells a)[j2]? = some u → w.cell? ⟨b, o + j * 3 + j2, none⟩ = some u := by
        rcases HA.out.1 with ⟨h, -⟩ | ⟨b, o, c', h1, h2, h3⟩
        · have : acts = [] := by simpa using h
          subst this
          simp at hlt
        · injection h1 with h1
          exact ⟨b, o, h1, (h3 j _ (by simp [hat])).2⟩
      subst hA
      have c0 : w.cell? ⟨ab, ao + j * 3, none⟩ = _ := hcells 0 _ rfl
      have c1 := hcells 1 _ rfl
      have c2 := hcells 2 _ rfl
      obtain ⟨kind, id, BA, bn, bc, bs⟩ := a
      simp only at hn1 hn2 hsl hkd hid c0 c1 c2
      have HS := Lib.hid hsl
      have HB := Lib.hid hn1
      have d0 := (HI.out.keeps.cell (World.block_lt_of_cell? w _ c0) (fun h => h)).trans c0
      have d1 := (HI.out.keeps.cell (World.block_lt_of_cell? w _ c1) (fun h => h)).trans c1
      have d2 := (HI.out.keeps.cell (World.block_lt_of_cell? w _ c2) (fun h => h)).trans c2
      clear c0 c1 c2 hcells hsl hn1
      by_cases hlong : 100 < bn
      · go_wp2_with fail
        go_ret
        exact ⟨rfl, HI.out.keeps.alloc _⟩
      · have hM := HI.out.held.keeps ((Keeps.refl Nothing wr).alloc (.cells #[.int .i64 kind, .int .i64 id, .slice BA bn bc] 31)) (fun h => h)
        have z3 : ∀ w : World, (zeroValue 3).run Try.prog w = .ok (.int .i64 0) w := fun w => by kernel_rfl
        have hlk := run_mget (P := Try.prog) (T := 28) (K := 3) (E := 3) Try.underlying28 Try.underlying3 (z3 _) hM id
        rw [HI.out.asks] at hlk
        clear hM z3
        go_upto_block 2 with fail
        go_cut [11, 12, 13, 14, 16, 17, 18, 19, 20, 21, 22] from 50 to 238 (fun _ _ _ _ _ _ _ _ _ _ _ wx => PlaysMid w p wn.heap.size (wn.heap.size + 1) R (j + 1) wx)
        case first =>
          obtain ⟨wo, rfl⟩ : ∃ wo : World, wo = wr := ⟨_, rfl⟩
          have hPa := HI.out.pool.alloc (.cells #[.int .i64 kind, .int .i64 id, .slice BA bn bc] 31)
          have hKa := HI.out.keeps.alloc (.cells #[.int .i64 kind, .int .i64 id, .slice BA bn bc] 31)
          have hwr : Hid (∀ G w9, Keeps G (wo.alloc (.cells #[.int .i64 kind, .int .i64 id, .slice BA bn bc] 31)) w9 → Keeps G wo w9) := fun G w9 h => by
            have := ((Keeps.refl G wo).alloc (.cells #[.int .i64 kind, .int .i64 id, .slice BA bn bc] 31)).trans h (fun _ h _ => h)
            exact this
          have HBlk : Hid (Blk (wo.alloc (.cells #[.int .i64 kind, .int .i64 id, .slice BA bn bc] 31)) wo.heap.size [.int .i64 kind, .int .i64 id, .slice BA bn bc] 31) := Blk.new wo [.int .i64 kind, .int .i64 id, .slice BA bn bc] 31
          have HGn : Hid (¬ G wo.heap.size) := fun h => by have := HI.out.pool.lt _ h; omega
          have hck : kind = 0 ∨ kind = 1 ∨ kind = 2 ∨ kind = 3 ∨ (kind ≠ 0 ∧ kind ≠ 1 ∧ kind ≠ 2 ∧ kind ≠ 3) := by omega
          rcases hck with rfl | rfl | rfl | rfl | ⟨k0, k1, k2, k3⟩
          · as_aux_lemma =>
            by_cases hfull : usedOf ps = ps.length
            · have hF2 := Lib.hid hfull
              clear hfull
              go_wp2_with (first
                | (go_at_call 16; refine (take_full hPa _ hF2.out).mono ?_; rintro e w4 ⟨rfl, hk4⟩; have hM4 := HI.out.held.keeps (hwr.out _ _ hk4) (fun h => h))
                | (at_range; refine wpList_irange rfl _ 28 rfl 3 3 (wn.heap.size + 1) Mh Try.underlying28 rfl hM4 ?_; intro w5 hit hk5 hs5))
              go_frame
              go_loopg [14] (Mh.length) (fun k u wr => CountInv w5 w4.heap.size (wn.heap.size + 1) Mh ps k u wr)
              case atStart => exact ⟨Mh, 0, rfl, rfl, by have := HI.out.count; omega, hit, HI.out.ints, Keeps.refl _ _⟩
              case round =>
                obtain ⟨rem, sy, hlen, rfl, hsy, hit2, hints, hk3⟩ := hrel
                have HY := Lib.hid hsy
                have HL := Lib.hid hlen
                have HN := Lib.hid hints
                have b2 : sy ≤ 100000 := by
                  have := usedOf_le ps
                  have := HI.out.room
                  omega
                clear hsy hlen hints
                go_wp2_with (at_next; refine wpList_inext rfl _ rfl w4.heap.size (wn.heap.size + 1) Mh rem rfl hit2 ?_ ?_)
                rotate_left
                · intro i kk v w7 hi hit4 hent hk7 hs7
                  obtain ⟨nv, hv, hnv⟩ := HN.out _ (List.mem_of_getElem? hi)
                  simp only at hv
                  subst hv
                  have e2 := mcount_erase _ _ _ _ hi
                  have E2 : Hid (mcount (rem.eraseIdx i) + (if 0 < (nv : Int) then 1 else 0) = mcount rem) := e2
                  have hil := (List.getElem?_eq_some_iff.1 hi).1
                  clear e2 hi
                  by_cases hpos : 0 < nv
                  · go_wp2_with fail
                    go_roundg (gk - 1)
                    case measure => have := HL.out; omega
                    case rel =>
                      have h2 := E2.out; have h4 := HY.out; have h5 := HL.out
                      rw [if_pos (by omega)] at h2
                      exact ⟨_, sy + 1, by rw [List.length_eraseIdx]; split <;> omega, by go_num, by omega, hit4, HN.out.erase i, hk3.trans hk7 (fun _ h _ => h)⟩
                  · go_wp2_with fail
                    go_roundg (gk - 1)
                    case measure => have := HL.out; omega
                    case rel =>
                      have h2 := E2.out; have h4 := HY.out; have h5 := HL.out
                      rw [if_neg (by omega)] at h2
                      exact ⟨_, sy, by rw [List.length_eraseIdx]; split <;> omega, rfl, by omega, hit4, HN.out.erase i, hk3.trans hk7 (fun _ h _ => h)⟩
                · intro hem
                  subst hem
                  have hRy : R ≤ sy := by have h0 : mcount [] = 0 := rfl; have := HY.out; have := hF2.out; have := HI.out.room; omega
                  go_wp2_with fail
                  go_meet
                  case rel =>
                    have hl4 := hk4.size
                    have K : Keeps (fun x => x = w4.heap.size) wo wr := ((hwr.out _ _ ((hk4.same hk5).mono (G := fun x => x = w4.heap.size) (fun _ h _ => h.elim)))).trans hk3 (fun _ h _ => h)
                    exact ⟨ps, G, Mf, Mh, (HI.out.later K (fun x hx => by simp at hl4; omega)).next⟩
            · obtain ⟨k, b0, hk, hlow⟩ := first_free hfull
              have hk := Lib.hid hk
              have hlow := Lib.hid hlow
              have hF2 := Lib.hid hfull
              have hbs : bs.length ≤ 100 := by have := HB.out; omega
              clear hfull
              have C := take_slr hPa k b0 bs (.slice BA bn bc) hk.out hlow.out (by omega) (HS.out.same hKa)
              go_wp2_with (first
                | (go_at_call 16; refine C.mono ?_; rintro e w4 ⟨rfl, F4, hP4, hF4, hk4⟩; have hM4 := HI.out.held.keeps (hwr.out _ _ hk4) HI.out.nh)
                | (at_range; refine wpList_irange rfl _ 28 rfl 3 3 (wn.heap.size + 1) Mh Try.underlying28 rfl hM4 ?_; intro w5 hit hk5 hs5))
              go_frame
              go_loopg [14] (Mh.length) (fun k u wr => CountInv w5 w4.heap.size (wn.heap.size + 1) Mh ps k u wr)
              case atStart => exact ⟨Mh, 0, rfl, rfl, by have := HI.out.count; omega, hit, HI.out.ints, Keeps.refl _ _⟩
              case round =>
                obtain ⟨rem, sy, hlen, rfl, hsy, hit2, hints, hk3⟩ := hrel
                have HY := Lib.hid hsy
                have HL := Lib.hid hlen
                have HN := Lib.hid hints
                have b2 : sy ≤ 100000 := by
                  have := usedOf_le ps
                  have := HI.out.room
                  omega
                clear hsy hlen hints
                go_wp2_with (at_next; refine wpList_inext rfl _ rfl w4.heap.size (wn.heap.size + 1) Mh rem rfl hit2 ?_ ?_)
                rotate_left
                · intro i kk v w7 hi hit4 hent hk7 hs7
                  obtain ⟨nv, hv, hnv⟩ := HN.out _ (List.mem_of_getElem? hi)
                  simp only at hv
                  subst hv
                  have e2 := mcount_erase _ _ _ _ hi
                  have E2 : Hid (mcount (rem.eraseIdx i) + (if 0 < (nv : Int) then 1 else 0) = mcount rem) := e2
                  have hil := (List.getElem?_eq_some_iff.1 hi).1
                  clear e2 hi
                  by_cases hpos : 0 < nv
                  · go_wp2_with fail
                    go_roundg (gk - 1)
                    case measure => have := HL.out; omega
                    case rel =>
                      have h2 := E2.out; have h4 := HY.out; have h5 := HL.out
                      rw [if_pos (by omega)] at h2
                      exact ⟨_, sy + 1, by rw [List.length_eraseIdx]; split <;> omega, by go_num, by omega, hit4, HN.out.erase i, hk3.trans hk7 (fun _ h _ => h)⟩
                  · go_wp2_with fail
                    go_roundg (gk - 1)
                    case measure => have := HL.out; omega
                    case rel =>
                      have h2 := E2.out; have h4 := HY.out; have h5 := HL.out
                      rw [if_neg (by omega)] at h2
                      exact ⟨_, sy, by rw [List.length_eraseIdx]; split <;> omega, rfl, by omega, hit4, HN.out.erase i, hk3.trans hk7 (fun _ h _ => h)⟩
                · intro hem
                  subst hem
                  have hRy : sy < R := by have h0 : mcount [] = 0 := rfl; have := HY.out; have := hF2.out; have := usedOf_le ps; have := HI.out.room; omega
                  obtain ⟨w6, rfl⟩ : ∃ w6 : World, w6 = wr := ⟨_, rfl⟩
                  have K6 : Keeps Nothing w w6 := ((hKa.up hk4 HI.out.own).same hk5).up hk3 (fun x hx => by have := (hKa.up hk4 HI.out.own).size; omega)
                  go_wp2_with fail
                  go_loopg [17] k (fun l u wr => WantInv w6 k l u wr)
                  case atStart => exact ⟨0, by omega, rfl, rfl⟩
                  case round =>
                    obtain ⟨l, hl, rfl, rfl⟩ := hrel
                    have hlk2 := run_mget (P := Try.prog) (T := 28) (K := 3) (E := 3) (z := .int .i64 0) Try.underlying28 Try.underlying3 (by kernel_rfl) hit2.map (l : Int)
                    rw [HI.out.asks] at hlk2
                    have hk4096 : k ≤ 4096 := by have := (List.getElem?_eq_some_iff.1 hk.out).1; have := HI.out.room; omega
                    by_cases hlt2 : l < k
                    · obtain ⟨x2, hx2⟩ : ∃ x, ps[l]? = some x := ⟨_, List.getElem?_eq_getElem (by have := (List.getElem?_eq_some_iff.1 hk.out).1; omega)⟩
                      have hpos := hlow.out l x2 hlt2 hx2
                      obtain ⟨xb, xn⟩ := x2
                      rw [heldOf_at hx2] at hlk2
                      simp only at hpos
                      clear hx2
                      go_wp2_with fail
                      go_roundg (gk - 1)
                      case measure => omega
                      case rel => exact ⟨l + 1, by omega, by go_num, rfl⟩
                    · obtain rfl : l = k := by omega
                      rw [heldOf_at hk.out] at hlk2
                      have hs4 := hk4.size
                      have B6 := (((HBlk.out.keeps hk4 HGn.out).keeps hk5 (fun h => h)).keeps hk3 (fun h => by simp at hs4; omega))
                      have q2 := B6.cell 2
                      have hcv : (convert 29 9 (.slice BA bn bc)).run Try.prog w6 = .ok (.string ⟨bs.toArray⟩) w6 := conv_str Try.underlying29 Try.underlying5 Try.underlying9 (HS.out.same K6)
                      have hf6 := (((HI.out.frames.keeps (hwr.out _ _ hk4) HI.out.nf).keeps hk5 (fun h => h)).keeps hk3 (fun h => by have := HI.out.frames.lt; simp at hs4; omega))
                      have hP6 := (hP4.keeps hk5 (fun _ _ h => h)).keeps hk3 (fun x hx h => by have := hP4.lt x hx; omega)
                      have hF4b : ¬ F4 wn.heap.size := fun h => (hF4 _ h).elim HI.out.nf (fun h => by have := HI.out.frames.lt; simp at h; omega)
                      have hF4h : ¬ F4 (wn.heap.size + 1) := fun h => (hF4 _ h).elim HI.out.nh (fun h => by have := HI.out.held.lt; simp at h; omega)
                      have hh6 := Lib.hid hit2.map
                      clear hit2 hlt2
                      go_wp2_with (first
                        | (at_mapUpdate; refine wpList_imput rfl _ _ _ 27 rfl 3 9 wn.heap.size Mf Try.underlying27 Try.underlying3 rfl (l : Int) (.string ⟨bs.toArray⟩) rfl rfl hf6 ?_; intro w7 hM7 hk7 hs7; have hh7 := hh6.out.keeps hk7 (fun h => HI.out.ne h.symm); clear hf6)
                        | (at_mapUpdate; refine wpList_imput rfl _ _ _ 28 rfl 3 3 (wn.heap.size + 1) Mh Try.underlying28 Try.underlying3 rfl (l : Int) (.int .i64 ((1 : Nat) : Int)) rfl rfl hh7 ?_; intro w8 hM8 hk8 hs8))
                      try go_frame
                      go_meet
                      case rel =>
                        have K8 : Keeps Nothing w w8 := (K6.up hk7 (fun x hx => by have := HI.out.f1; omega)).up hk8 (fun x hx => by have := HI.out.f2; omega)
                        have hP8 := (hP6.keeps hk7 (fun x hx h => hF4b (h ▸ hx))).keeps hk8 (fun x hx h => hF4h (h ▸ hx))
                        exact ⟨_, F4, _, _, HI.out.turn (h' := 1) hk.out hP8 (fun x hx => (hF4 x hx).imp (fun h => h) (fun h => by simp at h; omega)) (hM7.keeps hk8 HI.out.ne) hM8 K8 (HI.out.texts.put hk.out bs 1) (by omega) (by omega) hbs⟩
          · as_aux_lemma =>
            by_cases hth : 0 < heldOf ps id
            · obtain ⟨k, b, z, rfl, hk, he⟩ := held_some hth
              have hz : z ≤ 100 := by have := heldOf_le ps (k : Int); have := HI.out.few; omega
              rw [he] at hlk
              have hk := Lib.hid hk
              have he := Lib.hid he
              go_wp2_with (first
                | (go_at_call 17; refine (hold_some hPa k b (z + 1) hk.out (by omega) (by omega)).mono ?_; rintro e w4 ⟨rfl, hP4, hk4⟩; have hM4 := HI.out.held.keeps (hwr.out _ _ hk4) HI.out.nh; have hlk4 := run_mget (P := Try.prog) (T := 28) (K := 3) (E := 3) (z := .int .i64 0) Try.underlying28 Try.underlying3 (by kernel_rfl) hM4 k; rw [HI.out.asks, he.out] at hlk4; have q1 := (HBlk.out.keeps hk4 HGn.out).cell 1)
                | (at_mapUpdate; refine wpList_imput rfl _ _ _ 28 rfl 3 3 (wn.heap.size + 1) Mh Try.underlying28 Try.underlying3 rfl (k : Int) (.int .i64 ((z + 2 : Nat) : Int)) rfl (by go_num) hM4 ?_; intro w5 hM5 hk5 hs5))
              go_frame
              go_meet
              case rel =>
                refine ⟨_, G, Mf, _, HI.out.turn (h' := z + 2) hk.out (hP4.keeps hk5 (fun y hy h => HI.out.nh (h ▸ hy))) (fun x hx => .inl hx) ((HI.out.frames.keeps (hwr.out _ _ hk4) HI.out.nf).keeps hk5 HI.out.ne) hM5 ((hKa.up hk4 HI.out.own).up hk5 (fun y hy => by have := HI.out.f2; omega)) (HI.out.texts.same hk.out _) (by omega) (by omega) (HI.out.short k _ hk.out)⟩
            · have h0 : heldOf ps id = 0 := by omega
              go_wp2_with (go_at_call 17; refine (hold_missing hPa id h0).mono ?_; rintro e w' ⟨rfl, rfl⟩)
              go_meet
              case rel => exact ⟨ps, G, Mf, Mh, (HI.out.later ((Keeps.refl Nothing wo).alloc _) (fun _ h => h.elim)).next⟩
          · as_aux_lemma =>
            by_cases hth : 0 < heldOf ps id
            · obtain ⟨k, b, z, rfl, hk, he⟩ := held_some hth
              have hz : z ≤ 100 := by have := heldOf_le ps (k : Int); have := HI.out.few; omega
              rw [he] at hlk
              have hk := Lib.hid hk
              have he := Lib.hid he
              go_wp2_with (first
                | (go_at_call 18; refine (drop_any hPa k b z hk.out (by omega)).mono ?_; rintro e w4 ⟨rfl, hP4, hk4⟩; have hM4 := HI.out.held.keeps (hwr.out _ _ hk4) HI.out.nh; have hlk4 := run_mget (P := Try.prog) (T := 28) (K := 3) (E := 3) (z := .int .i64 0) Try.underlying28 Try.underlying3 (by kernel_rfl) hM4 k; rw [HI.out.asks, he.out] at hlk4; have q1 := (HBlk.out.keeps hk4 HGn.out).cell 1)
                | (at_mapUpdate; refine wpList_imput rfl _ _ _ 28 rfl 3 3 (wn.heap.size + 1) Mh Try.underlying28 Try.underlying3 rfl (k : Int) (.int .i64 (z : Nat)) rfl (by go_num) hM4 ?_; intro w5 hM5 hk5 hs5))
              go_frame
              go_meet
              case rel =>
                have K5 := ((hKa.up hk4 HI.out.own).up hk5 (fun y hy => by have := HI.out.f2; omega))
                have hP5 := (hP4.keeps hk5 (fun y hy h => HI.out.nh (h ▸ hy)))
                have hF5 := ((HI.out.frames.keeps (hwr.out _ _ hk4) HI.out.nf).keeps hk5 HI.out.ne)
                by_cases hz0 : z = 0
                · subst hz0
                  exact ⟨_, G, Mf, _, HI.out.turn (h' := 0) hk.out hP5 (fun x hx => .inl hx) hF5 hM5 K5 (HI.out.texts.gone hk.out) (by omega) (by omega) (by simp)⟩
                · rw [if_neg hz0] at hP5
                  exact ⟨_, G, Mf, _, HI.out.turn (h' := z) hk.out hP5 (fun x hx => .inl hx) hF5 hM5 K5 (HI.out.texts.same hk.out _) (by omega) (by omega) (HI.out.short k _ hk.out)⟩
            · have h0 : heldOf ps id = 0 := by omega
              go_wp2_with (go_at_call 18; refine (drop_missing hPa id h0).mono ?_; rintro e w' ⟨rfl, rfl⟩)
              go_meet
              case rel => exact ⟨ps, G, Mf, Mh, (HI.out.later ((Keeps.refl Nothing wo).alloc _) (fun _ h => h.elim)).next⟩
          · as_aux_lemma =>
            by_cases hth : 0 < heldOf ps id
            · obtain ⟨k, b, z, rfl, hk, he⟩ := held_some hth
              have hz : z ≤ 100 := by have := heldOf_le ps (k : Int); have := HI.out.few; omega
              rw [he] at hlk
              have hbl : b.length ≤ 140737488355328 := by have h : b.length ≤ 100 := HI.out.short k _ hk; omega
              have hk := Lib.hid hk
              have he := Lib.hid he
              by_cases hb0 : b.length = 0
              · have hb1 : b.length ≤ 0 := by omega
                clear hb0
                go_wp2_with (first
                  | (go_at_call 19; refine (get_some hPa k b (z + 1) hk.out (by omega) hbl).mono ?_; rintro e w4 ⟨v, rfl, hv, hk4⟩; (obtain ⟨A4, c4, rfl⟩ := hv.len); have q1 := (HBlk.out.keeps hk4 (fun h => h)).cell 1; have hcv : (convert 29 9 (.slice A4 b.length c4)).run Try.prog w4 = .ok (.string ⟨b.toArray⟩) w4 := conv_str Try.underlying29 Try.underlying5 Try.underlying9 hv.slR; have hlf := run_mget (P := Try.prog) (T := 27) (K := 3) (E := 9) (z := .string ⟨#[]⟩) Try.underlying27 Try.underlying3 (by kernel_rfl) (HI.out.frames.keeps (hwr.out _ _ hk4) (fun h => h)) k; rw [HI.out.texts k b z hk.out] at hlf; have hS := size_some (hPa.same hk4) k b (z + 1) hk.out (by omega); clear hv)
                  | (go_at_call 20; refine hS.mono ?_; rintro e w' ⟨rfl, rfl⟩))
                go_loopg [205] 0 (fun k i wo => NoRound2 w4 k i wo)
                case atStart => exact ⟨rfl, rfl, rfl⟩
                case round =>
                  obtain ⟨-, rfl, rfl⟩ := hrel
                  go_wp2_with fail
                  go_meet
                  case rel => exact ⟨ps, G, Mf, Mh, (HI.out.later (hwr.out _ _ hk4) (fun _ h => h.elim)).next⟩
              · go_wp2_with (first
                  | (go_at_call 19; refine (get_some hPa k b (z + 1) hk.out (by omega) hbl).mono ?_; rintro e w4 ⟨v, rfl, hv, hk4⟩; (obtain ⟨g, cap, cur, rfl, hg, hgc, hcm, hbk, hcl, hce⟩ := hv.bytes (by omega)); have q1 := (HBlk.out.keeps hk4 (fun h => h)).cell 1; have hcv : (convert 29 9 (.slice (some ⟨g, 0, none⟩) b.length cap)).run Try.prog w4 = .ok (.string ⟨b.toArray⟩) w4 := conv_str Try.underlying29 Try.underlying5 Try.underlying9 hv.slR; have hlf := run_mget (P := Try.prog) (T := 27) (K := 3) (E := 9) (z := .string ⟨#[]⟩) Try.underlying27 Try.underlying3 (by kernel_rfl) (HI.out.frames.keeps (hwr.out _ _ hk4) (fun h => h)) k; rw [HI.out.texts k b z hk.out] at hlf; have hS := size_some (hPa.same hk4) k b (z + 1) hk.out (by omega); clear hv)
                  | (go_at_call 20; refine hS.mono ?_; rintro e w' ⟨rfl, rfl⟩))
                have hB := Lib.hid hbk
                have hL := Lib.hid hcl
                have hE := Lib.hid hce
                have hgs : wo.heap.size ≤ g := by simp at hg; omega
                clear hbk hcl hce hg
                go_loopg [205] b.length (fun k i wo => BumpInv g cap b.length w4 k i wo)
                case atStart => exact ⟨0, by omega, rfl, ⟨cur, hB.out, hL.out, hE.out⟩, Keeps.refl _ _⟩
                case round =>
                  obtain ⟨j2, hj2, rfl, ⟨cur2, hb2, hl2, he2⟩, hk6⟩ := hrel
                  have hb2' := Lib.hid hb2
                  have hl2' := Lib.hid hl2
                  have he2' := Lib.hid he2
                  by_cases hlt2 : j2 < b.length
                  · obtain ⟨m, hm2⟩ := he2 j2 hlt2
                    have cm := (hb2.cell j2).trans hm2
                    have fm := hb2.frozen j2
                    clear hb2 hl2 he2 hm2
                    go_wp2_with fail
                    go_roundg (gk - 1)
                    case measure => omega
                    case rel =>
                      refine ⟨j2 + 1, by omega, by go_num, ⟨_, hb2'.out.set j2 _, by rw [List.length_set]; exact hl2'.out, fun l hl => ?_⟩, hk6.setCell (fun _ => rfl) _⟩
                      by_cases e : j2 = l
                      · subst e
                        exact ⟨_, List.getElem?_set_self (by have := hl2'.out; omega)⟩
                      · rw [List.getElem?_set_ne e]
                        exact he2'.out l hl
                  · clear hb2 hl2 he2
                    go_wp2_with fail
                    go_meet
                    case rel =>
                      have K : Keeps (fun x => x = g) wo wr := (hwr.out _ _ (hk4.mono (G := fun x => x = g) (fun _ h _ => h.elim))).trans hk6 (fun _ h _ => h)
                      exact ⟨ps, G, Mf, Mh, (HI.out.later K (fun x hx => by omega)).next⟩
            · have h0 : heldOf ps id = 0 := by omega
              go_wp2_with (first | (go_at_call 19; refine (get_missing hPa id h0).mono ?_; rintro e w' ⟨rfl, rfl⟩) | (go_at_call 20; refine (size_missing hPa id h0).mono ?_; rintro e w' ⟨rfl, rfl⟩))
              go_loopg [205] 0 (fun k i wr2 => NoRound2 (wo.alloc (.cells #[.int .i64 3, .int .i64 id, .slice BA bn bc] 31)) k i wr2)
              case atStart => exact ⟨rfl, rfl, rfl⟩
              case round =>
                obtain ⟨-, rfl, rfl⟩ := hrel
                go_wp2_with fail
                go_meet
                case rel => exact ⟨ps, G, Mf, Mh, (HI.out.later ((Keeps.refl Nothing wo).alloc _) (fun _ h => h.elim)).next⟩
          · as_aux_lemma =>
            have e0 : (kind == 0) = false := by simpa using k0
            have e1 : (kind == 1) = false := by simpa using k1
            have e2 : (kind == 2) = false := by simpa using k2
            have e3 : (kind == 3) = false := by simpa using k3
            go_wp2_with fail
            go_meet
            case rel => exact ⟨ps, G, Mf, Mh, (HI.out.later ((Keeps.refl Nothing wo).alloc _) (fun _ h => h.elim)).next⟩
        case rest =>
        as_aux_lemma =>
          clear hlk HI HS HB d0 d1 d2
          obtain ⟨ps1, F1, Mf1, Mh1, hI1⟩ := hcut
          have HI1 := Lib.hid hI1
          clear hI1
          go_wp2_with (at_range; refine wpList_irange rfl _ 28 rfl 3 3 (wn.heap.size + 1) Mh1 Try.underlying28 rfl HI1.out.held ?_; intro w2 hit hk2 hs2)
          go_frame
          have hwl := hk2.size
          go_loopg [23, 24] (Mh1.length) (fun k a u wr => SumInv w2 wc.heap.size (wn.heap.size + 1) Mh1 ps1 k a u wr)
          case atStart => exact ⟨Mh1, 0, 0, rfl, rfl, rfl, by have := HI1.out.sum; omega, by have := HI1.out.count; omega, hit, HI1.out.ints, Keeps.refl _ _⟩
          case round =>
            obtain ⟨rem, sx, sy, hlen, rfl, rfl, hsx, hsy, hit2, hints, hk3⟩ := hrel
            have hnn := hints.msum_nonneg
            have hfew := HI1.out.few
            have HX := Lib.hid hsx
            have HY := Lib.hid hsy
            have HL := Lib.hid hlen
            have HN := Lib.hid hints
            have b1 : sx ≤ 200 := by omega
            have b2 : sy ≤ 100000 := by
              have := usedOf_le ps1
              have := HI1.out.room
              omega
            clear hsx hsy hlen hints
            go_wp2_with (at_next; refine wpList_inext rfl _ rfl wc.heap.size (wn.heap.size + 1) Mh1 rem rfl hit2 ?_ ?_)
            · intro he
              subst he
              have hP5 : PoolAt wr p F1 ps1 := (HI1.out.pool.same hk2).keeps hk3 (fun z hz h => by have := HI1.out.pool.lt z hz; omega)
              have hux : usedOf ps1 = sy := by have := HY.out; simp [mcount] at this; omega
              have hhx : holdsOf ps1 = sx := by have := HX.out; simp [msum] at this; omega
              have D1 := used_any hP5
              rw [hux] at D1
              have D2 := holds_any hP5 (by omega)
              rw [hhx] at D2
              clear hux hhx hnn hfew
              go_wp2_with (first | (go_at_call 21; refine D1.mono ?_; rintro e w' ⟨rfl, rfl⟩) | (go_at_call 22; refine D2.mono ?_; rintro e w9 ⟨rfl, hP9, hk9⟩))
              go_roundg (acts.length - (j + 1))
              case measure => omega
              case rel =>
                have K : Keeps (fun z => z = wc.heap.size) wc w9 := ((hk2.mono (G := fun z => z = wc.heap.size) (fun _ h _ => h.elim)).trans hk3 (fun z hz _ => hz)).trans hk9 (fun _ h _ => h.elim)
                exact ⟨j + 1, ps1, F1, Mf1, Mh1, by omega, by go_num, HI1.out.later K (fun x hx => by omega)⟩
            · intro i kk v w4 hi hit4 hent hk4 hs4
              obtain ⟨nv, hv, hnv⟩ := HN.out _ (List.mem_of_getElem? hi)
              simp only at hv
              subst hv
              have e1 := msum_erase _ _ _ _ hi
              have e2 := mcount_erase _ _ _ _ hi
              have E1 : Hid (msum (rem.eraseIdx i) + (nv : Int) = msum rem) := e1
              have E2 : Hid (mcount (rem.eraseIdx i) + (if 0 < (nv : Int) then 1 else 0) = mcount rem) := e2
              have hil := (List.getElem?_eq_some_iff.1 hi).1
              clear e1 e2 hi hnn
              by_cases hpos : 0 < nv
              · go_wp2_with fail
                go_roundg (gk - 1)
                case measure => have := HL.out; omega
                case rel =>
                  have h1 := E1.out; have h2 := E2.out; have h3 := HX.out; have h4 := HY.out; have h5 := HL.out
                  rw [if_pos (by omega)] at h2
                  exact ⟨_, sx + nv, sy + 1, by rw [List.length_eraseIdx]; split <;> omega, by go_num, by go_num, by omega, by omega, hit4, HN.out.erase i, hk3.trans hk4 (fun _ h _ => h)⟩
              · go_wp2_with fail
                go_roundg (gk - 1)
                case measure => have := HL.out; omega
                case rel =>
                  have h1 := E1.out; have h2 := E2.out; have h3 := HX.out; have h4 := HY.out; have h5 := HL.out
                  rw [if_neg (by omega)] at h2
                  exact ⟨_, sx + nv, sy, by rw [List.length_eraseIdx]; split <;> omega, by go_num, rfl, by omega, by omega, hit4, HN.out.erase i, hk3.trans hk4 (fun _ h _ => h)⟩
    · go_wp2_with fail
      go_ret
      exact ⟨rfl, HI.out.keeps⟩

end Go.Proofs.Ytpgmkekdgchkfaa
