/- Play: the walk, where what is sent is handed to function 28. -/
import Derived.Test.YtimgmobmagpmlaaPlayG
import Derived.Test.YtimgmobmagpmlaaStep28
namespace Go.Proofs.Ytimgmobmagpmlaa
open Go.RowKit

set_option maxRecDepth 100000 in
set_option maxHeartbeats 32000000 in
theorem play28 {w : World} {F N : Nat → Prop} {caps : Array Value} {I : World → Int → Prop} {nl ns : Prop} {A : Option Addr} {acts : List EAct} {c : Nat} {speed : Int}
    (hY : YSpec 28 caps F I nl ns speed) (hI : ∀ v v' l, I v l → Keeps (fun k => w.heap.size ≤ k) v v' → I v' l) (hi : I w 0) (hF : ∀ k, F k → k < w.heap.size) (hN : ∀ k, N k → k < w.heap.size ∧ ¬ F k)
    (hA : EActs w N A acts c) (hl : acts.length ≤ 60) (hnl : nl → ∀ a ∈ acts, a.kind ≠ 1) (hns : ns → ∀ a ∈ acts, a.kind ≠ 2 ∧ a.kind ≠ 3) :
    Calls Try.prog 22 #[.int .i64 speed, .slice A acts.length c, .func (.func 28) #[] caps] w (PlayDid w F) := by
  obtain ⟨i0, hi0, hz0, hz1, hz2⟩ := info_parts Try.info5
  have hmf : ∀ (fn : Fn) (first cap : Array Value) (w : World), (Instr.makeFunc fn first cap).run Try.prog w = .ok (.func fn first cap) w := fun _ _ _ _ => rfl
  have HA := Lib.hid hA
  have HYI := Lib.hid (And.intro hY (And.intro hi (And.intro hF hN)))
  have HIK := Lib.hid hI
  have HNL := Lib.hid (And.intro hnl hns)
  have HB0 := Lib.hid (Blk.new w [.func (.func 28) #[] caps] 52)
  have HK0 := Lib.hid ((Keeps.refl Nothing w).alloc (.cells #[.func (.func 28) #[] caps] 52))
  have hs0 : (w.alloc (.cells #[.func (.func 28) #[] caps] 52)).heap.size = w.heap.size + 1 := by simp
  have HS0 := Lib.hid hs0
  clear hA hY hi hF hN hnl hns hs0 hI
  go_enter Try.func22, Try.ntmps22
  go_upto_region 1 with fail
  generalize (w.alloc (.cells #[.func (.func 28) #[] caps] 52)) = wa at *
  go_upto_region 2 with (go_at_call 9; refine (new_any 200 _ 200 (by decide)).mono ?_; rintro e wb ⟨pp, FP, rfl, hP, hFP, kb⟩)
  have HP := Lib.hid hP
  have HFP := Lib.hid hFP
  have HB1 := Lib.hid (Blk.new wb [.pointer (some ⟨pp, 0, none⟩)] 24)
  have HK1 := Lib.hid ((Keeps.refl Nothing wb).alloc (.cells #[.pointer (some ⟨pp, 0, none⟩)] 24))
  have hs1 : (wb.alloc (.cells #[.pointer (some ⟨pp, 0, none⟩)] 24)).heap.size = wb.heap.size + 1 := by simp
  have HS1 := Lib.hid hs1
  have HKb := Lib.hid kb
  clear hP hFP kb hs1
  generalize (wb.alloc (.cells #[.pointer (some ⟨pp, 0, none⟩)] 24)) = wc at *
  have f0 : wc.cell? ⟨wb.heap.size, 0, none⟩ = some (.pointer (some ⟨pp, 0, none⟩)) := HB1.out.cell 0
  by_cases hsp : SpeedOk speed
  · have hP2 : PoolAt wc pp FP (List.replicate 200 ([], 0)) := PoolAt.keeps HP.out HK1.out (fun _ _ h => h)
    have C10 := new_eg hP2 speed hsp 9 9 9 9 9 9 9 9
    have HSP := Lib.hid hsp
    clear hsp hP2
    go_upto_region 3 with (go_at_call 10; refine C10.mono ?_; rintro e wd ⟨G, rfl, hpp, hE, hn, -, kd⟩; clear C10)
    have hE : EgIn wd G (Eg.new speed [9, 9, 9, 9, 9, 9, 9, 9] (List.replicate 200 ([], 0))) := hE
    subst hpp
    have HE := Lib.hid hE
    have HN2 := Lib.hid hn
    have HKd := Lib.hid kd
    clear hE hn kd f0
    have HB2 := Lib.hid (Blk.new wd [.pointer (some ⟨G.p, 0, none⟩)] 26)
    have HK2 := Lib.hid ((Keeps.refl Nothing wd).alloc (.cells #[.pointer (some ⟨G.p, 0, none⟩)] 26))
    generalize (wd.alloc (.cells #[.pointer (some ⟨G.p, 0, none⟩)] 26)) = we at *
    have g0 : we.cell? ⟨wd.heap.size, 0, none⟩ = some (.pointer (some ⟨G.p, 0, none⟩)) := HB2.out.cell 0
    have hh0 : ∀ i, heldOf (Eg.new speed [9, 9, 9, 9, 9, 9, 9, 9] (List.replicate 200 ([], 0))).ps i ≤ 1000000000 := heldOf_le (fun x hx => by rw [(List.mem_replicate.1 hx).2]; exact Nat.zero_le _)
    have C11 := link_ok (HE.out.same HK2.out) hh0 true 0 (by decide)
    clear hh0
    have hz : (Eg.new speed [9, 9, 9, 9, 9, 9, 9, 9] (List.replicate 200 ([], 0))).linked true = z1 speed := rfl
    rw [hz] at C11
    clear hz
    generalize (Eg.new speed [9, 9, 9, 9, 9, 9, 9, 9] (List.replicate 200 ([], 0))).linkN true = lv at C11
    go_upto_region 6 with (go_at_call 11; refine C11.mono ?_; rintro e wf ⟨rfl, hW⟩; clear C11)
    have HPL := Lib.hid (play_at (nl := nl) (ns := ns) (yv := .func (.func 28) #[] caps) HYI.out.2.2.1 HYI.out.2.2.2 HSP.out HIK.out HYI.out.2.1 HB0.out HK0.out HP.out HFP.out HKb.out HB1.out HK1.out HE.out HN2.out HKd.out HB2.out HK2.out hW)
    clear hW g0
    have hq1 : Blk (((wf.alloc (.cells P0.cells.toArray 96)).alloc (.cells #[.pointer (some ⟨wf.heap.size, 0, none⟩)] 50)).alloc (.cells #[.int .i64 0] 2)) wf.heap.size P0.cells 96 := ((Blk.new wf P0.cells 96).alloc _).alloc _
    have hq2 : Blk (((wf.alloc (.cells P0.cells.toArray 96)).alloc (.cells #[.pointer (some ⟨wf.heap.size, 0, none⟩)] 50)).alloc (.cells #[.int .i64 0] 2)) (wf.heap.size + 1) [.pointer (some ⟨wf.heap.size, 0, none⟩)] 50 := by
      have := Blk.new (wf.alloc (.cells P0.cells.toArray 96)) [.pointer (some ⟨wf.heap.size, 0, none⟩)] 50
      rw [show (wf.alloc (.cells P0.cells.toArray 96)).heap.size = wf.heap.size + 1 by simp] at this
      exact this.alloc _
    have hq3 : Blk (((wf.alloc (.cells P0.cells.toArray 96)).alloc (.cells #[.pointer (some ⟨wf.heap.size, 0, none⟩)] 50)).alloc (.cells #[.int .i64 0] 2)) (wf.heap.size + 1 + 1) [.int .i64 0] 2 := by
      have := Blk.new ((wf.alloc (.cells P0.cells.toArray 96)).alloc (.cells #[.pointer (some ⟨wf.heap.size, 0, none⟩)] 50)) [.int .i64 0] 2
      rwa [show ((wf.alloc (.cells P0.cells.toArray 96)).alloc (.cells #[.pointer (some ⟨wf.heap.size, 0, none⟩)] 50)).heap.size = wf.heap.size + 1 + 1 by simp] at this
    have HZ := Lib.hid (HPL.out _ hq1 hq2 hq3 ((((Keeps.refl Nothing wf).alloc _).alloc _).alloc _))
    clear hq1 hq2 hq3 HPL
    go_upto_region 9 with fail
    change Code.wp _ _ _ _ (((wf.alloc (.cells P0.cells.toArray 96)).alloc (.cells #[.pointer (some ⟨wf.heap.size, 0, none⟩)] 50)).alloc (.cells #[.int .i64 0] 2))
    generalize (((wf.alloc (.cells P0.cells.toArray 96)).alloc (.cells #[.pointer (some ⟨wf.heap.size, 0, none⟩)] 50)).alloc (.cells #[.int .i64 0] 2)) = wz at *
    obtain ⟨L, hL⟩ : ∃ L : Loc, L = ⟨wf.heap.size + 1, wf.heap.size + 1 + 1, wd.heap.size, w.heap.size, wb.heap.size, wf.heap.size⟩ := ⟨_, rfl⟩
    have e1 : wf.heap.size + 1 + 1 = L.cn := by rw [hL]
    have e2 : wf.heap.size + 1 = L.cw := by rw [hL]
    have e3 : wd.heap.size = L.cp := by rw [hL]
    have e4 : w.heap.size = L.cy := by rw [hL]
    have e5 : wb.heap.size = L.cf := by rw [hL]
    rw [e1, e2, e3, e4, e5]
    rw [← hL] at HZ
    have HK := Lib.hid HN2.out
    clear e1 e2 e3 e4 e5 hL HK HB0 HK0 HS0 HP HFP HKb HB1 HK1 HS1 HE HN2 HKd HB2 HK2
    go_wp2_with fail
    go_loopg [12, 42] acts.length (fun k rounds i wr => PInv w F N L (.func (.func 28) #[] caps) I nl ns speed acts.length k rounds i wr)
    case atStart => exact ⟨0, 0, G, z1 speed, P0, 0, 0, by omega, rfl, rfl, by omega, by decide, HZ.out.1, HZ.out.2⟩
    case round =>
      obtain ⟨j, ρ, G2, E, P, n, last, hj, rfl, rfl, hρ, hn, hP, hfr⟩ := hrel
      have HP := Lib.hid hP
      have HFR := Lib.hid hfr
      have hn0 := hP.n0
      clear hP hfr
      by_cases hlt : j < acts.length
      · obtain ⟨b, o, kind, later, cls, bytes, base, cyc, ext, A2, cap, es, rate, rfl, hact, a0, a1, a2, a3, a4, a5, a6, a7, a8, hes, hNe⟩ := (HA.out.keeps HP.out.keeps (fun k hk => (HYI.out.2.2.2 k hk).2)).at_ hlt
        have HAC := Lib.hid (And.intro hact (And.intro hes hNe))
        clear hact hes hNe
        have hlt' : (j : Int) < (acts.length : Nat) := by omega
        go_upto_region 12 with fail
        have HAB := Lib.hid (Blk.new wr [.int .i64 kind, .int .i64 later, .int .i64 cls, .int .i64 bytes, .int .i64 base, .int .i64 cyc, .int .i64 ext, .slice A2 es.length cap, .int .i64 rate] 58)
        have HP1 := Lib.hid (HP.out.alloc HIK.out ((Keeps.refl Nothing wr).alloc (.cells #[.int .i64 kind, .int .i64 later, .int .i64 cls, .int .i64 bytes, .int .i64 base, .int .i64 cyc, .int .i64 ext, .slice A2 es.length cap, .int .i64 rate] 58)))
        have HZA : Hid (¬ Zt F L G2 wr.heap.size) := HP.out.apart (Nat.le_refl _)
        have HSW : Hid (w.heap.size ≤ wr.heap.size) := HP.out.keeps.size
        generalize (wr.alloc (.cells #[.int .i64 kind, .int .i64 later, .int .i64 cls, .int .i64 bytes, .int .i64 base, .int .i64 cyc, .int .i64 ext, .slice A2 es.length cap, .int .i64 rate] 58)) = w1 at *
        generalize wr.heap.size = ab at *
        have c1 : w1.cell? ⟨L.cn, 0, none⟩ = some (.int .i64 n) := HP1.out.bn.cell 0
        have b1 : w1.cell? ⟨ab, 1, none⟩ = some (.int .i64 later) := HAB.out.cell 1
        obtain ⟨lt2, hlt2⟩ : ∃ x, x = min (max later 0) 4194304 := ⟨_, rfl⟩
        have hl0 : 0 ≤ lt2 ∧ lt2 ≤ 4194304 := by omega
        have hwt : IntKind.i64.wrap (n + lt2) = n + lt2 := by rw [IntKind.wrap_i64]; omega
        rw [hlt2] at hwt
        go_upto_block 2 with fail
        rw [← hlt2]
        clear hlt2 hwt c1 b1 a0 a1 a2 a3 a4 a5 a6 a7 a8
        obtain ⟨till, htl⟩ : ∃ t, t = n + lt2 := ⟨_, rfl⟩
        rw [← htl]
        have ht0 : n ≤ till := by omega
        have ht1 : till ≤ (j + 1) * 4194304 := by omega
        have ht2 : till ≤ 300000000 := by omega
        clear htl hl0
        go_cut [12, 17] from 52 to 80 (fun rr tt wx => RCut w F N L G2 (.func (.func 28) #[] caps) I nl ns speed j n till ab [.int .i64 kind, .int .i64 later, .int .i64 cls, .int .i64 bytes, .int .i64 base, .int .i64 cyc, .int .i64 ext, .slice A2 es.length cap, .int .i64 rate] rr wx)
        case first =>
          go_wp2_with fail
          go_loopg [12] (3001 - ρ) (fun k rr wx => RInv w F N L G2 (.func (.func 28) #[] caps) I nl ns speed j n till ab [.int .i64 kind, .int .i64 later, .int .i64 cls, .int .i64 bytes, .int .i64 base, .int .i64 cyc, .int .i64 ext, .slice A2 es.length cap, .int .i64 rate] k rr wx)
          case atStart => exact ⟨ρ, E, P, n, last, by omega, rfl, Int.le_refl _, ht0, HP1.out, HFR.out, HAB.out⟩
          case round =>
            obtain ⟨ρ2, E2, P2, n2, last2, hk2, rfl, hn20, hn21, hp2, hf2, hb2⟩ := hrel
            have H2 := Lib.hid hp2
            have HF2 := Lib.hid hf2
            have HB2 := Lib.hid hb2
            have hn2 := hp2.n0
            have hρ2 : ρ2 ≤ 3001 := by omega
            have hρj : ρ2 + j ≤ 5000 := by omega
            have hj60 : j ≤ 60 := by omega
            have d1 : wr.cell? ⟨L.cn, 0, none⟩ = some (.int .i64 n2) := hp2.bn.cell 0
            have d2 : wr.cell? ⟨L.cp, 0, none⟩ = some (.pointer (some ⟨G2.p, 0, none⟩)) := hp2.bp.cell 0
            have C20 := wake_ok hp2.eg (hp2.ok hρj hj60)
            clear hp2 hf2 hb2
            go_upto_region 14 with (go_at_call 20; refine C20.mono ?_; rintro e w3 ⟨t, rfl, hWk, hW⟩; clear C20)
            have H3 := Lib.hid (H2.out.port HIK.out hW H2.out.alike H2.out.pe)
            have HB3 := Lib.hid (HB2.out.keeps hW.keeps (fun x => HZA.out (.inr (.inl x))))
            have ht : (decide (0 ≤ t) = false ∧ t < 0) ∨ (0 ≤ t ∧ decide (t ≤ n2) = false ∧ decide (t < 0) = false ∧ n2 < t) := by
              rcases wakes_fresh hWk HF2.out hn2 with h | h
              · exact .inl ⟨decide_eq_false (by omega), h⟩
              · exact .inr ⟨by omega, decide_eq_false (by omega), decide_eq_false (by omega), h⟩
            clear hW hWk d1 d2
            have d1 : w3.cell? ⟨L.cn, 0, none⟩ = some (.int .i64 n2) := H3.out.bn.cell 0
            have f1 : w3.frozen? ⟨L.cn, 0, none⟩ = false := H3.out.bn.frozen 0
            by_cases hbig : (3000 : Int) < (ρ2 : Nat)
            · rcases ht with ⟨t1, t2⟩ | ⟨t1, t2, t3, t4⟩
              all_goals
                go_wp2_with fail
                go_ret
                exact ⟨by simp [hbig], H3.out.keeps⟩
            · have hbig' : decide ((3000 : Int) < (ρ2 : Nat)) = false := decide_eq_false hbig
              rcases ht with ⟨t1, t2⟩ | ⟨t1, t2, t3, t4⟩
              · go_wp2_with fail
                go_meet
                case rel => exact ⟨ρ2, E2, P2, n2, last2, hρ2, rfl, hn20, hn21, H3.out, HB3.out⟩
              · by_cases hgt : till < t
                · go_wp2_with fail
                  go_meet
                  case rel => exact ⟨ρ2, E2, P2, n2, last2, hρ2, rfl, hn20, hn21, H3.out, HB3.out⟩
                · have hgt' : decide (till < t) = false := decide_eq_false hgt
                  have H4 := Lib.hid (H3.out.later HIK.out (Int.le_of_lt t4) (by omega : t ≤ 300000000))
                  have HB4 : Hid (Blk (w3.setCell ⟨L.cn, 0, none⟩ (.int .i64 t)) ab [.int .i64 kind, .int .i64 later, .int .i64 cls, .int .i64 bytes, .int .i64 base, .int .i64 cyc, .int .i64 ext, .slice A2 es.length cap, .int .i64 rate] 58) := HB3.out.keeps ((Keeps.refl (fun k => k = L.cn) w3).setCell (p := ⟨L.cn, 0, none⟩) (fun _ => rfl) (.int .i64 t)) (fun e => HZA.out (.inr (.inr (by rw [e]; simp [Loc.all]))))
                  go_upto_region 19 with fail
                  clear d1 f1
                  generalize (w3.setCell ⟨L.cn, 0, none⟩ (.int .i64 t)) = w4 at *
                  have C52 := step28 HYI.out.1 HIK.out H4.out (by omega) hj60
                  go_wp2_with (go_at_call 52; go_must (refine C52.mono ?_; rintro e w5 ⟨rfl, E5, P5, last5, h5, hf5, hz5⟩; clear C52))
                  have HB5 := Lib.hid (HB4.out.keeps hz5 HZA.out)
                  go_roundg (gk - 1)
                  case measure => omega
                  case rel => exact ⟨ρ2 + 1, E5, P5, t, last5, by omega, by go_num, by omega, by omega, (by rw [show ρ2 + 1 + j = ρ2 + j + 1 by omega]; exact h5), hf5, HB5.out⟩
        case rest =>
          obtain ⟨ρ2, E2, P2, n2, last2, hρ2, rfl, hn20, hn21, hp2, hb2⟩ := hcut
          have f1 : wc.frozen? ⟨L.cn, 0, none⟩ = false := hp2.bn.frozen 0
          have d1 : wc.cell? ⟨L.cn, 0, none⟩ = some (.int .i64 n2) := hp2.bn.cell 0
          have H4 := Lib.hid (hp2.later HIK.out hn21 ht2)
          have HB4 : Hid (Blk (wc.setCell ⟨L.cn, 0, none⟩ (.int .i64 till)) ab [.int .i64 kind, .int .i64 later, .int .i64 cls, .int .i64 bytes, .int .i64 base, .int .i64 cyc, .int .i64 ext, .slice A2 es.length cap, .int .i64 rate] 58) := hb2.keeps ((Keeps.refl (fun k => k = L.cn) wc).setCell (p := ⟨L.cn, 0, none⟩) (fun _ => rfl) (.int .i64 till)) (fun e => HZA.out (.inr (.inr (by rw [e]; simp [Loc.all]))))
          clear hp2 hb2
          go_upto_region 22 with fail
          clear d1 f1
          generalize (wc.setCell ⟨L.cn, 0, none⟩ (.int .i64 till)) = w4 at *
          have b0 : w4.cell? ⟨ab, 0, none⟩ = some (.int .i64 kind) := HB4.out.cell 0
          go_upto_block 4 with fail
          have hρj : ρ2 + j ≤ 5000 := by omega
          have hj60 : j ≤ 60 := by omega
          go_cut [18, 19, 20] from 82 to 151 (fun s18 s19 s20 wx => CutRel w F N L (.func (.func 28) #[] caps) I nl ns speed (ρ2 + j) j till wx)
          case first =>
            have b2 : w4.cell? ⟨ab, 2, none⟩ = some (.int .i64 cls) := HB4.out.cell 2
            have b3 : w4.cell? ⟨ab, 3, none⟩ = some (.int .i64 bytes) := HB4.out.cell 3
            have b4 : w4.cell? ⟨ab, 4, none⟩ = some (.int .i64 base) := HB4.out.cell 4
            have b5 : w4.cell? ⟨ab, 5, none⟩ = some (.int .i64 cyc) := HB4.out.cell 5
            have b6 : w4.cell? ⟨ab, 6, none⟩ = some (.int .i64 ext) := HB4.out.cell 6
            have b7 : w4.cell? ⟨ab, 7, none⟩ = some (.slice A2 es.length cap) := HB4.out.cell 7
            have b8 : w4.cell? ⟨ab, 8, none⟩ = some (.int .i64 rate) := HB4.out.cell 8
            have d0 : w4.cell? ⟨L.cp, 0, none⟩ = some (.pointer (some ⟨G2.p, 0, none⟩)) := H4.out.bp.cell 0
            have d1 : w4.cell? ⟨L.cn, 0, none⟩ = some (.int .i64 till) := H4.out.bn.cell 0
            have d2 : w4.cell? ⟨L.cf, 0, none⟩ = some (.pointer (some ⟨G2.pp, 0, none⟩)) := H4.out.bf.cell 0
            have d3 : w4.cell? ⟨L.cw, 0, none⟩ = some (.pointer (some ⟨L.q, 0, none⟩)) := H4.out.bw.cell 0
            have hacm := List.mem_of_getElem? HAC.out.1
            by_cases k0 : kind = 0
            · subst k0
              obtain ⟨m, hm⟩ : ∃ m : Nat, min (max bytes 64) 1522 = (m : Int) := ⟨(min (max bytes 64) 1522).toNat, by omega⟩
              have hm0 : 64 ≤ m ∧ m ≤ 1522 := by omega
              obtain ⟨hm1, hm2⟩ := hm0
              have HM : Hid (1 * m ≤ 281474976710656 ∧ m ≤ 281474976710656) := ⟨by omega, by omega⟩
              clear b4 b5 b6 b7 b8 d3 hacm
              go_upto_region 24 with fail
              have HMK := fun v => make_zero v m HM.out.1
              have k6 : Keeps Nothing w4 ((w4.alloc (.cells (rep m [.int .u8 0]).toArray 5)).drew) := ((Keeps.refl Nothing w4).alloc _).drew
              have H6 := Lib.hid (H4.out.alloc HIK.out k6)
              have HB6 : Hid (Blk ((w4.alloc (.cells (rep m [.int .u8 0]).toArray 5)).drew) ab [.int .i64 0, .int .i64 later, .int .i64 cls, .int .i64 bytes, .int .i64 base, .int .i64 cyc, .int .i64 ext, .slice A2 es.length cap, .int .i64 rate] 58) := HB4.out.keeps k6 (fun x => x)
              have hBz : Blk ((w4.alloc (.cells (rep m [.int .u8 0]).toArray 5)).drew) w4.heap.size (bcells (zN m)) 5 := rep_z m ▸ Blk.new w4 (rep m [.int .u8 0]) 5
              have n0 : ((w4.alloc (.cells (rep m [.int .u8 0]).toArray 5)).drew).cell? ⟨ab, 3, none⟩ = some (.int .i64 bytes) := HB6.out.cell 3
              have n1 : ((w4.alloc (.cells (rep m [.int .u8 0]).toArray 5)).drew).cell? ⟨L.cf, 0, none⟩ = some (.pointer (some ⟨G2.pp, 0, none⟩)) := H6.out.bf.cell 0
              have C12 := take_eg H6.out.eg (zN m) ⟨w4.heap.size, 0, none⟩ m (by rw [zN_len]; omega) (by rw [zN_len]; omega) (fun i u hu => by rw [show (⟨w4.heap.size, 0, none⟩ : Addr).add i = ⟨w4.heap.size, i, none⟩ by simp [Addr.add_lit], hBz.cell i]; exact hu)
              rw [zN_len] at C12
              clear hBz k6 b0 b2 d0 d1
              have HZ6 : Hid (¬ Zt F L G2 ab) := HZA.out
              cases hf : freeP E2.ps with
              | none =>
                have e1 : takeV E2.ps = .tuple #[.int .i64 0, .int .i64 20] := by unfold takeV; rw [hf]
                have e2 : takeP E2.ps (zN m) = E2.ps := by unfold takeP; rw [hf]
                rw [e1, e2] at C12
                clear e1 e2 hf
                go_region_held3 (fun v => v.cell? ⟨ab, 3, none⟩ = some (.int .i64 bytes) ∧ v.cell? ⟨L.cf, 0, none⟩ = some (.pointer (some ⟨G2.pp, 0, none⟩))) (first | exact ⟨b3, d2⟩ | exact ⟨n0, n1⟩ | exact ⟨m0, m1⟩) (first | (go_at_call 12; refine C12.mono ?_; rintro e w7 ⟨rfl, G5, hW⟩; have m0 : w7.cell? ⟨ab, 3, none⟩ = some (.int .i64 bytes) := (HB6.out.keeps hW.keeps (fun x => HZ6.out (.inr (.inl x)))).cell 3; have m1 : w7.cell? ⟨L.cf, 0, none⟩ = some (.pointer (some ⟨G2.pp, 0, none⟩)) := (H6.out.sameF hW).cell 0))
                go_wp2_with fail
                go_meet
                case rel => exact ⟨G5, E2, P2, last2, (H6.out.port HIK.out hW H6.out.alike H6.out.pe).next⟩
              | some k =>
                have e1 : takeV E2.ps = .tuple #[.int .i64 (k : Nat), .int .i64 0] := by unfold takeV; rw [hf]
                rw [e1] at C12
                have HF := Lib.hid hf
                clear e1 hf
                go_region_held3 (fun v => v.cell? ⟨ab, 3, none⟩ = some (.int .i64 bytes) ∧ v.cell? ⟨L.cf, 0, none⟩ = some (.pointer (some ⟨G2.pp, 0, none⟩))) (first | exact ⟨b3, d2⟩ | exact ⟨n0, n1⟩ | exact ⟨m0, m1⟩) (first | (go_at_call 12; refine C12.mono ?_; rintro e w7 ⟨rfl, G5, hW⟩; have m0 : w7.cell? ⟨ab, 3, none⟩ = some (.int .i64 bytes) := (HB6.out.keeps hW.keeps (fun x => HZ6.out (.inr (.inl x)))).cell 3; have m1 : w7.cell? ⟨L.cf, 0, none⟩ = some (.pointer (some ⟨G2.pp, 0, none⟩)) := (H6.out.sameF hW).cell 0))
                go_upto_region 26 with fail
                clear HMK n0 n1 m0 m1 b3 d2
                have HW := Lib.hid hW
                obtain ⟨d0, d1, d2⟩ := H6.out.cells hW
                have b2 : w7.cell? ⟨ab, 2, none⟩ = some (.int .i64 cls) := (HB6.out.keeps hW.keeps (fun x => HZ6.out (.inr (.inl x)))).cell 2
                have hht := held_take HF.out (zN m) (H6.out.held5)
                have hhp := held_push (E := { E2 with ps := takeP E2.ps (zN m) }) hht cls (k : Int)
                have C13 := push_eg hW.at_ (fun i => Nat.le_trans (hht i) (by decide)) (fun y hy => by have := H6.out.pe.lost y hy; omega) cls (k : Int) till (by omega)
                have HHP := Lib.hid hhp
                obtain ⟨E7, hE7⟩ : ∃ E7, E7 = ({ E2 with ps := takeP E2.ps (zN m) } : Eg).pushed cls k := ⟨_, rfl⟩
                rw [← hE7] at C13 HHP
                generalize ({ E2 with ps := takeP E2.ps (zN m) } : Eg).pushErr cls k = pv at C13
                have HE7 := Lib.hid hE7
                clear hht hhp hE7 hW C12
                go_upto_region 27 with (go_at_call 13; refine C13.mono ?_; rintro e w8 ⟨rfl, hW2⟩; clear C13)
                have HW2 := Lib.hid (HW.out.trans hW2)
                obtain ⟨d0', d1', d2'⟩ := H6.out.cells HW2.out
                have C14 := drop_ok HW2.out.at_.pool (k : Int) (HHP.out k)
                generalize errP E7.ps k = qv at C14
                clear hW2 d0 d1 d2
                go_wp2_with (go_at_call 14; refine C14.mono ?_; rintro e w9 ⟨rfl, hP9, k9⟩; clear C14)
                go_meet
                case rel =>
                  have hW9 := HW2.out.trans (Went.of (HW2.out.at_.frames k9 hP9) k9 (own_T (by decide) (by decide)))
                  rw [HE7.out, pushed_to HF.out] at hW9
                  exact ⟨G5, _, P2, last2, H6.out.port HIK.out hW9 (by rw [(comes_same E2 cls (zN m)).1]; exact H6.out.alike) (H6.out.pe.comes cls (by rw [zN_len]; exact hm1) (by rw [zN_len]; exact hm2))⟩
            · have k0' : (kind == 0) = false := by simpa using k0
              by_cases k1 : kind = 1
              · subst k1
                have hno : ¬ nl := fun x => HNL.out.1 x _ hacm rfl
                have C11 := link_ok H4.out.eg H4.out.held false till (by omega)
                clear b2 b3 b4 b5 b6 b7 b8 d2 d3 hacm
                generalize E2.linkN false = lv1 at C11
                go_upto_region 30 with (go_at_call 11; refine C11.mono ?_; rintro e w5 ⟨rfl, hW⟩; clear C11)
                have H5 := Lib.hid (H4.out.port HIK.out hW (by rw [(linked_same E2 false).1]; exact H4.out.alike) (H4.out.pe.linked false (fun x => absurd x hno)))
                have d0 : w5.cell? ⟨L.cp, 0, none⟩ = some (.pointer (some ⟨G2.p, 0, none⟩)) := H5.out.bp.cell 0
                have d1 : w5.cell? ⟨L.cn, 0, none⟩ = some (.int .i64 till) := H5.out.bn.cell 0
                have C11 := link_ok H5.out.eg H5.out.held true till (by omega)
                generalize (E2.linked false).linkN true = lv2 at C11
                clear hW
                go_wp2_with (go_at_call 11; refine C11.mono ?_; rintro e w6 ⟨rfl, hW⟩; clear C11)
                go_meet
                case rel => exact ⟨G2, _, P2, last2, (H5.out.port HIK.out hW (by rw [(linked_same (E2.linked false) true).1]; exact H5.out.alike) (H5.out.pe.linked true (fun x => absurd x hno))).next⟩
              · have k1' : (kind == 1) = false := by simpa using k1
                by_cases k2 : kind = 2
                · subst k2
                  have hno : ¬ ns := fun x => (HNL.out.2 x _ hacm).1 rfl
                  obtain ⟨hes, hNe⟩ := (HA.out.keeps H4.out.keeps (fun k hk => (HYI.out.2.2.2 k hk).2)).ents HAC.out.1
                  simp only at hes hNe
                  have HES := Lib.hid hes
                  have HNE := Lib.hid hNe
                  clear b2 b3 b8 d2 hacm hes hNe
                  have d4 : w4.cell? ⟨G2.p, 0, none⟩ = some (.pointer (some ⟨G2.sp, 0, none⟩)) := H4.out.eg.blk.cell 0
                  go_upto_region 32 with fail
                  refine wp_region_still_tail 7 (by kernel_rfl) (by kernel_rfl) ?_
                  simp only [List.take_succ_cons, List.take_zero, List.drop_succ_cons, List.drop_zero]
                  repeat still_step
                  refine wpStill_nil ?_
                  change wpList _ _ _ _ _ w4.drew
                  have H5 := Lib.hid (H4.out.alloc HIK.out ((Keeps.refl Nothing w4).drew))
                  have HB5 : Hid (Blk w4.drew ab [.int .i64 2, .int .i64 later, .int .i64 cls, .int .i64 bytes, .int .i64 base, .int .i64 cyc, .int .i64 ext, .slice A2 es.length cap, .int .i64 rate] 58) := HB4.out
                  have HES5 : Hid (EntsR w4.drew A2 cap es) := HES.out
                  clear b0 b4 b5 b6 b7 d0 d1 d3 d4 HES
                  generalize w4.drew = w5 at *
                  by_cases hg : Good base cyc ext es
                  · have nsp : ∀ b' o', A2 = some ⟨b', o', none⟩ → b' ≠ G2.sp := fun b' o' e e2 => by
                      have h1 := (HYI.out.2.2.2 b' (HNE.out hg.pos b' o' e)).1
                      have h2 := H5.out.newG G2.sp (by rw [H5.out.eg.os]; decide)
                      omega
                    have nq : ∀ b' o', A2 = some ⟨b', o', none⟩ → b' ≠ L.q := fun b' o' e e2 => by
                      have h1 := (HYI.out.2.2.2 b' (HNE.out hg.pos b' o' e)).1
                      have h2 := H5.out.newL L.q (by simp [Loc.all])
                      omega
                    have NSP := Lib.hid (And.intro nsp nq)
                    have hpe := H5.out.pe
                    have C30 := set_eg H5.out.eg HES5.out nsp hg till (by omega) (by omega) ⟨hpe.chg0, by have := hpe.cnt1; have := Sch.chg_le E2.S; omega⟩ ⟨hpe.rep0, by have := hpe.rep1; omega⟩
                    have HG := Lib.hid hg
                    clear nsp nq hpe hg
                    go_upto_region 34 with (go_at_call 30; refine C30.mono ?_; rintro e w6 ⟨G5, g, cap2, rfl, hW⟩; clear C30)
                    have HW := Lib.hid hW
                    obtain ⟨hp6, d3⟩ := H5.out.parWent hW
                    obtain ⟨-, d1, -⟩ := H5.out.cells hW
                    have HB6 := Lib.hid (HB5.out.keeps hW.keeps (fun x => HZA.out (.inr (.inl x))))
                    have b4 : w6.cell? ⟨ab, 4, none⟩ = some (.int .i64 base) := HB6.out.cell 4
                    have b5 : w6.cell? ⟨ab, 5, none⟩ = some (.int .i64 cyc) := HB6.out.cell 5
                    have b6 : w6.cell? ⟨ab, 6, none⟩ = some (.int .i64 ext) := HB6.out.cell 6
                    have b7 : w6.cell? ⟨ab, 7, none⟩ = some (.slice A2 es.length cap) := HB6.out.cell 7
                    have hes6 : EntsR w6 A2 cap es := HES5.out.keepsN hW.keeps (fun h0 b' o' e x => by
                      have h1 := (HYI.out.2.2.2 b' (HNE.out h0 b' o' e)).1
                      have h2 := H5.out.newG b' x.1
                      omega)
                    have C54 := pset_ok hp6 (ext := ext) hes6 NSP.out.2 ⟨HG.out.b0, HG.out.b1⟩ ⟨HG.out.c0, HG.out.c1⟩ till (by omega)
                    clear hW hp6 hes6
                    go_wp2_with (go_at_call 54; refine C54.mono ?_; rintro e w7 ⟨rfl, hP7, k7⟩; clear C54)
                    go_meet
                    case rel =>
                      have hA0 := Par.pass_A (fun A => ∀ b o, A = some ⟨b, o, none⟩ → N b) (P := P2) H5.out.po H5.out.pa till
                      have hA1 := Par.pass_A (fun A => ∀ b o, A = some ⟨b, o, none⟩ → N b) (P := (P2.pass till).told ⟨base, cyc, ext, A2, cap, es⟩ (rstart base cyc till)) hA0.1 (fun b o e => HNE.out HG.out.pos b o e) till
                      exact ⟨G5, _, _, last2, H5.out.both HIK.out HW.out k7 hP7 hA1.1 hA1.2 (told_alike H5.out.alike HG.out.c0 g cap2 A2 cap) (H5.out.pe.told (by omega) ht2 HG.out g cap2 hno)⟩
                  · have C30 := set_bad (p := G2.sp) HES5.out hg till
                    have C55 := fun v (hv : Keeps Nothing w5 v) => check_bad (HES5.out.same hv) hg
                    clear hg
                    go_upto_region 35 with (go_at_call 30; refine C30.mono ?_; rintro e w6 ⟨rfl, k6⟩; clear C30)
                    have HB6 := Lib.hid (HB5.out.keeps k6 (fun x => x))
                    have H6 := Lib.hid (H5.out.alloc HIK.out k6)
                    have b4 : w6.cell? ⟨ab, 4, none⟩ = some (.int .i64 base) := HB6.out.cell 4
                    have b5 : w6.cell? ⟨ab, 5, none⟩ = some (.int .i64 cyc) := HB6.out.cell 5
                    have b6 : w6.cell? ⟨ab, 6, none⟩ = some (.int .i64 ext) := HB6.out.cell 6
                    have b7 : w6.cell? ⟨ab, 7, none⟩ = some (.slice A2 es.length cap) := HB6.out.cell 7
                    go_wp2_with (go_at_call 55; refine (C55 _ k6).mono ?_; rintro e w7 ⟨rfl, k7⟩; clear C55)
                    go_meet
                    case rel => exact ⟨G2, E2, P2, last2, (H6.out.alloc HIK.out k7).next⟩
                · have k2' : (kind == 2) = false := by simpa using k2
                  by_cases k3 : kind = 3
                  · subst k3
                    have hno : ¬ ns := fun x => (HNL.out.2 x _ hacm).2 rfl
                    have C36 := shape_ok H4.out.eg H4.out.pe.speed cls rate till (by omega)
                    clear b3 b4 b5 b6 b7 d2 d3 hacm
                    go_wp2_with (go_at_call 36; refine C36.mono ?_; rintro e w5 ⟨v5, E5, G5, rfl, hE5, hW⟩; clear C36)
                    go_meet
                    case rel =>
                      have hS : E5.S = E2.S := by rcases hE5 with rfl | rfl <;> rfl
                      exact ⟨G5, E5, P2, last2, (H4.out.port HIK.out hW (by rw [hS]; exact H4.out.alike) (H4.out.pe.shaped hE5 hno)).next⟩
                  · have k3' : (kind == 3) = false := by simpa using k3
                    clear b2 b3 b4 b5 b6 b7 b8 d0 d1 d2 d3 hacm
                    go_wp2_with fail
                    go_meet
                    case rel => exact ⟨G2, E2, P2, last2, H4.out.next⟩
          case rest =>
            obtain ⟨G5, E5, P5, last5, h5⟩ := hcut
            have C52 := step28 HYI.out.1 HIK.out h5 (by omega) (by omega)
            have H5 := Lib.hid h5
            clear h5
            go_upto_region 41 with (go_at_call 52; go_must (refine C52.mono ?_; rintro e w6 ⟨rfl, E6, P6, last6, h6, hf6, -⟩; clear C52))
            have H6 := Lib.hid h6
            have HF6 := Lib.hid hf6
            have d0 : w6.cell? ⟨L.cp, 0, none⟩ = some (.pointer (some ⟨G5.p, 0, none⟩)) := h6.bp.cell 0
            have d2 : w6.cell? ⟨L.cf, 0, none⟩ = some (.pointer (some ⟨G5.pp, 0, none⟩)) := h6.bf.cell 0
            have C33 := waiting_ok h6.eg
            have C27 := fun v (hv : Keeps Nothing w6 v) => busy_ok (H6.out.alloc HIK.out hv).eg
            have htot := h6.eg.ring.total_le
            have C31 := fun v (hv : Keeps Nothing w6 v) => holds_eg (n := totalOf E6.rs + (if E6.busy = true then 1 else 0)) (H6.out.alloc HIK.out hv).eg H6.out.pe.led.sum (by split <;> omega)
            clear h6 hf6
            obtain ⟨tt, htt⟩ : ∃ tt, tt = totalOf E6.rs := ⟨_, rfl⟩
            rw [← htt] at C33 C31 htot
            clear htt
            have HR6 : Hid (PlAt w w6 F N L G5 (.func (.func 28) #[] caps) E6 P6 till last6 (ρ2 + (j + 1)) (j + 1) I nl ns speed) := H6.out
            cases hb : E6.busy with
            | true =>
              rw [hb] at C27
              simp only [hb, if_true] at C31
              have hwt : IntKind.i64.wrap ((tt : Int) + 1) = (tt : Int) + 1 := by rw [IntKind.wrap_i64]; omega
              have hct : ((tt + 1 : Nat) : Int) = (tt : Int) + 1 := by omega
              rw [hct] at C31
              clear hct hb
              go_wp2_with (first
                | (go_at_call 33; refine C33.mono ?_; rintro e w7 ⟨rfl, k7⟩; clear C33; have d0' := (k7.cell (World.block_lt_of_cell? _ _ d0) (fun x => x)).trans d0)
                | (go_at_call 27; refine (C27 _ k7).mono ?_; rintro e w8 ⟨rfl, k8⟩; clear C27; have d2' := ((k7.same k8).cell (World.block_lt_of_cell? _ _ d2) (fun x => x)).trans d2)
                | (go_at_call 31; refine (C31 _ (k7.same k8)).mono ?_; rintro e w9 ⟨rfl, k9⟩; clear C31))
              go_roundg (gk - 1)
              case measure => omega
              case rel => exact ⟨j + 1, ρ2, G5, E6, P6, till, last6, by omega, by go_num, rfl, hρ2, by omega, HR6.out.alloc HIK.out ((k7.same k8).same k9), HF6.out⟩
            | false =>
              rw [hb] at C27
              simp only [hb, Bool.false_eq_true, if_false, Nat.add_zero] at C31
              clear hb
              go_wp2_with (first
                | (go_at_call 33; refine C33.mono ?_; rintro e w7 ⟨rfl, k7⟩; clear C33; have d0' := (k7.cell (World.block_lt_of_cell? _ _ d0) (fun x => x)).trans d0)
                | (go_at_call 27; refine (C27 _ k7).mono ?_; rintro e w8 ⟨rfl, k8⟩; clear C27; have d2' := ((k7.same k8).cell (World.block_lt_of_cell? _ _ d2) (fun x => x)).trans d2)
                | (go_at_call 31; refine (C31 _ (k7.same k8)).mono ?_; rintro e w9 ⟨rfl, k9⟩; clear C31))
              go_roundg (gk - 1)
              case measure => omega
              case rel => exact ⟨j + 1, ρ2, G5, E6, P6, till, last6, by omega, by go_num, rfl, hρ2, by omega, HR6.out.alloc HIK.out ((k7.same k8).same k9), HF6.out⟩
      · obtain rfl : j = acts.length := by omega
        go_wp2_with fail
        go_ret
        exact ⟨rfl, HP.out.keeps⟩
  · have C10 := fun v => new_bad v speed (some ⟨pp, 0, none⟩) hsp 9 9 9 9 9 9 9 9
    have C37 := fun v => speed_no v speed hsp
    clear hsp
    go_wp2_with (first | (go_at_call 10; refine (C10 _).mono ?_; rintro e wd ⟨rfl, kd⟩; clear C10) | (go_at_call 37; refine (C37 _).mono ?_; rintro e we ⟨rfl, rfl⟩; clear C37))
    go_ret
    exact ⟨rfl, ((((HK0.out.same HKb.out).same HK1.out).same kd).alloc _).mono (fun _ h _ => h.elim)⟩

end Go.Proofs.Ytimgmobmagpmlaa
