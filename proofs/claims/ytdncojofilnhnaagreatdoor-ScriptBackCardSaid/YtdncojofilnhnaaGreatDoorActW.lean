/- script.act: the walk. -/
import Derived.Test.YtdncojofilnhnaaGreatDoorPut
namespace Go.Proofs.YtdncojofilnhnaaGreatDoor
open Go.RowKit Go.Lib

/-- What act comes to. -/
def ActIs (w' : World) (B : Nat) (l : Str) (ev : Ending) : Prop := match actP l with
  | .ok a => AcIs a ∧ a.bytes.length ≤ l.length ∧ a.cmd.args.length ≤ l.length + 1 ∧ (-9223372036854775808 ≤ a.cmd.kind ∧ a.cmd.kind ≤ 9223372036854775807) ∧
      ∃ bv cv, ev = .returned (.tuple #[.agg (actC a bv cv).toArray, .nilIface]) ∧ OwnF w' (fun k => B ≤ k) 5 bv (bcells a.bytes) ∧ OwnF w' (fun k => B ≤ k) 2 cv (icells a.cmd.args)
  | .error e => ∃ v, ev = .returned (.tuple #[.agg act0.toArray, v]) ∧ ErrE w' v e

theorem unhex_len : ∀ s b : Str, unhex s = some b → b.length ≤ s.length := fun s b h => by
  have := hexS_unhex s b h
  rw [← this, hexS_len]
  omega

theorem act_err {w w' : World} {l : Str} {k : Int} (h : actP l = .error (none, k)) :
    ActIs w' w.heap.size l (.returned (.tuple #[.agg act0.toArray, .iface 33 (.int .i64 k)])) := by
  unfold ActIs
  rw [h]
  exact ⟨_, rfl, rfl⟩

theorem wr_apart {w w' : World} {v : Value} {n k : Int} {rb T : Nat} {l : List Value} (h : WrErr w v (some (n, k))) (hr : Blk w rb l T) (hT : T ≠ 48) (hk : Keeps (fun k => k = rb) w w') : WrErr w' v (some (n, k)) := by
  obtain ⟨b, h0, h1, h2⟩ := h
  refine ⟨b, h0, h1, h2.keeps hk (fun e => ?_)⟩
  subst e
  exact hT (hr.inj h2)

theorem parse_kind {l : Str} {c : Cm} (h : parseP addrP l = .ok c) : -9223372036854775808 ≤ c.kind ∧ c.kind ≤ 9223372036854775807 := by
  have := (parse_text' h).2
  unfold checkP at this
  split at this
  · simp at this
  · omega

theorem act_num {w w' : World} {l : Str} {k n nn : Int} (h : actP l = .ok ⟨k, n, [], nn, cm0⟩) (h0 : -9223372036854775808 ≤ n ∧ n ≤ 9223372036854775807) (h1 : -9223372036854775808 ≤ nn ∧ nn ≤ 9223372036854775807) :
    ActIs w' w.heap.size l (.returned (.tuple #[.agg (actC ⟨k, n, [], nn, cm0⟩ (.slice none 0 0) (.slice none 0 0)).toArray, .nilIface])) := by
  unfold ActIs
  rw [h]
  exact ⟨⟨h0, h1, ⟨rfl, by simp [cm0, mac0]⟩, by simp [cm0]⟩, Nat.zero_le _, Nat.zero_le _, by simp [cm0], _, _, rfl, OwnF.nil _ _ _, OwnF.nil _ _ _⟩

set_option maxRecDepth 100000 in
set_option maxHeartbeats 16000000 in
theorem act_ok (l : Str) (hl : l.length < 4294967280) {w : World} (hg : Gl w) :
    Calls Tryz.prog 58 #[strV l] w fun ev w' => ActIs w' w.heap.size l ev ∧ Keeps Nothing w w' := by
  have k1 : Keeps Nothing w (w.alloc (.cells act0.toArray 73)) := (Keeps.refl _ _).alloc _
  have hr1 : Blk (w.alloc (.cells act0.toArray 73)) w.heap.size act0 73 := Blk.new w act0 73
  have hg1 := hg.same k1
  have HCUT := Lib.hid (cut_ok l 32 (by omega) hg1)
  obtain ⟨hwl, hrl⟩ := cut_len 32 l
  have K1 := Lib.hid k1
  have HR1 := Lib.hid hr1
  have HG1 := Lib.hid hg1
  have HL := Lib.hid hl
  have t1 : True := trivial
  by_cases hfr : (cutP 32 l).1 = sFrame
  · have HA : Hid (actP l = match numP (cutP 32 (cutP 32 l).2.1).1, unhex (cutP 32 (cutP 32 l).2.1).2.1 with | some n, some b => (if (cutP 32 (cutP 32 l).2.1).2.2 = true ∧ n < 8 then .ok ⟨0, n, b, 0, cm0⟩ else .error (none, 4)) | _, _ => .error (none, 4)) := by
      show _ = _
      unfold actP
      simp only
      rw [if_pos hfr]
      cases numP (cutP 32 (cutP 32 l).2.1).1 <;> cases unhex (cutP 32 (cutP 32 l).2.1).2.1 <;> rfl
    rw [hfr] at HCUT
    clear hfr hwl
    obtain ⟨rest, hrest⟩ : ∃ rest, rest = (cutP 32 l).2.1 := ⟨_, rfl⟩
    obtain ⟨fd0, hfd0⟩ : ∃ fd, fd = (cutP 32 l).2.2 := ⟨_, rfl⟩
    rw [← hrest] at HCUT HA hrl
    rw [← hfd0] at HCUT
    have HCUT2 := Lib.hid (fun (w' : World) (hg : Gl w') => cut_ok rest 32 (by omega) (w := w') hg)
    obtain ⟨hpl, hxl⟩ := cut_len 32 rest
    obtain ⟨p, hp⟩ : ∃ p, p = (cutP 32 rest).1 := ⟨_, rfl⟩
    obtain ⟨x, hx⟩ : ∃ x, x = (cutP 32 rest).2.1 := ⟨_, rfl⟩
    obtain ⟨fd, hfd⟩ : ∃ fd, fd = (cutP 32 rest).2.2 := ⟨_, rfl⟩
    rw [← hp, ← hx, ← hfd] at HCUT2 HA
    rw [← hp] at hpl
    rw [← hx] at hxl
    have HNUM := Lib.hid (fun (w' : World) (hg : Gl w') => number_ok p (by omega) (w := w') hg)
    have HU := Lib.hid (fun (w' : World) => unhex_ok x (by omega) w')
    have hxl2 : x.length ≤ l.length := by omega
    have HXL := Lib.hid hxl2
    clear hrest hfd0 hp hx hfd hg hg1 hr1 k1 hl hrl hpl hxl hxl2
    cases hux : unhex x with
    | none =>
      rw [hux] at HA
      replace HA : Hid (actP l = .error (none, 4)) := by
        show _ = _
        rw [HA.out]
        cases numP p <;> rfl
      have HUN : Hid (∀ w', Calls Tryz.prog 85 #[strV x] w' fun ev w2 => ev = .returned (.tuple #[.slice none 0 0, .bool false]) ∧ Keeps Nothing w' w2) := Lib.hid (fun w' => (HU.out w').mono (fun ev w2 h => by
        obtain ⟨h1, h2⟩ := h
        unfold UnhexIs at h1
        rw [hux] at h1
        exact ⟨h1, h2⟩))
      clear HU hux
      go_enter Tryz.func58, Tryz.ntmps58
      go_upto_region 7 with (first | (go_at_call 84; clear t1; refine HCUT.out.mono ?_; rintro e w2 ⟨rfl, k2⟩; have K2 := Lib.hid (K1.out.same k2); have HR2 := Lib.hid (HR1.out.keeps k2 (fun h => h)); have HG2 := Lib.hid (HG1.out.same k2); clear k2) | (go_at_call 84; refine (HCUT2.out _ HG2.out).mono ?_; rintro e w3 ⟨rfl, k3⟩; have K3 := Lib.hid (K2.out.same k3); have HR3 := Lib.hid (HR2.out.keeps k3 (fun h => h)); have HG3 := Lib.hid (HG2.out.same k3); clear k3) | (go_at_call 82; refine (HNUM.out _ HG3.out).mono ?_; rintro e w4 ⟨⟨v, b, rfl, hnv⟩, k4⟩; have K4 := Lib.hid (K3.out.same k4); have HR4 := Lib.hid (HR3.out.keeps k4 (fun h => h)); have HNV := Lib.hid hnv; clear k4 hnv) | (go_at_call 85; refine (HUN.out _).mono ?_; rintro e w5 ⟨rfl, k5⟩; have K5 := Lib.hid (K4.out.same k5); have HR5 := Lib.hid (HR4.out.keeps k5 (fun h => h)); clear k5))
      clear HCUT HCUT2 HNUM HUN HG1 HG2 HG3 HR1 HR2 HR3 HR4 K1 K2 K3 K4 HNV
      cases b
      all_goals
        cases fd
        all_goals
          go_wp2_with (refine wpList_putB rfl 73 (.tmp 2) (.tmp 60) rfl w.heap.size act0 rfl rfl 73 act0 HR5.out size73 rfl (by simp [act0, actC, cmdCells, cm0, mac0, Value.oneCell']) ?_; intro w9 hr9 k9; have HR9 := Lib.hid hr9; have K9 := Lib.hid k9; clear hr9 k9)
          refine bodyPost_ret (results_cellT Tryz.underlying73 size73 rfl _ _ w.heap.size act0 73 rfl HR9.out rfl) rfl ?_
          exact ⟨act_err HA.out, K5.out.up K9.out (fun k h => Nat.le_of_eq h.symm)⟩
    | some bs =>
      rw [hux] at HA
      have hbl := unhex_len x bs hux
      have HBL : Hid (bs.length ≤ l.length) := Lib.hid (Nat.le_trans hbl HXL.out)
      have HUN : Hid (∀ w', Calls Tryz.prog 85 #[strV x] w' fun ev w2 => (∃ bv, ev = .returned (.tuple #[bv, .bool true]) ∧ OwnF w2 (fun k => w'.heap.size ≤ k) 5 bv (bcells bs)) ∧ Keeps Nothing w' w2) := Lib.hid (fun w' => (HU.out w').mono (fun ev w2 h => by
        obtain ⟨h1, h2⟩ := h
        unfold UnhexIs at h1
        rw [hux] at h1
        exact ⟨h1, h2⟩))
      clear HU hux hbl
      go_enter Tryz.func58, Tryz.ntmps58
      go_upto_region 7 with (first | (go_at_call 84; clear t1; refine HCUT.out.mono ?_; rintro e w2 ⟨rfl, k2⟩; have K2 := Lib.hid (K1.out.same k2); have HR2 := Lib.hid (HR1.out.keeps k2 (fun h => h)); have HG2 := Lib.hid (HG1.out.same k2); clear k2) | (go_at_call 84; refine (HCUT2.out _ HG2.out).mono ?_; rintro e w3 ⟨rfl, k3⟩; have K3 := Lib.hid (K2.out.same k3); have HR3 := Lib.hid (HR2.out.keeps k3 (fun h => h)); have HG3 := Lib.hid (HG2.out.same k3); clear k3) | (go_at_call 82; refine (HNUM.out _ HG3.out).mono ?_; rintro e w4 ⟨⟨v, b, rfl, hnv⟩, k4⟩; have K4 := Lib.hid (K3.out.same k4); have HR4 := Lib.hid (HR3.out.keeps k4 (fun h => h)); have HNV := Lib.hid hnv; clear k4 hnv) | (go_at_call 85; refine (HUN.out _).mono ?_; rintro e w5 ⟨⟨bv, rfl, hbv⟩, k5⟩; have K5 := Lib.hid (K4.out.same k5); have HR5 := Lib.hid (HR4.out.keeps k5 (fun h => h)); have HBV := Lib.hid hbv; have HSZ := Lib.hid HR4.out.lt; clear k5 hbv))
      clear HCUT HCUT2 HNUM HUN HG1 HG2 HG3 HR1 HR2 HR3 HR4 K1 K2 K3 K4
      cases b with
      | false =>
        rw [show numP p = none from HNV.out] at HA
        cases fd
        all_goals
          go_wp2_with (refine wpList_putB rfl 73 (.tmp 2) (.tmp 60) rfl w.heap.size act0 rfl rfl 73 act0 HR5.out size73 rfl (by simp [act0, actC, cmdCells, cm0, mac0, Value.oneCell']) ?_; intro w9 hr9 k9; have HR9 := Lib.hid hr9; have K9 := Lib.hid k9; clear hr9 k9)
          refine bodyPost_ret (results_cellT Tryz.underlying73 size73 rfl _ _ w.heap.size act0 73 rfl HR9.out rfl) rfl ?_
          exact ⟨act_err HA.out, K5.out.up K9.out (fun k h => Nat.le_of_eq h.symm)⟩
      | true =>
        rw [show numP p = some v from HNV.out] at HA
        have hv := num_text (show numP p = some v from HNV.out)
        obtain ⟨-, hv0, hv1⟩ := hv
        cases fd with
        | false =>
          simp only [Bool.false_eq_true, false_and, if_false] at HA
          go_wp2_with (refine wpList_putB rfl 73 (.tmp 2) (.tmp 60) rfl w.heap.size act0 rfl rfl 73 act0 HR5.out size73 rfl (by simp [act0, actC, cmdCells, cm0, mac0, Value.oneCell']) ?_; intro w9 hr9 k9; have HR9 := Lib.hid hr9; have K9 := Lib.hid k9; clear hr9 k9)
          refine bodyPost_ret (results_cellT Tryz.underlying73 size73 rfl _ _ w.heap.size act0 73 rfl HR9.out rfl) rfl ?_
          exact ⟨act_err HA.out, K5.out.up K9.out (fun k h => Nat.le_of_eq h.symm)⟩
        | true =>
          by_cases hv8 : v < 8
          · simp only [true_and, if_pos hv8] at HA
            obtain ⟨A0, n0, c0, rfl⟩ : ∃ A n c, bv = .slice A n c := (HBV.out.lenG.elim fun A h => h.elim fun c h => ⟨_, _, _, h⟩)
            go_wp2_with (refine wpList_putB rfl 73 (.tmp 2) (.tmp 64) rfl w.heap.size (actC ⟨0, v, bs, 0, cm0⟩ (.slice A0 n0 c0) (.slice none 0 0)) rfl rfl 73 act0 HR5.out size73 rfl (by simp [actC, cmdCells, cm0, mac0, Value.oneCell']) ?_; intro w9 hr9 k9; have HR9 := Lib.hid hr9; have K9 := Lib.hid k9; clear hr9 k9)
            refine bodyPost_ret (results_cellT Tryz.underlying73 size73 rfl _ _ w.heap.size (actC ⟨0, v, bs, 0, cm0⟩ (.slice A0 n0 c0) (.slice none 0 0)) 73 rfl HR9.out rfl) rfl ?_
            refine ⟨?_, K5.out.up K9.out (fun k h => Nat.le_of_eq h.symm)⟩
            unfold ActIs
            rw [HA.out]
            exact ⟨⟨⟨by simp; omega, by simp; omega⟩, by simp, ⟨rfl, by simp [cm0, mac0]⟩, by simp [cm0]⟩, HBL.out, Nat.zero_le _, by simp [cm0], _, _, rfl, (HBV.out.keeps K9.out (fun k h1 h2 => by have := HSZ.out; omega)).mono (fun k h => by have := HSZ.out; omega), OwnF.nil _ _ _⟩
          · simp only [true_and, if_neg hv8] at HA
            go_wp2_with (refine wpList_putB rfl 73 (.tmp 2) (.tmp 60) rfl w.heap.size act0 rfl rfl 73 act0 HR5.out size73 rfl (by simp [act0, actC, cmdCells, cm0, mac0, Value.oneCell']) ?_; intro w9 hr9 k9; have HR9 := Lib.hid hr9; have K9 := Lib.hid k9; clear hr9 k9)
            refine bodyPost_ret (results_cellT Tryz.underlying73 size73 rfl _ _ w.heap.size act0 73 rfl HR9.out rfl) rfl ?_
            exact ⟨act_err HA.out, K5.out.up K9.out (fun k h => Nat.le_of_eq h.symm)⟩
  · by_cases hup : (cutP 32 l).1 = sUp
    · skip
      have HA : Hid (actP l = match numP (cutP 32 l).2.1 with | some n => if n < 8 then .ok ⟨1, n, [], 0, cm0⟩ else .error (none, 4) | none => .error (none, 4)) := by
        show _ = _
        unfold actP
        simp only
        rw [if_neg hfr, if_pos hup]
        cases numP (cutP 32 l).2.1 <;> rfl
      rw [hup] at HCUT
      clear hfr hup hwl
      obtain ⟨rest, hrest⟩ : ∃ rest, rest = (cutP 32 l).2.1 := ⟨_, rfl⟩
      obtain ⟨fd, hfd⟩ : ∃ fd, fd = (cutP 32 l).2.2 := ⟨_, rfl⟩
      rw [← hrest] at HCUT HA hrl
      rw [← hfd] at HCUT
      have HNUM := Lib.hid (fun (w' : World) (hg : Gl w') => number_ok rest (by omega) (w := w') hg)
      clear hrest hfd hg hg1 hr1 k1 hl hrl
      go_enter Tryz.func58, Tryz.ntmps58
      go_upto_region 13 with (first | (go_at_call 84; clear t1; refine HCUT.out.mono ?_; rintro e w2 ⟨rfl, k2⟩; have K2 := Lib.hid (K1.out.same k2); have HR2 := Lib.hid (HR1.out.keeps k2 (fun h => h)); have HG2 := Lib.hid (HG1.out.same k2); clear k2) | (go_at_call 82; refine (HNUM.out _ HG2.out).mono ?_; rintro e w3 ⟨⟨v, b, rfl, hnv⟩, k3⟩; have K3 := Lib.hid (K2.out.same k3); have HR3 := Lib.hid (HR2.out.keeps k3 (fun h => h)); have HNV := Lib.hid hnv; clear k3 hnv))
      clear HCUT HNUM HG1 HR1 HR2 K1 K2
      cases b with
      | false =>
        rw [show numP rest = none from HNV.out] at HA
        go_wp2_with (refine wpList_putB rfl 73 (.tmp 2) (.tmp 79) rfl w.heap.size act0 rfl rfl 73 act0 HR3.out size73 rfl (by simp [act0, actC, cmdCells, cm0, mac0, Value.oneCell']) ?_; intro w9 hr9 k9; have HR9 := Lib.hid hr9; have K9 := Lib.hid k9; clear hr9 k9)
        refine bodyPost_ret (results_cellT Tryz.underlying73 size73 rfl _ _ w.heap.size act0 73 rfl HR9.out rfl) rfl ?_
        exact ⟨act_err HA.out, K3.out.up K9.out (fun k h => Nat.le_of_eq h.symm)⟩
      | true =>
        rw [show numP rest = some v from HNV.out] at HA
        have hv := num_text (show numP rest = some v from HNV.out)
        obtain ⟨-, hv0, hv1⟩ := hv
        by_cases hv8 : v < 8
        · simp only [if_pos hv8] at HA
          go_wp2_with (refine wpList_putB rfl 73 (.tmp 2) (.tmp 85) rfl w.heap.size (actC ⟨1, v, [], 0, cm0⟩ (.slice none 0 0) (.slice none 0 0)) rfl rfl 73 act0 HR3.out size73 rfl (by simp [actC, cmdCells, cm0, mac0, Value.oneCell']) ?_; intro w9 hr9 k9; have HR9 := Lib.hid hr9; have K9 := Lib.hid k9; clear hr9 k9)
          refine bodyPost_ret (results_cellT Tryz.underlying73 size73 rfl _ _ w.heap.size (actC ⟨1, v, [], 0, cm0⟩ (.slice none 0 0) (.slice none 0 0)) 73 rfl HR9.out rfl) rfl ?_
          exact ⟨act_num HA.out (by omega) (by omega), K3.out.up K9.out (fun k h => Nat.le_of_eq h.symm)⟩
        · simp only [if_neg hv8] at HA
          go_wp2_with (refine wpList_putB rfl 73 (.tmp 2) (.tmp 79) rfl w.heap.size act0 rfl rfl 73 act0 HR3.out size73 rfl (by simp [act0, actC, cmdCells, cm0, mac0, Value.oneCell']) ?_; intro w9 hr9 k9; have HR9 := Lib.hid hr9; have K9 := Lib.hid k9; clear hr9 k9)
          refine bodyPost_ret (results_cellT Tryz.underlying73 size73 rfl _ _ w.heap.size act0 73 rfl HR9.out rfl) rfl ?_
          exact ⟨act_err HA.out, K3.out.up K9.out (fun k h => Nat.le_of_eq h.symm)⟩
    · by_cases hdn : (cutP 32 l).1 = sDown
      · skip
        have HA : Hid (actP l = match numP (cutP 32 l).2.1 with | some n => if n < 8 then .ok ⟨2, n, [], 0, cm0⟩ else .error (none, 4) | none => .error (none, 4)) := by
          show _ = _
          unfold actP
          simp only
          rw [if_neg hfr, if_neg hup, if_pos hdn]
          cases numP (cutP 32 l).2.1 <;> rfl
        rw [hdn] at HCUT
        clear hfr hup hdn hwl
        obtain ⟨rest, hrest⟩ : ∃ rest, rest = (cutP 32 l).2.1 := ⟨_, rfl⟩
        obtain ⟨fd, hfd⟩ : ∃ fd, fd = (cutP 32 l).2.2 := ⟨_, rfl⟩
        rw [← hrest] at HCUT HA hrl
        rw [← hfd] at HCUT
        have HNUM := Lib.hid (fun (w' : World) (hg : Gl w') => number_ok rest (by omega) (w := w') hg)
        clear hrest hfd hg hg1 hr1 k1 hl hrl
        go_enter Tryz.func58, Tryz.ntmps58
        go_upto_region 13 with (first | (go_at_call 84; clear t1; refine HCUT.out.mono ?_; rintro e w2 ⟨rfl, k2⟩; have K2 := Lib.hid (K1.out.same k2); have HR2 := Lib.hid (HR1.out.keeps k2 (fun h => h)); have HG2 := Lib.hid (HG1.out.same k2); clear k2) | (go_at_call 82; refine (HNUM.out _ HG2.out).mono ?_; rintro e w3 ⟨⟨v, b, rfl, hnv⟩, k3⟩; have K3 := Lib.hid (K2.out.same k3); have HR3 := Lib.hid (HR2.out.keeps k3 (fun h => h)); have HNV := Lib.hid hnv; clear k3 hnv))
        clear HCUT HNUM HG1 HR1 HR2 K1 K2
        cases b with
        | false =>
          rw [show numP rest = none from HNV.out] at HA
          go_wp2_with (refine wpList_putB rfl 73 (.tmp 2) (.tmp 79) rfl w.heap.size act0 rfl rfl 73 act0 HR3.out size73 rfl (by simp [act0, actC, cmdCells, cm0, mac0, Value.oneCell']) ?_; intro w9 hr9 k9; have HR9 := Lib.hid hr9; have K9 := Lib.hid k9; clear hr9 k9)
          refine bodyPost_ret (results_cellT Tryz.underlying73 size73 rfl _ _ w.heap.size act0 73 rfl HR9.out rfl) rfl ?_
          exact ⟨act_err HA.out, K3.out.up K9.out (fun k h => Nat.le_of_eq h.symm)⟩
        | true =>
          rw [show numP rest = some v from HNV.out] at HA
          have hv := num_text (show numP rest = some v from HNV.out)
          obtain ⟨-, hv0, hv1⟩ := hv
          by_cases hv8 : v < 8
          · simp only [if_pos hv8] at HA
            go_wp2_with (refine wpList_putB rfl 73 (.tmp 2) (.tmp 85) rfl w.heap.size (actC ⟨2, v, [], 0, cm0⟩ (.slice none 0 0) (.slice none 0 0)) rfl rfl 73 act0 HR3.out size73 rfl (by simp [actC, cmdCells, cm0, mac0, Value.oneCell']) ?_; intro w9 hr9 k9; have HR9 := Lib.hid hr9; have K9 := Lib.hid k9; clear hr9 k9)
            refine bodyPost_ret (results_cellT Tryz.underlying73 size73 rfl _ _ w.heap.size (actC ⟨2, v, [], 0, cm0⟩ (.slice none 0 0) (.slice none 0 0)) 73 rfl HR9.out rfl) rfl ?_
            exact ⟨act_num HA.out (by omega) (by omega), K3.out.up K9.out (fun k h => Nat.le_of_eq h.symm)⟩
          · simp only [if_neg hv8] at HA
            go_wp2_with (refine wpList_putB rfl 73 (.tmp 2) (.tmp 79) rfl w.heap.size act0 rfl rfl 73 act0 HR3.out size73 rfl (by simp [act0, actC, cmdCells, cm0, mac0, Value.oneCell']) ?_; intro w9 hr9 k9; have HR9 := Lib.hid hr9; have K9 := Lib.hid k9; clear hr9 k9)
            refine bodyPost_ret (results_cellT Tryz.underlying73 size73 rfl _ _ w.heap.size act0 73 rfl HR9.out rfl) rfl ?_
            exact ⟨act_err HA.out, K3.out.up K9.out (fun k h => Nat.le_of_eq h.symm)⟩
      · by_cases hwt : (cutP 32 l).1 = sWait
        · skip
          have HA : Hid (actP l = match numP (cutP 32 l).2.1 with | some n => .ok ⟨3, 0, [], n, cm0⟩ | none => .error (none, 4)) := by
            show _ = _
            unfold actP
            simp only
            rw [if_neg hfr, if_neg hup, if_neg hdn, if_pos hwt]
            cases numP (cutP 32 l).2.1 <;> rfl
          rw [hwt] at HCUT
          clear hfr hup hdn hwt hwl
          obtain ⟨rest, hrest⟩ : ∃ rest, rest = (cutP 32 l).2.1 := ⟨_, rfl⟩
          obtain ⟨fd, hfd⟩ : ∃ fd, fd = (cutP 32 l).2.2 := ⟨_, rfl⟩
          rw [← hrest] at HCUT HA hrl
          rw [← hfd] at HCUT
          have HNUM := Lib.hid (fun (w' : World) (hg : Gl w') => number_ok rest (by omega) (w := w') hg)
          clear hrest hfd hg hg1 hr1 k1 hl hrl
          go_enter Tryz.func58, Tryz.ntmps58
          go_upto_region 21 with (first | (go_at_call 84; clear t1; refine HCUT.out.mono ?_; rintro e w2 ⟨rfl, k2⟩; have K2 := Lib.hid (K1.out.same k2); have HR2 := Lib.hid (HR1.out.keeps k2 (fun h => h)); have HG2 := Lib.hid (HG1.out.same k2); clear k2) | (go_at_call 82; refine (HNUM.out _ HG2.out).mono ?_; rintro e w3 ⟨⟨v, b, rfl, hnv⟩, k3⟩; have K3 := Lib.hid (K2.out.same k3); have HR3 := Lib.hid (HR2.out.keeps k3 (fun h => h)); have HNV := Lib.hid hnv; clear k3 hnv))
          clear HCUT HNUM HG1 HR1 HR2 K1 K2
          cases b with
          | false =>
            rw [show numP rest = none from HNV.out] at HA
            go_wp2_with (refine wpList_putB rfl 73 (.tmp 2) (.tmp 95) rfl w.heap.size act0 rfl rfl 73 act0 HR3.out size73 rfl (by simp [act0, actC, cmdCells, cm0, mac0, Value.oneCell']) ?_; intro w9 hr9 k9; have HR9 := Lib.hid hr9; have K9 := Lib.hid k9; clear hr9 k9)
            refine bodyPost_ret (results_cellT Tryz.underlying73 size73 rfl _ _ w.heap.size act0 73 rfl HR9.out rfl) rfl ?_
            exact ⟨act_err HA.out, K3.out.up K9.out (fun k h => Nat.le_of_eq h.symm)⟩
          | true =>
            rw [show numP rest = some v from HNV.out] at HA
            have hv := num_text (show numP rest = some v from HNV.out)
            obtain ⟨-, hv0, hv1⟩ := hv
            go_wp2_with (refine wpList_putB rfl 73 (.tmp 2) (.tmp 98) rfl w.heap.size (actC ⟨3, 0, [], v, cm0⟩ (.slice none 0 0) (.slice none 0 0)) rfl rfl 73 act0 HR3.out size73 rfl (by simp [actC, cmdCells, cm0, mac0, Value.oneCell']) ?_; intro w9 hr9 k9; have HR9 := Lib.hid hr9; have K9 := Lib.hid k9; clear hr9 k9)
            refine bodyPost_ret (results_cellT Tryz.underlying73 size73 rfl _ _ w.heap.size (actC ⟨3, 0, [], v, cm0⟩ (.slice none 0 0) (.slice none 0 0)) 73 rfl HR9.out rfl) rfl ?_
            exact ⟨act_num HA.out (by omega) (by omega), K3.out.up K9.out (fun k h => Nat.le_of_eq h.symm)⟩
        · have HA : Hid (actP l = match parseP addrP l with | .error (n, k) => .error (some n, k) | .ok c => .ok ⟨4, 0, [], 0, c⟩) := by
            show _ = _
            unfold actP
            simp only
            rw [if_neg hfr, if_neg hup, if_neg hdn, if_neg hwt]
            cases parseP addrP l <;> rfl
          obtain ⟨word, hword⟩ : ∃ word, word = (cutP 32 l).1 := ⟨_, rfl⟩
          rw [← hword] at HCUT hfr hup hdn hwt
          have q1 : (word == [102, 114, 97, 109, 101]) = false := by simpa [sFrame] using hfr
          have q2 : (word == [117, 112]) = false := by simpa [sUp] using hup
          have q3 : (word == [100, 111, 119, 110]) = false := by simpa [sDown] using hdn
          have q4 : (word == [119, 97, 105, 116]) = false := by simpa [sWait] using hwt
          obtain ⟨rest, hrest⟩ : ∃ rest, rest = (cutP 32 l).2.1 := ⟨_, rfl⟩
          obtain ⟨fd, hfd⟩ : ∃ fd, fd = (cutP 32 l).2.2 := ⟨_, rfl⟩
          rw [← hrest, ← hfd] at HCUT
          have HP := Lib.hid (fun (w' : World) (hg : Gl w') => parse_ok l HL.out (w := w') hg)
          clear hword hrest hfd hfr hup hdn hwt hwl hrl hg hg1 hr1 k1 hl
          cases hpp : parseP addrP l with
          | error e =>
            obtain ⟨n, k⟩ := e
            rw [hpp] at HA
            have HPE : Hid (∀ w', Gl w' → Calls Tryz.prog 17 #[strV l] w' fun ev w2 => (∃ b, ev = .returned (.tuple #[.agg #[.int .i64 0, .int .u8 0, .int .u8 0, .int .u8 0, .int .u8 0, .int .u8 0, .int .u8 0, .slice none 0 0], .iface 42 (.pointer (some ⟨b, 0, none⟩))]) ∧ WrErr w2 (.iface 42 (.pointer (some ⟨b, 0, none⟩))) (some (n, k))) ∧ Keeps Nothing w' w2) := Lib.hid (fun w' hg => (HP.out w' hg).mono (fun ev w2 h => by
              obtain ⟨h1, h2⟩ := h
              unfold ParseIs at h1
              rw [hpp] at h1
              obtain ⟨v, hv, rfl⟩ := h1
              obtain ⟨b, hb0, rfl, hb⟩ := hv
              exact ⟨⟨b, rfl, ⟨b, hb0, rfl, hb⟩⟩, h2⟩))
            clear HP hpp
            go_enter Tryz.func58, Tryz.ntmps58
            go_upto_region 25 with (first | (go_at_call 84; clear t1; refine HCUT.out.mono ?_; rintro e w2 ⟨rfl, k2⟩; have K2 := Lib.hid (K1.out.same k2); have HR2 := Lib.hid (HR1.out.keeps k2 (fun h => h)); have HG2 := Lib.hid (HG1.out.same k2); clear k2) | (go_at_call 17; refine (HPE.out _ HG2.out).mono ?_; rintro e w3 ⟨⟨b, rfl, hwr⟩, k3⟩; have K3 := Lib.hid (K2.out.same k3); have HR3 := Lib.hid (HR2.out.keeps k3 (fun h => h)); have HWR := Lib.hid hwr; have HSZ3 := Lib.hid (Nat.lt_of_lt_of_le HR2.out.lt k3.size); clear k3 hwr))
            have HR4 := Lib.hid (HR3.out.alloc (.cells #[.int .i64 0, .int .u8 0, .int .u8 0, .int .u8 0, .int .u8 0, .int .u8 0, .int .u8 0, .slice none 0 0] 26))
            have K4 := Lib.hid (K3.out.alloc (.cells #[.int .i64 0, .int .u8 0, .int .u8 0, .int .u8 0, .int .u8 0, .int .u8 0, .int .u8 0, .slice none 0 0] 26))
            have HW4 := Lib.hid (WrErr.same HWR.out ((Keeps.refl Nothing w3).alloc (.cells #[.int .i64 0, .int .u8 0, .int .u8 0, .int .u8 0, .int .u8 0, .int .u8 0, .int .u8 0, .slice none 0 0] 26)))
            generalize (w3.alloc (.cells #[.int .i64 0, .int .u8 0, .int .u8 0, .int .u8 0, .int .u8 0, .int .u8 0, .int .u8 0, .slice none 0 0] 26)) = w4 at *
            clear HPE HCUT HR1 HR2 HG1 HG2 K1 K2 K3 HR3 HWR
            go_wp2_with (refine wpList_putB rfl 73 (.tmp 2) (.tmp 106) rfl w.heap.size act0 rfl rfl 73 act0 HR4.out size73 rfl (by simp [act0, actC, cmdCells, cm0, mac0, Value.oneCell']) ?_; intro w9 hr9 k9; have HR9 := Lib.hid hr9; have K9 := Lib.hid k9; clear hr9 k9)
            refine bodyPost_ret (results_cellT Tryz.underlying73 size73 rfl _ _ w.heap.size act0 73 rfl HR9.out rfl) rfl ?_
            refine ⟨?_, K4.out.up K9.out (fun k h => Nat.le_of_eq h.symm)⟩
            unfold ActIs
            rw [HA.out]
            exact ⟨_, rfl, wr_apart HW4.out HR4.out (by decide) K9.out⟩
          | ok c =>
            rw [hpp] at HA
            have HPE : Hid (∀ w', Gl w' → Calls Tryz.prog 17 #[strV l] w' fun ev w2 => ((MacIs c.mac ∧ (∀ a ∈ c.args, -9223372036854775808 ≤ a ∧ a ≤ 9223372036854775807) ∧ c.args.length ≤ l.length + 1) ∧ ∃ v, OwnF w2 (fun k => w'.heap.size ≤ k) 2 v (icells c.args) ∧ ev = .returned (.tuple #[cmdV c v, .nilIface])) ∧ Keeps Nothing w' w2) := Lib.hid (fun w' hg => (HP.out w' hg).mono (fun ev w2 h => by
              obtain ⟨h1, h2⟩ := h
              unfold ParseIs at h1
              rw [hpp] at h1
              obtain ⟨e1, e2, e3, v, hv, rfl⟩ := h1
              exact ⟨⟨⟨e1, e2, e3⟩, v, hv, rfl⟩, h2⟩))
            have hkk := parse_kind hpp
            clear HP hpp
            obtain ⟨kd, mac, ars⟩ := c
            go_enter Tryz.func58, Tryz.ntmps58
            go_upto_region 25 with (first | (go_at_call 84; clear t1; refine HCUT.out.mono ?_; rintro e w2 ⟨rfl, k2⟩; have K2 := Lib.hid (K1.out.same k2); have HR2 := Lib.hid (HR1.out.keeps k2 (fun h => h)); have HG2 := Lib.hid (HG1.out.same k2); clear k2) | (go_at_call 17; refine (HPE.out _ HG2.out).mono ?_; rintro e w3 ⟨⟨⟨hm, har, hln⟩, v, hv, rfl⟩, k3⟩; obtain ⟨A0, n0, c0, rfl⟩ : ∃ A n c, v = .slice A n c := (hv.lenG.elim fun A h => h.elim fun c h => ⟨_, _, _, h⟩); obtain ⟨q0, q1, q2, q3, q4, q5, rfl⟩ := sixOf hm.1; have HM := Lib.hid hm; have HAR := Lib.hid har; have HLN := Lib.hid hln; have HV := Lib.hid hv; have K3 := Lib.hid (K2.out.same k3); have HR3 := Lib.hid (HR2.out.keeps k3 (fun h => h)); have HSZ3 := Lib.hid HR2.out.lt; clear k3 hv hm har hln; simp only [cmdV, cmdCells, List.map_cons, List.map_nil, List.cons_append, List.nil_append]))
            have HR4 := Lib.hid (HR3.out.alloc (.cells #[.int .i64 kd, .int .u8 q0, .int .u8 q1, .int .u8 q2, .int .u8 q3, .int .u8 q4, .int .u8 q5, .slice A0 n0 c0] 26))
            have K4 := Lib.hid (K3.out.alloc (.cells #[.int .i64 kd, .int .u8 q0, .int .u8 q1, .int .u8 q2, .int .u8 q3, .int .u8 q4, .int .u8 q5, .slice A0 n0 c0] 26))
            have HV4 := Lib.hid (HV.out.keeps ((Keeps.refl Nothing w3).alloc (.cells #[.int .i64 kd, .int .u8 q0, .int .u8 q1, .int .u8 q2, .int .u8 q3, .int .u8 q4, .int .u8 q5, .slice A0 n0 c0] 26)) (fun _ _ h => h))
            have HB4 : Hid (Blk (w3.alloc (.cells #[.int .i64 kd, .int .u8 q0, .int .u8 q1, .int .u8 q2, .int .u8 q3, .int .u8 q4, .int .u8 q5, .slice A0 n0 c0] 26)) w3.heap.size [.int .i64 kd, .int .u8 q0, .int .u8 q1, .int .u8 q2, .int .u8 q3, .int .u8 q4, .int .u8 q5, .slice A0 n0 c0] 26) := Lib.hid (Blk.new w3 _ 26)
            generalize (w3.alloc (.cells #[.int .i64 kd, .int .u8 q0, .int .u8 q1, .int .u8 q2, .int .u8 q3, .int .u8 q4, .int .u8 q5, .slice A0 n0 c0] 26)) = w4 at *
            obtain ⟨e0, e1, e2, e3, e4, e5, e6, e7⟩ := HB4.out.eight
            clear HPE HCUT HR1 HR2 HG1 HG2 K1 K2 K3 HR3 HV
            go_wp2_with (refine wpList_putB rfl 73 (.tmp 2) (.tmp 109) rfl w.heap.size (actC ⟨4, 0, [], 0, ⟨kd, [q0, q1, q2, q3, q4, q5], ars⟩⟩ (.slice none 0 0) (.slice A0 n0 c0)) rfl rfl 73 act0 HR4.out size73 rfl (by simp [actC, cmdCells, Value.oneCell']) ?_; intro w9 hr9 k9; have HR9 := Lib.hid hr9; have K9 := Lib.hid k9; clear hr9 k9)
            refine bodyPost_ret (results_cellT Tryz.underlying73 size73 rfl _ _ w.heap.size (actC ⟨4, 0, [], 0, ⟨kd, [q0, q1, q2, q3, q4, q5], ars⟩⟩ (.slice none 0 0) (.slice A0 n0 c0)) 73 rfl HR9.out rfl) rfl ?_
            refine ⟨?_, K4.out.up K9.out (fun k h => Nat.le_of_eq h.symm)⟩
            unfold ActIs
            rw [HA.out]
            exact ⟨⟨by simp, by simp, HM.out, HAR.out⟩, Nat.zero_le _, HLN.out, hkk, _, _, rfl, OwnF.nil _ _ _, (HV4.out.keeps K9.out (fun k h1 h2 => by have := HSZ3.out; omega)).mono (fun k h => by have := HSZ3.out; omega)⟩
end Go.Proofs.YtdncojofilnhnaaGreatDoor
