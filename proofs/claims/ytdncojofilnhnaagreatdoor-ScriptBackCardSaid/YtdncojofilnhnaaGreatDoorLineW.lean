/- script.Line: the walk. -/
import Derived.Test.YtdncojofilnhnaaGreatDoorActW
namespace Go.Proofs.YtdncojofilnhnaaGreatDoor
open Go.RowKit Go.Lib

/-- What Line comes to. -/
def LineIs (w' : World) (a : Ac) (ev : Ending) : Prop := match lineP a with
  | .ok t => ev = .returned (.tuple #[strV t, .nilIface])
  | .error e => ∃ v, ErrE w' v e ∧ ev = .returned (.tuple #[strV [], v])

theorem Blk.twelve {w : World} {b T : Nat} {a0 a1 a2 a3 a4 a5 a6 a7 a8 a9 a10 a11 : Value} (h : Blk w b [a0, a1, a2, a3, a4, a5, a6, a7, a8, a9, a10, a11] T) :
    w.cell? ⟨b, 0, none⟩ = some a0 ∧ w.cell? ⟨b, 1, none⟩ = some a1 ∧ w.cell? ⟨b, 2, none⟩ = some a2 ∧ w.cell? ⟨b, 3, none⟩ = some a3 ∧ w.cell? ⟨b, 4, none⟩ = some a4 ∧ w.cell? ⟨b, 5, none⟩ = some a5 ∧ w.cell? ⟨b, 6, none⟩ = some a6 ∧ w.cell? ⟨b, 7, none⟩ = some a7 ∧ w.cell? ⟨b, 8, none⟩ = some a8 ∧ w.cell? ⟨b, 9, none⟩ = some a9 ∧ w.cell? ⟨b, 10, none⟩ = some a10 ∧ w.cell? ⟨b, 11, none⟩ = some a11 :=
  ⟨h.cell 0, h.cell 1, h.cell 2, h.cell 3, h.cell 4, h.cell 5, h.cell 6, h.cell 7, h.cell 8, h.cell 9, h.cell 10, h.cell 11⟩

theorem SlR.shape {w : World} {v : Value} {xs : List Value} (h : SlR w v xs) : ∃ A c, v = .slice A xs.length c := by
  rcases h with ⟨c, rfl, rfl⟩ | ⟨ad, c, rfl, -⟩
  · exact ⟨_, _, rfl⟩
  · exact ⟨_, _, rfl⟩

theorem cat_of (a b : Str) : ∃ s : Str, (⟨a.toArray⟩ ++ ⟨b.toArray⟩ : ByteArray) = ⟨s.toArray⟩ ∧ s = a ++ b := ⟨_, cat_s a b, rfl⟩

set_option maxRecDepth 100000 in
set_option maxHeartbeats 16000000 in
theorem line_ok (a : Ac) (ha : AcIs a) (hk : -9223372036854775808 ≤ a.cmd.kind ∧ a.cmd.kind ≤ 9223372036854775807) (hbl : a.bytes.length ≤ 35184372088832) (hal : a.cmd.args.length ≤ 140737488355328) (bv cv : Value) {w : World} (hg : Gl w) (hb : SlR w bv (bcells a.bytes)) (hc : SlR w cv (icells a.cmd.args)) :
    Calls Tryz.prog 30 #[.agg (actC a bv cv).toArray] w fun ev w' => LineIs w' a ev ∧ Keeps Nothing w w' := by
  obtain ⟨A0, c0, rfl⟩ := hb.shape
  obtain ⟨A1, c1, rfl⟩ := hc.shape
  rw [bcells_length] at hb ⊢
  obtain ⟨n1, hn1⟩ : ∃ n, n = (icells a.cmd.args).length := ⟨_, rfl⟩
  rw [← hn1] at hc ⊢
  obtain ⟨n0, hn0⟩ : ∃ n, n = a.bytes.length := ⟨_, rfl⟩
  rw [← hn0] at hb ⊢
  clear hn1 hn0
  have HTX := Lib.hid (fun (w' : World) (hg : Gl w') (hs : SlR w' (.slice A1 n1 c1) (icells a.cmd.args)) => text_ok a.cmd ha.mac hk hal ha.args (v := .slice A1 n1 c1) (w := w') hg hs)
  have HHX := Lib.hid (fun (w' : World) (hs : SlR w' (.slice A0 n0 c0) (bcells a.bytes)) => hex_ok a.bytes hbl (.slice A0 n0 c0) w' hs)
  have HNA := Lib.hid (fun (w' : World) (hg : Gl w') => fmt_ok a.nanos ha.nanos.1 ha.nanos.2 (w := w') hg)
  have HPO := Lib.hid (fun (w' : World) (hg : Gl w') => itoa_ok a.port ha.port.1 ha.port.2 (w := w') hg)
  have hnl := itoa_length_le a.nanos ha.nanos.1 ha.nanos.2
  have hpl := itoa_length_le a.port ha.port.1 ha.port.2
  have hxl : (hexS a.bytes).length = 2 * a.bytes.length := hexS_len _
  obtain ⟨q0, q1, q2, q3, q4, q5, hq⟩ := sixOf ha.mac.1
  have hcells : actC a (.slice A0 n0 c0) (.slice A1 n1 c1) = [.int .i64 a.kind, .int .i64 a.port, .slice A0 n0 c0, .int .i64 a.nanos, .int .i64 a.cmd.kind, .int .u8 q0, .int .u8 q1, .int .u8 q2, .int .u8 q3, .int .u8 q4, .int .u8 q5, .slice A1 n1 c1] := by
    unfold actC cmdCells
    rw [hq]
    rfl
  have hcmd : cmdV a.cmd (.slice A1 n1 c1) = .agg #[.int .i64 a.cmd.kind, .int .u8 q0, .int .u8 q1, .int .u8 q2, .int .u8 q3, .int .u8 q4, .int .u8 q5, .slice A1 n1 c1] := by
    unfold cmdV cmdCells
    rw [hq]
    rfl
  rw [hcells]
  rw [hcmd] at HTX
  have HLP : Hid (∀ r, lineP a = r → r = lineP a) := Lib.hid (fun r h => h.symm)
  have K1 := Lib.hid ((Keeps.refl Nothing w).alloc (.cells [.int .i64 a.kind, .int .i64 a.port, .slice A0 n0 c0, .int .i64 a.nanos, .int .i64 a.cmd.kind, .int .u8 q0, .int .u8 q1, .int .u8 q2, .int .u8 q3, .int .u8 q4, .int .u8 q5, .slice A1 n1 c1].toArray 73))
  have HB1 := Lib.hid (Blk.new w [.int .i64 a.kind, .int .i64 a.port, .slice A0 n0 c0, .int .i64 a.nanos, .int .i64 a.cmd.kind, .int .u8 q0, .int .u8 q1, .int .u8 q2, .int .u8 q3, .int .u8 q4, .int .u8 q5, .slice A1 n1 c1] 73)
  have HG1 := Lib.hid (hg.same K1.out)
  have HSB := Lib.hid (hb.same K1.out)
  have HSC := Lib.hid (hc.same K1.out)
  clear hcells hcmd hq hb hc hg hk hal ha
  obtain ⟨kind, port, bytes, nanos, cmd⟩ := a
  simp only at HTX HHX HNA HPO hnl hpl hxl K1 HB1 HG1 HSB HSC hbl ⊢
  have HIF : Hid (∀ r, lineP ⟨kind, port, bytes, nanos, cmd⟩ = r → lineP ⟨kind, port, bytes, nanos, cmd⟩ = r) := Lib.hid (fun r h => h)
  show Calls Tryz.prog 30 #[.agg #[.int .i64 kind, .int .i64 port, .slice A0 n0 c0, .int .i64 nanos, .int .i64 cmd.kind, .int .u8 q0, .int .u8 q1, .int .u8 q2, .int .u8 q3, .int .u8 q4, .int .u8 q5, .slice A1 n1 c1]] w _
  have HPE := Lib.hid hpl
  by_cases hk4 : kind = 4
  · subst hk4
    have HL : Hid (lineP ⟨4, port, bytes, nanos, cmd⟩ = match checkP cmd with | some (n, k) => .error (some n, k) | none => .ok (textP cmd)) := Lib.hid (by unfold lineP; simp only [if_true]; rfl)
    generalize itoa port = tp at *
    cases hck : checkP cmd with
    | none =>
      rw [hck] at HL
      have HT : Hid (∀ w', Gl w' → SlR w' (.slice A1 n1 c1) (icells cmd.args) → Calls Tryz.prog 13 #[.agg #[.int .i64 cmd.kind, .int .u8 q0, .int .u8 q1, .int .u8 q2, .int .u8 q3, .int .u8 q4, .int .u8 q5, .slice A1 n1 c1]] w' fun ev w2 => ev = .returned (.tuple #[strV (textP cmd), .nilIface]) ∧ Keeps Nothing w' w2) := Lib.hid (fun w' hg hs => (HTX.out w' hg hs).mono (fun ev w2 h => by
        obtain ⟨h1, h2⟩ := h
        unfold TextIs at h1
        rw [hck] at h1
        exact ⟨h1, h2⟩))
      clear HTX hck
      generalize textP cmd = tx at *
      go_enter Tryz.func30, Tryz.ntmps30
      go_wp2_with (first | (go_at_call 53; refine (HPO.out _ HG1.out).mono ?_; rintro e w2 ⟨rfl, k2⟩; have K2 := Lib.hid (K1.out.same k2); have hb2 := HB1.out.keeps k2 (fun h => h); have HG2 := Lib.hid (HG1.out.same k2); have HSB2 := Lib.hid (HSB.out.same k2); have HSC2 := Lib.hid (HSC.out.same k2); obtain ⟨f0, f1, f2, f3, f4, f5, f6, f7, f8, f9, f10, f11⟩ := hb2.twelve; clear k2 hb2) | (go_at_call 13; refine (HT.out _ HG2.out HSC2.out).mono ?_; rintro e w3 ⟨rfl, k3⟩; have K3 := Lib.hid (K2.out.same k3); clear k3))
      go_ret2
      refine ⟨?_, K3.out⟩
      unfold LineIs
      rw [HL.out]
      rfl
    | some e =>
      obtain ⟨en, ek⟩ := e
      rw [hck] at HL
      have HT : Hid (∀ w', Gl w' → SlR w' (.slice A1 n1 c1) (icells cmd.args) → Calls Tryz.prog 13 #[.agg #[.int .i64 cmd.kind, .int .u8 q0, .int .u8 q1, .int .u8 q2, .int .u8 q3, .int .u8 q4, .int .u8 q5, .slice A1 n1 c1]] w' fun ev w2 => (∃ v, WrErr w2 v (some (en, ek)) ∧ ev = .returned (.tuple #[strV [], v])) ∧ Keeps Nothing w' w2) := Lib.hid (fun w' hg hs => (HTX.out w' hg hs).mono (fun ev w2 h => by
        obtain ⟨h1, h2⟩ := h
        unfold TextIs at h1
        rw [hck] at h1
        exact ⟨h1, h2⟩))
      clear HTX hck
      go_enter Tryz.func30, Tryz.ntmps30
      go_wp2_with (first | (go_at_call 53; refine (HPO.out _ HG1.out).mono ?_; rintro e w2 ⟨rfl, k2⟩; have K2 := Lib.hid (K1.out.same k2); have hb2 := HB1.out.keeps k2 (fun h => h); have HG2 := Lib.hid (HG1.out.same k2); have HSB2 := Lib.hid (HSB.out.same k2); have HSC2 := Lib.hid (HSC.out.same k2); obtain ⟨f0, f1, f2, f3, f4, f5, f6, f7, f8, f9, f10, f11⟩ := hb2.twelve; clear k2 hb2) | (go_at_call 13; refine (HT.out _ HG2.out HSC2.out).mono ?_; rintro e w3 ⟨⟨v, hv, rfl⟩, k3⟩; have HV := Lib.hid hv; have K3 := Lib.hid (K2.out.same k3); clear k3 hv))
      go_ret2
      refine ⟨?_, K3.out⟩
      unfold LineIs
      rw [HL.out]
      exact ⟨_, HV.out, rfl⟩
  · by_cases h3 : kind = 3 ∧ 0 ≤ nanos
    · obtain ⟨rfl, hnn⟩ := h3
      have HL : Hid (lineP ⟨3, port, bytes, nanos, cmd⟩ = .ok ([119, 97, 105, 116, 32] ++ itoa nanos)) := Lib.hid (by unfold lineP; simp [hnn, sWait])
      obtain ⟨s1, cs1, hs1⟩ := cat_of [119, 97, 105, 116, 32] (itoa nanos)
      rw [← hs1] at HL
      clear hs1
      generalize itoa port = tp at *
      generalize itoa nanos = tn at *
      have hlim : ¬ 9223372036854775807 < 5 + tn.length := by omega
      clear HTX HHX
      go_enter Tryz.func30, Tryz.ntmps30
      go_wp2_with (first | (go_at_call 53; refine (HPO.out _ HG1.out).mono ?_; rintro e w2 ⟨rfl, k2⟩; have K2 := Lib.hid (K1.out.same k2); have hb2 := HB1.out.keeps k2 (fun h => h); have HG2 := Lib.hid (HG1.out.same k2); have HSB2 := Lib.hid (HSB.out.same k2); have HSC2 := Lib.hid (HSC.out.same k2); obtain ⟨f0, f1, f2, f3, f4, f5, f6, f7, f8, f9, f10, f11⟩ := hb2.twelve; clear k2 hb2) | (go_at_call 37; refine (HNA.out _ HG2.out).mono ?_; rintro e w3 ⟨rfl, k3⟩; have K3 := Lib.hid (K2.out.same k3); clear k3))
      go_ret2
      refine ⟨?_, K3.out⟩
      unfold LineIs
      rw [HL.out]
      rfl
    · by_cases hp : port < 0 ∨ 8 ≤ port
      · have HL : Hid (lineP ⟨kind, port, bytes, nanos, cmd⟩ = .error (none, 1)) := Lib.hid (by unfold lineP; simp only [if_neg hk4, if_neg h3, if_pos hp])
        generalize itoa port = tp at *
        clear HTX HHX HNA
        rcases hp with hp | hp
        all_goals
          go_enter Tryz.func30, Tryz.ntmps30
          go_wp2_with ((go_at_call 53; refine (HPO.out _ HG1.out).mono ?_; rintro e w2 ⟨rfl, k2⟩; have K2 := Lib.hid (K1.out.same k2); have hb2 := HB1.out.keeps k2 (fun h => h); have HG2 := Lib.hid (HG1.out.same k2); have HSB2 := Lib.hid (HSB.out.same k2); have HSC2 := Lib.hid (HSC.out.same k2); obtain ⟨f0, f1, f2, f3, f4, f5, f6, f7, f8, f9, f10, f11⟩ := hb2.twelve; clear k2 hb2))
          all_goals
            go_ret2
            refine ⟨?_, K2.out⟩
            unfold LineIs
            rw [HL.out]
            exact ⟨_, rfl, rfl⟩
      · have hp0 : 0 ≤ port := by omega
        have hp8 : port < 8 := by omega
        by_cases hk0 : kind = 0
        · subst hk0
          have HL : Hid (lineP ⟨0, port, bytes, nanos, cmd⟩ = .ok ((([102, 114, 97, 109, 101, 32] ++ itoa port) ++ [32]) ++ hexS bytes)) := Lib.hid (by unfold lineP; simp [hp, sFrame])
          obtain ⟨s1, cs1, hs1⟩ := cat_of [102, 114, 97, 109, 101, 32] (itoa port)
          obtain ⟨s2, cs2, hs2⟩ := cat_of s1 [32]
          obtain ⟨s3, cs3, hs3⟩ := cat_of s2 (hexS bytes)
          have hl1 : s1.length = 6 + (itoa port).length := by rw [hs1]; simp; omega
          have hl2 : s2.length = s1.length + 1 := by rw [hs2]; simp
          have hlim : ¬ 9223372036854775807 < 6 + (itoa port).length := by omega
          have hlim1 : ¬ 9223372036854775807 < s1.length + 1 := by omega
          have hlim2 : ¬ 9223372036854775807 < s2.length + (hexS bytes).length := by omega
          rw [← hs1, ← hs2, ← hs3] at HL
          clear hs1 hs2 hs3 hl1 hl2 hxl HTX HNA
          generalize hexS bytes = hx at *
          generalize itoa port = tp at *
          go_enter Tryz.func30, Tryz.ntmps30
          go_wp2_with (first | (go_at_call 53; refine (HPO.out _ HG1.out).mono ?_; rintro e w2 ⟨rfl, k2⟩; have K2 := Lib.hid (K1.out.same k2); have hb2 := HB1.out.keeps k2 (fun h => h); have HG2 := Lib.hid (HG1.out.same k2); have HSB2 := Lib.hid (HSB.out.same k2); have HSC2 := Lib.hid (HSC.out.same k2); obtain ⟨f0, f1, f2, f3, f4, f5, f6, f7, f8, f9, f10, f11⟩ := hb2.twelve; clear k2 hb2) | (go_at_call 35; refine (HHX.out _ HSB2.out).mono ?_; rintro e w3 ⟨rfl, k3⟩; have K3 := Lib.hid (K2.out.same k3); clear k3))
          all_goals
            go_ret2
            refine ⟨?_, K3.out⟩
            unfold LineIs
            rw [HL.out]
            rfl
        · by_cases hk1 : kind = 1
          · subst hk1
            have HL : Hid (lineP ⟨1, port, bytes, nanos, cmd⟩ = .ok ([117, 112, 32] ++ itoa port)) := Lib.hid (by unfold lineP; simp [hp, sUp])
            obtain ⟨s1, cs1, hs1⟩ := cat_of [117, 112, 32] (itoa port)
            rw [← hs1] at HL
            clear hs1
            generalize itoa port = tp at *
            have hlim : ¬ 9223372036854775807 < 3 + tp.length := by omega
            clear HTX HHX HNA
            go_enter Tryz.func30, Tryz.ntmps30
            go_wp2_with ((go_at_call 53; refine (HPO.out _ HG1.out).mono ?_; rintro e w2 ⟨rfl, k2⟩; have K2 := Lib.hid (K1.out.same k2); have hb2 := HB1.out.keeps k2 (fun h => h); have HG2 := Lib.hid (HG1.out.same k2); have HSB2 := Lib.hid (HSB.out.same k2); have HSC2 := Lib.hid (HSC.out.same k2); obtain ⟨f0, f1, f2, f3, f4, f5, f6, f7, f8, f9, f10, f11⟩ := hb2.twelve; clear k2 hb2))
            all_goals
              go_ret2
              refine ⟨?_, K2.out⟩
              unfold LineIs
              rw [HL.out]
              rfl
          · by_cases hk2 : kind = 2
            · subst hk2
              have HL : Hid (lineP ⟨2, port, bytes, nanos, cmd⟩ = .ok ([100, 111, 119, 110, 32] ++ itoa port)) := Lib.hid (by unfold lineP; simp [hp, sDown])
              obtain ⟨s1, cs1, hs1⟩ := cat_of [100, 111, 119, 110, 32] (itoa port)
              rw [← hs1] at HL
              clear hs1
              generalize itoa port = tp at *
              have hlim : ¬ 9223372036854775807 < 5 + tp.length := by omega
              clear HTX HHX HNA
              go_enter Tryz.func30, Tryz.ntmps30
              go_wp2_with ((go_at_call 53; refine (HPO.out _ HG1.out).mono ?_; rintro e w2 ⟨rfl, k2⟩; have K2 := Lib.hid (K1.out.same k2); have hb2 := HB1.out.keeps k2 (fun h => h); have HG2 := Lib.hid (HG1.out.same k2); have HSB2 := Lib.hid (HSB.out.same k2); have HSC2 := Lib.hid (HSC.out.same k2); obtain ⟨f0, f1, f2, f3, f4, f5, f6, f7, f8, f9, f10, f11⟩ := hb2.twelve; clear k2 hb2))
              all_goals
                go_ret2
                refine ⟨?_, K2.out⟩
                unfold LineIs
                rw [HL.out]
                rfl
            · have HL : Hid (lineP ⟨kind, port, bytes, nanos, cmd⟩ = .error (none, 11)) := Lib.hid (by unfold lineP; simp only [if_neg hk4, if_neg h3, if_neg hp, if_neg hk0, if_neg hk1, if_neg hk2])
              generalize itoa port = tp at *
              clear HTX HHX HNA
              go_enter Tryz.func30, Tryz.ntmps30
              go_wp2_with ((go_at_call 53; refine (HPO.out _ HG1.out).mono ?_; rintro e w2 ⟨rfl, k2⟩; have K2 := Lib.hid (K1.out.same k2); have hb2 := HB1.out.keeps k2 (fun h => h); have HG2 := Lib.hid (HG1.out.same k2); have HSB2 := Lib.hid (HSB.out.same k2); have HSC2 := Lib.hid (HSC.out.same k2); obtain ⟨f0, f1, f2, f3, f4, f5, f6, f7, f8, f9, f10, f11⟩ := hb2.twelve; clear k2 hb2))
              all_goals
                go_ret2
                refine ⟨?_, K2.out⟩
                unfold LineIs
                rw [HL.out]
                exact ⟨_, rfl, rfl⟩
end Go.Proofs.YtdncojofilnhnaaGreatDoor
