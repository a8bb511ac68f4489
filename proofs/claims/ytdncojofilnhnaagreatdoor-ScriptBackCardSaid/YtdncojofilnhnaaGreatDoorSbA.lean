/- ScriptBack: what is small; the text of a small script. ScriptBack: the walk. -/
import Derived.Test.YtdncojofilnhnaaGreatDoorArgS
import Derived.Test.YtdncojofilnhnaaGreatDoorLnPa
import Derived.Test.YtdncojofilnhnaaGreatDoorEqA
import Derived.Deep.QuietTactic
import Derived.BigQuiet
namespace Go.Proofs.YtdncojofilnhnaaGreatDoor

section
open Go.RowKit Go.Lib

theorem size70 : (Tryz.prog.info? 70).map (·.size) = some 2 := by kernel_rfl

theorem Keeps.fresh {w w' : World} {o : Obj} (h : Keeps (fun k => k = w.heap.size) (w.alloc o) w') : Keeps Nothing w w' :=
  ((Keeps.refl Nothing w).alloc o).up h (fun k e => Nat.le_of_eq e.symm)

/-- What a small script is. -/
def SmallS (c : Cf) (acs : List Ac) : Prop := acs.length ≤ 100 ∧ c.ports.length ≤ 20 ∧ ∀ a ∈ acs, a.bytes.length ≤ 1600 ∧ a.cmd.args.length ≤ 250

open Classical in
noncomputable def smallB (c : Cf) (acs : List Ac) : Bool := decide (SmallS c acs)

theorem smallB_yes {c : Cf} {acs : List Ac} (h : SmallS c acs) : smallB c acs = true := by unfold smallB; simp [h]
theorem smallB_no {c : Cf} {acs : List Ac} (h : ¬ SmallS c acs) : smallB c acs = false := by unfold smallB; simp [h]

theorem ActIn.toR {w : World} {a : Ac} {cs : List Value} (h : ActIn w a cs) (h1 : a.bytes.length ≤ 1600) (h2 : a.cmd.args.length ≤ 250) : ActR w a cs := by
  obtain ⟨ha, hk, A0, A1, c0, c1, e, hb, hc⟩ := h
  exact ⟨⟨ha, by omega, by omega, hk⟩, _, _, e, hb, hc⟩

theorem all2_toR {w : World} : ∀ {acs : List Ac} {cs : List (List Value)}, (∀ a ∈ acs, a.bytes.length ≤ 1600 ∧ a.cmd.args.length ≤ 250) → All2 (ActIn w) acs cs → All2 (ActR w) acs cs
  | _, _, _, .nil => .nil
  | _, _, h, .cons h1 h2 => .cons (h1.toR (h _ List.mem_cons_self).1 (h _ List.mem_cons_self).2) (all2_toR (fun a ha => h a (List.mem_cons_of_mem _ ha)) h2)

/-- One act that came in, at its place. -/
theorem ActIn.one {w : World} {a : Ac} {C : List Value} (h : ActIn w a C) : C.length = 12 ∧ (∀ v ∈ C, v.oneCell' = true) ∧ C[0]? = some (.int .i64 a.kind) ∧ (∃ A0 c0, C[2]? = some (.slice A0 a.bytes.length c0)) ∧ (∃ A1 c1, C[11]? = some (.slice A1 a.cmd.args.length c1)) ∧
    (a.bytes.length ≤ 1600 → a.cmd.args.length ≤ 250 → ∀ {l : Str}, lineP a = .ok l → ∀ w', Gl w' → Keeps Nothing w w' → Calls Tryz.prog 30 #[.agg C.toArray] w' fun ev w2 => ev = .returned (.tuple #[strV l, .nilIface]) ∧ Keeps Nothing w' w2) := by
  obtain ⟨ha, hk, A0, A1, c0, c1, rfl, hb, hc⟩ := h
  obtain ⟨kind, port, bytes, nanos, ⟨ck, mac, args⟩⟩ := a
  obtain ⟨q0, q1, q2, q3, q4, q5, hq⟩ := sixOf ha.mac.1
  have hq' : mac = [q0, q1, q2, q3, q4, q5] := hq
  subst hq'
  refine ⟨rfl, ?_, rfl, ⟨A0, c0, rfl⟩, ⟨A1, c1, rfl⟩, fun h1 h2 {l} hl w' hg hkk => ?_⟩
  · intro v hv
    simp only [actC, cmdCells, List.mem_append, List.mem_cons, List.mem_map, List.not_mem_nil, or_false] at hv
    rcases hv with (rfl | rfl | rfl | rfl) | rfl | ⟨x, -, rfl⟩ | rfl <;> rfl
  · have h1' : bytes.length ≤ 1600 := h1
    have h2' : args.length ≤ 250 := h2
    exact line_yes ha hk (by show bytes.length ≤ _; omega) (by show args.length ≤ _; omega) hl hg (hb.same hkk) (hc.same hkk)

set_option maxRecDepth 100000 in
set_option maxHeartbeats 8000000 in
theorem smallS_ok (prio places start q0 q1 q2 q3 q4 q5 b0 b1 b2 b3 b4 b5 b6 b7 : Int) (ports : List Pt) (acs : List Ac) (l : List (List Value)) (A A2 : Option Addr) (cp cp2 : Nat) (hpl : ports.length ≤ 9223372036854775807) (hal : acs.length ≤ 9223372036854775807) {w : World} (h10 : 10 ≤ w.heap.size)
    (hA : RecsR w (.slice A2 acs.length cp2) 12 l) (h2 : All2 (ActIn w) acs l) :
    Calls Tryz.prog 27 #[.agg #[.int .i64 prio, .int .u8 q0, .int .u8 q1, .int .u8 q2, .int .u8 q3, .int .u8 q4, .int .u8 q5, .slice A ports.length cp, .int .i64 places, .int .i64 b0, .int .i64 b1, .int .i64 b2, .int .i64 b3, .int .i64 b4, .int .i64 b5, .int .i64 b6, .int .i64 b7, .int .i64 start, .slice A2 acs.length cp2]] w fun ev w' => ev = .returned (.bool (smallB ⟨prio, [q0, q1, q2, q3, q4, q5], ports, places, [b0, b1, b2, b3, b4, b5, b6, b7], start⟩ acs)) ∧ Keeps Nothing w w' := by
  have HA := Lib.hid hA
  have H2 := Lib.hid h2
  have HB0 := Lib.hid (Blk.new w [.int .i64 prio, .int .u8 q0, .int .u8 q1, .int .u8 q2, .int .u8 q3, .int .u8 q4, .int .u8 q5, .slice A ports.length cp, .int .i64 places, .int .i64 b0, .int .i64 b1, .int .i64 b2, .int .i64 b3, .int .i64 b4, .int .i64 b5, .int .i64 b6, .int .i64 b7, .int .i64 start, .slice A2 acs.length cp2] 64)
  have K0 := Lib.hid ((Keeps.refl Nothing w).alloc (.cells #[.int .i64 prio, .int .u8 q0, .int .u8 q1, .int .u8 q2, .int .u8 q3, .int .u8 q4, .int .u8 q5, .slice A ports.length cp, .int .i64 places, .int .i64 b0, .int .i64 b1, .int .i64 b2, .int .i64 b3, .int .i64 b4, .int .i64 b5, .int .i64 b6, .int .i64 b7, .int .i64 start, .slice A2 acs.length cp2] 64))
  have H10 := Lib.hid h10
  obtain ⟨n2, hn2⟩ : ∃ n, n = acs.length := ⟨_, rfl⟩
  obtain ⟨m, hm⟩ : ∃ n, n = ports.length := ⟨_, rfl⟩
  rw [← hn2] at HA HB0 K0 hal ⊢
  rw [← hm] at HB0 K0 hpl ⊢
  have HN := Lib.hid hn2
  have HM := Lib.hid hm
  have c18 := HB0.out.cell 18
  simp only [List.getElem?_cons_succ, List.getElem?_cons_zero] at c18
  clear hn2 hm hA h2 h10
  go_enter Tryz.func27, Tryz.ntmps27
  go_wp2
  go_loopw [8] (fun vi wr => ∃ (i : Nat), vi = .int .i64 i ∧ i ≤ n2 ∧ Hid (Keeps Nothing w wr) ∧ Hid (Blk wr w.heap.size [.int .i64 prio, .int .u8 q0, .int .u8 q1, .int .u8 q2, .int .u8 q3, .int .u8 q4, .int .u8 q5, .slice A m cp, .int .i64 places, .int .i64 b0, .int .i64 b1, .int .i64 b2, .int .i64 b3, .int .i64 b4, .int .i64 b5, .int .i64 b6, .int .i64 b7, .int .i64 start, .slice A2 n2 cp2] 64) ∧ Hid (∀ a ∈ acs.take i, a.bytes.length ≤ 1600 ∧ a.cmd.args.length ≤ 250)) (fun vi _ => n2 - (RowKit.intOf vi).toNat)
  case atStart => exact ⟨0, rfl, Nat.zero_le _, K0, HB0, Lib.hid (by simp)⟩
  case round =>
    obtain ⟨i, rfl, hi, HK, HB, HS⟩ := hrel
    clear K0 HB0 c18
    by_cases hin : i < n2
    · obtain ⟨a, ha⟩ : ∃ a, acs[i]? = some a := ⟨_, List.getElem?_eq_getElem (by rw [← HN.out]; exact hin)⟩
      obtain ⟨C, hC⟩ : ∃ C, l[i]? = some C := ⟨_, List.getElem?_eq_getElem (by rw [← H2.out.len, ← HN.out]; exact hin)⟩
      obtain ⟨hC12, hone, -, ⟨A0, c0, h2⟩, ⟨A1, c1, h11⟩, -⟩ := (H2.out.get i a C ha hC).one
      obtain ⟨B, o, rfl, -, -, hr⟩ := (HA.out.still HK.out).at hC
      have HRG : Hid (wr.rangeAt B (o + i * 12) C) := Lib.hid (fun j v hv => hr j v hv)
      have HSZ : Hid ((Tryz.prog.info? 73).map (·.size) = some C.length) := Lib.hid (by rw [hC12]; exact size73)
      have HC12 := Lib.hid hC12
      have HONE := Lib.hid hone
      have HC2 := Lib.hid h2
      have HC11 := Lib.hid h11
      have HTK : Hid (a.bytes.length ≤ 1600 → a.cmd.args.length ≤ 250 → ∀ a ∈ acs.take (i + 1), a.bytes.length ≤ 1600 ∧ a.cmd.args.length ≤ 250) := Lib.hid (fun h1 h2 x hx => by
        rw [List.take_add_one, ha] at hx
        rcases List.mem_append.1 hx with hx | hx
        · exact HS.out x hx
        · simp at hx; subst hx; exact ⟨h1, h2⟩)
      have HMEM := Lib.hid (List.mem_of_getElem? ha)
      clear hr hC12 hone h2 h11 hC ha
      obtain ⟨n0, hn0⟩ : ∃ n, n = a.bytes.length := ⟨_, rfl⟩
      have HNB : Hid (1600 < n0 → ¬ SmallS ⟨prio, [q0, q1, q2, q3, q4, q5], ports, places, [b0, b1, b2, b3, b4, b5, b6, b7], start⟩ acs) := Lib.hid (fun h hs => by have := (hs.2.2 a HMEM.out).1; omega)
      obtain ⟨n1, hn1⟩ : ∃ n, n = a.cmd.args.length := ⟨_, rfl⟩
      have HNC : Hid (250 < n1 → ¬ SmallS ⟨prio, [q0, q1, q2, q3, q4, q5], ports, places, [b0, b1, b2, b3, b4, b5, b6, b7], start⟩ acs) := Lib.hid (fun h hs => by have := (hs.2.2 a HMEM.out).2; omega)
      rw [← hn0] at HC2 HTK
      rw [← hn1] at HC11 HTK
      clear hn0 hn1
      by_cases hb : 1600 < n0
      · have hbi : (1600 : Int) < (n0 : Int) := by omega
        have HNS := Lib.hid (smallB_no (HNB.out hb))
        clear hb
        go_wp2_with (first | (refine wpList_load_mid rfl 73 (.tmp 10) rfl B (o + i * 12) rfl C _ HRG.out Tryz.underlying73 rfl HSZ.out ?_) | (refine wpList_putB rfl 73 (.tmp 4) (.tmp 11) rfl wr.heap.size C rfl rfl 73 act0 (Blk.new wr act0 73) HSZ.out (by rw [HC12.out]; rfl) HONE.out ?_; intro w12 hr12 k12; have K12 := Lib.hid (Keeps.fresh k12); have d2 : w12.cell? ⟨wr.heap.size, 2, none⟩ = some (.slice A0 n0 c0) := (hr12.cell 2).trans HC2.out; have d11 : w12.cell? ⟨wr.heap.size, 11, none⟩ = some (.slice A1 n1 c1) := (hr12.cell 11).trans HC11.out; clear hr12 k12))
        go_ret
        exact ⟨by rw [HNS.out]; rfl, HK.out.same K12.out⟩
      · have hbi : ¬ (1600 : Int) < (n0 : Int) := by omega
        by_cases hc : 250 < n1
        · have hci : (250 : Int) < (n1 : Int) := by omega
          have HNS := Lib.hid (smallB_no (HNC.out hc))
          clear hb hc
          go_wp2_with (first | (refine wpList_load_mid rfl 73 (.tmp 10) rfl B (o + i * 12) rfl C _ HRG.out Tryz.underlying73 rfl HSZ.out ?_) | (refine wpList_putB rfl 73 (.tmp 4) (.tmp 11) rfl wr.heap.size C rfl rfl 73 act0 (Blk.new wr act0 73) HSZ.out (by rw [HC12.out]; rfl) HONE.out ?_; intro w12 hr12 k12; have K12 := Lib.hid (Keeps.fresh k12); have d2 : w12.cell? ⟨wr.heap.size, 2, none⟩ = some (.slice A0 n0 c0) := (hr12.cell 2).trans HC2.out; have d11 : w12.cell? ⟨wr.heap.size, 11, none⟩ = some (.slice A1 n1 c1) := (hr12.cell 11).trans HC11.out; clear hr12 k12))
          go_ret
          exact ⟨by rw [HNS.out]; rfl, HK.out.same K12.out⟩
        · have hci : ¬ (250 : Int) < (n1 : Int) := by omega
          have HT := Lib.hid (HTK.out (by omega) (by omega))
          clear hb hc HTK
          go_wp2_with (first | (refine wpList_load_mid rfl 73 (.tmp 10) rfl B (o + i * 12) rfl C _ HRG.out Tryz.underlying73 rfl HSZ.out ?_) | (refine wpList_putB rfl 73 (.tmp 4) (.tmp 11) rfl wr.heap.size C rfl rfl 73 act0 (Blk.new wr act0 73) HSZ.out (by rw [HC12.out]; rfl) HONE.out ?_; intro w12 hr12 k12; have K12 := Lib.hid (Keeps.fresh k12); have d2 : w12.cell? ⟨wr.heap.size, 2, none⟩ = some (.slice A0 n0 c0) := (hr12.cell 2).trans HC2.out; have d11 : w12.cell? ⟨wr.heap.size, 11, none⟩ = some (.slice A1 n1 c1) := (hr12.cell 11).trans HC11.out; clear hr12 k12))
          exact ⟨⟨i + 1, by go_num, by omega, Lib.hid (HK.out.same K12.out), Lib.hid (HB.out.keeps K12.out (fun h => h)), HT⟩, by simp [RowKit.intOf]; omega⟩
    · have hin2 : i = n2 := by omega
      have HALL : Hid (∀ a ∈ acs, a.bytes.length ≤ 1600 ∧ a.cmd.args.length ≤ 250) := Lib.hid (fun a ha => HS.out a (by rw [hin2, HN.out, List.take_length]; exact ha))
      have d18 := HB.out.cell 18
      have d7 := HB.out.cell 7
      simp only [List.getElem?_cons_succ, List.getElem?_cons_zero] at d18 d7
      clear hin2
      by_cases h100 : (n2 : Int) ≤ 100
      · by_cases h20 : (m : Int) ≤ 20
        · go_wp2
          go_ret
          have hsm : SmallS ⟨prio, [q0, q1, q2, q3, q4, q5], ports, places, [b0, b1, b2, b3, b4, b5, b6, b7], start⟩ acs := ⟨by rw [← HN.out]; omega, by show ports.length ≤ 20; rw [← HM.out]; omega, HALL.out⟩
          exact ⟨by rw [smallB_yes hsm]; rfl, HK.out⟩
        · have hd : decide ((m : Int) ≤ 20) = false := decide_eq_false h20
          have hsm : ¬ SmallS ⟨prio, [q0, q1, q2, q3, q4, q5], ports, places, [b0, b1, b2, b3, b4, b5, b6, b7], start⟩ acs := fun hs => h20 (by have h1 : ports.length ≤ 20 := hs.2.1; rw [← HM.out] at h1; omega)
          have HNS := Lib.hid (smallB_no hsm)
          clear hsm
          go_wp2
          go_ret
          exact ⟨by rw [HNS.out]; rfl, HK.out⟩
      · have hd : decide ((n2 : Int) ≤ 100) = false := decide_eq_false h100
        have hsm : ¬ SmallS ⟨prio, [q0, q1, q2, q3, q4, q5], ports, places, [b0, b1, b2, b3, b4, b5, b6, b7], start⟩ acs := fun hs => h100 (by have h1 := hs.1; rw [← HN.out] at h1; omega)
        have HNS := Lib.hid (smallB_no hsm)
        clear hsm
        go_wp2
        go_ret
        exact ⟨by rw [HNS.out]; rfl, HK.out⟩

theorem lines_mem : ∀ (acs : List Ac) (i : Nat) (ls : List Str), linesP i acs = .ok ls → ls.length = acs.length ∧ ∀ l ∈ ls, ∃ a ∈ acs, lineP a = .ok l
  | [], i, ls, h => by
    simp only [linesP] at h
    injection h with h
    subst h
    exact ⟨rfl, by simp⟩
  | a :: acs, i, ls, h => by
    unfold linesP at h
    cases hl : lineP a with
    | error e => rw [hl] at h; cases h
    | ok l =>
      rw [hl] at h
      simp only at h
      cases hr : linesP (i + 1) acs with
      | error e => rw [hr] at h; cases h
      | ok r =>
        rw [hr] at h
        injection h with h
        subst h
        obtain ⟨h1, h2⟩ := lines_mem acs (i + 1) r hr
        refine ⟨by simp [h1], fun x hx => ?_⟩
        rcases List.mem_cons.1 hx with rfl | hx
        · exact ⟨a, List.mem_cons_self, hl⟩
        · obtain ⟨b, hb, hx⟩ := h2 x hx
          exact ⟨b, List.mem_cons_of_mem _ hb, hx⟩

theorem text_small_len {c : Cf} {acs : List Ac} {t : Str} (hm : MacIs c.mac) (ha : ∀ a ∈ acs, AcIs a) (hs : SmallS c acs) (h : textS c acs = .ok t) : t.length < 4294967000 := by
  unfold textS at h
  split at h
  · cases h
  · rename_i hb
    split at h
    · cases h
    · rename_i hbd
      split at h
      · cases h
      · rename_i ls hl
        split at h
        · cases h
        · injection h with h
          subst h
          obtain ⟨h1, h2⟩ := lines_mem acs 0 ls hl
          obtain ⟨-, r2, -, r4, r5, r6, r7, r8, r9, -, r11⟩ := (bridgeOk_iff c).1 (by simpa using hb)
          have hcl := conf_len hm (by omega) (by omega) (by omega) (by omega) (fun p hp => by have := speed_le ((List.all_eq_true.1 r11) p hp); omega) r2
          have hj := joinOn_len 10 8300 (joinOn 32 (confW c) :: ls) (fun x hx => by
            rcases List.mem_cons.1 hx with rfl | hx
            · omega
            · obtain ⟨a, haa, hla⟩ := h2 x hx
              have := line_len (ha a haa) hla
              have := (hs.2.2 a haa).1
              omega)
          have hl2 : (joinOn 32 (confW c) :: ls).length ≤ 101 := by rw [List.length_cons, h1]; have := hs.1; omega
          have h3 := Nat.mul_le_mul hl2 (Nat.le_refl (8300 + 1))
          omega
end

section
open Go.RowKit Go.Lib

theorem neq_mac (a0 a1 a2 a3 a4 a5 b0 b1 b2 b3 b4 b5 : Int) (w : World) : (binOp .neq 23 (.agg #[.int .u8 a0, .int .u8 a1, .int .u8 a2, .int .u8 a3, .int .u8 a4, .int .u8 a5]) (.agg #[.int .u8 b0, .int .u8 b1, .int .u8 b2, .int .u8 b3, .int .u8 b4, .int .u8 b5])).run Tryz.prog w = .ok (.bool (!decide ([a0, a1, a2, a3, a4, a5] = [b0, b1, b2, b3, b4, b5]))) w := by
  have h := eq_mac a0 a1 a2 a3 a4 a5 b0 b1 b2 b3 b4 b5 w
  simp only [binOp]
  simp only [Op.equal, Op.maxDepth, Sem.run_bind, h, Result.andThen_ok, Sem.run_pure]

/-- A port beside itself. -/
theorem neq_port (s : Int) (e : Bool) (w : World) : (binOp .neq 70 (.agg #[.int .i64 s, .bool e]) (.agg #[.int .i64 s, .bool e])).run Tryz.prog w = .ok (.bool false) w := by
  have h : (Op.equalIn 10000 70 (.agg #[.int .i64 s, .bool e]) (.agg #[.int .i64 s, .bool e])).run Tryz.prog w = .ok true w := by
    have a := Tryz.isAgg3
    have b := Tryz.sizeOf3
    have c := Tryz.isAgg4
    have d := Tryz.sizeOf4
    have u3 := Tryz.underlying3
    have u4 := Tryz.underlying4
    rw [show (10000 : Nat) = 9999 + 1 from rfl, Op.equalIn]
    simp only [Sem.run_bind, run_underlying Tryz.underlying70, Result.andThen_ok]
    go_simp
  simp only [binOp]
  simp only [Op.equal, Op.maxDepth, Sem.run_bind, h, Result.andThen_ok, Sem.run_pure]
  rfl

/-- What can't be written, told. -/
theorem text_no {c : Cf} {acs : List Ac} {x : Option Int × ErrD} (h : textS c acs = .error x) {w' : World} {ev : Ending} (hs : STextIs w' c acs ev) : ∃ ty pv, ev = .returned (.tuple #[strV [], .iface ty pv]) := by
  unfold STextIs at hs
  rw [h] at hs
  obtain ⟨n, e⟩ := x
  cases n with
  | none =>
    obtain ⟨v, hv, rfl⟩ := hs
    obtain ⟨en, ek⟩ := e
    cases en with
    | none => have hv' : v = .iface 33 (.int .i64 ek) := hv; subst hv'; exact ⟨_, _, rfl⟩
    | some en => obtain ⟨b, -, rfl, -⟩ := hv; exact ⟨_, _, rfl⟩
  | some n =>
    obtain ⟨b, v, rfl, -⟩ := hs
    exact ⟨_, _, rfl⟩

theorem text_yes {c : Cf} {acs : List Ac} {t : Str} (h : textS c acs = .ok t) {w' : World} {ev : Ending} (hs : STextIs w' c acs ev) : ev = .returned (.tuple #[strV t, .nilIface]) := by
  unfold STextIs at hs
  rw [h] at hs
  exact hs

theorem acts_is {w : World} : ∀ {acs : List Ac} {cs : List (List Value)}, All2 (ActIn w) acs cs → ∀ a ∈ acs, AcIs a
  | _, _, .nil, a, h => by simp at h
  | _, _, .cons h1 h2, a, h => by
    rcases List.mem_cons.1 h with rfl | h
    · exact h1.1
    · exact acts_is h2 a h

/-- What stands while the law looks at both scripts. -/
structure BkS (w wr : World) (L : List Value) (b5 : Nat) (L5 : List Value) (v5 : Value) (ps : List Pt) (v6 : Value) (acs : List Ac) : Prop where
  gl : Gl wr
  k : Keeps Nothing w wr
  c : Blk wr w.heap.size L 64
  d : Blk wr b5 L5 64
  p : OwnS wr (fun _ => True) 70 2 v5 ps.length (ptsC ps)
  a : ActsAt wr (fun _ => True) 4294967000 v6 acs

theorem BkS.same {w wr w' : World} {L L5 : List Value} {b5 : Nat} {v5 v6 : Value} {ps : List Pt} {acs : List Ac} (h : BkS w wr L b5 L5 v5 ps v6 acs) (hk : Keeps Nothing wr w') : BkS w w' L b5 L5 v5 ps v6 acs :=
  ⟨h.gl.same hk, h.k.same hk, h.c.keeps hk (fun h => h), h.d.keeps hk (fun h => h), h.p.keeps hk (fun _ _ h => h), h.a.thru (Thru.same hk) (Thru.same hk) (Thru.same hk)⟩

theorem ActsAt.kind {w : World} {F : Nat → Prop} {N : Nat} {v : Value} {acs : List Ac} {k : Nat} {a : Ac} (h : ActsAt w F N v acs) (ha : acs[k]? = some a) : ∃ g cp, v = .slice (some ⟨g, 0, none⟩) acs.length cp ∧ w.cell? ⟨g, k * 12, none⟩ = some (.int .i64 a.kind) := by
  obtain ⟨cs, ho, h2⟩ := h
  have hk : k < acs.length := (List.getElem?_eq_some_iff.1 ha).1
  obtain ⟨C, hC⟩ : ∃ C, cs[k]? = some C := ⟨_, List.getElem?_eq_getElem (by rw [← h2.len]; exact hk)⟩
  obtain ⟨-, bv, cv, hCe, -⟩ := h2.get k a C ha hC
  obtain ⟨A, cp, rfl⟩ : ∃ A cp, v = .slice A acs.length cp := ActsAt.row ⟨cs, ho, h2⟩
  obtain ⟨g, rfl, -, -, hg⟩ := ho.form (by omega)
  have := hg _ _ (flat_at cs k C 0 (.int .i64 a.kind) (acts_len h2) hC (by rw [hCe]; rfl))
  exact ⟨g, cp, rfl, by simpa using this⟩

theorem pts_at {ps : List Pt} {i : Nat} {p : Pt} (h : ps[i]? = some p) : (ptsC ps)[i * 2]? = some (.int .i64 p.speed) ∧ (ptsC ps)[i * 2 + 1]? = some (.bool p.edge) := by
  have e : ptsC ps = (ps.map ptC).flatten := by unfold ptsC; rw [List.flatMap_def]
  have h1 := flat_at (ps.map ptC) i (ptC p) 0 (.int .i64 p.speed) (sz := 2) (fun c hc => by obtain ⟨q, -, rfl⟩ := List.mem_map.1 hc; rfl) (by rw [List.getElem?_map, h]; rfl) rfl
  have h2 := flat_at (ps.map ptC) i (ptC p) 1 (.bool p.edge) (sz := 2) (fun c hc => by obtain ⟨q, -, rfl⟩ := List.mem_map.1 hc; rfl) (by rw [List.getElem?_map, h]; rfl) rfl
  rw [e]
  exact ⟨h1, h2⟩

set_option maxRecDepth 100000 in
set_option maxHeartbeats 16000000 in
theorem sBack_walk (prio places start q0 q1 q2 q3 q4 q5 b0 b1 b2 b3 b4 b5 b6 b7 : Int) (ports : List Pt) (acs : List Ac) (l : List (List Value)) (A A2 : Option Addr) (cp cp2 : Nat) (hmac : MacIs [q0, q1, q2, q3, q4, q5]) (hpl : ports.length ≤ 9223372036854775807) (hal : acs.length ≤ 9223372036854775807) {w : World} (hg : Gl w)
    (hR : RecsR w (.slice A ports.length cp) 2 (ports.map ptC)) (hA : RecsR w (.slice A2 acs.length cp2) 12 l) (h2 : All2 (ActIn w) acs l) :
    Calls Tryz.prog 8 #[.agg #[.int .i64 prio, .int .u8 q0, .int .u8 q1, .int .u8 q2, .int .u8 q3, .int .u8 q4, .int .u8 q5, .slice A ports.length cp, .int .i64 places, .int .i64 b0, .int .i64 b1, .int .i64 b2, .int .i64 b3, .int .i64 b4, .int .i64 b5, .int .i64 b6, .int .i64 b7, .int .i64 start, .slice A2 acs.length cp2]] w fun ev w' => ev = .returned (.bool true) ∧ Keeps Nothing w w' := by
  have HG := Lib.hid hg
  have HR := Lib.hid hR
  have HA := Lib.hid hA
  have H2 := Lib.hid h2
  have HB1 := Lib.hid (Blk.new w [.int .i64 prio, .int .u8 q0, .int .u8 q1, .int .u8 q2, .int .u8 q3, .int .u8 q4, .int .u8 q5, .slice A ports.length cp, .int .i64 places, .int .i64 b0, .int .i64 b1, .int .i64 b2, .int .i64 b3, .int .i64 b4, .int .i64 b5, .int .i64 b6, .int .i64 b7, .int .i64 start, .slice A2 acs.length cp2] 64)
  have K1 := Lib.hid ((Keeps.refl Nothing w).alloc (.cells ([.int .i64 prio, .int .u8 q0, .int .u8 q1, .int .u8 q2, .int .u8 q3, .int .u8 q4, .int .u8 q5, .slice A ports.length cp, .int .i64 places, .int .i64 b0, .int .i64 b1, .int .i64 b2, .int .i64 b3, .int .i64 b4, .int .i64 b5, .int .i64 b6, .int .i64 b7, .int .i64 start, .slice A2 acs.length cp2] : List Value).toArray 64))
  have R26 := Lib.hid (reads25_ok (HG.out.same K1.out))
  have HSM : Hid (∀ w', Gl w' → Keeps Nothing w w' → Calls Tryz.prog 27 #[.agg #[.int .i64 prio, .int .u8 q0, .int .u8 q1, .int .u8 q2, .int .u8 q3, .int .u8 q4, .int .u8 q5, .slice A ports.length cp, .int .i64 places, .int .i64 b0, .int .i64 b1, .int .i64 b2, .int .i64 b3, .int .i64 b4, .int .i64 b5, .int .i64 b6, .int .i64 b7, .int .i64 start, .slice A2 acs.length cp2]] w' fun ev w2 => ev = .returned (.bool (smallB ⟨prio, [q0, q1, q2, q3, q4, q5], ports, places, [b0, b1, b2, b3, b4, b5, b6, b7], start⟩ acs)) ∧ Keeps Nothing w' w2) := Lib.hid (fun w' hg hk => smallS_ok prio places start q0 q1 q2 q3 q4 q5 b0 b1 b2 b3 b4 b5 b6 b7 ports acs l A A2 cp cp2 hpl hal hg.big (HA.out.still hk) (by
    have : ∀ {acs : List Ac} {l : List (List Value)}, All2 (ActIn w) acs l → All2 (ActIn w') acs l := fun h => h.imp (fun a cs hx => by
      obtain ⟨h1, h2, A0, A1, c0, c1, e, hb, hc⟩ := hx
      exact ⟨h1, h2, A0, A1, c0, c1, e, hb.same hk, hc.same hk⟩)
    exact this h2))
  have HTX : Hid (∀ w', Gl w' → Keeps Nothing w w' → SmallS ⟨prio, [q0, q1, q2, q3, q4, q5], ports, places, [b0, b1, b2, b3, b4, b5, b6, b7], start⟩ acs → Calls Tryz.prog 28 #[.agg #[.int .i64 prio, .int .u8 q0, .int .u8 q1, .int .u8 q2, .int .u8 q3, .int .u8 q4, .int .u8 q5, .slice A ports.length cp, .int .i64 places, .int .i64 b0, .int .i64 b1, .int .i64 b2, .int .i64 b3, .int .i64 b4, .int .i64 b5, .int .i64 b6, .int .i64 b7, .int .i64 start, .slice A2 acs.length cp2]] w' fun ev w2 => STextIs w2 ⟨prio, [q0, q1, q2, q3, q4, q5], ports, places, [b0, b1, b2, b3, b4, b5, b6, b7], start⟩ acs ev ∧ Keeps Nothing w' w2) := Lib.hid (fun w' hg hk hs => by
    have hsp : ports.length ≤ 20 := hs.2.1
    have hsa := hs.1
    exact text_walk ⟨prio, [q0, q1, q2, q3, q4, q5], ports, places, [b0, b1, b2, b3, b4, b5, b6, b7], start⟩ acs l A A2 ports.length cp acs.length cp2 hmac rfl (by show ports.length ≤ _; omega) (by omega) hg (HR.out.still hk) (HA.out.still hk) (all2_toR hs.2.2 (H2.out.imp (fun a cs hx => by
      obtain ⟨h1, h2, A0, A1, c0, c1, e, hb, hc⟩ := hx
      exact ⟨h1, h2, A0, A1, c0, c1, e, hb.same hk, hc.same hk⟩))))
  have HLN := Lib.hid (fun (hs : SmallS ⟨prio, [q0, q1, q2, q3, q4, q5], ports, places, [b0, b1, b2, b3, b4, b5, b6, b7], start⟩ acs) t ht => text_small_len (c := ⟨prio, [q0, q1, q2, q3, q4, q5], ports, places, [b0, b1, b2, b3, b4, b5, b6, b7], start⟩) (t := t) hmac (acts_is h2) hs ht)
  have HBK := Lib.hid (fun t ht => script_back (c := ⟨prio, [q0, q1, q2, q3, q4, q5], ports, places, [b0, b1, b2, b3, b4, b5, b6, b7], start⟩) (t := t) hmac (acts_is h2) ht)
  clear hg hR hA h2 hpl hal hmac
  obtain ⟨m, hm⟩ : ∃ n, n = ports.length := ⟨_, rfl⟩
  obtain ⟨n2, hn2⟩ : ∃ n, n = acs.length := ⟨_, rfl⟩
  rw [← hm] at HR HB1 K1 R26 HSM HTX ⊢
  rw [← hn2] at HA HB1 K1 R26 HSM HTX ⊢
  have HM := Lib.hid hm
  have HN := Lib.hid hn2
  clear hm hn2
  by_cases hs : SmallS ⟨prio, [q0, q1, q2, q3, q4, q5], ports, places, [b0, b1, b2, b3, b4, b5, b6, b7], start⟩ acs
  · have HS := Lib.hid hs
    rw [smallB_yes hs] at HSM
    cases htx : textS ⟨prio, [q0, q1, q2, q3, q4, q5], ports, places, [b0, b1, b2, b3, b4, b5, b6, b7], start⟩ acs with
    | error x =>
      have HTN : Hid (∀ w', Gl w' → Keeps Nothing w w' → Calls Tryz.prog 28 #[.agg #[.int .i64 prio, .int .u8 q0, .int .u8 q1, .int .u8 q2, .int .u8 q3, .int .u8 q4, .int .u8 q5, .slice A m cp, .int .i64 places, .int .i64 b0, .int .i64 b1, .int .i64 b2, .int .i64 b3, .int .i64 b4, .int .i64 b5, .int .i64 b6, .int .i64 b7, .int .i64 start, .slice A2 n2 cp2]] w' fun ev w2 => (∃ ty pv, ev = .returned (.tuple #[strV [], .iface ty pv])) ∧ Keeps Nothing w' w2) := Lib.hid (fun w' h1 h2 => (HTX.out w' h1 h2 hs).mono (fun ev w2 h => ⟨text_no htx h.1, h.2⟩))
      clear htx HTX HLN HBK hs
      go_enter Tryz.func8, Tryz.ntmps8
      go_wp2_with (first | (go_at_call 26; refine (R26.out).mono ?_; rintro e w1 ⟨rfl, k1⟩; have K2 := Lib.hid (K1.out.same k1); have HB2 := Lib.hid (HB1.out.keeps k1 (fun h => h)); clear k1) | (refine wpList_getM rfl 64 (.tmp 1) rfl w.heap.size 0 rfl _ _ 64 HB2.out (whole_row _) _ Tryz.underlying64 rfl size64 ?_) | (go_at_call 27; refine (HSM.out _ (HG.out.same K2.out) K2.out).mono ?_; rintro e w2 ⟨rfl, k2⟩; have K3 := Lib.hid (K2.out.same k2); have HB3 := Lib.hid (HB2.out.keeps k2 (fun h => h)); clear k2) | (refine wpList_getM rfl 64 (.tmp 1) rfl w.heap.size 0 rfl _ _ 64 HB3.out (whole_row _) _ Tryz.underlying64 rfl size64 ?_) | (go_at_call 28; refine (HTN.out _ (HG.out.same K3.out) K3.out).mono ?_; rintro e w3 ⟨⟨ty, pv, rfl⟩, k3⟩; have K4 := Lib.hid (K3.out.same k3); clear k3))
      go_ret
      exact ⟨rfl, K4.out⟩
    | ok t =>
      have HTN : Hid (∀ w', Gl w' → Keeps Nothing w w' → Calls Tryz.prog 28 #[.agg #[.int .i64 prio, .int .u8 q0, .int .u8 q1, .int .u8 q2, .int .u8 q3, .int .u8 q4, .int .u8 q5, .slice A m cp, .int .i64 places, .int .i64 b0, .int .i64 b1, .int .i64 b2, .int .i64 b3, .int .i64 b4, .int .i64 b5, .int .i64 b6, .int .i64 b7, .int .i64 start, .slice A2 n2 cp2]] w' fun ev w2 => ev = .returned (.tuple #[strV t, .nilIface]) ∧ Keeps Nothing w' w2) := Lib.hid (fun w' h1 h2 => (HTX.out w' h1 h2 hs).mono (fun ev w2 h => ⟨text_yes htx h.1, h.2⟩))
      obtain ⟨as2, hp, hl2, hback⟩ := HBK.out t htx
      have hsl := hs.1
      have HLT := Lib.hid (HLN.out hs t htx)
      have HP2 : Hid (∀ w', Gl w' → Calls Tryz.prog 29 #[strV t] w' fun ev w2 => (∃ A5 cp5 A6 cp6, ev = .returned (.tuple #[.agg #[.int .i64 prio, .int .u8 q0, .int .u8 q1, .int .u8 q2, .int .u8 q3, .int .u8 q4, .int .u8 q5, .slice A5 m cp5, .int .i64 places, .int .i64 b0, .int .i64 b1, .int .i64 b2, .int .i64 b3, .int .i64 b4, .int .i64 b5, .int .i64 b6, .int .i64 b7, .int .i64 start, .slice A6 n2 cp6], .nilIface]) ∧ Hid (OwnS w2 (fun _ => True) 70 2 (.slice A5 m cp5) ports.length (ptsC ports) ∧ ActsAt w2 (fun _ => True) 4294967000 (.slice A6 n2 cp6) as2)) ∧ Keeps Nothing w' w2) := Lib.hid (fun w' hg => (script_good t HLT.out hp hg).mono (fun ev w2 h => by
        obtain ⟨⟨A5, n5, cp5, A6, n6, cp6, he, ho, ha, -⟩, hk⟩ := h
        obtain ⟨Ax, cx, hv⟩ := ha.row
        injection hv with e1 e2 e3
        subst e1 e2 e3
        rw [hl2, ← HN.out] at he ha
        have e5 : n5 = m := by
          rcases ho.1.2 with ⟨hv, h0⟩ | ⟨g, cap, cur, hv, -⟩
          · injection hv with _ h1 _; rw [h1, HM.out]; exact h0.symm
          · injection hv with _ h1 _; rw [h1, HM.out]
        subst e5
        obtain ⟨csx, ho', h2'⟩ := ha.wide (M := 4294967000) (by have := HLT.out; omega)
        exact ⟨⟨A5, cp5, A6, cp6, he, Lib.hid ⟨ho.mono (fun _ _ => trivial), csx, ho'.mono (fun _ _ => trivial), h2'.imp (fun _ _ hx => hx.mono (fun _ _ => trivial))⟩⟩, hk⟩))
      have HBK2 := Lib.hid hback
      have HL2 := Lib.hid hl2
      have hn100 : n2 ≤ 100 := by rw [HN.out]; exact hsl
      have hm20 : m ≤ 20 := by rw [HM.out]; exact hs.2.1
      clear htx HTX HLN HBK hs hp hl2 hback hsl
      have hneq23 : ∀ w, (binOp .neq 23 (.agg #[.int .u8 q0, .int .u8 q1, .int .u8 q2, .int .u8 q3, .int .u8 q4, .int .u8 q5]) (.agg #[.int .u8 q0, .int .u8 q1, .int .u8 q2, .int .u8 q3, .int .u8 q4, .int .u8 q5])).run Tryz.prog w = .ok (.bool false) w := fun w => by rw [neq_mac]; simp
      have hneq59 : ∀ w, (binOp .neq 59 (.agg #[.int .i64 b0, .int .i64 b1, .int .i64 b2, .int .i64 b3, .int .i64 b4, .int .i64 b5, .int .i64 b6, .int .i64 b7]) (.agg #[.int .i64 b0, .int .i64 b1, .int .i64 b2, .int .i64 b3, .int .i64 b4, .int .i64 b5, .int .i64 b6, .int .i64 b7])).run Tryz.prog w = .ok (.bool false) w := fun w => by rw [neq_eight]; simp
      go_enter Tryz.func8, Tryz.ntmps8
      go_upto_region 8 with (first | (go_at_call 26; refine (R26.out).mono ?_; rintro e w1 ⟨rfl, k1⟩; have K2 := Lib.hid (K1.out.same k1); have HB2 := Lib.hid (HB1.out.keeps k1 (fun h => h)); clear k1) | (refine wpList_getM rfl 64 (.tmp 1) rfl w.heap.size 0 rfl _ _ 64 HB2.out (whole_row _) _ Tryz.underlying64 rfl size64 ?_) | (go_at_call 27; refine (HSM.out _ (HG.out.same K2.out) K2.out).mono ?_; rintro e w2 ⟨rfl, k2⟩; have K3 := Lib.hid (K2.out.same k2); have HB3 := Lib.hid (HB2.out.keeps k2 (fun h => h)); clear k2) | (refine wpList_getM rfl 64 (.tmp 1) rfl w.heap.size 0 rfl _ _ 64 HB3.out (whole_row _) _ Tryz.underlying64 rfl size64 ?_) | (go_at_call 28; refine (HTN.out _ (HG.out.same K3.out) K3.out).mono ?_; rintro e w3 ⟨rfl, k3⟩; have K4 := Lib.hid (K3.out.same k3); have HB4 := Lib.hid (HB3.out.keeps k3 (fun h => h)); clear k3))
      go_wp2_with (first | (go_at_call 29; refine (HP2.out _ (HG.out.same K4.out)).mono ?_; rintro e w5 ⟨⟨A5, cp5, A6, cp6, rfl, hx⟩, k5⟩; have K5 := Lib.hid (K4.out.same k5); have HB5 := Lib.hid (HB4.out.keeps k5 (fun h => h)); clear k5) | (refine wpList_putB rfl 64 (.tmp 5) (.tmp 32) rfl w5.heap.size [.int .i64 prio, .int .u8 q0, .int .u8 q1, .int .u8 q2, .int .u8 q3, .int .u8 q4, .int .u8 q5, .slice A5 m cp5, .int .i64 places, .int .i64 b0, .int .i64 b1, .int .i64 b2, .int .i64 b3, .int .i64 b4, .int .i64 b5, .int .i64 b6, .int .i64 b7, .int .i64 start, .slice A6 n2 cp6] rfl rfl 64 sc0 (Blk.new w5 sc0 64) size64 rfl (by simp [Value.oneCell']) ?_; intro w6 hr6 k6; have kf := Keeps.fresh k6; have HS6 : Hid (BkS w w6 [.int .i64 prio, .int .u8 q0, .int .u8 q1, .int .u8 q2, .int .u8 q3, .int .u8 q4, .int .u8 q5, .slice A m cp, .int .i64 places, .int .i64 b0, .int .i64 b1, .int .i64 b2, .int .i64 b3, .int .i64 b4, .int .i64 b5, .int .i64 b6, .int .i64 b7, .int .i64 start, .slice A2 n2 cp2] w5.heap.size [.int .i64 prio, .int .u8 q0, .int .u8 q1, .int .u8 q2, .int .u8 q3, .int .u8 q4, .int .u8 q5, .slice A5 m cp5, .int .i64 places, .int .i64 b0, .int .i64 b1, .int .i64 b2, .int .i64 b3, .int .i64 b4, .int .i64 b5, .int .i64 b6, .int .i64 b7, .int .i64 start, .slice A6 n2 cp6] (.slice A5 m cp5) ports (.slice A6 n2 cp6) as2) := Lib.hid ⟨HG.out.same (K5.out.same kf), K5.out.same kf, HB5.out.keeps kf (fun h => h), hr6, hx.out.1.keeps kf (fun _ _ h => h), hx.out.2.thru (Thru.same kf) (Thru.same kf) (Thru.same kf)⟩; clear hr6 k6 kf; have x0 : w6.cell? ⟨w.heap.size, 0, none⟩ = some (.int .i64 prio) := (HS6.out.c).cell 0; have x1 : w6.cell? ⟨w.heap.size, 1, none⟩ = some (.int .u8 q0) := (HS6.out.c).cell 1; have x2 : w6.cell? ⟨w.heap.size, 2, none⟩ = some (.int .u8 q1) := (HS6.out.c).cell 2; have x3 : w6.cell? ⟨w.heap.size, 3, none⟩ = some (.int .u8 q2) := (HS6.out.c).cell 3; have x4 : w6.cell? ⟨w.heap.size, 4, none⟩ = some (.int .u8 q3) := (HS6.out.c).cell 4; have x5 : w6.cell? ⟨w.heap.size, 5, none⟩ = some (.int .u8 q4) := (HS6.out.c).cell 5; have x6 : w6.cell? ⟨w.heap.size, 6, none⟩ = some (.int .u8 q5) := (HS6.out.c).cell 6; have x7 : w6.cell? ⟨w.heap.size, 7, none⟩ = some (.slice A m cp) := (HS6.out.c).cell 7; have x8 : w6.cell? ⟨w.heap.size, 8, none⟩ = some (.int .i64 places) := (HS6.out.c).cell 8; have x9 : w6.cell? ⟨w.heap.size, 9, none⟩ = some (.int .i64 b0) := (HS6.out.c).cell 9; have x10 : w6.cell? ⟨w.heap.size, 10, none⟩ = some (.int .i64 b1) := (HS6.out.c).cell 10; have x11 : w6.cell? ⟨w.heap.size, 11, none⟩ = some (.int .i64 b2) := (HS6.out.c).cell 11; have x12 : w6.cell? ⟨w.heap.size, 12, none⟩ = some (.int .i64 b3) := (HS6.out.c).cell 12; have x13 : w6.cell? ⟨w.heap.size, 13, none⟩ = some (.int .i64 b4) := (HS6.out.c).cell 13; have x14 : w6.cell? ⟨w.heap.size, 14, none⟩ = some (.int .i64 b5) := (HS6.out.c).cell 14; have x15 : w6.cell? ⟨w.heap.size, 15, none⟩ = some (.int .i64 b6) := (HS6.out.c).cell 15; have x16 : w6.cell? ⟨w.heap.size, 16, none⟩ = some (.int .i64 b7) := (HS6.out.c).cell 16; have x17 : w6.cell? ⟨w.heap.size, 17, none⟩ = some (.int .i64 start) := (HS6.out.c).cell 17; have x18 : w6.cell? ⟨w.heap.size, 18, none⟩ = some (.slice A2 n2 cp2) := (HS6.out.c).cell 18; have y0 : w6.cell? ⟨w5.heap.size, 0, none⟩ = some (.int .i64 prio) := (HS6.out.d).cell 0; have y1 : w6.cell? ⟨w5.heap.size, 1, none⟩ = some (.int .u8 q0) := (HS6.out.d).cell 1; have y2 : w6.cell? ⟨w5.heap.size, 2, none⟩ = some (.int .u8 q1) := (HS6.out.d).cell 2; have y3 : w6.cell? ⟨w5.heap.size, 3, none⟩ = some (.int .u8 q2) := (HS6.out.d).cell 3; have y4 : w6.cell? ⟨w5.heap.size, 4, none⟩ = some (.int .u8 q3) := (HS6.out.d).cell 4; have y5 : w6.cell? ⟨w5.heap.size, 5, none⟩ = some (.int .u8 q4) := (HS6.out.d).cell 5; have y6 : w6.cell? ⟨w5.heap.size, 6, none⟩ = some (.int .u8 q5) := (HS6.out.d).cell 6; have y7 : w6.cell? ⟨w5.heap.size, 7, none⟩ = some (.slice A5 m cp5) := (HS6.out.d).cell 7; have y8 : w6.cell? ⟨w5.heap.size, 8, none⟩ = some (.int .i64 places) := (HS6.out.d).cell 8; have y9 : w6.cell? ⟨w5.heap.size, 9, none⟩ = some (.int .i64 b0) := (HS6.out.d).cell 9; have y10 : w6.cell? ⟨w5.heap.size, 10, none⟩ = some (.int .i64 b1) := (HS6.out.d).cell 10; have y11 : w6.cell? ⟨w5.heap.size, 11, none⟩ = some (.int .i64 b2) := (HS6.out.d).cell 11; have y12 : w6.cell? ⟨w5.heap.size, 12, none⟩ = some (.int .i64 b3) := (HS6.out.d).cell 12; have y13 : w6.cell? ⟨w5.heap.size, 13, none⟩ = some (.int .i64 b4) := (HS6.out.d).cell 13; have y14 : w6.cell? ⟨w5.heap.size, 14, none⟩ = some (.int .i64 b5) := (HS6.out.d).cell 14; have y15 : w6.cell? ⟨w5.heap.size, 15, none⟩ = some (.int .i64 b6) := (HS6.out.d).cell 15; have y16 : w6.cell? ⟨w5.heap.size, 16, none⟩ = some (.int .i64 b7) := (HS6.out.d).cell 16; have y17 : w6.cell? ⟨w5.heap.size, 17, none⟩ = some (.int .i64 start) := (HS6.out.d).cell 17; have y18 : w6.cell? ⟨w5.heap.size, 18, none⟩ = some (.slice A6 n2 cp6) := (HS6.out.d).cell 18))
      clear x0 x1 x2 x3 x4 x5 x6 x7 x8 x9 x10 x11 x12 x13 x14 x15 x16 x17 x18 y0 y1 y2 y3 y4 y5 y6 y7 y8 y9 y10 y11 y12 y13 y14 y15 y16 y17 y18 hneq23 hneq59 HP2 HTN HSM
      go_loopw [105] (fun vi wr => ∃ (i : Nat), vi = .int .i64 i ∧ i ≤ m ∧ Hid (BkS w wr [.int .i64 prio, .int .u8 q0, .int .u8 q1, .int .u8 q2, .int .u8 q3, .int .u8 q4, .int .u8 q5, .slice A m cp, .int .i64 places, .int .i64 b0, .int .i64 b1, .int .i64 b2, .int .i64 b3, .int .i64 b4, .int .i64 b5, .int .i64 b6, .int .i64 b7, .int .i64 start, .slice A2 n2 cp2] w5.heap.size [.int .i64 prio, .int .u8 q0, .int .u8 q1, .int .u8 q2, .int .u8 q3, .int .u8 q4, .int .u8 q5, .slice A5 m cp5, .int .i64 places, .int .i64 b0, .int .i64 b1, .int .i64 b2, .int .i64 b3, .int .i64 b4, .int .i64 b5, .int .i64 b6, .int .i64 b7, .int .i64 start, .slice A6 n2 cp6] (.slice A5 m cp5) ports (.slice A6 n2 cp6) as2)) (fun vi _ => m - (RowKit.intOf vi).toNat)
      case atStart => exact ⟨0, rfl, Nat.zero_le _, HS6⟩
      case round =>
        obtain ⟨i, rfl, hi, HB⟩ := hrel
        by_cases him : i < m
        · obtain ⟨p, hp⟩ : ∃ p, ports[i]? = some p := ⟨_, List.getElem?_eq_getElem (by rw [← HM.out]; exact him)⟩
          obtain ⟨B, o, rfl, -, -, hr⟩ := (HR.out.still HB.out.k).at (i := i) (cs := ptC p) (by rw [List.getElem?_map, hp]; rfl)
          have e0 := hr 0 _ rfl
          have e1 := hr 1 _ rfl
          rw [Nat.add_zero] at e0
          have hpl : 0 < ports.length := by rw [← HM.out]; omega
          obtain ⟨gp, e5, -, -, hgp⟩ := HB.out.p.form hpl
          subst e5
          have g0 := hgp _ _ (pts_at hp).1
          have g1 := hgp _ _ (pts_at hp).2
          have G0 := Lib.hid g0
          have G1 := Lib.hid g1
          have hneq70 := neq_port p.speed p.edge
          obtain ⟨ps, hps⟩ : ∃ x, x = p.speed := ⟨_, rfl⟩
          obtain ⟨pe, hpe⟩ : ∃ x, x = p.edge := ⟨_, rfl⟩
          rw [← hps, ← hpe] at hneq70
          rw [← hps] at e0 G0
          rw [← hpe] at e1 G1
          clear hr hp hpl hgp g0 g1 hps hpe
          go_upto_region 14 with (first | (refine wpList_putB rfl 70 (.tmp 8) (.tmp 109) rfl wr.heap.size [.int .i64 ps, .bool pe] rfl rfl 70 [.int .i64 0, .bool false] (Blk.new wr [.int .i64 0, .bool false] 70) size70 rfl (by simp [Value.oneCell']) ?_; intro w7 hr7 k7; have K7 := Lib.hid (Keeps.fresh k7); have HR7 := Lib.hid hr7; clear hr7 k7))
          have HB7 := Lib.hid (HB.out.same K7.out)
          have f7 : ∀ k, (w7.drewN k).cell? ⟨w5.heap.size, 7, none⟩ = some (.slice (some ⟨gp, 0, none⟩) m cp5) := fun k => HB7.out.d.cell 7
          have f0 : ∀ k, (w7.drewN k).cell? ⟨wr.heap.size, 0, none⟩ = some (.int .i64 ps) := fun k => HR7.out.cell 0
          have f1 : ∀ k, (w7.drewN k).cell? ⟨wr.heap.size, 1, none⟩ = some (.bool pe) := fun k => HR7.out.cell 1
          have f2 : ∀ k, (w7.drewN k).cell? ⟨gp, i * 2, none⟩ = some (.int .i64 ps) := fun k => by
            have h := K7.out.cell (p := ⟨gp, i * 2, none⟩) (World.block_lt_of_cell? wr _ G0.out) (fun h => h)
            exact h.trans G0.out
          have f3 : ∀ k, (w7.drewN k).cell? ⟨gp, i * 2 + 1, none⟩ = some (.bool pe) := fun k => by
            have h := K7.out.cell (p := ⟨gp, i * 2 + 1, none⟩) (World.block_lt_of_cell? wr _ G1.out) (fun h => h)
            exact h.trans G1.out
          have hii : (i : Int) < (m : Int) := by omega
          have hi0 : (0 : Int) ≤ (i : Int) := by omega
          have hm20 : i ≤ 20 := by omega
          clear e0 e1 him
          go_quiet (fail)
          go_wp2
          exact ⟨⟨i + 1, by go_num, by omega, Lib.hid (HB7.out.same ((Keeps.refl Nothing w7).drewN _))⟩, by simp [RowKit.intOf]; omega⟩
        · have z18 := HB.out.c.cell 18
          simp only [List.getElem?_cons_succ, List.getElem?_cons_zero] at z18
          obtain ⟨wo, rfl⟩ : ∃ wo, wo = wr := ⟨_, rfl⟩
          clear HS6
          go_wp2
          clear z18 him
          go_loopw [122] (fun vi wr => ∃ (i : Nat), vi = .int .i64 i ∧ i ≤ n2 ∧ Hid (BkS w wr [.int .i64 prio, .int .u8 q0, .int .u8 q1, .int .u8 q2, .int .u8 q3, .int .u8 q4, .int .u8 q5, .slice A m cp, .int .i64 places, .int .i64 b0, .int .i64 b1, .int .i64 b2, .int .i64 b3, .int .i64 b4, .int .i64 b5, .int .i64 b6, .int .i64 b7, .int .i64 start, .slice A2 n2 cp2] w5.heap.size [.int .i64 prio, .int .u8 q0, .int .u8 q1, .int .u8 q2, .int .u8 q3, .int .u8 q4, .int .u8 q5, .slice A5 m cp5, .int .i64 places, .int .i64 b0, .int .i64 b1, .int .i64 b2, .int .i64 b3, .int .i64 b4, .int .i64 b5, .int .i64 b6, .int .i64 b7, .int .i64 start, .slice A6 n2 cp6] (.slice A5 m cp5) ports (.slice A6 n2 cp6) as2)) (fun vi _ => n2 - (RowKit.intOf vi).toNat)
          case atStart => exact ⟨0, rfl, Nat.zero_le _, HB⟩
          case round =>
            obtain ⟨j, rfl, hj, HC⟩ := hrel
            clear HB
            by_cases hjn : j < n2
            · obtain ⟨a, ha⟩ : ∃ a, acs[j]? = some a := ⟨_, List.getElem?_eq_getElem (by rw [← HN.out]; exact hjn)⟩
              obtain ⟨a2, ha2⟩ : ∃ a, as2[j]? = some a := ⟨_, List.getElem?_eq_getElem (by rw [HL2.out, ← HN.out]; exact hjn)⟩
              obtain ⟨hkk, ln, hln1, hln2⟩ := HBK2.out j a a2 ha ha2
              obtain ⟨C, hC⟩ : ∃ C, l[j]? = some C := ⟨_, List.getElem?_eq_getElem (by rw [← H2.out.len, ← HN.out]; exact hjn)⟩
              obtain ⟨hC12, hone, hC0, -, -, hline⟩ := (H2.out.get j a C ha hC).one
              obtain ⟨B, o, rfl, -, -, hr⟩ := (HA.out.still HC.out.k).at hC
              have hsa := HS.out.2.2 a (List.mem_of_getElem? ha)
              have HLA := Lib.hid (fun w' hg hk => hline hsa.1 hsa.2 hln1 w' hg hk)
              obtain ⟨g, cq, C2, hv, hrg2, hD12, hone2, hline2⟩ := HC.out.a.one ha2
              have hkd := HC.out.a.kind ha2
              injection hv with e1 e2 e3
              subst e1
              have hkd2 : wr.cell? ⟨g, j * 12, none⟩ = some (.int .i64 a.kind) := by
                obtain ⟨gx, cx, hvx, hcx⟩ := hkd
                injection hvx with f1
                injection f1 with f1
                injection f1 with f1
                subst f1
                rw [hcx, hkk]
              have HRG : Hid (wr.rangeAt B (o + j * 12) C) := Lib.hid (fun j v hv => hr j v hv)
              have HSZ : Hid ((Tryz.prog.info? 73).map (·.size) = some C.length) := Lib.hid (by rw [hC12]; exact size73)
              have HSZ2 : Hid ((Tryz.prog.info? 73).map (·.size) = some C2.length) := Lib.hid (by rw [hD12]; exact size73)
              have HC12 := Lib.hid hC12
              have HONE := Lib.hid hone
              have HRG2 := Lib.hid hrg2
              have HL3 := Lib.hid (fun w' hg hk => hline2 hln2 w' hg hk)
              have HKD := Lib.hid hkd2
              have HC0 := Lib.hid hC0
              obtain ⟨kd, hkd⟩ : ∃ x, x = a.kind := ⟨_, rfl⟩
              rw [← hkd] at HKD HC0
              clear hkd hr hC12 hone hC0 hline hC ha ha2 hkk hln1 hln2 hsa hrg2 hD12 hone2 hline2 hkd2 e2 e3
              have t1 : True := trivial
              go_upto_region 22 with (first | (refine wpList_load_mid rfl 73 (.tmp 125) rfl B (o + j * 12) rfl C _ HRG.out Tryz.underlying73 rfl HSZ.out ?_) | (refine wpList_putB rfl 73 (.tmp 10) (.tmp 126) rfl wr.heap.size C rfl rfl 73 act0 (Blk.new wr act0 73) HSZ.out (by rw [HC12.out]; rfl) HONE.out ?_; intro w7 hr7 k7; have K7 := Lib.hid (Keeps.fresh k7); have HR7 := Lib.hid hr7; have HB7 := Lib.hid (HC.out.same K7.out); clear hr7 k7) | (refine wpList_getM rfl 73 (.tmp 10) rfl wr.heap.size 0 rfl C C 73 HR7.out (whole_row _) _ Tryz.underlying73 rfl HSZ.out ?_) | (clear t1; go_at_call 30; refine (HLA.out _ HB7.out.gl HB7.out.k).mono ?_; rintro e w8 ⟨rfl, k8⟩; have K8 := Lib.hid (K7.out.same k8); have HB8 := Lib.hid (HB7.out.same k8); have HR8 := Lib.hid (HR7.out.keeps k8 (fun h => h)); have y18 : w8.cell? ⟨w5.heap.size, 18, none⟩ = some (.slice (some ⟨g, 0, none⟩) n2 cp6) := HB8.out.d.cell 18; have HRG3 : Hid (w8.rangeAt g (j * 12) C2) := Lib.hid (fun i v hv => (K8.out.cell (p := ⟨g, j * 12 + i, none⟩) (World.block_lt_of_cell? wr _ (HRG2.out i v hv)) (fun h => h)).trans (HRG2.out i v hv)); clear k8) | (refine wpList_load_mid rfl 73 (.tmp 136) rfl g (j * 12) rfl C2 _ HRG3.out Tryz.underlying73 rfl HSZ2.out ?_) | (go_at_call 30; refine (HL3.out _ HB8.out.gl K8.out).mono ?_; rintro e w9 ⟨rfl, k9⟩; have K9 := Lib.hid (K8.out.same k9); have HB9 := Lib.hid (HB8.out.same k9); have HR9 := Lib.hid (HR8.out.keeps k9 (fun h => h)); clear k9))
              have f18 : ∀ k, (w9.drewN k).cell? ⟨w5.heap.size, 18, none⟩ = some (.slice (some ⟨g, 0, none⟩) n2 cp6) := fun k => HB9.out.d.cell 18
              have f0 : ∀ k, (w9.drewN k).cell? ⟨wr.heap.size, 0, none⟩ = some (.int .i64 kd) := fun k => (HR9.out.cell 0).trans HC0.out
              have f2 : ∀ k, (w9.drewN k).cell? ⟨g, j * 12, none⟩ = some (.int .i64 kd) := fun k => by
                have h := K9.out.cell (p := ⟨g, j * 12, none⟩) (World.block_lt_of_cell? wr _ HKD.out) (fun h => h)
                exact h.trans HKD.out
              have hii : (j : Int) < (n2 : Int) := by omega
              have hi0 : (0 : Int) ≤ (j : Int) := by omega
              have hm20 : j ≤ 100 := by omega
              clear hjn y18
              go_quiet (fail)
              go_wp2
              exact ⟨⟨j + 1, by go_num, by omega, Lib.hid (HB9.out.same ((Keeps.refl Nothing w9).drewN _))⟩, by simp [RowKit.intOf]; omega⟩
            · go_wp2
              go_ret
              exact ⟨rfl, HC.out.k⟩
  · rw [smallB_no hs] at HSM
    clear HTX HLN HBK hs
    go_enter Tryz.func8, Tryz.ntmps8
    go_wp2_with (first | (go_at_call 26; refine (R26.out).mono ?_; rintro e w1 ⟨rfl, k1⟩; have K2 := Lib.hid (K1.out.same k1); have HB2 := Lib.hid (HB1.out.keeps k1 (fun h => h)); clear k1) | (refine wpList_getM rfl 64 (.tmp 1) rfl w.heap.size 0 rfl _ _ 64 HB2.out (whole_row _) _ Tryz.underlying64 rfl size64 ?_) | (go_at_call 27; refine (HSM.out _ (HG.out.same K2.out) K2.out).mono ?_; rintro e w2 ⟨rfl, k2⟩; have K3 := Lib.hid (K2.out.same k2); have HB3 := Lib.hid (HB2.out.keeps k2 (fun h => h)); clear k2))
    go_ret
    exact ⟨rfl, K3.out⟩
end

end Go.Proofs.YtdncojofilnhnaaGreatDoor
