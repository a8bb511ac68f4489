/- ScriptLines: the walk. ScriptParses: the walk. -/
import Derived.Test.YtdncojofilnhnaaGreatDoorRd5
import Derived.Lib.IndexLaws
namespace Go.Proofs.YtdncojofilnhnaaGreatDoor

section
open Go.RowKit Go.Lib

theorem no_byte (c : UInt8) : ∀ l : Str, c ∉ l → Lib.indexByte l c = -1
  | [], _ => rfl
  | x :: l, h => by
    have h1 : x ≠ c := fun e => h (by rw [e]; exact List.mem_cons_self)
    have h2 := no_byte c l (fun e => h (List.mem_cons_of_mem _ e))
    simp [Lib.indexByte, h1, h2]

theorem contains_no {c : UInt8} {l : Str} (h : c ∉ l) (w : World) : Calls Tryz.prog 31 #[strV l, strV [c]] w fun ev w' => ev = .returned (.bool false) ∧ w' = w := by
  refine (Tryz.strings_Contains_one ⟨l.toArray⟩ c w).mono ?_
  rintro ev w' ⟨rfl, rfl⟩
  refine ⟨?_, rfl⟩
  have : (⟨l.toArray⟩ : ByteArray).data.toList = l := by simp
  rw [this, no_byte c l h]
  rfl

theorem whole_row (l : List Value) : (l.drop 0).take l.length = l := by rw [List.drop_zero, List.take_length]

theorem size26 : (Tryz.prog.info? 26).map (·.size) = some 8 := by kernel_rfl

/-- A line of an act, or why there is none. -/
theorem line_yes {a : Ac} (ha : AcIs a) (hk : -9223372036854775808 ≤ a.cmd.kind ∧ a.cmd.kind ≤ 9223372036854775807) (hbl : a.bytes.length ≤ 35184372088832) (hal : a.cmd.args.length ≤ 140737488355328) {bv cv : Value} {l : Str} (h : lineP a = .ok l) {w : World} (hg : Gl w) (hb : SlR w bv (bcells a.bytes)) (hc : SlR w cv (icells a.cmd.args)) :
    Calls Tryz.prog 30 #[.agg (actC a bv cv).toArray] w fun ev w' => ev = .returned (.tuple #[strV l, .nilIface]) ∧ Keeps Nothing w w' :=
  (line_ok a ha hk hbl hal bv cv hg hb hc).mono (fun ev w2 h2 => by
    obtain ⟨h1, h2⟩ := h2
    unfold LineIs at h1
    rw [h] at h1
    exact ⟨h1, h2⟩)

theorem line_none {a : Ac} (ha : AcIs a) (hk : -9223372036854775808 ≤ a.cmd.kind ∧ a.cmd.kind ≤ 9223372036854775807) (hbl : a.bytes.length ≤ 35184372088832) (hal : a.cmd.args.length ≤ 140737488355328) {bv cv : Value} {e : ErrD} (h : lineP a = .error e) {w : World} (hg : Gl w) (hb : SlR w bv (bcells a.bytes)) (hc : SlR w cv (icells a.cmd.args)) :
    Calls Tryz.prog 30 #[.agg (actC a bv cv).toArray] w fun ev w' => (∃ tE pE, ev = .returned (.tuple #[strV [], .iface tE pE]) ∧ ∃ ls er, valOf ls er = .iface tE pE ∧ ChainAt w' ls er ∧ codeOf er = e.2) ∧ Keeps Nothing w w' :=
  (line_ok a ha hk hbl hal bv cv hg hb hc).mono (fun ev w2 h2 => by
    obtain ⟨h1, h2⟩ := h2
    unfold LineIs at h1
    rw [h] at h1
    refine ⟨?_, h2⟩
    obtain ⟨v, hv, rfl⟩ := h1
    obtain ⟨en, ek⟩ := e
    cases en with
    | none =>
      have hv' : v = .iface 33 (.int .i64 ek) := hv
      subst hv'
      exact ⟨_, _, rfl, [], .num ek, rfl, trivial, rfl⟩
    | some en =>
      obtain ⟨b, hve, hch⟩ := WrErr.chain hv
      subst hve
      exact ⟨_, _, rfl, [(false, b, en)], .num ek, rfl, hch, rfl⟩)

set_option maxRecDepth 100000 in
set_option maxHeartbeats 16000000 in
theorem lines_walk (kind port nanos ck q0 q1 q2 q3 q4 q5 : Int) (bytes : Str) (args : List Int) (A0 A1 : Option Addr) (n0 n1 c0 c1 : Nat) (ha : AcIs ⟨kind, port, bytes, nanos, ⟨ck, [q0, q1, q2, q3, q4, q5], args⟩⟩) (hk : -9223372036854775808 ≤ ck ∧ ck ≤ 9223372036854775807) {w : World} (hg : Gl w) (hn0 : n0 = bytes.length) (hn1 : n1 = args.length) (hb : SlR w (.slice A0 n0 c0) (bcells bytes)) (hc : SlR w (.slice A1 n1 c1) (icells args)) :
    Calls Tryz.prog 9 #[.agg #[.int .i64 kind, .int .i64 port, .slice A0 n0 c0, .int .i64 nanos, .int .i64 ck, .int .u8 q0, .int .u8 q1, .int .u8 q2, .int .u8 q3, .int .u8 q4, .int .u8 q5, .slice A1 n1 c1]] w fun ev w' => ev = .returned (.bool true) ∧ Keeps Nothing w w' := by
  have HG := Lib.hid hg
  have HB := Lib.hid hb
  have HC := Lib.hid hc
  have HK1 := Lib.hid ((Keeps.refl Nothing w).alloc (.cells ([.int .i64 kind, .int .i64 port, .slice A0 n0 c0, .int .i64 nanos, .int .i64 ck, .int .u8 q0, .int .u8 q1, .int .u8 q2, .int .u8 q3, .int .u8 q4, .int .u8 q5, .slice A1 n1 c1] : List Value).toArray 73))
  have HB1 := Lib.hid (Blk.new w [.int .i64 kind, .int .i64 port, .slice A0 n0 c0, .int .i64 nanos, .int .i64 ck, .int .u8 q0, .int .u8 q1, .int .u8 q2, .int .u8 q3, .int .u8 q4, .int .u8 q5, .slice A1 n1 c1] 73)
  have R26 := Lib.hid (reads25_ok (HG.out.same HK1.out))
  have s2 : ∀ w1, Blk w1 w.heap.size [.int .i64 kind, .int .i64 port, .slice A0 n0 c0, .int .i64 nanos, .int .i64 ck, .int .u8 q0, .int .u8 q1, .int .u8 q2, .int .u8 q3, .int .u8 q4, .int .u8 q5, .slice A1 n1 c1] 73 → w1.cell? ⟨w.heap.size, 2, none⟩ = some (.slice A0 n0 c0) := fun w1 h => h.cell 2
  have s11 : ∀ w1, Blk w1 w.heap.size [.int .i64 kind, .int .i64 port, .slice A0 n0 c0, .int .i64 nanos, .int .i64 ck, .int .u8 q0, .int .u8 q1, .int .u8 q2, .int .u8 q3, .int .u8 q4, .int .u8 q5, .slice A1 n1 c1] 73 → w1.cell? ⟨w.heap.size, 11, none⟩ = some (.slice A1 n1 c1) := fun w1 h => h.cell 11
  have s0 : ∀ w1, Blk w1 w.heap.size [.int .i64 kind, .int .i64 port, .slice A0 n0 c0, .int .i64 nanos, .int .i64 ck, .int .u8 q0, .int .u8 q1, .int .u8 q2, .int .u8 q3, .int .u8 q4, .int .u8 q5, .slice A1 n1 c1] 73 → w1.cell? ⟨w.heap.size, 0, none⟩ = some (.int .i64 kind) := fun w1 h => h.cell 0
  have s1 : ∀ w1, Blk w1 w.heap.size [.int .i64 kind, .int .i64 port, .slice A0 n0 c0, .int .i64 nanos, .int .i64 ck, .int .u8 q0, .int .u8 q1, .int .u8 q2, .int .u8 q3, .int .u8 q4, .int .u8 q5, .slice A1 n1 c1] 73 → w1.cell? ⟨w.heap.size, 1, none⟩ = some (.int .i64 port) := fun w1 h => h.cell 1
  have s3 : ∀ w1, Blk w1 w.heap.size [.int .i64 kind, .int .i64 port, .slice A0 n0 c0, .int .i64 nanos, .int .i64 ck, .int .u8 q0, .int .u8 q1, .int .u8 q2, .int .u8 q3, .int .u8 q4, .int .u8 q5, .slice A1 n1 c1] 73 → w1.cell? ⟨w.heap.size, 3, none⟩ = some (.int .i64 nanos) := fun w1 h => h.cell 3
  have S2 := Lib.hid s2
  have S11 := Lib.hid s11
  have S0 := Lib.hid s0
  have S1' := Lib.hid s1
  have S3' := Lib.hid s3
  clear s0 s1 s2 s3 s11 hg hb hc
  by_cases hbig : 1600 < n0
  · have hi : (1600 : Int) < (n0 : Int) := by omega
    clear hbig hn0 hn1
    go_enter Tryz.func9, Tryz.ntmps9
    go_wp2_with (go_at_call 26; refine (R26.out).mono ?_; rintro e w1 ⟨rfl, k1⟩; have K1 := Lib.hid (HK1.out.same k1); have d2 := S2.out w1 (HB1.out.keeps k1 (fun h => h)); clear k1)
    go_ret
    exact ⟨rfl, K1.out⟩
  · by_cases hbig2 : 250 < n1
    · have hi : ¬ (1600 : Int) < (n0 : Int) := by omega
      have hi2 : (250 : Int) < (n1 : Int) := by omega
      clear hbig hbig2 hn0 hn1
      go_enter Tryz.func9, Tryz.ntmps9
      go_wp2_with (go_at_call 26; refine (R26.out).mono ?_; rintro e w1 ⟨rfl, k1⟩; have K1 := Lib.hid (HK1.out.same k1); have d2 := S2.out w1 (HB1.out.keeps k1 (fun h => h)); have d11 := S11.out w1 (HB1.out.keeps k1 (fun h => h)); clear k1)
      go_ret
      exact ⟨rfl, K1.out⟩
    · have hi : ¬ (1600 : Int) < (n0 : Int) := by omega
      have hi2 : ¬ (250 : Int) < (n1 : Int) := by omega
      have hlg := line_good ⟨kind, port, bytes, nanos, ⟨ck, [q0, q1, q2, q3, q4, q5], args⟩⟩
      have HCK : Hid (∀ w', Gl w' → Calls Tryz.prog 14 #[.agg #[.int .i64 ck, .int .u8 q0, .int .u8 q1, .int .u8 q2, .int .u8 q3, .int .u8 q4, .int .u8 q5, .slice A1 n1 c1]] w' fun ev w2 => ∃ v, ev = .returned v ∧ WrErr w2 v (checkP ⟨ck, [q0, q1, q2, q3, q4, q5], args⟩) ∧ Keeps Nothing w' w2) := Lib.hid (fun w' h => by
        have := check_ok ⟨ck, [q0, q1, q2, q3, q4, q5], args⟩ ha.mac hk (by show args.length ≤ _; omega) A1 c1 (w := w') h.big
        subst hn1
        exact this)
      have HLG := Lib.hid hlg
      cases hl : lineP ⟨kind, port, bytes, nanos, ⟨ck, [q0, q1, q2, q3, q4, q5], args⟩⟩ with
      | ok l =>
        have hgood := hlg.1 ⟨l, hl⟩
        obtain ⟨-, hne, h10⟩ := line_act ha hl
        have HCN := Lib.hid (contains_no h10)
        have HLI : Hid (∀ w', Gl w' → Keeps Nothing w w' → Calls Tryz.prog 30 #[.agg #[.int .i64 kind, .int .i64 port, .slice A0 n0 c0, .int .i64 nanos, .int .i64 ck, .int .u8 q0, .int .u8 q1, .int .u8 q2, .int .u8 q3, .int .u8 q4, .int .u8 q5, .slice A1 n1 c1]] w' fun ev w2 => ev = .returned (.tuple #[strV l, .nilIface]) ∧ Keeps Nothing w' w2) := Lib.hid (fun w' h1 h2 => line_yes ha hk (by show bytes.length ≤ _; omega) (by show args.length ≤ _; omega) hl h1 (HB.out.same h2) (HC.out.same h2))
        obtain ⟨x, l', rfl⟩ : ∃ x l', l = x :: l' := by cases l with | nil => exact absurd rfl hne | cons x l' => exact ⟨x, l', rfl⟩
        have hne2 : ¬ ((⟨(x :: l').toArray⟩ : ByteArray) = ⟨#[]⟩) := fun e => by have := strV_inj (b := []) e; cases this
        clear hbig hbig2 hn0 hn1 hlg hl hne h10 ha hk HLG
        rcases hgood with ⟨hkk, hp0, hp8⟩ | ⟨hkk, hnn⟩ | ⟨hkk, hcc⟩
        · have hp0' : (0 : Int) ≤ port := hp0
          have hp8' : port < 8 := hp8
          have hkk' : kind = 0 ∨ kind = 1 ∨ kind = 2 := hkk
          clear hp0 hp8 hkk HCK
          rcases hkk' with rfl | rfl | rfl
          · go_enter Tryz.func9, Tryz.ntmps9
            go_wp2_with (first | (go_at_call 26; refine (R26.out).mono ?_; rintro e w1 ⟨rfl, k1⟩; have K1 := Lib.hid (HK1.out.same k1); have HB2 := Lib.hid (HB1.out.keeps k1 (fun h => h)); have d2w1 := S2.out w1 HB2.out; have d11w1 := S11.out w1 HB2.out; have d0w1 := S0.out w1 HB2.out; have d1w1 := S1'.out w1 HB2.out; clear k1) | (refine wpList_getM rfl 73 (.tmp 1) rfl w.heap.size 0 rfl _ _ 73 HB2.out (whole_row _) _ Tryz.underlying73 rfl size73 ?_) | (go_at_call 30; refine (HLI.out _ (HG.out.same K1.out) K1.out).mono ?_; rintro e w2 ⟨rfl, k2⟩; have K2 := Lib.hid (K1.out.same k2); have HB3 := Lib.hid (HB2.out.keeps k2 (fun h => h)); have d2w2 := S2.out w2 HB3.out; have d11w2 := S11.out w2 HB3.out; have d0w2 := S0.out w2 HB3.out; have d1w2 := S1'.out w2 HB3.out; clear k2) | (go_at_call 31; refine (HCN.out _).mono ?_; rintro e w' ⟨rfl, rfl⟩))
            go_ret
            exact ⟨rfl, K2.out⟩
          · go_enter Tryz.func9, Tryz.ntmps9
            go_wp2_with (first | (go_at_call 26; refine (R26.out).mono ?_; rintro e w1 ⟨rfl, k1⟩; have K1 := Lib.hid (HK1.out.same k1); have HB2 := Lib.hid (HB1.out.keeps k1 (fun h => h)); have d2w1 := S2.out w1 HB2.out; have d11w1 := S11.out w1 HB2.out; have d0w1 := S0.out w1 HB2.out; have d1w1 := S1'.out w1 HB2.out; clear k1) | (refine wpList_getM rfl 73 (.tmp 1) rfl w.heap.size 0 rfl _ _ 73 HB2.out (whole_row _) _ Tryz.underlying73 rfl size73 ?_) | (go_at_call 30; refine (HLI.out _ (HG.out.same K1.out) K1.out).mono ?_; rintro e w2 ⟨rfl, k2⟩; have K2 := Lib.hid (K1.out.same k2); have HB3 := Lib.hid (HB2.out.keeps k2 (fun h => h)); have d2w2 := S2.out w2 HB3.out; have d11w2 := S11.out w2 HB3.out; have d0w2 := S0.out w2 HB3.out; have d1w2 := S1'.out w2 HB3.out; clear k2) | (go_at_call 31; refine (HCN.out _).mono ?_; rintro e w' ⟨rfl, rfl⟩))
            go_ret
            exact ⟨rfl, K2.out⟩
          · go_enter Tryz.func9, Tryz.ntmps9
            go_wp2_with (first | (go_at_call 26; refine (R26.out).mono ?_; rintro e w1 ⟨rfl, k1⟩; have K1 := Lib.hid (HK1.out.same k1); have HB2 := Lib.hid (HB1.out.keeps k1 (fun h => h)); have d2w1 := S2.out w1 HB2.out; have d11w1 := S11.out w1 HB2.out; have d0w1 := S0.out w1 HB2.out; have d1w1 := S1'.out w1 HB2.out; clear k1) | (refine wpList_getM rfl 73 (.tmp 1) rfl w.heap.size 0 rfl _ _ 73 HB2.out (whole_row _) _ Tryz.underlying73 rfl size73 ?_) | (go_at_call 30; refine (HLI.out _ (HG.out.same K1.out) K1.out).mono ?_; rintro e w2 ⟨rfl, k2⟩; have K2 := Lib.hid (K1.out.same k2); have HB3 := Lib.hid (HB2.out.keeps k2 (fun h => h)); have d2w2 := S2.out w2 HB3.out; have d11w2 := S11.out w2 HB3.out; have d0w2 := S0.out w2 HB3.out; have d1w2 := S1'.out w2 HB3.out; clear k2) | (go_at_call 31; refine (HCN.out _).mono ?_; rintro e w' ⟨rfl, rfl⟩))
            go_ret
            exact ⟨rfl, K2.out⟩
        · have hnn' : (0 : Int) ≤ nanos := hnn
          have hkk' : kind = 3 := hkk
          clear hnn hkk HCK
          subst hkk'
          go_enter Tryz.func9, Tryz.ntmps9
          go_wp2_with (first | (go_at_call 26; refine (R26.out).mono ?_; rintro e w1 ⟨rfl, k1⟩; have K1 := Lib.hid (HK1.out.same k1); have HB2 := Lib.hid (HB1.out.keeps k1 (fun h => h)); have d2w1 := S2.out w1 HB2.out; have d11w1 := S11.out w1 HB2.out; have d0w1 := S0.out w1 HB2.out; have d3w1 := S3'.out w1 HB2.out; clear k1) | (refine wpList_getM rfl 73 (.tmp 1) rfl w.heap.size 0 rfl _ _ 73 HB2.out (whole_row _) _ Tryz.underlying73 rfl size73 ?_) | (go_at_call 30; refine (HLI.out _ (HG.out.same K1.out) K1.out).mono ?_; rintro e w2 ⟨rfl, k2⟩; have K2 := Lib.hid (K1.out.same k2); have HB3 := Lib.hid (HB2.out.keeps k2 (fun h => h)); have d2w2 := S2.out w2 HB3.out; have d11w2 := S11.out w2 HB3.out; have d0w2 := S0.out w2 HB3.out; have d3w2 := S3'.out w2 HB3.out; clear k2) | (go_at_call 31; refine (HCN.out _).mono ?_; rintro e w' ⟨rfl, rfl⟩))
          go_ret
          exact ⟨rfl, K2.out⟩
        · have hkk' : kind = 4 := hkk
          have hcc' : checkP ⟨ck, [q0, q1, q2, q3, q4, q5], args⟩ = none := hcc
          rw [hcc'] at HCK
          clear hcc hkk hcc'
          subst hkk'
          go_enter Tryz.func9, Tryz.ntmps9
          go_wp2_with (first | (go_at_call 26; refine (R26.out).mono ?_; rintro e w1 ⟨rfl, k1⟩; have K1 := Lib.hid (HK1.out.same k1); have HB2 := Lib.hid (HB1.out.keeps k1 (fun h => h)); have d2w1 := S2.out w1 HB2.out; have d11w1 := S11.out w1 HB2.out; have d0w1 := S0.out w1 HB2.out; clear k1) | (refine wpList_getM rfl 73 (.tmp 1) rfl w.heap.size 0 rfl _ _ 73 HB2.out (whole_row _) _ Tryz.underlying73 rfl size73 ?_) | (go_at_call 30; refine (HLI.out _ (HG.out.same K1.out) K1.out).mono ?_; rintro e w2 ⟨rfl, k2⟩; have K2 := Lib.hid (K1.out.same k2); have HB3 := Lib.hid (HB2.out.keeps k2 (fun h => h)); have d2w2 := S2.out w2 HB3.out; have d11w2 := S11.out w2 HB3.out; have d0w2 := S0.out w2 HB3.out; clear k2) | (refine wpList_getM rfl 26 (.tmp 45) rfl w.heap.size 4 rfl [.int .i64 ck, .int .u8 q0, .int .u8 q1, .int .u8 q2, .int .u8 q3, .int .u8 q4, .int .u8 q5, .slice A1 n1 c1] _ 73 HB3.out rfl _ Tryz.underlying26 rfl size26 ?_) | (go_at_call 14; refine (HCK.out _ (HG.out.same K2.out)).mono ?_; rintro e w3 ⟨v, rfl, hv, k3⟩; obtain rfl : v = .nilIface := hv; have K3 := Lib.hid (K2.out.same k3); clear k3) | (go_at_call 31; refine (HCN.out _).mono ?_; rintro e w' ⟨rfl, rfl⟩))
          go_ret
          exact ⟨rfl, K3.out⟩
      | error e =>
        have hbad : ¬ _ := fun h => by
          obtain ⟨l, hl2⟩ := hlg.2 h
          rw [hl] at hl2
          cases hl2
        have hcode := line_no hl
        have HLI : Hid (∀ w', Gl w' → Keeps Nothing w w' → Calls Tryz.prog 30 #[.agg #[.int .i64 kind, .int .i64 port, .slice A0 n0 c0, .int .i64 nanos, .int .i64 ck, .int .u8 q0, .int .u8 q1, .int .u8 q2, .int .u8 q3, .int .u8 q4, .int .u8 q5, .slice A1 n1 c1]] w' fun ev w' => (∃ tE pE, ev = .returned (.tuple #[strV [], .iface tE pE]) ∧ ∃ ls er, valOf ls er = .iface tE pE ∧ ChainAt w' ls er ∧ codeOf er = e.2) ∧ True) := Lib.hid (fun w' h1 h2 => (line_none ha hk (by show bytes.length ≤ _; omega) (by show args.length ≤ _; omega) hl h1 (HB.out.same h2) (HC.out.same h2)).mono (fun ev w2 h => ⟨h.1, trivial⟩))
        have HLJ : Hid (∀ w', Gl w' → Keeps Nothing w w' → Calls Tryz.prog 30 #[.agg #[.int .i64 kind, .int .i64 port, .slice A0 n0 c0, .int .i64 nanos, .int .i64 ck, .int .u8 q0, .int .u8 q1, .int .u8 q2, .int .u8 q3, .int .u8 q4, .int .u8 q5, .slice A1 n1 c1]] w' fun ev w2 => (∃ tE pE, ev = .returned (.tuple #[strV [], .iface tE pE]) ∧ Hid (∃ ls er, valOf ls er = .iface tE pE ∧ ChainAt w2 ls er ∧ codeOf er = e.2)) ∧ Keeps Nothing w' w2) := Lib.hid (fun w' h1 h2 => (line_none ha hk (by show bytes.length ≤ _; omega) (by show args.length ≤ _; omega) hl h1 (HB.out.same h2) (HC.out.same h2)).mono (fun ev w2 h => by
          obtain ⟨⟨tE, pE, he, hx⟩, hk2⟩ := h
          exact ⟨⟨tE, pE, he, Lib.hid hx⟩, hk2⟩))
        obtain ⟨en, ek⟩ := e
        have hek : (ek != 0) = true := by simpa using hcode
        have hek2 : ¬ ek = 0 := hcode
        have HBAD : Hid (¬ (((kind = 0 ∨ kind = 1 ∨ kind = 2) ∧ 0 ≤ port ∧ port < 8) ∨ (kind = 3 ∧ 0 ≤ nanos) ∨ (kind = 4 ∧ checkP ⟨ck, [q0, q1, q2, q3, q4, q5], args⟩ = none))) := Lib.hid hbad
        clear hbig hbig2 hn0 hn1 hlg hl ha hk HLG hcode hbad HLI
        by_cases k0 : kind = 0 ∨ kind = 1 ∨ kind = 2
        · by_cases hp0 : (0 : Int) ≤ port
          · have hp8 : ¬ port < 8 := fun h => HBAD.out (.inl ⟨k0, hp0, h⟩)
            have hdp : decide (port < 8) = false := decide_eq_false hp8
            clear HCK
            rcases k0 with rfl | rfl | rfl
            · go_enter Tryz.func9, Tryz.ntmps9
              go_wp2_with (first | (go_at_call 26; refine (R26.out).mono ?_; rintro e w1 ⟨rfl, k1⟩; have K1 := Lib.hid (HK1.out.same k1); have HB2 := Lib.hid (HB1.out.keeps k1 (fun h => h)); have d2w1 := S2.out w1 HB2.out; have d11w1 := S11.out w1 HB2.out; have d0w1 := S0.out w1 HB2.out; have d1w1 := S1'.out w1 HB2.out; clear k1) | (refine wpList_getM rfl 73 (.tmp 1) rfl w.heap.size 0 rfl _ _ 73 HB2.out (whole_row _) _ Tryz.underlying73 rfl size73 ?_) | (go_at_call 30; refine (HLJ.out _ (HG.out.same K1.out) K1.out).mono ?_; rintro e w2 ⟨⟨tE, pE, rfl, hch⟩, k2⟩; have K2 := Lib.hid (K1.out.same k2); have HB3 := Lib.hid (HB2.out.keeps k2 (fun h => h)); have d2w2 := S2.out w2 HB3.out; have d11w2 := S11.out w2 HB3.out; have d0w2 := S0.out w2 HB3.out; have d1w2 := S1'.out w2 HB3.out; clear k2) | (go_at_call 15; obtain ⟨ls, er, hev, hca, hcd⟩ := hch.out; have hcc := code_ok (HG.out.same K2.out) hca; rw [hev, hcd] at hcc; refine hcc.mono ?_; rintro e w4 ⟨rfl, k4⟩; have K4 := Lib.hid (K2.out.same k4); clear k4 hev hca hcd hcc))
              all_goals go_ret
              all_goals exact ⟨by first | rfl | (simp [hek2]; done) | (rw [hek]; rfl), K4.out⟩
            · go_enter Tryz.func9, Tryz.ntmps9
              go_wp2_with (first | (go_at_call 26; refine (R26.out).mono ?_; rintro e w1 ⟨rfl, k1⟩; have K1 := Lib.hid (HK1.out.same k1); have HB2 := Lib.hid (HB1.out.keeps k1 (fun h => h)); have d2w1 := S2.out w1 HB2.out; have d11w1 := S11.out w1 HB2.out; have d0w1 := S0.out w1 HB2.out; have d1w1 := S1'.out w1 HB2.out; clear k1) | (refine wpList_getM rfl 73 (.tmp 1) rfl w.heap.size 0 rfl _ _ 73 HB2.out (whole_row _) _ Tryz.underlying73 rfl size73 ?_) | (go_at_call 30; refine (HLJ.out _ (HG.out.same K1.out) K1.out).mono ?_; rintro e w2 ⟨⟨tE, pE, rfl, hch⟩, k2⟩; have K2 := Lib.hid (K1.out.same k2); have HB3 := Lib.hid (HB2.out.keeps k2 (fun h => h)); have d2w2 := S2.out w2 HB3.out; have d11w2 := S11.out w2 HB3.out; have d0w2 := S0.out w2 HB3.out; have d1w2 := S1'.out w2 HB3.out; clear k2) | (go_at_call 15; obtain ⟨ls, er, hev, hca, hcd⟩ := hch.out; have hcc := code_ok (HG.out.same K2.out) hca; rw [hev, hcd] at hcc; refine hcc.mono ?_; rintro e w4 ⟨rfl, k4⟩; have K4 := Lib.hid (K2.out.same k4); clear k4 hev hca hcd hcc))
              all_goals go_ret
              all_goals exact ⟨by first | rfl | (simp [hek2]; done) | (rw [hek]; rfl), K4.out⟩
            · go_enter Tryz.func9, Tryz.ntmps9
              go_wp2_with (first | (go_at_call 26; refine (R26.out).mono ?_; rintro e w1 ⟨rfl, k1⟩; have K1 := Lib.hid (HK1.out.same k1); have HB2 := Lib.hid (HB1.out.keeps k1 (fun h => h)); have d2w1 := S2.out w1 HB2.out; have d11w1 := S11.out w1 HB2.out; have d0w1 := S0.out w1 HB2.out; have d1w1 := S1'.out w1 HB2.out; clear k1) | (refine wpList_getM rfl 73 (.tmp 1) rfl w.heap.size 0 rfl _ _ 73 HB2.out (whole_row _) _ Tryz.underlying73 rfl size73 ?_) | (go_at_call 30; refine (HLJ.out _ (HG.out.same K1.out) K1.out).mono ?_; rintro e w2 ⟨⟨tE, pE, rfl, hch⟩, k2⟩; have K2 := Lib.hid (K1.out.same k2); have HB3 := Lib.hid (HB2.out.keeps k2 (fun h => h)); have d2w2 := S2.out w2 HB3.out; have d11w2 := S11.out w2 HB3.out; have d0w2 := S0.out w2 HB3.out; have d1w2 := S1'.out w2 HB3.out; clear k2) | (go_at_call 15; obtain ⟨ls, er, hev, hca, hcd⟩ := hch.out; have hcc := code_ok (HG.out.same K2.out) hca; rw [hev, hcd] at hcc; refine hcc.mono ?_; rintro e w4 ⟨rfl, k4⟩; have K4 := Lib.hid (K2.out.same k4); clear k4 hev hca hcd hcc))
              all_goals go_ret
              all_goals exact ⟨by first | rfl | (simp [hek2]; done) | (rw [hek]; rfl), K4.out⟩
          · clear HCK
            rcases k0 with rfl | rfl | rfl
            · go_enter Tryz.func9, Tryz.ntmps9
              go_wp2_with (first | (go_at_call 26; refine (R26.out).mono ?_; rintro e w1 ⟨rfl, k1⟩; have K1 := Lib.hid (HK1.out.same k1); have HB2 := Lib.hid (HB1.out.keeps k1 (fun h => h)); have d2w1 := S2.out w1 HB2.out; have d11w1 := S11.out w1 HB2.out; have d0w1 := S0.out w1 HB2.out; have d1w1 := S1'.out w1 HB2.out; clear k1) | (refine wpList_getM rfl 73 (.tmp 1) rfl w.heap.size 0 rfl _ _ 73 HB2.out (whole_row _) _ Tryz.underlying73 rfl size73 ?_) | (go_at_call 30; refine (HLJ.out _ (HG.out.same K1.out) K1.out).mono ?_; rintro e w2 ⟨⟨tE, pE, rfl, hch⟩, k2⟩; have K2 := Lib.hid (K1.out.same k2); have HB3 := Lib.hid (HB2.out.keeps k2 (fun h => h)); have d2w2 := S2.out w2 HB3.out; have d11w2 := S11.out w2 HB3.out; have d0w2 := S0.out w2 HB3.out; have d1w2 := S1'.out w2 HB3.out; clear k2) | (go_at_call 15; obtain ⟨ls, er, hev, hca, hcd⟩ := hch.out; have hcc := code_ok (HG.out.same K2.out) hca; rw [hev, hcd] at hcc; refine hcc.mono ?_; rintro e w4 ⟨rfl, k4⟩; have K4 := Lib.hid (K2.out.same k4); clear k4 hev hca hcd hcc))
              all_goals go_ret
              all_goals exact ⟨by first | rfl | (simp [hek2]; done) | (rw [hek]; rfl), K4.out⟩
            · go_enter Tryz.func9, Tryz.ntmps9
              go_wp2_with (first | (go_at_call 26; refine (R26.out).mono ?_; rintro e w1 ⟨rfl, k1⟩; have K1 := Lib.hid (HK1.out.same k1); have HB2 := Lib.hid (HB1.out.keeps k1 (fun h => h)); have d2w1 := S2.out w1 HB2.out; have d11w1 := S11.out w1 HB2.out; have d0w1 := S0.out w1 HB2.out; have d1w1 := S1'.out w1 HB2.out; clear k1) | (refine wpList_getM rfl 73 (.tmp 1) rfl w.heap.size 0 rfl _ _ 73 HB2.out (whole_row _) _ Tryz.underlying73 rfl size73 ?_) | (go_at_call 30; refine (HLJ.out _ (HG.out.same K1.out) K1.out).mono ?_; rintro e w2 ⟨⟨tE, pE, rfl, hch⟩, k2⟩; have K2 := Lib.hid (K1.out.same k2); have HB3 := Lib.hid (HB2.out.keeps k2 (fun h => h)); have d2w2 := S2.out w2 HB3.out; have d11w2 := S11.out w2 HB3.out; have d0w2 := S0.out w2 HB3.out; have d1w2 := S1'.out w2 HB3.out; clear k2) | (go_at_call 15; obtain ⟨ls, er, hev, hca, hcd⟩ := hch.out; have hcc := code_ok (HG.out.same K2.out) hca; rw [hev, hcd] at hcc; refine hcc.mono ?_; rintro e w4 ⟨rfl, k4⟩; have K4 := Lib.hid (K2.out.same k4); clear k4 hev hca hcd hcc))
              all_goals go_ret
              all_goals exact ⟨by first | rfl | (simp [hek2]; done) | (rw [hek]; rfl), K4.out⟩
            · go_enter Tryz.func9, Tryz.ntmps9
              go_wp2_with (first | (go_at_call 26; refine (R26.out).mono ?_; rintro e w1 ⟨rfl, k1⟩; have K1 := Lib.hid (HK1.out.same k1); have HB2 := Lib.hid (HB1.out.keeps k1 (fun h => h)); have d2w1 := S2.out w1 HB2.out; have d11w1 := S11.out w1 HB2.out; have d0w1 := S0.out w1 HB2.out; have d1w1 := S1'.out w1 HB2.out; clear k1) | (refine wpList_getM rfl 73 (.tmp 1) rfl w.heap.size 0 rfl _ _ 73 HB2.out (whole_row _) _ Tryz.underlying73 rfl size73 ?_) | (go_at_call 30; refine (HLJ.out _ (HG.out.same K1.out) K1.out).mono ?_; rintro e w2 ⟨⟨tE, pE, rfl, hch⟩, k2⟩; have K2 := Lib.hid (K1.out.same k2); have HB3 := Lib.hid (HB2.out.keeps k2 (fun h => h)); have d2w2 := S2.out w2 HB3.out; have d11w2 := S11.out w2 HB3.out; have d0w2 := S0.out w2 HB3.out; have d1w2 := S1'.out w2 HB3.out; clear k2) | (go_at_call 15; obtain ⟨ls, er, hev, hca, hcd⟩ := hch.out; have hcc := code_ok (HG.out.same K2.out) hca; rw [hev, hcd] at hcc; refine hcc.mono ?_; rintro e w4 ⟨rfl, k4⟩; have K4 := Lib.hid (K2.out.same k4); clear k4 hev hca hcd hcc))
              all_goals go_ret
              all_goals exact ⟨by first | rfl | (simp [hek2]; done) | (rw [hek]; rfl), K4.out⟩
        · by_cases k3 : kind = 3
          · subst k3
            have hnn : ¬ (0 : Int) ≤ nanos := fun h => HBAD.out (.inr (.inl ⟨rfl, h⟩))
            have hdn : decide (0 ≤ nanos) = false := decide_eq_false hnn
            clear HCK k0
            go_enter Tryz.func9, Tryz.ntmps9
            go_wp2_with (first | (go_at_call 26; refine (R26.out).mono ?_; rintro e w1 ⟨rfl, k1⟩; have K1 := Lib.hid (HK1.out.same k1); have HB2 := Lib.hid (HB1.out.keeps k1 (fun h => h)); have d2w1 := S2.out w1 HB2.out; have d11w1 := S11.out w1 HB2.out; have d0w1 := S0.out w1 HB2.out; have d3w1 := S3'.out w1 HB2.out; clear k1) | (refine wpList_getM rfl 73 (.tmp 1) rfl w.heap.size 0 rfl _ _ 73 HB2.out (whole_row _) _ Tryz.underlying73 rfl size73 ?_) | (go_at_call 30; refine (HLJ.out _ (HG.out.same K1.out) K1.out).mono ?_; rintro e w2 ⟨⟨tE, pE, rfl, hch⟩, k2⟩; have K2 := Lib.hid (K1.out.same k2); have HB3 := Lib.hid (HB2.out.keeps k2 (fun h => h)); have d2w2 := S2.out w2 HB3.out; have d11w2 := S11.out w2 HB3.out; have d0w2 := S0.out w2 HB3.out; have d3w2 := S3'.out w2 HB3.out; clear k2) | (go_at_call 15; obtain ⟨ls, er, hev, hca, hcd⟩ := hch.out; have hcc := code_ok (HG.out.same K2.out) hca; rw [hev, hcd] at hcc; refine hcc.mono ?_; rintro e w4 ⟨rfl, k4⟩; have K4 := Lib.hid (K2.out.same k4); clear k4 hev hca hcd hcc))
            all_goals go_ret
            all_goals exact ⟨by first | rfl | (simp [hek2]; done) | (rw [hek]; rfl), K4.out⟩
          · by_cases k4 : kind = 4
            · subst k4
              cases hck : checkP ⟨ck, [q0, q1, q2, q3, q4, q5], args⟩ with
              | none => exact absurd (.inr (.inr ⟨rfl, hck⟩)) HBAD.out
              | some nk =>
                obtain ⟨cn, ckk⟩ := nk
                rw [hck] at HCK
                clear hck k0 k3
                go_enter Tryz.func9, Tryz.ntmps9
                go_wp2_with (first | (go_at_call 26; refine (R26.out).mono ?_; rintro e w1 ⟨rfl, k1⟩; have K1 := Lib.hid (HK1.out.same k1); have HB2 := Lib.hid (HB1.out.keeps k1 (fun h => h)); have d2w1 := S2.out w1 HB2.out; have d11w1 := S11.out w1 HB2.out; have d0w1 := S0.out w1 HB2.out; clear k1) | (refine wpList_getM rfl 73 (.tmp 1) rfl w.heap.size 0 rfl _ _ 73 HB2.out (whole_row _) _ Tryz.underlying73 rfl size73 ?_) | (go_at_call 30; refine (HLJ.out _ (HG.out.same K1.out) K1.out).mono ?_; rintro e w2 ⟨⟨tE, pE, rfl, hch⟩, k2⟩; have K2 := Lib.hid (K1.out.same k2); have HB3 := Lib.hid (HB2.out.keeps k2 (fun h => h)); have d2w2 := S2.out w2 HB3.out; have d11w2 := S11.out w2 HB3.out; have d0w2 := S0.out w2 HB3.out; clear k2) | (refine wpList_getM rfl 26 (.tmp 45) rfl w.heap.size 4 rfl [.int .i64 ck, .int .u8 q0, .int .u8 q1, .int .u8 q2, .int .u8 q3, .int .u8 q4, .int .u8 q5, .slice A1 n1 c1] _ 73 HB3.out rfl _ Tryz.underlying26 rfl size26 ?_) | (go_at_call 14; refine (HCK.out _ (HG.out.same K2.out)).mono ?_; rintro e w3 ⟨v, rfl, hv, k3⟩; obtain ⟨bx, hbx, rfl, hbB⟩ := hv; have K3 := Lib.hid (K2.out.same k3); have KC := Lib.hid k3; clear k3 hbx hbB) | (go_at_call 15; obtain ⟨ls, er, hev, hca, hcd⟩ := hch.out; have hcc := code_ok (HG.out.same K3.out) (ChainAt.same KC.out hca); rw [hev, hcd] at hcc; refine hcc.mono ?_; rintro e w4 ⟨rfl, k4⟩; have K4 := Lib.hid (K3.out.same k4); clear k4 hev hca hcd hcc))
                all_goals go_ret
                all_goals exact ⟨by first | rfl | (simp [hek2]; done) | (rw [hek]; rfl), K4.out⟩
            · have k1 : ¬ kind = 0 := fun e => k0 (.inl e)
              have k2 : ¬ kind = 1 := fun e => k0 (.inr (.inl e))
              have k5 : ¬ kind = 2 := fun e => k0 (.inr (.inr e))
              clear HCK k0
              go_enter Tryz.func9, Tryz.ntmps9
              go_wp2_with (first | (go_at_call 26; refine (R26.out).mono ?_; rintro e w1 ⟨rfl, k1⟩; have K1 := Lib.hid (HK1.out.same k1); have HB2 := Lib.hid (HB1.out.keeps k1 (fun h => h)); have d2w1 := S2.out w1 HB2.out; have d11w1 := S11.out w1 HB2.out; have d0w1 := S0.out w1 HB2.out; clear k1) | (refine wpList_getM rfl 73 (.tmp 1) rfl w.heap.size 0 rfl _ _ 73 HB2.out (whole_row _) _ Tryz.underlying73 rfl size73 ?_) | (go_at_call 30; refine (HLJ.out _ (HG.out.same K1.out) K1.out).mono ?_; rintro e w2 ⟨⟨tE, pE, rfl, hch⟩, k2⟩; have K2 := Lib.hid (K1.out.same k2); have HB3 := Lib.hid (HB2.out.keeps k2 (fun h => h)); have d2w2 := S2.out w2 HB3.out; have d11w2 := S11.out w2 HB3.out; have d0w2 := S0.out w2 HB3.out; clear k2) | (go_at_call 15; obtain ⟨ls, er, hev, hca, hcd⟩ := hch.out; have hcc := code_ok (HG.out.same K2.out) hca; rw [hev, hcd] at hcc; refine hcc.mono ?_; rintro e w4 ⟨rfl, k4⟩; have K4 := Lib.hid (K2.out.same k4); clear k4 hev hca hcd hcc))
              all_goals go_ret
              all_goals exact ⟨by first | rfl | (simp [hek2]; done) | (rw [hek]; rfl), K4.out⟩
end

section
open Go.RowKit Go.Lib

/-! ## the errors' numbers are small -/
theorem act_rng {l : Str} {e : ErrD} (h : actP l = .error e) : 0 ≤ e.2 ∧ e.2 ≤ 100 := by
  unfold actP at h
  simp only at h
  repeat' split at h
  all_goals first
    | (injection h with h; subst h; simp only; first | decide | (rename_i hp; have := parse_no hp; omega))
    | cases h

theorem config_rng {l : Str} {e : ErrD} (h : configP l = .error e) : 0 ≤ e.2 ∧ e.2 ≤ 100 := by
  unfold configP at h
  simp only at h
  repeat' split at h
  all_goals first
    | (injection h with h; subst h; simp only; first | decide | (rename_i hp; have := parse_no hp; omega))
    | cases h

theorem acts_rng : ∀ (ls : List Str) (i : Nat) (n : Int) (e : ErrD), actsP i ls = .error (n, e) → 0 ≤ e.2 ∧ e.2 ≤ 100
  | [], i, n, e, h => by simp only [actsP] at h; cases h
  | l :: ls, i, n, e, h => by
    simp only [actsP] at h
    split at h
    · exact acts_rng ls (i + 1) n e h
    · split at h
      · rename_i e' he
        injection h with h
        injection h with h1 h2
        subst h1 h2
        exact act_rng he
      · split at h
        · rename_i e' he
          injection h with h
          subst h
          exact acts_rng ls (i + 1) n e he
        · cases h

theorem script_rng {t : Str} {n : Int} {e : ErrD} (h : scriptP t = .error (n, e)) : 0 ≤ e.2 ∧ e.2 ≤ 100 := by
  unfold scriptP at h
  simp only at h
  split at h
  · injection h with h
    injection h with h1 h2
    subst h1 h2
    exact ⟨by decide, by decide⟩
  · split at h
    · rename_i e' he
      injection h with h
      injection h with h1 h2
      subst h1 h2
      exact config_rng he
    · split at h
      · rename_i e' he
        injection h with h
        subst h
        exact acts_rng _ _ _ _ he
      · cases h

theorem filter_at {α : Type} (p : α → Bool) : ∀ (tl : List α) (i : Nat) (l : α), tl[i]? = some l → p l = true → (tl.filter p)[((tl.take i).filter p).length]? = some l
  | [], i, l, h, _ => by simp at h
  | x :: tl, 0, l, h, hp => by
    simp at h
    subst h
    simp [hp]
  | x :: tl, i + 1, l, h, hp => by
    have := filter_at p tl i l (by simpa using h) hp
    rw [List.take_succ_cons, List.filter_cons, List.filter_cons]
    split
    · simpa using this
    · exact this

/-! ## a fault, read -/
theorem FaultE.head {w : World} {b : Nat} {n : Int} {e : ErrD} (h : FaultE w b n e) : ∃ ls er t p, valOf ls er = .iface t p ∧ Blk w b [.int .i64 n, .iface t p] 79 ∧ ChainAt w ls er ∧ codeOf er = e.2 := by
  obtain ⟨en, k⟩ := e
  cases en with
  | none => exact ⟨[], .num k, _, _, rfl, h.2.1, trivial, rfl⟩
  | some m =>
    obtain ⟨b', hc⟩ := h.2
    exact ⟨[(false, b', m)], .num k, _, _, rfl, hc.1, hc.2, rfl⟩

theorem fault_words {w : World} (hg : Gl w) {b : Nat} {n : Int} {e : ErrD} (h : FaultE w b n e) (hn : 1 ≤ n ∧ n ≤ 1000000) (he : 0 ≤ e.2 ∧ e.2 ≤ 100) : Calls Tryz.prog 32 #[.pointer (some ⟨b, 0, none⟩)] w fun ev w' => (∃ t, ev = .returned (strV (108 :: t))) ∧ Keeps Nothing w w' := by
  obtain ⟨ls, er, t, p, hv, hB, hc, hcd⟩ := h.head
  exact fault_text (l := ls) (e := er) (n := n) (by omega) (by omega) (by rw [hcd]; omega) (by rw [hcd]; omega) hg (by rw [hv]; exact hB) hc

theorem fault_is {w : World} {b : Nat} {n : Int} {e : ErrD} (h : FaultE w b n e) : Calls Tryz.prog 18 #[.iface 76 (.pointer (some ⟨b, 0, none⟩)), .iface 33 (.int .i64 e.2)] w fun ev w' => ev = .returned (.bool true) ∧ w' = w := by
  obtain ⟨en, k⟩ := e
  cases en with
  | none =>
    have := is_ok (l := [(true, b, n)]) (e := .num k) h.2 k
    simpa [numOf, valOf] using this
  | some m =>
    obtain ⟨b', hc⟩ := h.2
    have := is_ok (l := [(true, b, n), (false, b', m)]) (e := .num k) hc k
    simpa [numOf, valOf] using this

/-- What stands while the law looks at a script that was read. -/
structure PaS (w wr : World) (b : Nat) (L : List Value) (ls : List Str) (lb : Nat) (av : Value) (acs : List Ac) : Prop where
  gl : Gl wr
  k : Keeps Nothing w wr
  c : Blk wr b L 64
  a : ActsAt wr (fun k => w.heap.size ≤ k) 4294967000 av acs
  l : Blk wr lb (ls.map strV) 9
  big : 10 ≤ w.heap.size

theorem PaS.same {w wr w' : World} {b lb : Nat} {L : List Value} {ls : List Str} {av : Value} {acs : List Ac} (h : PaS w wr b L ls lb av acs) (hk : Keeps Nothing wr w') : PaS w w' b L ls lb av acs :=
  ⟨h.gl.same hk, h.k.same hk, h.c.keeps hk (fun h => h), h.a.thru (Thru.same hk) (Thru.same hk) (Thru.same hk), h.l.keeps hk (fun h => h), h.big⟩

theorem ActOk.mono {N M : Nat} (hN : N ≤ M) {a : Ac} (h : ActOk N a) : ActOk M a := ⟨h.1, Nat.le_trans h.2.1 hN, Nat.le_trans h.2.2.1 (by omega), h.2.2.2⟩

theorem ActsAt.wide {w : World} {F : Nat → Prop} {N M : Nat} (hN : N ≤ M) {v : Value} {acs : List Ac} (h : ActsAt w F N v acs) : ActsAt w F M v acs := by
  obtain ⟨cs, ho, h2⟩ := h
  exact ⟨cs, ho, h2.imp (fun _ _ h => by obtain ⟨h0, r⟩ := h; exact ⟨h0.mono hN, r⟩)⟩

theorem ActsAt.row {w : World} {F : Nat → Prop} {N : Nat} {v : Value} {acs : List Ac} (h : ActsAt w F N v acs) : ∃ A cp, v = .slice A acs.length cp := by
  obtain ⟨cs, ho, -⟩ := h
  rcases ho.1.2 with ⟨hv, h0⟩ | ⟨g, cap, cur, hv, -⟩
  · exact ⟨none, 0, by rw [hv, h0]⟩
  · exact ⟨_, _, hv⟩

/-- One act of it: its cells, and its line. -/
theorem ActsAt.one {w : World} {F : Nat → Prop} {v : Value} {acs : List Ac} {k : Nat} {a : Ac} (h : ActsAt w F 4294967000 v acs) (ha : acs[k]? = some a) : ∃ g cp C, v = .slice (some ⟨g, 0, none⟩) acs.length cp ∧ w.rangeAt g (k * 12) C ∧ C.length = 12 ∧ (∀ v ∈ C, v.oneCell' = true) ∧
    ∀ {l : Str}, lineP a = .ok l → ∀ w', Gl w' → Keeps Nothing w w' → Calls Tryz.prog 30 #[.agg C.toArray] w' fun ev w2 => ev = .returned (.tuple #[strV l, .nilIface]) ∧ Keeps Nothing w' w2 := by
  obtain ⟨cs, ho, h2⟩ := h
  have hk : k < acs.length := (List.getElem?_eq_some_iff.1 ha).1
  obtain ⟨C, hC⟩ : ∃ C, cs[k]? = some C := ⟨_, List.getElem?_eq_getElem (by rw [← h2.len]; exact hk)⟩
  obtain ⟨⟨haI, hb, hc, hk2⟩, bv, cv, hCe, hsb, hsc⟩ := h2.get k a C ha hC
  obtain ⟨A, cp, rfl⟩ : ∃ A cp, v = .slice A acs.length cp := ActsAt.row ⟨cs, ho, h2⟩
  obtain ⟨g, rfl, -, -, hg⟩ := ho.form (by omega)
  have hl12 := acts_len h2 C (List.mem_of_getElem? hC)
  refine ⟨g, cp, C, rfl, fun j u hj => hg _ u (flat_at cs k C j u (acts_len h2) hC hj), hl12, ?_, fun {l} hl w' hgl hkk => ?_⟩
  · obtain ⟨Ab, cb, rfl⟩ := hsb.lenG
    obtain ⟨Ac, cc, rfl⟩ := hsc.lenG
    rw [hCe]
    intro v hv
    simp only [actC, cmdCells, List.mem_append, List.mem_cons, List.mem_map, List.not_mem_nil, or_false] at hv
    rcases hv with (rfl | rfl | rfl | rfl) | rfl | ⟨x, -, rfl⟩ | rfl <;> rfl
  · rw [hCe]
    exact line_yes haI hk2 (by omega) (by omega) hl hgl (hsb.slR.same hkk) (hsc.slR.same hkk)


set_option maxRecDepth 100000 in
set_option maxHeartbeats 8000000 in
theorem parses_bad (t : Str) (ht : t.length ≤ 4000) {n : Int} {e : ErrD} (h : scriptP t = .error (n, e)) {w : World} (hg : Gl w) :
    Calls Tryz.prog 10 #[strV t] w fun ev w' => ev = .returned (.bool true) ∧ Keeps Nothing w w' := by
  have HG := Lib.hid hg
  obtain ⟨hek, hn1, hn2⟩ := script_bad h
  have hrg := script_rng h
  have hsl := splitOn_len 10 t
  have HP := Lib.hid (fun (w' : World) (hg : Gl w') => script_fault t (by omega) h hg)
  have HSP := Lib.hid (fun (w' : World) (hg : Gl w') => split_ok t 10 (by omega) hg)
  have HF := Lib.hid (fun (w' : World) (hg : Gl w') (b : Nat) (hf : FaultE w' b n e) => fault_words hg hf ⟨hn1, by omega⟩ hrg)
  have hi : ¬ (4000 : Int) < (t.length : Int) := by omega
  obtain ⟨m, hm⟩ : ∃ m, m = (splitOn 10 t).length := ⟨_, rfl⟩
  rw [← hm] at hn2 hsl HSP
  have hm2 : m ≤ 4001 := by omega
  have hn3 : n ≤ (m : Int) + 1 := by omega
  obtain ⟨en, ek⟩ := e
  have hek' : ¬ ek = 0 := hek
  clear hm hg hsl hrg hek h hn2
  generalize splitOn 10 t = ls at *
  have t1 : True := trivial
  go_enter Tryz.func10, Tryz.ntmps10
  go_wp2_with (first | (go_at_call 26; refine (reads25_ok HG.out).mono ?_; rintro e w1 ⟨rfl, k1⟩; have K1 := Lib.hid k1; have HG1 := Lib.hid (HG.out.same k1); clear k1) | (go_at_call 29; refine (HP.out _ HG1.out).mono ?_; rintro e w2 ⟨⟨b, rfl, hf⟩, k2⟩; have HF2 := Lib.hid hf; have K2 := Lib.hid (K1.out.same k2); have HG2 := Lib.hid (HG1.out.same k2); clear hf k2) | (refine wpList_putB rfl 64 (.tmp 3) (.tmp 20) rfl w2.heap.size sc0 rfl rfl 64 sc0 (Blk.new w2 sc0 64) size64 rfl (by decide) ?_; intro w3 hr3 k3; have ka := (Keeps.refl Nothing w2).alloc (.cells sc0.toArray 64); have hb := Blk.new w2 sc0 64; have hsz := K2.out.size; have h10 := HG.out.big; have K3 := Lib.hid ((K2.out.same ka).up k3 (fun k e => by omega)); have HG3 := Lib.hid (((HG2.out.same ka).keeps k3 (fun k hk e => by omega))); have HF3 := Lib.hid ((HF2.out.same ka).put hb (by decide) k3); have HR3 := Lib.hid hr3; clear hr3 k3 ka hb hsz h10) | (go_at_call 19; refine (HSP.out _ HG3.out).mono ?_; rintro e w4 ⟨rfl, hlb, k4⟩; have K4 := Lib.hid (K3.out.same k4); have HG4 := Lib.hid (HG3.out.same k4); have HF4 := Lib.hid (HF3.out.same k4); have HR4 := Lib.hid (HR3.out.keeps k4 (fun h => h)); have ka5 := (Keeps.refl Nothing w4).alloc (.cells #[.pointer none] 76); have HG5 := Lib.hid (HG4.out.same ka5); have HF5 := Lib.hid (HF4.out.same ka5); have HR5 := Lib.hid (HR4.out.keeps ka5 (fun h => h)); have HT5 := Lib.hid (Blk.new w4 [.pointer none] 76); have K5 := Lib.hid (K4.out.same ka5); clear hlb k4 ka5) | (go_at_call 20; refine (fault_as HG5.out HF5.out HT5.out).mono ?_; rintro e w6 ⟨rfl, hb6, k6⟩; have hsz := K4.out.size; have h10 := HG.out.big; have hne : w2.heap.size ≠ w4.heap.size := (by have := HR4.out.lt; omega); have K6 := Lib.hid (K5.out.up k6 (fun k e => by omega)); have HG6 := Lib.hid (HG5.out.keeps k6 (fun k hk e => by omega)); have HF6 := Lib.hid (HF5.out.put HT5.out (by decide) k6); have HR6 := Lib.hid (HR5.out.keeps k6 hne); have HT6 := Lib.hid hb6; have q1 : w6.cell? ⟨w4.heap.size, 0, none⟩ = some (.pointer (some ⟨b, 0, none⟩)) := hb6.cell 0; obtain ⟨fv, hl⟩ := HF6.out.line; have q2 : w6.cell? ⟨b, 0, none⟩ = some (.int .i64 n) := hl.cell 0; clear hb6 k6 hne hl hsz h10) | (go_at_call 32; refine (HF.out _ HG6.out _ HF6.out).mono ?_; rintro e w7 ⟨⟨tx, rfl⟩, k7⟩; have K7 := Lib.hid (K6.out.same k7); have HG7 := Lib.hid (HG6.out.same k7); have HF7 := Lib.hid (HF6.out.same k7); have HR7 := Lib.hid (HR6.out.keeps k7 (fun h => h)); have HT7 := Lib.hid (HT6.out.keeps k7 (fun h => h)); have q3 : w7.cell? ⟨w4.heap.size, 0, none⟩ = some (.pointer (some ⟨b, 0, none⟩)) := HT7.out.cell 0; have hne2 : ¬ ((⟨(108 :: tx).toArray⟩ : ByteArray) = ⟨#[]⟩) := (fun e => by have := strV_inj (b := []) e; cases this); clear k7) | (go_at_call 33; obtain ⟨ls', er, ty, pv, hv, hB, -, -⟩ := HF7.out.head; refine (flt_unwrap hB).mono ?_; rintro e w' ⟨rfl, rfl⟩; clear hv hB) | (clear t1; go_at_call 15; refine (fault_code HG7.out HF7.out).mono ?_; rintro e w8 ⟨rfl, k8⟩; have K8 := Lib.hid (K7.out.same k8); have HG8 := Lib.hid (HG7.out.same k8); have HF8 := Lib.hid (HF7.out.same k8); have q4 : w8.cell? ⟨w2.heap.size, 18, none⟩ = some (.slice none 0 0) := (HR7.out.keeps k8 (fun h => h)).cell 18; clear k8) | (go_at_call 15; refine (fault_code HG8.out HF8.out).mono ?_; rintro e w9 ⟨rfl, k9⟩; have K9 := Lib.hid (K8.out.same k9); have HF9 := Lib.hid (HF8.out.same k9); clear k9) | (go_at_call 18; refine (fault_is HF9.out).mono ?_; rintro e w' ⟨rfl, rfl⟩))
  all_goals go_ret
  all_goals exact ⟨by first | rfl | (simp_all; done), K9.out⟩
end

end Go.Proofs.YtdncojofilnhnaaGreatDoor
