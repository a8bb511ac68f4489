/- ScriptLines: the walk. -/
import Derived.Test.YtdncojofilnhnaaGreatDoorRd5
import Derived.Lib.IndexLaws
namespace Go.Proofs.YtdncojofilnhnaaGreatDoor
open Go.RowKit Go.Lib

theorem no_byte (c : UInt8) : ∀ l : Str, c ∉ l → Lib.indexByte l c = -1
  | [], _ => rfl
  | x :: l, h => by
    have h1 : x ≠ c := fun e => h (by rw [e]; exact List.mem_cons_self)
    have h2 := no_byte c l (fun e => h (List.mem_cons_of_mem _ e))
    simp [Lib.indexByte, h1, h2]

theorem contains_no {c : UInt8} {l : Str} (h : c ∉ l) (w : World) : Calls Tryz.prog 31 #[strV l, strV [c]] w fun ev w' => ev = .returned (.bool false) ∧ w' = w := by
  refine (Tryz.strings_Contains_one ⟨l.toArray⟩ c w).mono ?_
  rintro ev w' ⟨rfl, rfl⟩
  refine ⟨?_, rfl⟩
  have : (⟨l.toArray⟩ : ByteArray).data.toList = l := by simp
  rw [this, no_byte c l h]
  rfl

theorem whole_row (l : List Value) : (l.drop 0).take l.length = l := by rw [List.drop_zero, List.take_length]

theorem size26 : (Tryz.prog.info? 26).map (·.size) = some 8 := by kernel_rfl

/-- A line of an act, or why there is none. -/
theorem line_yes {a : Ac} (ha : AcIs a) (hk : -9223372036854775808 ≤ a.cmd.kind ∧ a.cmd.kind ≤ 9223372036854775807) (hbl : a.bytes.length ≤ 35184372088832) (hal : a.cmd.args.length ≤ 140737488355328) {bv cv : Value} {l : Str} (h : lineP a = .ok l) {w : World} (hg : Gl w) (hb : SlR w bv (bcells a.bytes)) (hc : SlR w cv (icells a.cmd.args)) :
    Calls Tryz.prog 30 #[.agg (actC a bv cv).toArray] w fun ev w' => ev = .returned (.tuple #[strV l, .nilIface]) ∧ Keeps Nothing w w' :=
  (line_ok a ha hk hbl hal bv cv hg hb hc).mono (fun ev w2 h2 => by
    obtain ⟨h1, h2⟩ := h2
    unfold LineIs at h1
    rw [h] at h1
    exact ⟨h1, h2⟩)

theorem line_none {a : Ac} (ha : AcIs a) (hk : -9223372036854775808 ≤ a.cmd.kind ∧ a.cmd.kind ≤ 9223372036854775807) (hbl : a.bytes.length ≤ 35184372088832) (hal : a.cmd.args.length ≤ 140737488355328) {bv cv : Value} {e : ErrD} (h : lineP a = .error e) {w : World} (hg : Gl w) (hb : SlR w bv (bcells a.bytes)) (hc : SlR w cv (icells a.cmd.args)) :
    Calls Tryz.prog 30 #[.agg (actC a bv cv).toArray] w fun ev w' => (∃ tE pE, ev = .returned (.tuple #[strV [], .iface tE pE]) ∧ ∃ ls er, valOf ls er = .iface tE pE ∧ ChainAt w' ls er ∧ codeOf er = e.2) ∧ Keeps Nothing w w' :=
  (line_ok a ha hk hbl hal bv cv hg hb hc).mono (fun ev w2 h2 => by
    obtain ⟨h1, h2⟩ := h2
    unfold LineIs at h1
    rw [h] at h1
    refine ⟨?_, h2⟩
    obtain ⟨v, hv, rfl⟩ := h1
    obtain ⟨en, ek⟩ := e
    cases en with
    | none =>
      have hv' : v = .iface 33 (.int .i64 ek) := hv
      subst hv'
      exact ⟨_, _, rfl, [], .num ek, rfl, trivial, rfl⟩
    | some en =>
      obtain ⟨b, hve, hch⟩ := WrErr.chain hv
      subst hve
      exact ⟨_, _, rfl, [(false, b, en)], .num ek, rfl, hch, rfl⟩)

set_option maxRecDepth 100000 in
set_option maxHeartbeats 16000000 in
theorem lines_walk (kind port nanos ck q0 q1 q2 q3 q4 q5 : Int) (bytes : Str) (args : List Int) (A0 A1 : Option Addr) (n0 n1 c0 c1 : Nat) (ha : AcIs ⟨kind, port, bytes, nanos, ⟨ck, [q0, q1, q2, q3, q4, q5], args⟩⟩) (hk : -9223372036854775808 ≤ ck ∧ ck ≤ 9223372036854775807) {w : World} (hg : Gl w) (hn0 : n0 = bytes.length) (hn1 : n1 = args.length) (hb : SlR w (.slice A0 n0 c0) (bcells bytes)) (hc : SlR w (.slice A1 n1 c1) (icells args)) :
    Calls Tryz.prog 9 #[.agg #[.int .i64 kind, .int .i64 port, .slice A0 n0 c0, .int .i64 nanos, .int .i64 ck, .int .u8 q0, .int .u8 q1, .int .u8 q2, .int .u8 q3, .int .u8 q4, .int .u8 q5, .slice A1 n1 c1]] w fun ev w' => ev = .returned (.bool true) ∧ Keeps Nothing w w' := by
  have HG := Lib.hid hg
  have HB := Lib.hid hb
  have HC := Lib.hid hc
  have HK1 := Lib.hid ((Keeps.refl Nothing w).alloc (.cells ([.int .i64 kind, .int .i64 port, .slice A0 n0 c0, .int .i64 nanos, .int .i64 ck, .int .u8 q0, .int .u8 q1, .int .u8 q2, .int .u8 q3, .int .u8 q4, .int .u8 q5, .slice A1 n1 c1] : List Value).toArray 73))
  have HB1 := Lib.hid (Blk.new w [.int .i64 kind, .int .i64 port, .slice A0 n0 c0, .int .i64 nanos, .int .i64 ck, .int .u8 q0, .int .u8 q1, .int .u8 q2, .int .u8 q3, .int .u8 q4, .int .u8 q5, .slice A1 n1 c1] 73)
  have R26 := Lib.hid (reads25_ok (HG.out.same HK1.out))
  have s2 : ∀ w1, Blk w1 w.heap.size [.int .i64 kind, .int .i64 port, .slice A0 n0 c0, .int .i64 nanos, .int .i64 ck, .int .u8 q0, .int .u8 q1, .int .u8 q2, .int .u8 q3, .int .u8 q4, .int .u8 q5, .slice A1 n1 c1] 73 → w1.cell? ⟨w.heap.size, 2, none⟩ = some (.slice A0 n0 c0) := fun w1 h => h.cell 2
  have s11 : ∀ w1, Blk w1 w.heap.size [.int .i64 kind, .int .i64 port, .slice A0 n0 c0, .int .i64 nanos, .int .i64 ck, .int .u8 q0, .int .u8 q1, .int .u8 q2, .int .u8 q3, .int .u8 q4, .int .u8 q5, .slice A1 n1 c1] 73 → w1.cell? ⟨w.heap.size, 11, none⟩ = some (.slice A1 n1 c1) := fun w1 h => h.cell 11
  have s0 : ∀ w1, Blk w1 w.heap.size [.int .i64 kind, .int .i64 port, .slice A0 n0 c0, .int .i64 nanos, .int .i64 ck, .int .u8 q0, .int .u8 q1, .int .u8 q2, .int .u8 q3, .int .u8 q4, .int .u8 q5, .slice A1 n1 c1] 73 → w1.cell? ⟨w.heap.size, 0, none⟩ = some (.int .i64 kind) := fun w1 h => h.cell 0
  have s1 : ∀ w1, Blk w1 w.heap.size [.int .i64 kind, .int .i64 port, .slice A0 n0 c0, .int .i64 nanos, .int .i64 ck, .int .u8 q0, .int .u8 q1, .int .u8 q2, .int .u8 q3, .int .u8 q4, .int .u8 q5, .slice A1 n1 c1] 73 → w1.cell? ⟨w.heap.size, 1, none⟩ = some (.int .i64 port) := fun w1 h => h.cell 1
  have s3 : ∀ w1, Blk w1 w.heap.size [.int .i64 kind, .int .i64 port, .slice A0 n0 c0, .int .i64 nanos, .int .i64 ck, .int .u8 q0, .int .u8 q1, .int .u8 q2, .int .u8 q3, .int .u8 q4, .int .u8 q5, .slice A1 n1 c1] 73 → w1.cell? ⟨w.heap.size, 3, none⟩ = some (.int .i64 nanos) := fun w1 h => h.cell 3
  have S2 := Lib.hid s2
  have S11 := Lib.hid s11
  have S0 := Lib.hid s0
  have S1' := Lib.hid s1
  have S3' := Lib.hid s3
  clear s0 s1 s2 s3 s11 hg hb hc
  by_cases hbig : 1600 < n0
  · have hi : (1600 : Int) < (n0 : Int) := by omega
    clear hbig hn0 hn1
    go_enter Tryz.func9, Tryz.ntmps9
    go_wp2_with (go_at_call 26; refine (R26.out).mono ?_; rintro e w1 ⟨rfl, k1⟩; have K1 := Lib.hid (HK1.out.same k1); have d2 := S2.out w1 (HB1.out.keeps k1 (fun h => h)); clear k1)
    go_ret
    exact ⟨rfl, K1.out⟩
  · by_cases hbig2 : 250 < n1
    · have hi : ¬ (1600 : Int) < (n0 : Int) := by omega
      have hi2 : (250 : Int) < (n1 : Int) := by omega
      clear hbig hbig2 hn0 hn1
      go_enter Tryz.func9, Tryz.ntmps9
      go_wp2_with (go_at_call 26; refine (R26.out).mono ?_; rintro e w1 ⟨rfl, k1⟩; have K1 := Lib.hid (HK1.out.same k1); have d2 := S2.out w1 (HB1.out.keeps k1 (fun h => h)); have d11 := S11.out w1 (HB1.out.keeps k1 (fun h => h)); clear k1)
      go_ret
      exact ⟨rfl, K1.out⟩
    · have hi : ¬ (1600 : Int) < (n0 : Int) := by omega
      have hi2 : ¬ (250 : Int) < (n1 : Int) := by omega
      have hlg := line_good ⟨kind, port, bytes, nanos, ⟨ck, [q0, q1, q2, q3, q4, q5], args⟩⟩
      have HCK : Hid (∀ w', Gl w' → Calls Tryz.prog 14 #[.agg #[.int .i64 ck, .int .u8 q0, .int .u8 q1, .int .u8 q2, .int .u8 q3, .int .u8 q4, .int .u8 q5, .slice A1 n1 c1]] w' fun ev w2 => ∃ v, ev = .returned v ∧ WrErr w2 v (checkP ⟨ck, [q0, q1, q2, q3, q4, q5], args⟩) ∧ Keeps Nothing w' w2) := Lib.hid (fun w' h => by
        have := check_ok ⟨ck, [q0, q1, q2, q3, q4, q5], args⟩ ha.mac hk (by show args.length ≤ _; omega) A1 c1 (w := w') h.big
        subst hn1
        exact this)
      have HLG := Lib.hid hlg
      cases hl : lineP ⟨kind, port, bytes, nanos, ⟨ck, [q0, q1, q2, q3, q4, q5], args⟩⟩ with
      | ok l =>
        have hgood := hlg.1 ⟨l, hl⟩
        obtain ⟨-, hne, h10⟩ := line_act ha hl
        have HCN := Lib.hid (contains_no h10)
        have HLI : Hid (∀ w', Gl w' → Keeps Nothing w w' → Calls Tryz.prog 30 #[.agg #[.int .i64 kind, .int .i64 port, .slice A0 n0 c0, .int .i64 nanos, .int .i64 ck, .int .u8 q0, .int .u8 q1, .int .u8 q2, .int .u8 q3, .int .u8 q4, .int .u8 q5, .slice A1 n1 c1]] w' fun ev w2 => ev = .returned (.tuple #[strV l, .nilIface]) ∧ Keeps Nothing w' w2) := Lib.hid (fun w' h1 h2 => line_yes ha hk (by show bytes.length ≤ _; omega) (by show args.length ≤ _; omega) hl h1 (HB.out.same h2) (HC.out.same h2))
        obtain ⟨x, l', rfl⟩ : ∃ x l', l = x :: l' := by cases l with | nil => exact absurd rfl hne | cons x l' => exact ⟨x, l', rfl⟩
        have hne2 : ¬ ((⟨(x :: l').toArray⟩ : ByteArray) = ⟨#[]⟩) := fun e => by have := strV_inj (b := []) e; cases this
        clear hbig hbig2 hn0 hn1 hlg hl hne h10 ha hk HLG
        rcases hgood with ⟨hkk, hp0, hp8⟩ | ⟨hkk, hnn⟩ | ⟨hkk, hcc⟩
        · have hp0' : (0 : Int) ≤ port := hp0
          have hp8' : port < 8 := hp8
          have hkk' : kind = 0 ∨ kind = 1 ∨ kind = 2 := hkk
          clear hp0 hp8 hkk HCK
          rcases hkk' with rfl | rfl | rfl
          · go_enter Tryz.func9, Tryz.ntmps9
            go_wp2_with (first | (go_at_call 26; refine (R26.out).mono ?_; rintro e w1 ⟨rfl, k1⟩; have K1 := Lib.hid (HK1.out.same k1); have HB2 := Lib.hid (HB1.out.keeps k1 (fun h => h)); have d2w1 := S2.out w1 HB2.out; have d11w1 := S11.out w1 HB2.out; have d0w1 := S0.out w1 HB2.out; have d1w1 := S1'.out w1 HB2.out; clear k1) | (refine wpList_getM rfl 73 (.tmp 1) rfl w.heap.size 0 rfl _ _ 73 HB2.out (whole_row _) _ Tryz.underlying73 rfl size73 ?_) | (go_at_call 30; refine (HLI.out _ (HG.out.same K1.out) K1.out).mono ?_; rintro e w2 ⟨rfl, k2⟩; have K2 := Lib.hid (K1.out.same k2); have HB3 := Lib.hid (HB2.out.keeps k2 (fun h => h)); have d2w2 := S2.out w2 HB3.out; have d11w2 := S11.out w2 HB3.out; have d0w2 := S0.out w2 HB3.out; have d1w2 := S1'.out w2 HB3.out; clear k2) | (go_at_call 31; refine (HCN.out _).mono ?_; rintro e w' ⟨rfl, rfl⟩))
            go_ret
            exact ⟨rfl, K2.out⟩
          · go_enter Tryz.func9, Tryz.ntmps9
            go_wp2_with (first | (go_at_call 26; refine (R26.out).mono ?_; rintro e w1 ⟨rfl, k1⟩; have K1 := Lib.hid (HK1.out.same k1); have HB2 := Lib.hid (HB1.out.keeps k1 (fun h => h)); have d2w1 := S2.out w1 HB2.out; have d11w1 := S11.out w1 HB2.out; have d0w1 := S0.out w1 HB2.out; have d1w1 := S1'.out w1 HB2.out; clear k1) | (refine wpList_getM rfl 73 (.tmp 1) rfl w.heap.size 0 rfl _ _ 73 HB2.out (whole_row _) _ Tryz.underlying73 rfl size73 ?_) | (go_at_call 30; refine (HLI.out _ (HG.out.same K1.out) K1.out).mono ?_; rintro e w2 ⟨rfl, k2⟩; have K2 := Lib.hid (K1.out.same k2); have HB3 := Lib.hid (HB2.out.keeps k2 (fun h => h)); have d2w2 := S2.out w2 HB3.out; have d11w2 := S11.out w2 HB3.out; have d0w2 := S0.out w2 HB3.out; have d1w2 := S1'.out w2 HB3.out; clear k2) | (go_at_call 31; refine (HCN.out _).mono ?_; rintro e w' ⟨rfl, rfl⟩))
            go_ret
            exact ⟨rfl, K2.out⟩
          · go_enter Tryz.func9, Tryz.ntmps9
            go_wp2_with (first | (go_at_call 26; refine (R26.out).mono ?_; rintro e w1 ⟨rfl, k1⟩; have K1 := Lib.hid (HK1.out.same k1); have HB2 := Lib.hid (HB1.out.keeps k1 (fun h => h)); have d2w1 := S2.out w1 HB2.out; have d11w1 := S11.out w1 HB2.out; have d0w1 := S0.out w1 HB2.out; have d1w1 := S1'.out w1 HB2.out; clear k1) | (refine wpList_getM rfl 73 (.tmp 1) rfl w.heap.size 0 rfl _ _ 73 HB2.out (whole_row _) _ Tryz.underlying73 rfl size73 ?_) | (go_at_call 30; refine (HLI.out _ (HG.out.same K1.out) K1.out).mono ?_; rintro e w2 ⟨rfl, k2⟩; have K2 := Lib.hid (K1.out.same k2); have HB3 := Lib.hid (HB2.out.keeps k2 (fun h => h)); have d2w2 := S2.out w2 HB3.out; have d11w2 := S11.out w2 HB3.out; have d0w2 := S0.out w2 HB3.out; have d1w2 := S1'.out w2 HB3.out; clear k2) | (go_at_call 31; refine (HCN.out _).mono ?_; rintro e w' ⟨rfl, rfl⟩))
            go_ret
            exact ⟨rfl, K2.out⟩
        · have hnn' : (0 : Int) ≤ nanos := hnn
          have hkk' : kind = 3 := hkk
          clear hnn hkk HCK
          subst hkk'
          go_enter Tryz.func9, Tryz.ntmps9
          go_wp2_with (first | (go_at_call 26; refine (R26.out).mono ?_; rintro e w1 ⟨rfl, k1⟩; have K1 := Lib.hid (HK1.out.same k1); have HB2 := Lib.hid (HB1.out.keeps k1 (fun h => h)); have d2w1 := S2.out w1 HB2.out; have d11w1 := S11.out w1 HB2.out; have d0w1 := S0.out w1 HB2.out; have d3w1 := S3'.out w1 HB2.out; clear k1) | (refine wpList_getM rfl 73 (.tmp 1) rfl w.heap.size 0 rfl _ _ 73 HB2.out (whole_row _) _ Tryz.underlying73 rfl size73 ?_) | (go_at_call 30; refine (HLI.out _ (HG.out.same K1.out) K1.out).mono ?_; rintro e w2 ⟨rfl, k2⟩; have K2 := Lib.hid (K1.out.same k2); have HB3 := Lib.hid (HB2.out.keeps k2 (fun h => h)); have d2w2 := S2.out w2 HB3.out; have d11w2 := S11.out w2 HB3.out; have d0w2 := S0.out w2 HB3.out; have d3w2 := S3'.out w2 HB3.out; clear k2) | (go_at_call 31; refine (HCN.out _).mono ?_; rintro e w' ⟨rfl, rfl⟩))
          go_ret
          exact ⟨rfl, K2.out⟩
        · have hkk' : kind = 4 := hkk
          have hcc' : checkP ⟨ck, [q0, q1, q2, q3, q4, q5], args⟩ = none := hcc
          rw [hcc'] at HCK
          clear hcc hkk hcc'
          subst hkk'
          go_enter Tryz.func9, Tryz.ntmps9
          go_wp2_with (first | (go_at_call 26; refine (R26.out).mono ?_; rintro e w1 ⟨rfl, k1⟩; have K1 := Lib.hid (HK1.out.same k1); have HB2 := Lib.hid (HB1.out.keeps k1 (fun h => h)); have d2w1 := S2.out w1 HB2.out; have d11w1 := S11.out w1 HB2.out; have d0w1 := S0.out w1 HB2.out; clear k1) | (refine wpList_getM rfl 73 (.tmp 1) rfl w.heap.size 0 rfl _ _ 73 HB2.out (whole_row _) _ Tryz.underlying73 rfl size73 ?_) | (go_at_call 30; refine (HLI.out _ (HG.out.same K1.out) K1.out).mono ?_; rintro e w2 ⟨rfl, k2⟩; have K2 := Lib.hid (K1.out.same k2); have HB3 := Lib.hid (HB2.out.keeps k2 (fun h => h)); have d2w2 := S2.out w2 HB3.out; have d11w2 := S11.out w2 HB3.out; have d0w2 := S0.out w2 HB3.out; clear k2) | (refine wpList_getM rfl 26 (.tmp 45) rfl w.heap.size 4 rfl [.int .i64 ck, .int .u8 q0, .int .u8 q1, .int .u8 q2, .int .u8 q3, .int .u8 q4, .int .u8 q5, .slice A1 n1 c1] _ 73 HB3.out rfl _ Tryz.underlying26 rfl size26 ?_) | (go_at_call 14; refine (HCK.out _ (HG.out.same K2.out)).mono ?_; rintro e w3 ⟨v, rfl, hv, k3⟩; obtain rfl : v = .nilIface := hv; have K3 := Lib.hid (K2.out.same k3); clear k3) | (go_at_call 31; refine (HCN.out _).mono ?_; rintro e w' ⟨rfl, rfl⟩))
          go_ret
          exact ⟨rfl, K3.out⟩
      | error e =>
        have hbad : ¬ _ := fun h => by
          obtain ⟨l, hl2⟩ := hlg.2 h
          rw [hl] at hl2
          cases hl2
        have hcode := line_no hl
        have HLI : Hid (∀ w', Gl w' → Keeps Nothing w w' → Calls Tryz.prog 30 #[.agg #[.int .i64 kind, .int .i64 port, .slice A0 n0 c0, .int .i64 nanos, .int .i64 ck, .int .u8 q0, .int .u8 q1, .int .u8 q2, .int .u8 q3, .int .u8 q4, .int .u8 q5, .slice A1 n1 c1]] w' fun ev w' => (∃ tE pE, ev = .returned (.tuple #[strV [], .iface tE pE]) ∧ ∃ ls er, valOf ls er = .iface tE pE ∧ ChainAt w' ls er ∧ codeOf er = e.2) ∧ True) := Lib.hid (fun w' h1 h2 => (line_none ha hk (by show bytes.length ≤ _; omega) (by show args.length ≤ _; omega) hl h1 (HB.out.same h2) (HC.out.same h2)).mono (fun ev w2 h => ⟨h.1, trivial⟩))
        have HLJ : Hid (∀ w', Gl w' → Keeps Nothing w w' → Calls Tryz.prog 30 #[.agg #[.int .i64 kind, .int .i64 port, .slice A0 n0 c0, .int .i64 nanos, .int .i64 ck, .int .u8 q0, .int .u8 q1, .int .u8 q2, .int .u8 q3, .int .u8 q4, .int .u8 q5, .slice A1 n1 c1]] w' fun ev w2 => (∃ tE pE, ev = .returned (.tuple #[strV [], .iface tE pE]) ∧ Hid (∃ ls er, valOf ls er = .iface tE pE ∧ ChainAt w2 ls er ∧ codeOf er = e.2)) ∧ Keeps Nothing w' w2) := Lib.hid (fun w' h1 h2 => (line_none ha hk (by show bytes.length ≤ _; omega) (by show args.length ≤ _; omega) hl h1 (HB.out.same h2) (HC.out.same h2)).mono (fun ev w2 h => by
          obtain ⟨⟨tE, pE, he, hx⟩, hk2⟩ := h
          exact ⟨⟨tE, pE, he, Lib.hid hx⟩, hk2⟩))
        obtain ⟨en, ek⟩ := e
        have hek : (ek != 0) = true := by simpa using hcode
        have hek2 : ¬ ek = 0 := hcode
        have HBAD : Hid (¬ (((kind = 0 ∨ kind = 1 ∨ kind = 2) ∧ 0 ≤ port ∧ port < 8) ∨ (kind = 3 ∧ 0 ≤ nanos) ∨ (kind = 4 ∧ checkP ⟨ck, [q0, q1, q2, q3, q4, q5], args⟩ = none))) := Lib.hid hbad
        clear hbig hbig2 hn0 hn1 hlg hl ha hk HLG hcode hbad HLI
        by_cases k0 : kind = 0 ∨ kind = 1 ∨ kind = 2
        · by_cases hp0 : (0 : Int) ≤ port
          · have hp8 : ¬ port < 8 := fun h => HBAD.out (.inl ⟨k0, hp0, h⟩)
            have hdp : decide (port < 8) = false := decide_eq_false hp8
            clear HCK
            rcases k0 with rfl | rfl | rfl
            · go_enter Tryz.func9, Tryz.ntmps9
              go_wp2_with (first | (go_at_call 26; refine (R26.out).mono ?_; rintro e w1 ⟨rfl, k1⟩; have K1 := Lib.hid (HK1.out.same k1); have HB2 := Lib.hid (HB1.out.keeps k1 (fun h => h)); have d2w1 := S2.out w1 HB2.out; have d11w1 := S11.out w1 HB2.out; have d0w1 := S0.out w1 HB2.out; have d1w1 := S1'.out w1 HB2.out; clear k1) | (refine wpList_getM rfl 73 (.tmp 1) rfl w.heap.size 0 rfl _ _ 73 HB2.out (whole_row _) _ Tryz.underlying73 rfl size73 ?_) | (go_at_call 30; refine (HLJ.out _ (HG.out.same K1.out) K1.out).mono ?_; rintro e w2 ⟨⟨tE, pE, rfl, hch⟩, k2⟩; have K2 := Lib.hid (K1.out.same k2); have HB3 := Lib.hid (HB2.out.keeps k2 (fun h => h)); have d2w2 := S2.out w2 HB3.out; have d11w2 := S11.out w2 HB3.out; have d0w2 := S0.out w2 HB3.out; have d1w2 := S1'.out w2 HB3.out; clear k2) | (go_at_call 15; obtain ⟨ls, er, hev, hca, hcd⟩ := hch.out; have hcc := code_ok (HG.out.same K2.out) hca; rw [hev, hcd] at hcc; refine hcc.mono ?_; rintro e w4 ⟨rfl, k4⟩; have K4 := Lib.hid (K2.out.same k4); clear k4 hev hca hcd hcc))
              all_goals go_ret
              all_goals exact ⟨by first | rfl | (simp [hek2]; done) | (rw [hek]; rfl), K4.out⟩
            · go_enter Tryz.func9, Tryz.ntmps9
              go_wp2_with (first | (go_at_call 26; refine (R26.out).mono ?_; rintro e w1 ⟨rfl, k1⟩; have K1 := Lib.hid (HK1.out.same k1); have HB2 := Lib.hid (HB1.out.keeps k1 (fun h => h)); have d2w1 := S2.out w1 HB2.out; have d11w1 := S11.out w1 HB2.out; have d0w1 := S0.out w1 HB2.out; have d1w1 := S1'.out w1 HB2.out; clear k1) | (refine wpList_getM rfl 73 (.tmp 1) rfl w.heap.size 0 rfl _ _ 73 HB2.out (whole_row _) _ Tryz.underlying73 rfl size73 ?_) | (go_at_call 30; refine (HLJ.out _ (HG.out.same K1.out) K1.out).mono ?_; rintro e w2 ⟨⟨tE, pE, rfl, hch⟩, k2⟩; have K2 := Lib.hid (K1.out.same k2); have HB3 := Lib.hid (HB2.out.keeps k2 (fun h => h)); have d2w2 := S2.out w2 HB3.out; have d11w2 := S11.out w2 HB3.out; have d0w2 := S0.out w2 HB3.out; have d1w2 := S1'.out w2 HB3.out; clear k2) | (go_at_call 15; obtain ⟨ls, er, hev, hca, hcd⟩ := hch.out; have hcc := code_ok (HG.out.same K2.out) hca; rw [hev, hcd] at hcc; refine hcc.mono ?_; rintro e w4 ⟨rfl, k4⟩; have K4 := Lib.hid (K2.out.same k4); clear k4 hev hca hcd hcc))
              all_goals go_ret
              all_goals exact ⟨by first | rfl | (simp [hek2]; done) | (rw [hek]; rfl), K4.out⟩
            · go_enter Tryz.func9, Tryz.ntmps9
              go_wp2_with (first | (go_at_call 26; refine (R26.out).mono ?_; rintro e w1 ⟨rfl, k1⟩; have K1 := Lib.hid (HK1.out.same k1); have HB2 := Lib.hid (HB1.out.keeps k1 (fun h => h)); have d2w1 := S2.out w1 HB2.out; have d11w1 := S11.out w1 HB2.out; have d0w1 := S0.out w1 HB2.out; have d1w1 := S1'.out w1 HB2.out; clear k1) | (refine wpList_getM rfl 73 (.tmp 1) rfl w.heap.size 0 rfl _ _ 73 HB2.out (whole_row _) _ Tryz.underlying73 rfl size73 ?_) | (go_at_call 30; refine (HLJ.out _ (HG.out.same K1.out) K1.out).mono ?_; rintro e w2 ⟨⟨tE, pE, rfl, hch⟩, k2⟩; have K2 := Lib.hid (K1.out.same k2); have HB3 := Lib.hid (HB2.out.keeps k2 (fun h => h)); have d2w2 := S2.out w2 HB3.out; have d11w2 := S11.out w2 HB3.out; have d0w2 := S0.out w2 HB3.out; have d1w2 := S1'.out w2 HB3.out; clear k2) | (go_at_call 15; obtain ⟨ls, er, hev, hca, hcd⟩ := hch.out; have hcc := code_ok (HG.out.same K2.out) hca; rw [hev, hcd] at hcc; refine hcc.mono ?_; rintro e w4 ⟨rfl, k4⟩; have K4 := Lib.hid (K2.out.same k4); clear k4 hev hca hcd hcc))
              all_goals go_ret
              all_goals exact ⟨by first | rfl | (simp [hek2]; done) | (rw [hek]; rfl), K4.out⟩
          · clear HCK
            rcases k0 with rfl | rfl | rfl
            · go_enter Tryz.func9, Tryz.ntmps9
              go_wp2_with (first | (go_at_call 26; refine (R26.out).mono ?_; rintro e w1 ⟨rfl, k1⟩; have K1 := Lib.hid (HK1.out.same k1); have HB2 := Lib.hid (HB1.out.keeps k1 (fun h => h)); have d2w1 := S2.out w1 HB2.out; have d11w1 := S11.out w1 HB2.out; have d0w1 := S0.out w1 HB2.out; have d1w1 := S1'.out w1 HB2.out; clear k1) | (refine wpList_getM rfl 73 (.tmp 1) rfl w.heap.size 0 rfl _ _ 73 HB2.out (whole_row _) _ Tryz.underlying73 rfl size73 ?_) | (go_at_call 30; refine (HLJ.out _ (HG.out.same K1.out) K1.out).mono ?_; rintro e w2 ⟨⟨tE, pE, rfl, hch⟩, k2⟩; have K2 := Lib.hid (K1.out.same k2); have HB3 := Lib.hid (HB2.out.keeps k2 (fun h => h)); have d2w2 := S2.out w2 HB3.out; have d11w2 := S11.out w2 HB3.out; have d0w2 := S0.out w2 HB3.out; have d1w2 := S1'.out w2 HB3.out; clear k2) | (go_at_call 15; obtain ⟨ls, er, hev, hca, hcd⟩ := hch.out; have hcc := code_ok (HG.out.same K2.out) hca; rw [hev, hcd] at hcc; refine hcc.mono ?_; rintro e w4 ⟨rfl, k4⟩; have K4 := Lib.hid (K2.out.same k4); clear k4 hev hca hcd hcc))
              all_goals go_ret
              all_goals exact ⟨by first | rfl | (simp [hek2]; done) | (rw [hek]; rfl), K4.out⟩
            · go_enter Tryz.func9, Tryz.ntmps9
              go_wp2_with (first | (go_at_call 26; refine (R26.out).mono ?_; rintro e w1 ⟨rfl, k1⟩; have K1 := Lib.hid (HK1.out.same k1); have HB2 := Lib.hid (HB1.out.keeps k1 (fun h => h)); have d2w1 := S2.out w1 HB2.out; have d11w1 := S11.out w1 HB2.out; have d0w1 := S0.out w1 HB2.out; have d1w1 := S1'.out w1 HB2.out; clear k1) | (refine wpList_getM rfl 73 (.tmp 1) rfl w.heap.size 0 rfl _ _ 73 HB2.out (whole_row _) _ Tryz.underlying73 rfl size73 ?_) | (go_at_call 30; refine (HLJ.out _ (HG.out.same K1.out) K1.out).mono ?_; rintro e w2 ⟨⟨tE, pE, rfl, hch⟩, k2⟩; have K2 := Lib.hid (K1.out.same k2); have HB3 := Lib.hid (HB2.out.keeps k2 (fun h => h)); have d2w2 := S2.out w2 HB3.out; have d11w2 := S11.out w2 HB3.out; have d0w2 := S0.out w2 HB3.out; have d1w2 := S1'.out w2 HB3.out; clear k2) | (go_at_call 15; obtain ⟨ls, er, hev, hca, hcd⟩ := hch.out; have hcc := code_ok (HG.out.same K2.out) hca; rw [hev, hcd] at hcc; refine hcc.mono ?_; rintro e w4 ⟨rfl, k4⟩; have K4 := Lib.hid (K2.out.same k4); clear k4 hev hca hcd hcc))
              all_goals go_ret
              all_goals exact ⟨by first | rfl | (simp [hek2]; done) | (rw [hek]; rfl), K4.out⟩
            · go_enter Tryz.func9, Tryz.ntmps9
              go_wp2_with (first | (go_at_call 26; refine (R26.out).mono ?_; rintro e w1 ⟨rfl, k1⟩; have K1 := Lib.hid (HK1.out.same k1); have HB2 := Lib.hid (HB1.out.keeps k1 (fun h => h)); have d2w1 := S2.out w1 HB2.out; have d11w1 := S11.out w1 HB2.out; have d0w1 := S0.out w1 HB2.out; have d1w1 := S1'.out w1 HB2.out; clear k1) | (refine wpList_getM rfl 73 (.tmp 1) rfl w.heap.size 0 rfl _ _ 73 HB2.out (whole_row _) _ Tryz.underlying73 rfl size73 ?_) | (go_at_call 30; refine (HLJ.out _ (HG.out.same K1.out) K1.out).mono ?_; rintro e w2 ⟨⟨tE, pE, rfl, hch⟩, k2⟩; have K2 := Lib.hid (K1.out.same k2); have HB3 := Lib.hid (HB2.out.keeps k2 (fun h => h)); have d2w2 := S2.out w2 HB3.out; have d11w2 := S11.out w2 HB3.out; have d0w2 := S0.out w2 HB3.out; have d1w2 := S1'.out w2 HB3.out; clear k2) | (go_at_call 15; obtain ⟨ls, er, hev, hca, hcd⟩ := hch.out; have hcc := code_ok (HG.out.same K2.out) hca; rw [hev, hcd] at hcc; refine hcc.mono ?_; rintro e w4 ⟨rfl, k4⟩; have K4 := Lib.hid (K2.out.same k4); clear k4 hev hca hcd hcc))
              all_goals go_ret
              all_goals exact ⟨by first | rfl | (simp [hek2]; done) | (rw [hek]; rfl), K4.out⟩
        · by_cases k3 : kind = 3
          · subst k3
            have hnn : ¬ (0 : Int) ≤ nanos := fun h => HBAD.out (.inr (.inl ⟨rfl, h⟩))
            have hdn : decide (0 ≤ nanos) = false := decide_eq_false hnn
            clear HCK k0
            go_enter Tryz.func9, Tryz.ntmps9
            go_wp2_with (first | (go_at_call 26; refine (R26.out).mono ?_; rintro e w1 ⟨rfl, k1⟩; have K1 := Lib.hid (HK1.out.same k1); have HB2 := Lib.hid (HB1.out.keeps k1 (fun h => h)); have d2w1 := S2.out w1 HB2.out; have d11w1 := S11.out w1 HB2.out; have d0w1 := S0.out w1 HB2.out; have d3w1 := S3'.out w1 HB2.out; clear k1) | (refine wpList_getM rfl 73 (.tmp 1) rfl w.heap.size 0 rfl _ _ 73 HB2.out (whole_row _) _ Tryz.underlying73 rfl size73 ?_) | (go_at_call 30; refine (HLJ.out _ (HG.out.same K1.out) K1.out).mono ?_; rintro e w2 ⟨⟨tE, pE, rfl, hch⟩, k2⟩; have K2 := Lib.hid (K1.out.same k2); have HB3 := Lib.hid (HB2.out.keeps k2 (fun h => h)); have d2w2 := S2.out w2 HB3.out; have d11w2 := S11.out w2 HB3.out; have d0w2 := S0.out w2 HB3.out; have d3w2 := S3'.out w2 HB3.out; clear k2) | (go_at_call 15; obtain ⟨ls, er, hev, hca, hcd⟩ := hch.out; have hcc := code_ok (HG.out.same K2.out) hca; rw [hev, hcd] at hcc; refine hcc.mono ?_; rintro e w4 ⟨rfl, k4⟩; have K4 := Lib.hid (K2.out.same k4); clear k4 hev hca hcd hcc))
            all_goals go_ret
            all_goals exact ⟨by first | rfl | (simp [hek2]; done) | (rw [hek]; rfl), K4.out⟩
          · by_cases k4 : kind = 4
            · subst k4
              cases hck : checkP ⟨ck, [q0, q1, q2, q3, q4, q5], args⟩ with
              | none => exact absurd (.inr (.inr ⟨rfl, hck⟩)) HBAD.out
              | some nk =>
                obtain ⟨cn, ckk⟩ := nk
                rw [hck] at HCK
                clear hck k0 k3
                go_enter Tryz.func9, Tryz.ntmps9
                go_wp2_with (first | (go_at_call 26; refine (R26.out).mono ?_; rintro e w1 ⟨rfl, k1⟩; have K1 := Lib.hid (HK1.out.same k1); have HB2 := Lib.hid (HB1.out.keeps k1 (fun h => h)); have d2w1 := S2.out w1 HB2.out; have d11w1 := S11.out w1 HB2.out; have d0w1 := S0.out w1 HB2.out; clear k1) | (refine wpList_getM rfl 73 (.tmp 1) rfl w.heap.size 0 rfl _ _ 73 HB2.out (whole_row _) _ Tryz.underlying73 rfl size73 ?_) | (go_at_call 30; refine (HLJ.out _ (HG.out.same K1.out) K1.out).mono ?_; rintro e w2 ⟨⟨tE, pE, rfl, hch⟩, k2⟩; have K2 := Lib.hid (K1.out.same k2); have HB3 := Lib.hid (HB2.out.keeps k2 (fun h => h)); have d2w2 := S2.out w2 HB3.out; have d11w2 := S11.out w2 HB3.out; have d0w2 := S0.out w2 HB3.out; clear k2) | (refine wpList_getM rfl 26 (.tmp 45) rfl w.heap.size 4 rfl [.int .i64 ck, .int .u8 q0, .int .u8 q1, .int .u8 q2, .int .u8 q3, .int .u8 q4, .int .u8 q5, .slice A1 n1 c1] _ 73 HB3.out rfl _ Tryz.underlying26 rfl size26 ?_) | (go_at_call 14; refine (HCK.out _ (HG.out.same K2.out)).mono ?_; rintro e w3 ⟨v, rfl, hv, k3⟩; obtain ⟨bx, hbx, rfl, hbB⟩ := hv; have K3 := Lib.hid (K2.out.same k3); have KC := Lib.hid k3; clear k3 hbx hbB) | (go_at_call 15; obtain ⟨ls, er, hev, hca, hcd⟩ := hch.out; have hcc := code_ok (HG.out.same K3.out) (ChainAt.same KC.out hca); rw [hev, hcd] at hcc; refine hcc.mono ?_; rintro e w4 ⟨rfl, k4⟩; have K4 := Lib.hid (K3.out.same k4); clear k4 hev hca hcd hcc))
                all_goals go_ret
                all_goals exact ⟨by first | rfl | (simp [hek2]; done) | (rw [hek]; rfl), K4.out⟩
            · have k1 : ¬ kind = 0 := fun e => k0 (.inl e)
              have k2 : ¬ kind = 1 := fun e => k0 (.inr (.inl e))
              have k5 : ¬ kind = 2 := fun e => k0 (.inr (.inr e))
              clear HCK k0
              go_enter Tryz.func9, Tryz.ntmps9
              go_wp2_with (first | (go_at_call 26; refine (R26.out).mono ?_; rintro e w1 ⟨rfl, k1⟩; have K1 := Lib.hid (HK1.out.same k1); have HB2 := Lib.hid (HB1.out.keeps k1 (fun h => h)); have d2w1 := S2.out w1 HB2.out; have d11w1 := S11.out w1 HB2.out; have d0w1 := S0.out w1 HB2.out; clear k1) | (refine wpList_getM rfl 73 (.tmp 1) rfl w.heap.size 0 rfl _ _ 73 HB2.out (whole_row _) _ Tryz.underlying73 rfl size73 ?_) | (go_at_call 30; refine (HLJ.out _ (HG.out.same K1.out) K1.out).mono ?_; rintro e w2 ⟨⟨tE, pE, rfl, hch⟩, k2⟩; have K2 := Lib.hid (K1.out.same k2); have HB3 := Lib.hid (HB2.out.keeps k2 (fun h => h)); have d2w2 := S2.out w2 HB3.out; have d11w2 := S11.out w2 HB3.out; have d0w2 := S0.out w2 HB3.out; clear k2) | (go_at_call 15; obtain ⟨ls, er, hev, hca, hcd⟩ := hch.out; have hcc := code_ok (HG.out.same K2.out) hca; rw [hev, hcd] at hcc; refine hcc.mono ?_; rintro e w4 ⟨rfl, k4⟩; have K4 := Lib.hid (K2.out.same k4); clear k4 hev hca hcd hcc))
              all_goals go_ret
              all_goals exact ⟨by first | rfl | (simp [hek2]; done) | (rw [hek]; rfl), K4.out⟩
end Go.Proofs.YtdncojofilnhnaaGreatDoor
