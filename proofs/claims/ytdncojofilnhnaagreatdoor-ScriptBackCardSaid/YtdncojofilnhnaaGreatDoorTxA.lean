/- Scripts as text: plain parts of the walk. -/
import Derived.Test.YtdncojofilnhnaaGreatDoorScA
import Derived.Test.YtdncojofilnhnaaGreatDoorFlt
import Derived.Test.YtdncojofilnhnaaGreatDoorBackW
namespace Go.Proofs.YtdncojofilnhnaaGreatDoor
open Go.RowKit Go.Lib

/-- What Text comes to. -/
def STextIs (w' : World) (c : Cf) (acs : List Ac) (ev : Ending) : Prop := match textS c acs with
  | .ok t => ev = .returned (.tuple #[strV t, .nilIface])
  | .error (none, e) => ∃ v, ErrE w' v e ∧ ev = .returned (.tuple #[strV [], v])
  | .error (some n, e) => ∃ b v, ev = .returned (.tuple #[strV [], .iface 76 (.pointer (some ⟨b, 0, none⟩))]) ∧ 10 ≤ b ∧ Blk w' b [.int .i64 n, v] 79 ∧ ErrE w' v e

/-- What is known of an act that is written. -/
def ActR (w : World) (a : Ac) (cs : List Value) : Prop :=
  (AcIs a ∧ a.bytes.length ≤ 4294967000 ∧ a.cmd.args.length ≤ 4294967001 ∧ (-9223372036854775808 ≤ a.cmd.kind ∧ a.cmd.kind ≤ 9223372036854775807)) ∧ ∃ bv cv, cs = actC a bv cv ∧ SlR w bv (bcells a.bytes) ∧ SlR w cv (icells a.cmd.args)

theorem ActAt.toR {w : World} {F : Nat → Prop} {N : Nat} {a : Ac} {cs : List Value} (h : ActAt w F N a cs) (hN : N ≤ 4294967000) : ActR w a cs := by
  obtain ⟨⟨h1, h2, h3, h4⟩, bv, cv, e, hb, hc⟩ := h
  exact ⟨⟨h1, by omega, by omega, h4⟩, bv, cv, e, hb.slR, hc.slR⟩

theorem line_len {a : Ac} (ha : AcIs a) {l : Str} (h : lineP a = .ok l) : l.length ≤ 5100 + 2 * a.bytes.length := by
  have hp := itoa_length_le a.port ha.port.1 ha.port.2
  have hn := itoa_length_le a.nanos ha.nanos.1 ha.nanos.2
  unfold lineP at h
  split at h
  · split at h
    · simp at h
    · rename_i hc
      have h200 : a.cmd.args.length ≤ 200 := by
        unfold checkP at hc
        split at hc
        · simp at hc
        · split at hc
          · simp at hc
          · split at hc
            · simp at hc
            · omega
      have := text_len a.cmd ha.mac ha.args h200
      injection h with h
      subst h
      omega
  · split at h
    · injection h with h; subst h; simp [sWait]; omega
    · split at h
      · simp at h
      · split at h
        · injection h with h; subst h; simp [sFrame, hexS_len]; omega
        · split at h
          · injection h with h; subst h; simp [sUp]; omega
          · split at h
            · injection h with h; subst h; simp [sDown]; omega
            · simp at h

theorem conf_len {c : Cf} (hm : MacIs c.mac) (h0 : -9223372036854775808 ≤ c.prio ∧ c.prio ≤ 9223372036854775807) (h1 : -9223372036854775808 ≤ c.places ∧ c.places ≤ 9223372036854775807) (h2 : -9223372036854775808 ≤ c.bounds.headD 0 ∧ c.bounds.headD 0 ≤ 9223372036854775807) (h3 : -9223372036854775808 ≤ c.start ∧ c.start ≤ 9223372036854775807)
    (hp : ∀ p ∈ c.ports, -9223372036854775808 ≤ p.speed ∧ p.speed ≤ 9223372036854775807) (h8 : c.ports.length ≤ 8) : (joinOn 32 (confW c)).length ≤ 400 := by
  have hj := joinOn_len 32 22 (confW c) (fun w hw => by
    unfold confW at hw
    rw [List.mem_append] at hw
    rcases hw with hw | hw
    · simp only [List.mem_cons, List.not_mem_nil, or_false] at hw
      rcases hw with rfl | rfl | rfl | rfl | rfl | rfl
      · simp [sBridge]
      · have := itoa_length_le _ h0.1 h0.2; omega
      · have := macText_len hm; omega
      · have := itoa_length_le _ h1.1 h1.2; omega
      · have := itoa_length_le _ h2.1 h2.2; omega
      · have := itoa_length_le _ h3.1 h3.2; omega
    · obtain ⟨p, hpm, rfl⟩ := List.mem_map.1 hw
      have := itoa_length_le _ (hp p hpm).1 (hp p hpm).2
      unfold portW
      rw [List.length_append]
      split <;> simp <;> omega)
  have : (confW c).length = 6 + c.ports.length := by simp [confW]; omega
  rw [this] at hj
  have : (6 + c.ports.length) * (22 + 1) ≤ 14 * 23 := Nat.mul_le_mul (by omega) (by omega)
  omega

/-- The lines so far. -/
def LnGo (acs : List Ac) (acc : List Str) (i : Nat) : Prop := linesP 0 acs = match linesP i (acs.drop i) with | .error e => .error e | .ok r => .ok (acc ++ r)

theorem lnGo_start (acs : List Ac) : LnGo acs [] 0 := by
  unfold LnGo
  rw [List.drop_zero]
  cases linesP 0 acs <;> simp

theorem lnGo_err {acs : List Ac} {acc : List Str} {i : Nat} {a : Ac} {e : ErrD} (h : LnGo acs acc i) (ha : acs[i]? = some a) (hl : lineP a = .error e) : linesP 0 acs = .error ((i : Int) + 2, e) := by
  obtain ⟨hlt, rfl⟩ := List.getElem?_eq_some_iff.1 ha
  unfold LnGo at h
  rw [h, List.drop_eq_getElem_cons hlt]
  unfold linesP
  rw [hl]

theorem lnGo_ok {acs : List Ac} {acc : List Str} {i : Nat} {a : Ac} {l : Str} (h : LnGo acs acc i) (ha : acs[i]? = some a) (hl : lineP a = .ok l) : LnGo acs (acc ++ [l]) (i + 1) := by
  obtain ⟨hlt, rfl⟩ := List.getElem?_eq_some_iff.1 ha
  unfold LnGo at *
  rw [h, List.drop_eq_getElem_cons hlt]
  conv => lhs; unfold linesP
  rw [hl]
  cases linesP (i + 1) (acs.drop (i + 1)) <;> simp

theorem lnGo_end {acs : List Ac} {acc : List Str} (h : LnGo acs acc acs.length) : linesP 0 acs = .ok acc := by
  unfold LnGo at h
  rw [h, List.drop_length]
  simp [linesP]

theorem text_bad {c : Cf} {acs : List Ac} (h : bridgeOk c = false) : textS c acs = .error (none, (none, 30)) := by unfold textS; rw [if_pos h]

theorem text_bounds {c : Cf} {acs : List Ac} (h : bridgeOk c = true) (hb : c.bounds.headD 0 < 0 ∨ c.bounds ≠ List.replicate 8 (c.bounds.headD 0) ∨ 1073741824 < c.bounds.headD 0) : textS c acs = .error (none, (none, 30)) := by
  unfold textS; rw [if_neg (by rw [h]; decide), if_pos hb]

theorem text_lines {c : Cf} {acs : List Ac} (h : bridgeOk c = true) (hb : ¬ (c.bounds.headD 0 < 0 ∨ c.bounds ≠ List.replicate 8 (c.bounds.headD 0) ∨ 1073741824 < c.bounds.headD 0)) :
    textS c acs = match linesP 0 acs with | .error (n, e) => .error (some n, e) | .ok ls => if 2000 < ls.length + 1 then .error (none, (none, 3)) else .ok (joinOn 10 (joinOn 32 (confW c) :: ls)) := by
  unfold textS; rw [if_neg (by rw [h]; decide), if_neg hb]
  cases linesP 0 acs with
  | error e => rfl
  | ok r => rfl
end Go.Proofs.YtdncojofilnhnaaGreatDoor
