/- Scripts as texts: the plain laws of whole scripts, no program. -/
import Derived.Test.YtdncojofilnhnaaGreatDoorScrLaw
namespace Go.Proofs.YtdncojofilnhnaaGreatDoor
open Go.Lib

/-! ## the first line -/
theorem itoa_last (n : Int) : (itoa n).getLast? ≠ some 101 := fun h => by
  have := itoa_bytes n 101 (List.mem_of_getLast? h)
  revert this; decide

theorem cutE_port (p : Pt) : cutE (portW p) = (itoa p.speed, p.edge) := by
  unfold cutE portW
  cases p.edge with
  | true => simp
  | false =>
    simp only [Bool.false_eq_true, if_false, List.append_nil]
    rw [if_neg (itoa_last _)]

theorem port_back (p : Pt) (h0 : 0 ≤ p.speed) (h1 : p.speed ≤ 1073741824) : portP (portW p) = some p := by
  unfold portP
  rw [cutE_port]
  simp only
  rw [num_itoa h0 (by omega)]
  simp only
  rw [if_neg (by omega)]

theorem ports_back : ∀ (ps : List Pt), (∀ p ∈ ps, 0 ≤ p.speed ∧ p.speed ≤ 1073741824) → portsP (ps.map portW) = some ps
  | [], _ => rfl
  | p :: ps, h => by
    have hp := h p List.mem_cons_self
    rw [List.map_cons, portsP, port_back p hp.1 hp.2, ports_back ps (fun q hq => h q (List.mem_cons_of_mem _ hq))]

theorem speed_le {n : Int} (h : speedOk n = true) : 0 ≤ n ∧ n ≤ 1073741824 := by
  unfold speedOk at h
  simp only [Bool.or_eq_true, decide_eq_true_eq] at h
  omega

theorem portW_free (p : Pt) (x : UInt8) (hx : x.toNat = 32 ∨ x.toNat = 10) : x ∉ portW p := by
  unfold portW
  intro h
  rcases List.mem_append.1 h with h | h
  · exact itoa_free p.speed x ⟨by omega, .inl (by omega)⟩ h
  · split at h
    · simp at h; subst h; revert hx; decide
    · simp at h

theorem confW_free (c : Cf) (hm : MacIs c.mac) (x : UInt8) (hx : x.toNat = 32 ∨ x.toNat = 10) : ∀ w ∈ confW c, x ∉ w := by
  intro w hw
  have hi : ∀ a : Int, x ∉ itoa a := fun a => itoa_free a x ⟨by omega, .inl (by omega)⟩
  unfold confW at hw
  rcases List.mem_append.1 hw with hw | hw
  · simp only [List.mem_cons, List.not_mem_nil, or_false] at hw
    rcases hw with rfl | rfl | rfl | rfl | rfl | rfl
    · rcases hx with hx | hx
      · rw [show x = 32 from UInt8.toNat_inj.1 (by rw [hx]; rfl)]; decide
      · rw [show x = 10 from UInt8.toNat_inj.1 (by rw [hx]; rfl)]; decide
    · exact hi _
    · exact macText_free hm x (by omega)
    · exact hi _
    · exact hi _
    · exact hi _
  · obtain ⟨p, -, rfl⟩ := List.mem_map.1 hw
    exact portW_free p x hx

theorem no_mac {m : List Int} (hm : MacIs m) : parseP addrP (sNo0 ++ macText m ++ s0) = .ok ⟨6, m, [0, 0]⟩ := by
  have h := text_parse' (c := ⟨6, m, [0, 0]⟩) hm (fun a ha => by simp at ha; subst ha; exact ⟨by decide, by decide⟩) (by simp [checkP, leastOf, moreOf, addrOf])
  have e : textP ⟨6, m, [0, 0]⟩ = sNo0 ++ macText m ++ s0 := by
    have e1 : wordsOf ⟨6, m, [0, 0]⟩ = [wordOf 6, itoa 0, macText m, itoa 0] := rfl
    have e2 : itoa 0 = [48] := by decide +kernel
    unfold textP
    rw [e1, e2]
    simp [joinOn, wordOf, sNo0, s0]
  rw [e] at h
  exact h

theorem config_back {c : Cf} (hb : bridgeOk c = true) (hm : MacIs c.mac) (h0 : 0 ≤ c.bounds.headD 0) (h1 : c.bounds.headD 0 ≤ 1073741824) (hs : c.bounds = List.replicate 8 (c.bounds.headD 0)) : configP (joinOn 32 (confW c)) = .ok c := by
  have hbb := hb
  unfold bridgeOk at hb
  simp only [Bool.and_eq_true, decide_eq_true_eq, List.all_eq_true] at hb
  obtain ⟨⟨⟨⟨⟨⟨⟨⟨⟨⟨p0, p8⟩, mg⟩, q0⟩, q1⟩, s0'⟩, s1⟩, r0⟩, r1⟩, r2⟩, hsp⟩ := hb
  have hsplit : splitOn 32 (joinOn 32 (confW c)) = confW c := splitOn_joinOn 32 _ (by unfold confW; simp) (confW_free c hm 32 (.inl (by decide)))
  have hlen : (confW c).length = 6 + c.ports.length := by unfold confW; simp; omega
  have hw : confW c = sBridge :: itoa c.prio :: macText c.mac :: itoa c.places :: itoa (c.bounds.headD 0) :: itoa c.start :: c.ports.map portW := rfl
  unfold configP
  simp only
  rw [hsplit, hlen, if_neg (by rw [hw]; simp; omega)]
  have e2 : (confW c).getD 2 [] = macText c.mac := rfl
  have e6 : (confW c).drop 6 = c.ports.map portW := rfl
  have hn : numsP (confW c) = some (c.prio, c.places, c.bounds.headD 0, c.start) := by
    unfold numsP
    have f1 : (confW c).getD 1 [] = itoa c.prio := rfl
    have f3 : (confW c).getD 3 [] = itoa c.places := rfl
    have f4 : (confW c).getD 4 [] = itoa (c.bounds.headD 0) := rfl
    have f5 : (confW c).getD 5 [] = itoa c.start := rfl
    rw [f1, f3, f4, f5, num_itoa r0 (by omega), num_itoa q0 (by omega), num_itoa h0 (by omega), num_itoa s0' (by omega)]
    simp only
    rw [if_neg (by omega), if_neg (by omega), if_neg (by omega)]
  rw [e2, no_mac hm, e6, hn]
  simp only
  rw [ports_back c.ports (fun p hp => speed_le (hsp p hp))]
  simp only
  rw [← hs]
  have : (⟨c.prio, c.mac, c.ports, c.places, c.bounds, c.start⟩ : Cf) = c := rfl
  rw [this, if_pos hbb]

/-! ## the acts' lines -/
theorem acts_back : ∀ (as : List Ac) (ls : List Str) (i j : Nat), (∀ a ∈ as, AcIs a) → linesP i as = .ok ls →
    (∃ as', actsP j ls = .ok as' ∧ as'.length = as.length ∧ ∀ (k : Nat) a a', as[k]? = some a → as'[k]? = some a' → a'.kind = a.kind ∧ ∃ l, lineP a = .ok l ∧ lineP a' = .ok l) ∧ ls.length = as.length ∧ ∀ l ∈ ls, (10 : UInt8) ∉ l
  | [], ls, i, j, _, h => by
    simp only [linesP] at h
    injection h with h
    subst h
    exact ⟨⟨[], rfl, rfl, fun k a a' h => by simp at h⟩, rfl, fun l hl => by simp at hl⟩
  | a :: as, ls, i, j, ha, h => by
    simp only [linesP] at h
    split at h
    · cases h
    · rename_i l hl
      split at h
      · cases h
      · rename_i r hr
        injection h with h
        subst h
        obtain ⟨⟨as', h1, h2, h3⟩, h4, h5⟩ := acts_back as r (i + 1) (j + 1) (fun x hx => ha x (List.mem_cons_of_mem _ hx)) hr
        obtain ⟨⟨a', b1, b2, b3, -⟩, b4, b5⟩ := line_act (ha a List.mem_cons_self) hl
        refine ⟨⟨a' :: as', ?_, by simp [h2], ?_⟩, by simp [h4], ?_⟩
        · simp only [actsP]
          rw [if_neg b4, b1]
          simp only
          rw [h1]
        · intro k x x' hx hx'
          cases k with
          | zero =>
            simp at hx hx'
            subst hx hx'
            exact ⟨b2, l, hl, b3⟩
          | succ k => exact h3 k x x' (by simpa using hx) (by simpa using hx')
        · intro x hx
          rcases List.mem_cons.1 hx with rfl | hx
          · exact b5
          · exact h5 x hx

theorem acts_lines : ∀ (ls : List Str) (i : Nat) (as : List Ac), actsP i ls = .ok as → as.map lineP = (ls.filter (fun l => decide (l ≠ []))).map .ok
  | [], i, as, h => by simp only [actsP] at h; injection h with h; subst h; rfl
  | l :: ls, i, as, h => by
    simp only [actsP] at h
    split at h
    · rename_i hl
      rw [acts_lines ls (i + 1) as h, hl]
      simp
    · rename_i hl
      split at h
      · cases h
      · rename_i a ha
        split at h
        · cases h
        · rename_i r hr
          injection h with h
          subst h
          rw [List.map_cons, act_line ha, acts_lines ls (i + 1) r hr]
          simp [hl]

theorem acts_bad : ∀ (ls : List Str) (i : Nat) (n : Int) (e : ErrD), actsP i ls = .error (n, e) → e.2 ≠ 0 ∧ (i : Int) + 1 ≤ n ∧ n ≤ i + ls.length
  | [], i, n, e, h => by simp only [actsP] at h; cases h
  | l :: ls, i, n, e, h => by
    simp only [actsP] at h
    split at h
    · have := acts_bad ls (i + 1) n e h
      simp only [List.length_cons]
      omega
    · split at h
      · rename_i e' he
        injection h with h
        injection h with h1 h2
        subst h1 h2
        exact ⟨act_no he, by omega, by simp only [List.length_cons]; omega⟩
      · split at h
        · rename_i e' he
          injection h with h
          subst h
          have := acts_bad ls (i + 1) n e he
          simp only [List.length_cons]
          omega
        · cases h

theorem config_no {l : Str} {e : ErrD} (h : configP l = .error e) : e.2 ≠ 0 := by
  unfold configP at h
  simp only at h
  repeat' split at h
  all_goals first
    | (injection h with h; subst h; simp only; first | decide | (rename_i hp; have := parse_no hp; omega))
    | cases h

theorem config_ok {l : Str} {c : Cf} (h : configP l = .ok c) : bridgeOk c = true := by
  unfold configP at h
  simp only at h
  repeat' split at h
  all_goals first
    | (injection h with h; subst h; assumption)
    | cases h

/-- WHAT IS WRONG with a script: a line, and a number. -/
theorem script_bad {t : Str} {n : Int} {e : ErrD} (h : scriptP t = .error (n, e)) : e.2 ≠ 0 ∧ 1 ≤ n ∧ n ≤ (splitOn 10 t).length + 1 := by
  unfold scriptP at h
  simp only at h
  have hpos : 0 < (splitOn 10 t).length := List.length_pos_iff.2 (splitOn_ne _ _)
  have htl : (splitOn 10 t).tail.length = (splitOn 10 t).length - 1 := List.length_tail
  split at h
  · injection h with h
    injection h with h1 h2
    subst h1 h2
    exact ⟨by decide, by decide, by omega⟩
  · split at h
    · rename_i e' he
      injection h with h
      injection h with h1 h2
      subst h1 h2
      exact ⟨config_no he, by decide, by omega⟩
    · split at h
      · rename_i e' he
        injection h with h
        subst h
        have := acts_bad _ _ _ _ he
        exact ⟨this.1, by omega, by omega⟩
      · cases h

/-- A script that is read: its switch may be, and its acts are its lines. -/
theorem script_lines {t : Str} {c : Cf} {as : List Ac} (h : scriptP t = .ok (c, as)) : bridgeOk c = true ∧ as.map lineP = ((splitOn 10 t).tail.filter (fun l => decide (l ≠ []))).map .ok := by
  unfold scriptP at h
  simp only at h
  split at h
  · cases h
  · split at h
    · cases h
    · rename_i c' hc
      split at h
      · cases h
      · rename_i as' ha
        injection h with h
        injection h with h1 h2
        subst h1 h2
        exact ⟨config_ok hc, acts_lines _ _ _ ha⟩

/-- THERE AND BACK. -/
theorem script_back {c : Cf} {as : List Ac} {t : Str} (hm : MacIs c.mac) (ha : ∀ a ∈ as, AcIs a) (h : textS c as = .ok t) :
    ∃ as', scriptP t = .ok (c, as') ∧ as'.length = as.length ∧ ∀ (k : Nat) a a', as[k]? = some a → as'[k]? = some a' → a'.kind = a.kind ∧ ∃ l, lineP a = .ok l ∧ lineP a' = .ok l := by
  unfold textS at h
  split at h
  · cases h
  · rename_i hb
    split at h
    · cases h
    · rename_i hbd
      split at h
      · cases h
      · rename_i ls hl
        split at h
        · cases h
        · rename_i hlen
          injection h with h
          subst h
          obtain ⟨⟨as', h1, h2, h3⟩, h4, h5⟩ := acts_back as ls 0 1 ha hl
          have hfree : ∀ w ∈ joinOn 32 (confW c) :: ls, (10 : UInt8) ∉ w := by
            intro w hw
            rcases List.mem_cons.1 hw with rfl | hw
            · exact joinOn_mem 32 10 (by decide) _ (confW_free c hm 10 (.inr (by decide)))
            · exact h5 w hw
          have hsplit := splitOn_joinOn 10 (joinOn 32 (confW c) :: ls) (by simp) hfree
          refine ⟨as', ?_, h2, h3⟩
          unfold scriptP
          simp only
          rw [hsplit, if_neg (by simp only [List.length_cons]; omega)]
          have hb0 : 0 ≤ c.bounds.headD 0 ∧ c.bounds.headD 0 ≤ 1073741824 ∧ c.bounds = List.replicate 8 (c.bounds.headD 0) := by
            refine ⟨by omega, by omega, ?_⟩
            apply Classical.byContradiction
            intro hne
            exact hbd (.inr (.inl hne))
          rw [List.headD_cons, config_back (by simpa using hb) hm hb0.1 hb0.2.1 hb0.2.2]
          simp only [List.tail_cons]
          rw [h1]

end Go.Proofs.YtdncojofilnhnaaGreatDoor
