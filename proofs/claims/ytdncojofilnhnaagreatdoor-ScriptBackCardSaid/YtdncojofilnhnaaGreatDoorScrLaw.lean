/- Scripts as texts: the plain laws, no program. -/
import Derived.Test.YtdncojofilnhnaaGreatDoorScrP
namespace Go.Proofs.YtdncojofilnhnaaGreatDoor
open Go.Lib

/-! ## numbers -/
theorem num_text {s : Str} {n : Int} (h : numP s = some n) : s = itoa n ∧ 0 ≤ n ∧ n ≤ 9223372036854775807 := by
  unfold numP at h
  split at h
  · rename_i k hk
    split at h
    · rename_i hc
      injection h with h
      subst h
      have hb := parseIntB_bounds hk
      have e : ((2 ^ (64 - 1) : Nat) : Int) = 9223372036854775808 := by decide
      rw [e] at hb
      exact ⟨hc.2.symm, hc.1, by omega⟩
    · cases h
  · cases h

theorem num_itoa {n : Int} (h0 : 0 ≤ n) (h1 : n ≤ 9223372036854775807) : numP (itoa n) = some n := by
  unfold numP
  rw [parse_itoa n (by omega) h1]
  simp [h0]

/-! ## bytes in digits -/
theorem hexDig_hexD : ∀ k : Fin 16, hexDig (hexD k.val) = some k.val := by decide +kernel

theorem hexD_hexDig : ∀ k : Fin 256, hexDig (UInt8.ofNat k.val) = none ∨ ∃ j : Fin 16, hexDig (UInt8.ofNat k.val) = some j.val ∧ hexD j.val = UInt8.ofNat k.val := by decide +kernel

theorem hexDig_some {c : UInt8} {x : Nat} (h : hexDig c = some x) : x < 16 ∧ hexD x = c := by
  have := hexD_hexDig ⟨c.toNat, c.toNat_lt⟩
  simp only [UInt8.ofNat_toNat] at this
  rcases this with h' | ⟨j, h1, h2⟩
  · rw [h'] at h; cases h
  · rw [h1] at h
    injection h with h
    subst h
    exact ⟨j.isLt, h2⟩

theorem unhex_hexS : ∀ b : Str, unhex (hexS b) = some b
  | [] => rfl
  | x :: r => by
    have h1 := hexDig_hexD ⟨x.toNat / 16, by have := x.toNat_lt; omega⟩
    have h2 := hexDig_hexD ⟨x.toNat % 16, by omega⟩
    simp only at h1 h2
    simp only [hexS, hexB, List.cons_append, List.nil_append, unhex, h1, h2, unhex_hexS r]
    congr 2
    have : x.toNat / 16 * 16 + x.toNat % 16 = x.toNat := by omega
    rw [this, UInt8.ofNat_toNat]

theorem hexS_unhex : ∀ (s b : Str), unhex s = some b → hexS b = s
  | [], b, h => by simp only [unhex] at h; injection h with h; subst h; rfl
  | [_], b, h => by simp only [unhex] at h; cases h
  | a :: c :: r, b, h => by
    simp only [unhex] at h
    split at h
    · cases h
    · rename_i x hx
      split at h
      · cases h
      · rename_i y hy
        split at h
        · cases h
        · rename_i t ht
          injection h with h
          subst h
          obtain ⟨x1, x2⟩ := hexDig_some hx
          obtain ⟨y1, y2⟩ := hexDig_some hy
          have e : (UInt8.ofNat (x * 16 + y)).toNat = x * 16 + y := by rw [UInt8.toNat_ofNat']; omega
          have e1 : (x * 16 + y) / 16 = x := by omega
          have e2 : (x * 16 + y) % 16 = y := by omega
          simp only [hexS, hexB, e, e1, e2, x2, y2, hexS_unhex r t ht]
          rfl

theorem hexS_len : ∀ b : Str, (hexS b).length = 2 * b.length
  | [] => rfl
  | x :: r => by simp only [hexS, hexB, List.length_append, List.length_cons, List.length_nil, hexS_len r]; omega

theorem hexS_byte : ∀ (b : Str), ∀ c ∈ hexS b, (48 ≤ c.toNat ∧ c.toNat ≤ 57) ∨ (97 ≤ c.toNat ∧ c.toNat ≤ 102)
  | [], c, h => by simp [hexS] at h
  | x :: r, c, h => by
    have hd : ∀ n, n < 16 → (48 ≤ (hexD n).toNat ∧ (hexD n).toNat ≤ 57) ∨ (97 ≤ (hexD n).toNat ∧ (hexD n).toNat ≤ 102) := fun n hn => by
      have := hexD_toNat n hn
      split at this <;> omega
    have hx := x.toNat_lt
    simp only [hexS, hexB, List.cons_append, List.nil_append, List.mem_cons] at h
    rcases h with rfl | rfl | h
    · exact hd _ (by omega)
    · exact hd _ (by omega)
    · exact hexS_byte r c h

/-! ## what stands ahead of a byte -/
theorem cut_app (c : UInt8) : ∀ (a b : Str), c ∉ a → cutP c (a ++ c :: b) = (a, b, true)
  | [], b, _ => by simp [cutP]
  | x :: a, b, h => by
    have h1 : x ≠ c := fun e => h (by rw [e]; exact List.mem_cons_self)
    have h2 : c ∉ a := fun e => h (List.mem_cons_of_mem _ e)
    simp only [List.cons_append, cutP]
    rw [if_neg h1, cut_app c a b h2]

theorem cut_word (c : UInt8) : ∀ (a : Str), c ∉ a → cutP c a = (a, [], false)
  | [], _ => rfl
  | x :: a, h => by
    have h1 : x ≠ c := fun e => h (by rw [e]; exact List.mem_cons_self)
    have h2 : c ∉ a := fun e => h (List.mem_cons_of_mem _ e)
    simp only [cutP]
    rw [if_neg h1, cut_word c a h2]

theorem cut_cases (c : UInt8) : ∀ s : Str, (c ∈ s ∧ c ∉ (cutP c s).1 ∧ (cutP c s).2.2 = true ∧ s = (cutP c s).1 ++ c :: (cutP c s).2.1) ∨ (c ∉ s ∧ cutP c s = (s, [], false))
  | [] => .inr ⟨by simp, rfl⟩
  | x :: r => by
    by_cases h : x = c
    · subst h
      exact .inl ⟨by simp, by simp [cutP], by simp [cutP], by simp [cutP]⟩
    · rcases cut_cases c r with ⟨h1, h2, h3, h4⟩ | ⟨h1, h2⟩
      · refine .inl ⟨List.mem_cons_of_mem _ h1, ?_, ?_, ?_⟩
        · simp only [cutP]; rw [if_neg h]
          intro hm
          rcases List.mem_cons.1 hm with hm | hm
          · exact h hm.symm
          · exact h2 hm
        · simp only [cutP]; rw [if_neg h]; exact h3
        · simp only [cutP]; rw [if_neg h, List.cons_append, ← h4]
      · refine .inr ⟨fun hm => ?_, by simp only [cutP]; rw [if_neg h, h2]⟩
        rcases List.mem_cons.1 hm with hm | hm
        · exact h hm.symm
        · exact h1 hm

/-! ## errors' numbers -/
theorem check_no {c : Cm} {n k : Int} (h : checkP c = some (n, k)) : k = 11 ∨ k = 2 ∨ k = 3 ∨ k = 4 := by
  unfold checkP at h
  split at h
  · injection h with h; injection h with _ h; omega
  · split at h
    · injection h with h; injection h with _ h; omega
    · split at h
      · injection h with h; injection h with _ h; omega
      · split at h
        · injection h with h; injection h with _ h; omega
        · split at h
          · injection h with h; injection h with _ h; omega
          · cases h

theorem parse_no {line : Str} {n k : Int} (h : parseP addrP line = .error (n, k)) : k = 11 ∨ k = 2 ∨ k = 3 ∨ k = 4 := by
  have := (parse_fail addrP h).1; omega

/-! ## one line -/
theorem itoa10 (n : Int) : (10 : UInt8) ∉ itoa n := itoa_free n 10 ⟨by decide, .inl (by decide)⟩
theorem itoa32 (n : Int) : (32 : UInt8) ∉ itoa n := itoa_free n 32 ⟨by decide, .inl (by decide)⟩

theorem hexS_free (b : Str) (c : UInt8) (hc : c.toNat < 48) : c ∉ hexS b := fun h => by
  have := hexS_byte b c h; omega

/-- The act is one that a program can hold. -/
structure AcIs (a : Ac) : Prop where
  port : -9223372036854775808 ≤ a.port ∧ a.port ≤ 9223372036854775807
  nanos : -9223372036854775808 ≤ a.nanos ∧ a.nanos ≤ 9223372036854775807
  mac : MacIs a.cmd.mac
  args : ∀ x ∈ a.cmd.args, -9223372036854775808 ≤ x ∧ x ≤ 9223372036854775807

theorem argWords_ne (b : Bool) (m : Str) (a : Int) (r : List Int) : argWords b m (a :: r) ≠ [] := by
  cases b <;> simp [argWords]

theorem textP_first (c : Cm) (hc : checkP c = none) : ∃ k : Fin 10, ∃ r : List Str, wordsOf c = wordOf k.val :: r ∧ r ≠ [] := by
  have hcc := hc
  unfold checkP at hc
  split at hc
  · cases hc
  · rename_i hk
    refine ⟨⟨c.kind.toNat, by omega⟩, argWords (addrOf c.kind) (macText c.mac) c.args, rfl, ?_⟩
    split at hc
    · cases hc
    · rename_i hl
      have h0 : 0 < leastOf c.kind := by
        unfold leastOf
        repeat' split
        all_goals decide
      intro e
      cases ha : c.args with
      | nil => rw [ha] at hl; simp at hl; omega
      | cons a r =>
        rw [ha] at e
        exact argWords_ne _ _ _ _ e

theorem words_free (c : Cm) (hm : MacIs c.mac) (hc : checkP c = none) (x : UInt8) (hx : x.toNat = 32 ∨ x.toNat = 10) : ∀ w ∈ wordsOf c, x ∉ w := by
  intro w hw
  have hi : ∀ a : Int, x ∉ itoa a := fun a => itoa_free a x ⟨by omega, .inl (by omega)⟩
  unfold wordsOf at hw
  rcases List.mem_cons.1 hw with rfl | hw
  · unfold checkP at hc
    split at hc
    · cases hc
    · have := word_free ⟨c.kind.toNat, by omega⟩
      simp only at this
      rcases hx with hx | hx
      · rw [show x = 32 from UInt8.toNat_inj.1 (by rw [hx]; rfl)]; exact this.1
      · rw [show x = 10 from UInt8.toNat_inj.1 (by rw [hx]; rfl)]; exact this.2
  · unfold argWords at hw
    split at hw
    · split at hw
      · simp at hw
      · rcases List.mem_cons.1 hw with rfl | hw
        · exact hi _
        · rcases List.mem_cons.1 hw with rfl | hw
          · exact macText_free hm x (by omega)
          · obtain ⟨y, -, rfl⟩ := List.mem_map.1 hw
            exact hi y
    · obtain ⟨y, -, rfl⟩ := List.mem_map.1 hw
      exact hi y

theorem joinOn_mem (c x : UInt8) (hx : x ≠ c) : ∀ ws : List Str, (∀ w ∈ ws, x ∉ w) → x ∉ joinOn c ws
  | [], _ => by simp [joinOn]
  | [w], h => h w List.mem_cons_self
  | w :: v :: ws, h => by
    rw [joinOn_cons c w (by simp)]
    intro hm
    rcases List.mem_append.1 hm with hm | hm
    · exact h w List.mem_cons_self hm
    · rcases List.mem_cons.1 hm with hm | hm
      · exact hx hm
      · exact joinOn_mem c x hx (v :: ws) (fun u hu => h u (List.mem_cons_of_mem _ hu)) hm

theorem own_word : ∀ k : Fin 10, wordOf k.val ≠ sFrame ∧ wordOf k.val ≠ sUp ∧ wordOf k.val ≠ sDown ∧ wordOf k.val ≠ sWait ∧ wordOf k.val ≠ [] := by decide

theorem text_cut {c : Cm} (hc : checkP c = none) : ∃ k : Fin 10, (cutP 32 (textP c)).1 = wordOf k.val ∧ textP c ≠ [] := by
  obtain ⟨k, r, h1, h2⟩ := textP_first c hc
  refine ⟨k, ?_, ?_⟩
  · unfold textP
    rw [h1, joinOn_cons 32 _ h2, cut_app 32 _ _ (word_free k).1]
  · unfold textP
    rw [h1, joinOn_cons 32 _ h2]
    simp

/-- What is written of an act is read as an act that is written so. -/
theorem line_act {a : Ac} {l : Str} (ha : AcIs a) (h : lineP a = .ok l) : (∃ a', actP l = .ok a' ∧ a'.kind = a.kind ∧ lineP a' = .ok l ∧ (a.kind = 0 → a'.bytes = a.bytes)) ∧ l ≠ [] ∧ (10 : UInt8) ∉ l := by
  have hl := h
  unfold lineP at h
  split at h
  · rename_i hk
    split at h
    · cases h
    · rename_i hc
      injection h with h
      subst h
      obtain ⟨k, h1, h2⟩ := text_cut hc
      obtain ⟨w1, w2, w3, w4, -⟩ := own_word k
      have hp := text_parse' ha.mac ha.args hc
      refine ⟨⟨⟨4, 0, [], 0, a.cmd⟩, ?_, hk.symm, ?_, fun x => by omega⟩, h2, joinOn_mem 32 10 (by decide) _ (words_free a.cmd ha.mac hc 10 (.inr rfl))⟩
      · unfold actP
        simp only [h1]
        rw [if_neg w1, if_neg w2, if_neg w3, if_neg w4, hp]
      · unfold lineP
        simp only
        rw [if_pos trivial, hc]
  · rename_i hk
    split at h
    · rename_i hw
      injection h with h
      subst h
      have hcut : cutP 32 (sWait ++ 32 :: itoa a.nanos) = (sWait, itoa a.nanos, true) := cut_app 32 _ _ (by decide)
      refine ⟨⟨⟨3, 0, [], a.nanos, cm0⟩, ?_, hw.1.symm, ?_, fun x => by omega⟩, by simp [sWait], ?_⟩
      · unfold actP
        simp only [hcut]
        rw [if_neg (by decide), if_neg (by decide), if_neg (by decide), if_pos trivial, num_itoa hw.2 ha.nanos.2]
      · unfold lineP
        simp only
        rw [if_neg (by decide), if_pos ⟨trivial, hw.2⟩]
      · intro hm
        rcases List.mem_append.1 hm with hm | hm
        · exact absurd hm (by decide)
        · rcases List.mem_cons.1 hm with hm | hm
          · exact absurd hm (by decide)
          · exact itoa10 _ hm
    · rename_i hw
      split at h
      · cases h
      · rename_i hp
        have hp0 : 0 ≤ a.port := by omega
        have hp8 : a.port < 8 := by omega
        have hnum : numP (itoa a.port) = some a.port := num_itoa hp0 (by omega)
        split at h
        · rename_i hk0
          injection h with h
          subst h
          have hcut : cutP 32 (sFrame ++ 32 :: itoa a.port ++ 32 :: hexS a.bytes) = (sFrame, itoa a.port ++ 32 :: hexS a.bytes, true) := by
            rw [List.append_assoc]; exact cut_app 32 _ _ (by decide)
          have hcut2 : cutP 32 (itoa a.port ++ 32 :: hexS a.bytes) = (itoa a.port, hexS a.bytes, true) := cut_app 32 _ _ (itoa32 _)
          refine ⟨⟨⟨0, a.port, a.bytes, 0, cm0⟩, ?_, hk0.symm, ?_, fun _ => rfl⟩, by simp [sFrame], ?_⟩
          · unfold actP
            simp only [hcut, hcut2]
            rw [if_pos trivial, hnum, unhex_hexS]
            simp only
            rw [if_pos ⟨trivial, hp8⟩]
          · unfold lineP
            simp only
            rw [if_neg (by decide), if_neg (by decide), if_neg (by omega), if_pos trivial]
          · intro hm
            rcases List.mem_append.1 hm with hm | hm
            · rcases List.mem_append.1 hm with hm | hm
              · exact absurd hm (by decide)
              · rcases List.mem_cons.1 hm with hm | hm
                · exact absurd hm (by decide)
                · exact itoa10 _ hm
            · rcases List.mem_cons.1 hm with hm | hm
              · exact absurd hm (by decide)
              · exact hexS_free _ 10 (by decide) hm
        · rename_i hk0
          split at h
          · rename_i hk1
            injection h with h
            subst h
            have hcut : cutP 32 (sUp ++ 32 :: itoa a.port) = (sUp, itoa a.port, true) := cut_app 32 _ _ (by decide)
            refine ⟨⟨⟨1, a.port, [], 0, cm0⟩, ?_, hk1.symm, ?_, fun x => absurd x hk0⟩, by simp [sUp], ?_⟩
            · unfold actP
              simp only [hcut]
              rw [if_neg (by decide), if_pos trivial, hnum]
              simp only
              rw [if_pos hp8]
            · unfold lineP
              simp only
              rw [if_neg (by decide), if_neg (by decide), if_neg (by omega), if_neg (by decide), if_pos trivial]
            · intro hm
              rcases List.mem_append.1 hm with hm | hm
              · exact absurd hm (by decide)
              · rcases List.mem_cons.1 hm with hm | hm
                · exact absurd hm (by decide)
                · exact itoa10 _ hm
          · rename_i hk1
            split at h
            · rename_i hk2
              injection h with h
              subst h
              have hcut : cutP 32 (sDown ++ 32 :: itoa a.port) = (sDown, itoa a.port, true) := cut_app 32 _ _ (by decide)
              refine ⟨⟨⟨2, a.port, [], 0, cm0⟩, ?_, hk2.symm, ?_, fun x => absurd x hk0⟩, by simp [sDown], ?_⟩
              · unfold actP
                simp only [hcut]
                rw [if_neg (by decide), if_neg (by decide), if_pos trivial, hnum]
                simp only
                rw [if_pos hp8]
              · unfold lineP
                simp only
                rw [if_neg (by decide), if_neg (by decide), if_neg (by omega), if_neg (by decide), if_neg (by decide), if_pos trivial]
              · intro hm
                rcases List.mem_append.1 hm with hm | hm
                · exact absurd hm (by decide)
                · rcases List.mem_cons.1 hm with hm | hm
                  · exact absurd hm (by decide)
                  · exact itoa10 _ hm
            · cases h

/-- What is read as an act is written as that very line. -/
theorem act_line {l : Str} {a : Ac} (h : actP l = .ok a) : lineP a = .ok l := by
  unfold actP at h
  simp only at h
  have hcut := cut_cases 32 l
  split at h
  · rename_i hw
    split at h
    · rename_i n b hn hb
      split at h
      · rename_i hf
        injection h with h
        subst h
        obtain ⟨hn1, hn2, -⟩ := num_text hn
        have hb1 := hexS_unhex _ _ hb
        unfold lineP
        simp only
        rw [if_neg (by decide), if_neg (by decide), if_neg (by omega), if_pos trivial]
        congr 1
        have hcut2 := cut_cases 32 (cutP 32 l).2.1
        rcases hcut with ⟨-, -, -, e⟩ | ⟨-, e⟩
        · rcases hcut2 with ⟨-, -, -, e2⟩ | ⟨-, e2⟩
          · rw [hb1, ← hn1, ← hw]
            conv => rhs; rw [e, e2]
            simp
          · rw [e2] at hf; exact absurd hf.1 (by simp)
        · rw [e] at hf; exact absurd hf.1 (by simp [cutP])
      · cases h
    · cases h
  · split at h
    · rename_i hw
      split at h
      · rename_i n hn
        split at h
        · rename_i hn8
          injection h with h
          subst h
          obtain ⟨hn1, hn2, -⟩ := num_text hn
          unfold lineP
          simp only
          rw [if_neg (by decide), if_neg (by decide), if_neg (by omega), if_neg (by decide), if_pos trivial]
          congr 1
          rcases hcut with ⟨-, -, -, e⟩ | ⟨-, e⟩
          · rw [← hn1, ← hw]; exact e.symm
          · rw [e] at hn1; simp only at hn1; exact absurd hn1.symm (itoa_ne n)
        · cases h
      · cases h
    · split at h
      · rename_i hw
        split at h
        · rename_i n hn
          split at h
          · rename_i hn8
            injection h with h
            subst h
            obtain ⟨hn1, hn2, -⟩ := num_text hn
            unfold lineP
            simp only
            rw [if_neg (by decide), if_neg (by decide), if_neg (by omega), if_neg (by decide), if_neg (by decide), if_pos trivial]
            congr 1
            rcases hcut with ⟨-, -, -, e⟩ | ⟨-, e⟩
            · rw [← hn1, ← hw]; exact e.symm
            · rw [e] at hn1; simp only at hn1; exact absurd hn1.symm (itoa_ne n)
          · cases h
        · cases h
      · split at h
        · rename_i hw
          split at h
          · rename_i n hn
            injection h with h
            subst h
            obtain ⟨hn1, hn2, -⟩ := num_text hn
            unfold lineP
            simp only
            rw [if_neg (by decide), if_pos ⟨trivial, hn2⟩]
            congr 1
            rcases hcut with ⟨-, -, -, e⟩ | ⟨-, e⟩
            · rw [← hn1, ← hw]; exact e.symm
            · rw [e] at hn1; simp only at hn1; exact absurd hn1.symm (itoa_ne n)
          · cases h
        · split at h
          · cases h
          · rename_i c hc
            injection h with h
            subst h
            obtain ⟨h1, h2⟩ := parse_text' hc
            unfold lineP
            simp only
            rw [if_pos trivial, h2, h1]

theorem act_no {l : Str} {e : ErrD} (h : actP l = .error e) : e.2 ≠ 0 := by
  unfold actP at h
  simp only at h
  repeat' split at h
  all_goals first
    | (injection h with h; subst h; simp only; first | decide | (rename_i hp; have := parse_no hp; omega))
    | cases h

theorem line_no {a : Ac} {e : ErrD} (h : lineP a = .error e) : e.2 ≠ 0 := by
  unfold lineP at h
  repeat' split at h
  all_goals first
    | (injection h with h; subst h; simp only; first | decide | (rename_i hp; have := check_no hp; omega))
    | cases h

/-- Which acts can be written. -/
theorem line_good (a : Ac) : (∃ l, lineP a = .ok l) ↔ (((a.kind = 0 ∨ a.kind = 1 ∨ a.kind = 2) ∧ 0 ≤ a.port ∧ a.port < 8) ∨ (a.kind = 3 ∧ 0 ≤ a.nanos) ∨ (a.kind = 4 ∧ checkP a.cmd = none)) := by
  unfold lineP
  constructor
  · rintro ⟨l, h⟩
    split at h
    · rename_i hk
      split at h
      · cases h
      · rename_i hc; exact .inr (.inr ⟨hk, hc⟩)
    · split at h
      · rename_i hw; exact .inr (.inl hw)
      · split at h
        · cases h
        · rename_i hp
          refine .inl ⟨?_, by omega, by omega⟩
          split at h
          · rename_i x; exact .inl x
          · split at h
            · rename_i x; exact .inr (.inl x)
            · split at h
              · rename_i x; exact .inr (.inr x)
              · cases h
  · rintro (⟨hk, h0, h8⟩ | ⟨hk, hn⟩ | ⟨hk, hc⟩)
    · rw [if_neg (by omega), if_neg (by omega), if_neg (by omega)]
      rcases hk with hk | hk | hk
      · rw [if_pos hk]; exact ⟨_, rfl⟩
      · rw [if_neg (by omega), if_pos hk]; exact ⟨_, rfl⟩
      · rw [if_neg (by omega), if_neg (by omega), if_pos hk]; exact ⟨_, rfl⟩
    · rw [if_neg (by omega), if_pos ⟨hk, hn⟩]; exact ⟨_, rfl⟩
    · rw [if_pos hk, hc]; exact ⟨_, rfl⟩

end Go.Proofs.YtdncojofilnhnaaGreatDoor
