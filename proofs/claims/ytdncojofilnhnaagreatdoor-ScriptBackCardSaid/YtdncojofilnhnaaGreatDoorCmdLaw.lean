/- Commands as lines: there and back; plain laws, no program. -/
import Derived.Test.YtdncojofilnhnaaGreatDoorCmdP
namespace Go.Proofs.YtdncojofilnhnaaGreatDoor
open Go.Lib

theorem hexD_toNat (n : Nat) (h : n < 16) : (hexD n).toNat = if n < 10 then 48 + n else 87 + n := by
  unfold hexD
  split
  · rw [UInt8.toNat_ofNat']; omega
  · rw [UInt8.toNat_ofNat']; omega

theorem word_free : ∀ k : Fin 10, (32 : UInt8) ∉ wordOf k.val ∧ (10 : UInt8) ∉ wordOf k.val := by decide

theorem idx_word : ∀ k : Fin 10, idxL (wordOf k.val) namesL = (k.val : Int) := by decide

theorem word_inj : ∀ k j : Fin 10, wordOf k.val = wordOf j.val → k = j := by decide

theorem idxL_some {w : Str} : ∀ {l : List Str}, 0 ≤ idxL w l → l[(idxL w l).toNat]? = some w
  | [], h => by simp [idxL] at h
  | x :: r, h => by
    unfold idxL at h ⊢
    by_cases e : x = w
    · rw [if_pos e]; simp [e]
    · rw [if_neg e] at h ⊢
      by_cases e2 : idxL w r = -1
      · rw [if_pos e2] at h; omega
      · rw [if_neg e2] at h ⊢
        have h0 : 0 ≤ idxL w r := by
          rcases Int.lt_or_le (idxL w r) 0 with hl | hl
          · omega
          · exact hl
        have e3 : (idxL w r + 1).toNat = (idxL w r).toNat + 1 := by omega
        rw [e3, List.getElem?_cons_succ]
        exact idxL_some h0

theorem idxL_ge (w : Str) : ∀ l : List Str, -1 ≤ idxL w l
  | [] => by simp [idxL]
  | x :: r => by
    have := idxL_ge w r
    unfold idxL
    split
    · decide
    · split
      · decide
      · omega

theorem idxL_lt (w : Str) : ∀ l : List Str, idxL w l < l.length
  | [] => by simp [idxL]
  | x :: r => by
    have := idxL_lt w r
    unfold idxL
    rw [List.length_cons]
    split
    · omega
    · split <;> omega

theorem idx_named {w : Str} (h : 0 ≤ idxL w namesL) : idxL w namesL < 10 ∧ w = wordOf (idxL w namesL).toNat := by
  have h1 := idxL_lt w namesL
  have h2 := idxL_some h
  have hl : namesL.length = 10 := rfl
  rw [hl] at h1
  refine ⟨by omega, ?_⟩
  obtain ⟨k, hk⟩ : ∃ k, k = (idxL w namesL).toNat := ⟨_, rfl⟩
  rw [← hk] at h2 ⊢
  have hk10 : k < 10 := by omega
  unfold namesL at h2
  rw [List.getElem?_map, List.getElem?_range hk10] at h2
  injection h2 with h2
  exact h2.symm

/-! ## the numbers behind the word -/

theorem readArgs_itoa (addressed : Bool) (addr : Str → Option (List Int)) : ∀ (as : List Int) (i : Nat) (m : List Int) (bs : List Int), (addressed = true → 2 ≤ i) → (∀ a ∈ as, -9223372036854775808 ≤ a ∧ a ≤ 9223372036854775807) →
    readArgs addressed addr i (as.map itoa) (m, bs) = .ok (m, bs ++ as)
  | [], i, m, bs, _, _ => by simp [readArgs]
  | a :: as, i, m, bs, hi, ha => by
    have h1 := ha a List.mem_cons_self
    rw [List.map_cons, readArgs, if_neg (fun x => by have := hi x.1; omega), parse_itoa a h1.1 h1.2]
    simp only
    rw [if_pos trivial, readArgs_itoa addressed addr as (i + 1) m (bs ++ [a]) (fun x => by have := hi x; omega) (fun x hx => ha x (List.mem_cons_of_mem _ hx))]
    simp

theorem readArgs_back (addressed : Bool) (addr : Str → Option (List Int)) : ∀ (ws : List Str) (i : Nat) (m m' : List Int) (bs as : List Int), (addressed = true → 2 ≤ i) →
    readArgs addressed addr i ws (m, bs) = .ok (m', as) → m' = m ∧ ∃ cs, as = bs ++ cs ∧ ws = cs.map itoa ∧ ∀ c ∈ cs, -9223372036854775808 ≤ c ∧ c ≤ 9223372036854775807
  | [], i, m, m', bs, as, _, h => by
    simp only [readArgs] at h
    injection h with h
    injection h with h1 h2
    exact ⟨h1.symm, [], by simp [h2], rfl, fun c hc => by simp at hc⟩
  | w :: ws, i, m, m', bs, as, hi, h => by
    rw [readArgs, if_neg (fun x => by have := hi x.1; omega)] at h
    split at h
    · rename_i n hn
      split at h
      · rename_i hw
        obtain ⟨h1, cs, h2, h3, h4⟩ := readArgs_back addressed addr ws (i + 1) m m' (bs ++ [n]) as (fun x => by have := hi x; omega) h
        have hb := parseIntB_bounds hn
        refine ⟨h1, n :: cs, by simp [h2], by rw [List.map_cons, hw, h3], fun c hc => ?_⟩
        rcases List.mem_cons.1 hc with rfl | hc
        · have e : ((2 ^ (64 - 1) : Nat) : Int) = 9223372036854775808 := by decide
          rw [e] at hb
          omega
        · exact h4 c hc
      · cases h
    · cases h

/-- What is read of a line's words is written as they. -/
theorem readArgs_text (addr : Str → Option (List Int)) (hadr : ∀ w m, addr w = some m → macText m = w) (addressed : Bool) {ws : List Str} {m' as : List Int} (h : readArgs addressed addr 0 ws (mac0, []) = .ok (m', as)) (hlen : addressed = true → 2 ≤ ws.length) :
    ws = argWords addressed (macText m') as ∧ (addressed = false → m' = mac0) ∧ ws.length = as.length + (if addressed then 1 else 0) ∧ ∀ c ∈ as, -9223372036854775808 ≤ c ∧ c ≤ 9223372036854775807 := by
  cases addressed with
  | false =>
    obtain ⟨h1, cs, h2, h3, h4⟩ := readArgs_back false addr ws 0 mac0 m' [] as (fun x => by cases x) h
    rw [List.nil_append] at h2
    subst h2
    exact ⟨by rw [h3]; rfl, fun _ => h1, by rw [h3]; simp, h4⟩
  | true =>
    have hl := hlen rfl
    match ws, hl with
    | w0 :: w1 :: r, _ =>
      rw [readArgs, if_neg (by simp)] at h
      split at h
      · rename_i n hn
        split at h
        · rename_i hw
          rw [readArgs, if_pos ⟨rfl, rfl⟩] at h
          split at h
          · cases h
          · rename_i m1 hm1
            obtain ⟨h1, cs, h2, h3, h4⟩ := readArgs_back true addr r 2 m1 m' [n] as (fun _ => Nat.le_refl _) h
            subst h1
            subst h2
            have hb := parseIntB_bounds hn
            have e : ((2 ^ (64 - 1) : Nat) : Int) = 9223372036854775808 := by decide
            rw [e] at hb
            refine ⟨?_, (fun x => by cases x), by rw [h3]; simp, fun c hc => ?_⟩
            · rw [← hw, ← hadr w1 m' hm1, h3]; rfl
            · rcases List.mem_append.1 hc with hc | hc
              · simp at hc; subst hc; omega
              · exact h4 c hc
        · cases h
      · cases h

/-- ANY LINE: what is read of it is written as it. -/
theorem parse_text (addr : Str → Option (List Int)) (hadr : ∀ w m, addr w = some m → macText m = w) {line : Str} {c : Cm} (h : parseP addr line = .ok c) : textP c = line ∧ checkP c = none := by
  unfold parseP at h
  simp only at h
  obtain ⟨k, hk⟩ : ∃ k, k = idxL ((splitOn 32 line).headD []) namesL := ⟨_, rfl⟩
  rw [← hk] at h
  split at h
  · cases h
  · rename_i hk0
    have hn := idx_named (w := (splitOn 32 line).headD []) (by rw [← hk]; omega)
    rw [← hk] at hn
    split at h
    · cases h
    · rename_i m as hr
      split at h
      · cases h
      · rename_i hlen
        split at h
        · cases h
        · rename_i hc
          injection h with h
          subst h
          refine ⟨?_, hc⟩
          obtain ⟨w, ws, hws⟩ : ∃ w ws, splitOn 32 line = w :: ws := by
            cases he : splitOn 32 line with
            | nil => exact absurd he (splitOn_ne _ _)
            | cons w ws => exact ⟨w, ws, rfl⟩
          rw [hws] at hr hlen hn
          obtain ⟨h1, -, -, -⟩ := readArgs_text addr hadr (addrOf k) hr (fun hx => by
            have : ¬ (w :: ws).length < 3 := fun hl => hlen ⟨hx, hl⟩
            simp at this ⊢
            omega)
          have e : wordsOf ⟨k, m, as⟩ = splitOn 32 line := by
            unfold wordsOf
            rw [hws]
            have h2 : w = wordOf k.toNat := hn.2
            have h3 : ws = argWords (addrOf k) (macText m) as := h1
            rw [h2, h3]
          unfold textP
          rw [e, joinOn_splitOn]

theorem macText_free {m : List Int} (hm : MacIs m) (c : UInt8) (hc : c.toNat < 48) : c ∉ macText m := by
  obtain ⟨hl, hb⟩ := hm
  match m, hl with
  | [a, b, d, e, f, g], _ =>
    simp only [macText, List.map_cons, List.map_nil, joinOn, hex2]
    have hx : ∀ n, n < 16 → c ≠ hexD n := fun n hn e => by
      have := hexD_toNat n hn
      rw [← e] at this
      split at this <;> omega
    have h58 : c ≠ 58 := fun e => by rw [e] at hc; simp at hc
    have := hb a (by simp); have := hb b (by simp); have := hb d (by simp); have := hb e (by simp); have := hb f (by simp); have := hb g (by simp)
    simp [hx _ (show a.toNat / 16 < 16 by omega), hx _ (show a.toNat % 16 < 16 by omega), hx _ (show b.toNat / 16 < 16 by omega), hx _ (show b.toNat % 16 < 16 by omega), hx _ (show d.toNat / 16 < 16 by omega), hx _ (show d.toNat % 16 < 16 by omega),
      hx _ (show e.toNat / 16 < 16 by omega), hx _ (show e.toNat % 16 < 16 by omega), hx _ (show f.toNat / 16 < 16 by omega), hx _ (show f.toNat % 16 < 16 by omega), hx _ (show g.toNat / 16 < 16 by omega), hx _ (show g.toNat % 16 < 16 by omega), h58]

/-- THERE AND BACK. -/
theorem text_parse (addr : Str → Option (List Int)) (hadr : ∀ m, MacIs m → addr (macText m) = some m) {c : Cm} (hm : MacIs c.mac) (ha : ∀ a ∈ c.args, -9223372036854775808 ≤ a ∧ a ≤ 9223372036854775807) (hc : checkP c = none) : parseP addr (textP c) = .ok c := by
  obtain ⟨kind, mac, args⟩ := c
  have hcc := hc
  unfold checkP at hc
  simp only at hc hm ha
  split at hc
  · cases hc
  · rename_i hk
    obtain ⟨k, rfl⟩ : ∃ k : Nat, kind = (k : Int) := ⟨kind.toNat, by omega⟩
    have hk10 : k < 10 := by omega
    have hwf := word_free ⟨k, hk10⟩
    have hix := idx_word ⟨k, hk10⟩
    simp only at hwf hix
    split at hc
    · cases hc
    · rename_i hleast
      split at hc
      · cases hc
      · split at hc
        · cases hc
        · split at hc
          · cases hc
          · rename_i hmac
            have hi32 : ∀ a : Int, (32 : UInt8) ∉ itoa a := fun a => itoa_free a 32 ⟨by decide, .inl (by decide)⟩
            have hfree : ∀ w ∈ wordsOf ⟨k, mac, args⟩, (32 : UInt8) ∉ w := by
              intro w hw
              unfold wordsOf at hw
              simp only [Int.toNat_natCast] at hw
              rcases List.mem_cons.1 hw with rfl | hw
              · exact hwf.1
              · unfold argWords at hw
                split at hw
                · split at hw
                  · simp at hw
                  · rcases List.mem_cons.1 hw with rfl | hw
                    · exact hi32 _
                    · rcases List.mem_cons.1 hw with rfl | hw
                      · exact macText_free hm 32 (by decide)
                      · obtain ⟨x, -, rfl⟩ := List.mem_map.1 hw
                        exact hi32 x
                · obtain ⟨x, -, rfl⟩ := List.mem_map.1 hw
                  exact hi32 x
            have hsp : splitOn 32 (textP ⟨k, mac, args⟩) = wordsOf ⟨k, mac, args⟩ := splitOn_joinOn 32 _ (by unfold wordsOf; simp) hfree
            unfold parseP
            simp only
            rw [hsp]
            have hhead : (wordsOf ⟨k, mac, args⟩).headD [] = wordOf k := by unfold wordsOf; simp
            rw [hhead, hix, if_neg (by omega)]
            have htail : (wordsOf ⟨k, mac, args⟩).tail = argWords (addrOf k) (macText mac) args := rfl
            rw [htail]
            cases had : addrOf (k : Int) with
            | false =>
              rw [had] at hmac
              have hm0 : mac = mac0 := by
                apply Classical.byContradiction
                intro hne
                exact hmac ⟨rfl, hne⟩
              subst hm0
              have e : argWords false (macText mac0) args = args.map itoa := rfl
              rw [e, readArgs_itoa false addr args 0 mac0 [] (fun x => by cases x) ha]
              simp only [List.nil_append]
              rw [if_neg (by simp), hcc]
            | true =>
              have h2 : 2 ≤ args.length := by
                unfold addrOf at had
                simp at had
                have : leastOf (k : Int) = 3 ∨ leastOf (k : Int) = 2 := by rcases had with h | h <;> rw [h] <;> decide
                omega
              match args, h2 with
              | a :: r, h2 =>
                have h1 := ha a List.mem_cons_self
                have e : argWords true (macText mac) (a :: r) = itoa a :: macText mac :: r.map itoa := rfl
                have hr := readArgs_itoa true addr r (0 + 1 + 1) mac ([] ++ [a]) (fun _ => Nat.le_refl _) (fun x hx => ha x (List.mem_cons_of_mem _ hx))
                rw [e, readArgs, if_neg (by simp), parse_itoa a h1.1 h1.2]
                simp only
                rw [if_pos trivial, readArgs, if_pos ⟨rfl, rfl⟩, hadr mac hm]
                simp only
                rw [hr]
                simp only [List.nil_append, List.singleton_append]
                rw [if_neg (fun x => by
                  have hl := x.2
                  unfold wordsOf at hl
                  simp only at hl
                  rw [had, e] at hl
                  simp at hl h2
                  omega), hcc]

theorem readArgs_len (addressed : Bool) (addr : Str → Option (List Int)) : ∀ (ws : List Str) (i : Nat) (m m' : List Int) (bs as : List Int), readArgs addressed addr i ws (m, bs) = .ok (m', as) → as.length ≤ bs.length + ws.length ∧ (addressed = false → m' = m)
  | [], i, m, m', bs, as, h => by
    simp only [readArgs] at h
    injection h with h
    injection h with h1 h2
    subst h1 h2
    exact ⟨by simp, fun _ => rfl⟩
  | w :: ws, i, m, m', bs, as, h => by
    rw [readArgs] at h
    split at h
    · rename_i hx
      split at h
      · cases h
      · rename_i m1 hm1
        obtain ⟨h1, -⟩ := readArgs_len addressed addr ws (i + 1) m1 m' bs as h
        exact ⟨by simp; omega, fun e => by rw [e] at hx; cases hx.1⟩
    · split at h
      · rename_i n hn
        split at h
        · obtain ⟨h1, h2⟩ := readArgs_len addressed addr ws (i + 1) m m' (bs ++ [n]) as h
          exact ⟨by simp at h1 ⊢; omega, h2⟩
        · cases h
      · cases h

theorem readArgs_err (addressed : Bool) (addr : Str → Option (List Int)) : ∀ (ws : List Str) (i : Nat) (acc : List Int × List Int) (w e : Int), readArgs addressed addr i ws acc = .error (w, e) → e = 4 ∧ 0 ≤ w ∧ w ≤ i + ws.length
  | [], i, acc, w, e, h => by simp only [readArgs] at h; cases h
  | x :: ws, i, (m, bs), w, e, h => by
    rw [readArgs] at h
    split at h
    · split at h
      · injection h with h
        injection h with h1 h2
        subst h1 h2
        exact ⟨rfl, by omega, by simp; omega⟩
      · have := readArgs_err addressed addr ws (i + 1) _ w e h
        simp at this ⊢
        omega
    · split at h
      · split at h
        · have := readArgs_err addressed addr ws (i + 1) _ w e h
          simp at this ⊢
          omega
        · injection h with h
          injection h with h1 h2
          subst h1 h2
          exact ⟨rfl, by omega, by simp; omega⟩
      · injection h with h
        injection h with h1 h2
        subst h1 h2
        exact ⟨rfl, by omega, by simp; omega⟩

/-- WHAT IS WRONG is told at a word that there is, or one behind. -/
theorem parse_fail (addr : Str → Option (List Int)) {line : Str} {w e : Int} (h : parseP addr line = .error (w, e)) : (e = 11 ∧ w = 0 ∨ e = 4 ∨ e = 2 ∨ e = 3) ∧ 0 ≤ w ∧ w ≤ (splitOn 32 line).length := by
  unfold parseP at h
  simp only at h
  obtain ⟨k, hk⟩ : ∃ k, k = idxL ((splitOn 32 line).headD []) namesL := ⟨_, rfl⟩
  rw [← hk] at h
  split at h
  · injection h with h
    injection h with h1 h2
    subst h1 h2
    exact ⟨.inl ⟨rfl, rfl⟩, by omega, by omega⟩
  · rename_i hk0
    have hn := idx_named (w := (splitOn 32 line).headD []) (by rw [← hk]; omega)
    rw [← hk] at hn
    have hpos : 0 < (splitOn 32 line).length := List.length_pos_iff.2 (splitOn_ne _ _)
    have htl : (splitOn 32 line).tail.length = (splitOn 32 line).length - 1 := List.length_tail
    split at h
    · rename_i er hr
      injection h with h
      subst h
      have := readArgs_err _ _ _ _ _ _ _ hr
      omega
    · rename_i m as hr
      have hl := readArgs_len _ _ _ _ _ _ _ _ hr
      split at h
      · injection h with h
        injection h with h1 h2
        subst h1 h2
        exact ⟨.inr (.inr (.inl rfl)), by omega, by omega⟩
      · split at h
        · rename_i er hc
          injection h with h
          subst h
          unfold checkP at hc
          simp only at hc
          have h0 : ([] : List Int).length = 0 := rfl
          split at hc
          · omega
          · split at hc
            · injection hc with hc
              injection hc with h1 h2
              subst h1 h2
              exact ⟨.inr (.inr (.inl rfl)), by omega, by omega⟩
            · split at hc
              · injection hc with hc
                injection hc with h1 h2
                subst h1 h2
                exact ⟨.inr (.inr (.inr rfl)), by omega, by omega⟩
              · split at hc
                · injection hc with hc
                  injection hc with h1 h2
                  subst h1 h2
                  exact ⟨.inr (.inr (.inr rfl)), by omega, by omega⟩
                · split at hc
                  · injection hc with hc
                    injection hc with h1 h2
                    subst h1 h2
                    exact ⟨.inr (.inl rfl), by omega, by omega⟩
                  · cases hc
        · cases h

end Go.Proofs.YtdncojofilnhnaaGreatDoor
