/- ScriptParses: the walk of a text that is a script. -/
import Derived.Test.YtdncojofilnhnaaGreatDoorPaW
namespace Go.Proofs.YtdncojofilnhnaaGreatDoor
open Go.RowKit Go.Lib

theorem cfC_cut (c : Cf) (pv av : Value) (hl : (cfC c pv).length = 18) : ((cfC c pv ++ [av]).drop 0).take (cfC c pv).length = cfC c pv := by
  rw [List.drop_zero, List.take_left]

theorem acts_at {t : Str} {c : Cf} {acs : List Ac} (h : scriptP t = .ok (c, acs)) {l0 : Str} {tl : List Str} (hs : splitOn 10 t = l0 :: tl) {i : Nat} {l : Str} (hi : tl[i]? = some l) (hl : l ≠ []) :
    ∃ a, acs[((tl.take i).filter (fun l => decide (l ≠ []))).length]? = some a ∧ lineP a = .ok l := by
  have h2 := (script_lines h).2
  rw [hs, List.tail_cons] at h2
  have h3 := filter_at (fun l => decide (l ≠ [])) tl i l hi (by simpa using hl)
  have h4 : (acs.map lineP)[((tl.take i).filter (fun l => decide (l ≠ []))).length]? = some (.ok l) := by rw [h2, List.getElem?_map, h3]; rfl
  rw [List.getElem?_map, Option.map_eq_some_iff] at h4
  exact h4

theorem acts_count {t : Str} {c : Cf} {acs : List Ac} (h : scriptP t = .ok (c, acs)) {l0 : Str} {tl : List Str} (hs : splitOn 10 t = l0 :: tl) : (tl.filter (fun l => decide (l ≠ []))).length = acs.length := by
  have h2 := (script_lines h).2
  rw [hs, List.tail_cons] at h2
  have := congrArg List.length h2
  simpa using this.symm

theorem take_count (tl : List Str) {i : Nat} {l : Str} (hi : tl[i]? = some l) : ((tl.take (i + 1)).filter (fun l => decide (l ≠ []))).length = ((tl.take i).filter (fun l => decide (l ≠ []))).length + (if l = [] then 0 else 1) := by
  rw [List.take_add_one, hi, List.filter_append, List.length_append]
  by_cases h : l = [] <;> simp [h]

set_option maxRecDepth 100000 in
set_option maxHeartbeats 16000000 in
theorem parses_good (t : Str) (ht : t.length ≤ 4000) {c : Cf} {acs : List Ac} (h : scriptP t = .ok (c, acs)) {w : World} (hg : Gl w) :
    Calls Tryz.prog 10 #[strV t] w fun ev w' => ev = .returned (.bool true) ∧ Keeps Nothing w w' := by
  have HG := Lib.hid hg
  have hsl := splitOn_len 10 t
  obtain ⟨l0, tl, hs⟩ : ∃ l0 tl, splitOn 10 t = l0 :: tl := by
    cases hx : splitOn 10 t with
    | nil => exact absurd hx (splitOn_ne _ _)
    | cons a b => exact ⟨a, b, rfl⟩
  have HAT := Lib.hid (fun (i : Nat) (l : Str) (hi : tl[i]? = some l) (hl : l ≠ []) => acts_at h hs hi hl)
  have HCT := Lib.hid (acts_count h hs)
  have HBE := Lib.hid (bridgeE_ok (script_lines h).1)
  have HP := Lib.hid (fun (w' : World) (hg : Gl w') => script_good t (by omega) h hg)
  have HSP : Hid (∀ w', Gl w' → Calls Tryz.prog 19 #[strV t, strV [10]] w' fun e w2 => e = .returned (.slice (some ⟨w'.heap.size, 0, none⟩) (tl.length + 1) (tl.length + 1)) ∧ Blk w2 w'.heap.size ((l0 :: tl).map strV) 9 ∧ Keeps Nothing w' w2) := Lib.hid (fun w' hg => by have := split_ok t 10 (by omega) hg; rw [hs] at this; exact this)
  have hi : ¬ (4000 : Int) < (t.length : Int) := by omega
  have hm2 : tl.length ≤ 4000 := by rw [hs, List.length_cons] at hsl; omega
  have HTL := Lib.hid ht
  clear h hs hsl hg
  have HP2 : Hid (∀ w', Gl w' → Calls Tryz.prog 29 #[strV t] w' fun ev w2 => (∃ A n cp A' cp', ev = .returned (.tuple #[.agg (cfC c (.slice A n cp) ++ [Value.slice A' acs.length cp'] : List Value).toArray, .nilIface]) ∧ Hid (RecsR w2 (.slice A n cp) 2 (c.ports.map ptC) ∧ OwnS w2 (fun k => w'.heap.size ≤ k) 70 2 (.slice A n cp) c.ports.length (ptsC c.ports) ∧ ActsAt w2 (fun k => w'.heap.size ≤ k) 4294967000 (.slice A' acs.length cp') acs ∧
      (MacIs c.mac ∧ c.bounds = List.replicate 8 (c.bounds.headD 0) ∧ c.ports.length ≤ 8))) ∧ Keeps Nothing w' w2) := Lib.hid (fun w' hg => (HP.out w' hg).mono (fun ev w2 h => by
    obtain ⟨⟨A, n, cp, A', n', cp', he, ho, ha, hm, hb, h8, -⟩, hk⟩ := h
    obtain ⟨A2, cp2, hv⟩ := ha.row
    injection hv with e1 e2 e3
    subst e1 e2 e3
    have hpt : OwnS w2 (fun k => w'.heap.size ≤ k) 70 2 (.slice A n cp) c.ports.length ((c.ports.map ptC).flatten) := by
      have : (c.ports.map ptC).flatten = ptsC c.ports := by unfold ptsC; rw [List.flatMap_def]
      rw [this]; exact ho
    exact ⟨⟨A, n, cp, A', cp', he, Lib.hid ⟨own_recsN hpt (by simp) (fun c hc => by obtain ⟨p, -, rfl⟩ := List.mem_map.1 hc; rfl), ho, ha.wide (by have := HTL.out; omega), hm, hb, h8⟩⟩, hk⟩))
  clear HP
  go_enter Tryz.func10, Tryz.ntmps10
  go_upto_region 6 with (first | (go_at_call 26; refine (reads25_ok HG.out).mono ?_; rintro e w1 ⟨rfl, k1⟩; have K1 := Lib.hid k1; have HG1 := Lib.hid (HG.out.same k1); clear k1) | (go_at_call 29; refine (HP2.out _ HG1.out).mono ?_; rintro e w2 ⟨⟨A, n, cp, A', cp', rfl, hx⟩, k2⟩; have K2 := Lib.hid (K1.out.same k2); have HG2 := Lib.hid (HG1.out.same k2); have HL18 : Hid ((cfC c (.slice A n cp)).length = 18) := Lib.hid (cfC_len hx.out.2.2.2.1.1 (by rw [hx.out.2.2.2.2.1]; simp) _); clear k2) | (refine wpList_putB rfl 64 (.tmp 3) (.tmp 20) rfl w2.heap.size (cfC c (.slice A n cp) ++ [.slice A' acs.length cp']) rfl rfl 64 sc0 (Blk.new w2 sc0 64) (by rw [List.length_append, HL18.out]; exact size64) (by rw [List.length_append, HL18.out]; rfl) (fun v hv => by rcases List.mem_append.1 hv with h | h; exact cfC_one c A n cp v h; simp at h; subst h; rfl) ?_; intro w3 hr3 k3; have HR3 := Lib.hid hr3; have K3' := Lib.hid k3; clear hr3 k3))
  have ka := (Keeps.refl Nothing w2).alloc (.cells sc0.toArray 64)
  have hB := Blk.new w2 sc0 64
  have hsz := K2.out.size
  have h10 := HG.out.big
  have hw1 := K1.out.size
  have K3 := Lib.hid ((K2.out.same ka).up K3'.out (fun k e => by omega))
  have HG3 := Lib.hid ((HG2.out.same ka).keeps K3'.out (fun k hk e => by omega))
  have th : ∀ T, T ≠ 64 → Thru T w2 w3 := fun T hT => (Thru.same ka).trans (Thru.of K3'.out (not_blk hB (fun e => hT e.symm)))
  obtain ⟨hr, ho, ha, hmac, hbn, h8⟩ := hx.out
  have HA3 : Hid (ActsAt w3 (fun k => w.heap.size ≤ k) 4294967000 (.slice A' acs.length cp') acs) := Lib.hid (by
    obtain ⟨cs, ho', h2'⟩ := ha.thru (th 73 (by decide)) (th 5 (by decide)) (th 2 (by decide))
    exact ⟨cs, ho'.mono (fun k hk => Nat.le_trans hw1 hk), h2'.imp (fun _ _ hx => hx.mono (fun k hk => Nat.le_trans hw1 hk))⟩)
  have hpt : OwnS w3 (fun k => w1.heap.size ≤ k) 70 2 (.slice A n cp) c.ports.length ((c.ports.map ptC).flatten) := by
    have : (c.ports.map ptC).flatten = ptsC c.ports := by unfold ptsC; rw [List.flatMap_def]
    rw [this]; exact th 70 (by decide) _ _ _ _ _ ho
  have HR70 := Lib.hid (own_recsN hpt (by simp) (fun c hc => by obtain ⟨p, -, rfl⟩ := List.mem_map.1 hc; rfl))
  have HBC := Lib.hid (fun (w' : World) (h : RecsR w' (.slice A n cp) 2 (c.ports.map ptC)) => bridge_check c hmac (by rw [hbn]; simp) (.slice A n cp) (by omega) w' h)
  rw [HBE.out] at HBC
  clear ka hB hsz h10 hw1 th hr ho ha hmac hbn h8 hpt hx HG1 HP2 HG2 K1 K2 K3' HBE
  have c18 : ∀ w', Blk w' w2.heap.size (cfC c (.slice A n cp) ++ [.slice A' acs.length cp']) 64 → w'.cell? ⟨w2.heap.size, 18, none⟩ = some (.slice A' acs.length cp') := fun w' h => by
    rw [h.cell, List.getElem?_append_right (by rw [HL18.out]; decide), HL18.out]; rfl
  have C18 := Lib.hid c18
  clear c18
  have hal : acs.length ≤ 4000 := by
    rw [← HCT.out]; exact Nat.le_trans (List.length_filter_le _ _) hm2
  have HS30 : Hid (∀ w4, Blk w4 w3.heap.size ((l0 :: tl).map strV) 9 → Keeps Nothing w3 w4 → PaS w w4 w2.heap.size (cfC c (.slice A n cp) ++ [.slice A' acs.length cp']) (l0 :: tl) w3.heap.size (.slice A' acs.length cp') acs) := Lib.hid (fun w4 h1 h2 => ⟨HG3.out.same h2, K3.out.same h2, HR3.out.keeps h2 (fun h => h), HA3.out.thru (Thru.same h2) (Thru.same h2) (Thru.same h2), h1, HG.out.big⟩)
  have GET61 : True := trivial
  by_cases h0 : tl.length = 0
  · obtain rfl : tl = [] := List.eq_nil_of_length_eq_zero h0
    have h00 : acs.length = 0 := by rw [← HCT.out]; rfl
    have H00 := Lib.hid h00
    clear h0 h00
    go_wp2_with (first | (go_at_call 19; refine (HSP.out _ HG3.out).mono ?_; rintro e w4 ⟨rfl, hl4, k4⟩; have HS4 := Lib.hid (HS30.out w4 hl4 k4); have HRR := Lib.hid (HR70.out.still k4); clear hl4 k4) | (refine wpList_getM rfl 61 (.tmp 74) rfl w2.heap.size 0 rfl (cfC c (.slice A n cp)) _ 64 HS4.out.c (cfC_cut _ _ _ HL18.out) _ Tryz.underlying61 rfl (by rw [HL18.out]; exact size61) ?_) | (go_at_call 34; refine (HBC.out _ HRR.out).mono ?_; rintro e w5 ⟨rfl, k5⟩; have HS5 := Lib.hid (HS4.out.same k5); have q := C18.out w5 HS5.out.c; clear k5))
    go_loopw [81, 7] (fun vi vk wr => vi = .int .i64 0 ∧ vk = .int .i64 0 ∧ w5 = wr) (fun _ _ _ => 0)
    case atStart => exact ⟨rfl, rfl, rfl⟩
    case round =>
      obtain ⟨rfl, rfl, rfl⟩ := hrel
      go_wp2
      go_ret
      exact ⟨by show Ending.returned (Value.bool (0 == (acs.length : Int))) = _; rw [H00.out]; rfl, HS5.out.k⟩
  · have h1 : ¬ (1 : Int) = (tl.length : Int) + 1 := by omega
    have h1' : ¬ tl.length + 1 = 1 := by omega
    go_wp2_with (first | (go_at_call 19; refine (HSP.out _ HG3.out).mono ?_; rintro e w4 ⟨rfl, hl4, k4⟩; have HS4 := Lib.hid (HS30.out w4 hl4 k4); have HRR := Lib.hid (HR70.out.still k4); clear hl4 k4) | (refine wpList_getM rfl 61 (.tmp 74) rfl w2.heap.size 0 rfl (cfC c (.slice A n cp)) _ 64 HS4.out.c (cfC_cut _ _ _ HL18.out) _ Tryz.underlying61 rfl (by rw [HL18.out]; exact size61) ?_) | (go_at_call 34; refine (HBC.out _ HRR.out).mono ?_; rintro e w5 ⟨rfl, k5⟩; have HS5 := Lib.hid (HS4.out.same k5); have q := C18.out w5 HS5.out.c; clear k5))
    clear q h1 h1'
    go_loopw [81, 7] (fun vi vk wr => ∃ (i k : Nat), vi = .int .i64 i ∧ vk = .int .i64 k ∧ i ≤ tl.length ∧ k ≤ i ∧ Hid (PaS w wr w2.heap.size (cfC c (.slice A n cp) ++ [.slice A' acs.length cp']) (l0 :: tl) w3.heap.size (.slice A' acs.length cp') acs) ∧ Hid (k = ((tl.take i).filter (fun l => decide (l ≠ []))).length)) (fun vi _ _ => tl.length - (RowKit.intOf vi).toNat)
    case atStart => exact ⟨0, 0, rfl, rfl, Nat.zero_le _, Nat.zero_le _, HS5, Lib.hid (by simp)⟩
    case round =>
      obtain ⟨i, k, rfl, rfl, hi, hki, HS, HK⟩ := hrel
      clear HS5 HS4
      by_cases hin : i < tl.length
      · obtain ⟨l, hl⟩ : ∃ l, tl[i]? = some l := ⟨_, List.getElem?_eq_getElem hin⟩
        have hcl : wr.cell? ⟨w3.heap.size, 1 + i, none⟩ = some (strV l) := by
          rw [HS.out.l.cell, List.getElem?_map, Nat.add_comm, List.getElem?_cons_succ, hl]; rfl
        have htk := take_count tl hl
        by_cases hle : l = []
        · subst hle
          have HK2 : Hid (k = ((tl.take (i + 1)).filter (fun l => decide (l ≠ []))).length) := Lib.hid (by rw [htk, ← HK.out]; simp)
          clear htk hl
          go_wp2
          exact ⟨⟨i + 1, k, by go_num, rfl, by omega, by omega, HS, HK2⟩, by simp [RowKit.intOf]; omega⟩
        · obtain ⟨a, hak, hla⟩ := HAT.out i l hl hle
          rw [← HK.out] at hak
          have hkl : k < acs.length := (List.getElem?_eq_some_iff.1 hak).1
          have HK2 : Hid (k + 1 = ((tl.take (i + 1)).filter (fun l => decide (l ≠ []))).length) := Lib.hid (by rw [htk, ← HK.out, if_neg hle])
          obtain ⟨g, cq, C, hv, hrg, hC12, hone, hli⟩ := HS.out.a.one hak
          injection hv with e1 e2 e3
          subst e1 e3
          have HRG := Lib.hid hrg
          have HSZ : Hid ((Tryz.prog.info? 73).map (·.size) = some C.length) := Lib.hid (by rw [hC12]; exact size73)
          have HLI := Lib.hid (hli hla wr HS.out.gl (Keeps.refl _ _))
          have q := C18.out wr HS.out.c
          obtain ⟨x, l', rfl⟩ : ∃ x l', l = x :: l' := by cases l with | nil => exact absurd rfl hle | cons x l' => exact ⟨x, l', rfl⟩
          have hne2 : ¬ ((⟨(x :: l').toArray⟩ : ByteArray) = ⟨#[]⟩) := fun e => by have := strV_inj (b := []) e; cases this
          have hkg : ¬ (acs.length : Int) ≤ (k : Int) := by omega
          clear htk hl hle hak hla hrg hC12 hone hli
          go_wp2_with (first | (refine wpList_load_mid rfl 73 (.tmp 96) rfl g (k * 12) rfl C _ HRG.out Tryz.underlying73 rfl HSZ.out ?_) | (go_at_call 30; refine (HLI.out).mono ?_; rintro e w6 ⟨rfl, k6⟩; have HS6 := Lib.hid (HS.out.same k6); clear k6))
          exact ⟨⟨i + 1, k + 1, by go_num, by go_num, by omega, by omega, HS6, HK2⟩, by simp [RowKit.intOf]; omega⟩
      · have hin2 : i = tl.length := by omega
        have hka : k = acs.length := by rw [HK.out, hin2, List.take_length]; exact HCT.out
        have q := C18.out wr HS.out.c
        subst hka
        clear hin2
        go_wp2
        go_ret
        exact ⟨rfl, HS.out.k⟩

theorem parses25_walk (t : Str) {w : World} (hg : Gl w) (hl : t.length ≤ 9223372036854775807) :
    Calls Tryz.prog 10 #[strV t] w fun ev w' => ev = .returned (.bool true) ∧ Keeps Nothing w w' := by
  by_cases h4 : 4000 < t.length
  · have hi : (4000 : Int) < (t.length : Int) := by omega
    have HG := Lib.hid hg
    clear h4 hg
    go_enter Tryz.func10, Tryz.ntmps10
    go_wp2_with (go_at_call 26; refine (reads25_ok HG.out).mono ?_; rintro e w1 ⟨rfl, k1⟩; have K1 := Lib.hid k1; clear k1)
    go_ret
    exact ⟨rfl, K1.out⟩
  · cases h : scriptP t with
    | error x => obtain ⟨n, e⟩ := x; exact parses_bad t (by omega) h hg
    | ok x => obtain ⟨c, acs⟩ := x; exact parses_good t (by omega) h hg
end Go.Proofs.YtdncojofilnhnaaGreatDoor
