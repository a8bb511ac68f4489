/- script.config: the walk of a line that may be a switch. -/
import Derived.Test.YtdncojofilnhnaaGreatDoorCfB
namespace Go.Proofs.YtdncojofilnhnaaGreatDoor
open Go.RowKit Go.Lib

theorem CfS.aside {w wr w' : World} {ws : List Str} {cb nb : Nat} {cells : List Value} (h : CfS w wr ws cb cells) (hk : Keeps (fun k => k = nb) wr w') (hn : cb < nb) : CfS w w' ws cb cells := by
  have h1 := h.hc
  have h2 := h.big
  exact ⟨h.gl.keeps hk (fun k hk e => by omega), h.k.up hk (fun k e => by omega), h.r.keeps hk (fun e => by omega), h.sp.keeps hk (fun e => by omega), h.c.keeps hk (fun e => by omega), h.hc, h.big⟩

theorem keeps_set1 (w : World) (nb i : Nat) (u : Value) : Keeps (fun k => k = nb) w (w.setCell ⟨nb, i, none⟩ u) := (Keeps.refl (fun k => k = nb) w).setCell (p := ⟨nb, i, none⟩) (fun _ => rfl) u

theorem get_rep (pre post : List Value) (d z : Value) (i k : Nat) : (pre ++ (List.replicate i d ++ (List.replicate (k + 1) z ++ post)))[pre.length + i]? = some z := by
  rw [List.getElem?_append_right (by omega), show pre.length + i - pre.length = i by omega, List.getElem?_append_right (by simp)]
  simp [List.replicate_succ]

theorem CfS.asideF {F : Nat → Prop} {w wr w' : World} {ws : List Str} {cb : Nat} {cells : List Value} (h : CfS w wr ws cb cells) (hk : Keeps F wr w') (hF : ∀ k, F k → cb < k) : CfS w w' ws cb cells := by
  have h1 := h.hc
  have h2 := h.big
  exact ⟨h.gl.keeps hk (fun k hk e => by have := hF k e; omega), h.k.up hk (fun k e => by have := hF k e; omega), h.r.keeps hk (fun e => by have := hF _ e; omega), h.sp.keeps hk (fun e => by have := hF _ e; omega), h.c.keeps hk (fun e => by have := hF _ e; omega), h.hc, h.big⟩

theorem ports_bad {rest : List Str} {j : Nat} {ps : List Pt} {p : Str} (h : portsP rest = (portsP (rest.drop j)).map (ps ++ ·)) (hp : rest[j]? = some p) (hb : portP p = none) : portsP rest = none := by
  obtain ⟨hl, rfl⟩ := List.getElem?_eq_some_iff.1 hp
  rw [h, List.drop_eq_getElem_cons hl, portsP, hb]
  rfl

theorem ports_next {rest : List Str} {j : Nat} {ps : List Pt} {p : Str} {q : Pt} (h : portsP rest = (portsP (rest.drop j)).map (ps ++ ·)) (hp : rest[j]? = some p) (hb : portP p = some q) : portsP rest = (portsP (rest.drop (j + 1))).map ((ps ++ [q]) ++ ·) := by
  obtain ⟨hl, rfl⟩ := List.getElem?_eq_some_iff.1 hp
  rw [h, List.drop_eq_getElem_cons hl, portsP, hb]
  cases portsP (rest.drop (j + 1)) <;> simp

theorem info70 : (Tryz.prog.info? 70).map (fun i => (i.zero, i.size, i.bytes)) = some (some (.agg #[.int .i64 0, .bool false]), 2, 16) := by kernel_rfl

theorem nums_d {ws : List Str} {a b d e : Int} (h : numsP ws = some (a, b, d, e)) : d ≤ 1073741824 := by
  unfold numsP at h
  split at h
  · simp at h
  · split at h
    · simp at h
    · split at h
      · simp at h
      · split at h
        · simp at h
        · split at h
          · simp at h
          · split at h
            · simp at h
            · split at h
              · simp at h
              · simp at h
                omega

theorem own_put {w4 : World} {nb cb S T n : Nat} {v : Value} {xs : List Value} (h : OwnS w4 (fun k => nb < k ∨ S ≤ k) T 2 v n xs) (hS : nb < S) (hcb : cb < nb) (u : Value) : OwnS (w4.setCell ⟨cb, 7, none⟩ u) (fun k => nb < k) T 2 v n xs :=
  (h.keeps (keeps_set1 w4 cb 7 u) (fun k hk => by omega)).mono (fun k hk => by omega)

theorem nums_none {ws : List Str} (h : numsGo ws [1, 3, 4, 5] [] = none) : numsP ws = none := by
  rw [nums_go] at h
  cases hh : numsP ws with
  | none => rfl
  | some t => rw [hh] at h; simp at h

theorem nums_some {ws : List Str} {a b d e : Int} (h : numsGo ws [1, 3, 4, 5] [] = some [a, b, d, e]) : numsP ws = some (a, b, d, e) := by
  rw [nums_go] at h
  cases hh : numsP ws with
  | none => rw [hh] at h; simp at h
  | some t =>
    rw [hh] at h
    obtain ⟨a', b', d', e'⟩ := t
    simpa using h

theorem go_none {ws : List Str} {k : Nat} {ks : List Nat} {acc : List Int} (h : numP (ws.getD k []) = none) : numsGo ws (k :: ks) acc = none := by
  unfold numsGo; rw [h]

theorem go_big {ws : List Str} {k : Nat} {ks : List Nat} {acc : List Int} {v : Int} (h : numP (ws.getD k []) = some v) (hk : k ≠ 5) (hv : 1073741824 < v) : numsGo ws (k :: ks) acc = none := by
  unfold numsGo; rw [h]; exact if_pos ⟨hk, hv⟩

theorem go_next {ws : List Str} {k : Nat} {ks : List Nat} {acc : List Int} {v : Int} (h : numP (ws.getD k []) = some v) (hk : k = 5 ∨ v ≤ 1073741824) : numsGo ws (k :: ks) acc = numsGo ws ks (acc ++ [v]) := by
  conv => lhs; unfold numsGo
  rw [h]; exact if_neg (by omega)

set_option maxRecDepth 100000 in
set_option maxHeartbeats 16000000 in
theorem config_main (l : Str) (hl : l.length < 4294967000) {w : World} (hg : Gl w) (x1 x2 x3 x4 x5 : Str) (rest : List Str) (m : Cm) (hws : splitOn 32 l = sBridge :: x1 :: x2 :: x3 :: x4 :: x5 :: rest) (hrl1 : 1 ≤ rest.length) (hpq : parseP addrP (sNo0 ++ x2 ++ s0) = .ok m) :
    Calls Tryz.prog 57 #[strV l] w fun ev w' => ConfIs w' w.heap.size l ev ∧ Keeps Nothing w w' := by
  have k1 : Keeps Nothing w (w.alloc (.cells cf0.toArray 61)) := (Keeps.refl _ _).alloc _
  have hr1 : Blk (w.alloc (.cells cf0.toArray 61)) w.heap.size cf0 61 := Blk.new w cf0 61
  have hg1 := hg.same k1
  have hsp := split_ok l 32 (by omega) hg1
  have hsz1 : (w.alloc (.cells cf0.toArray 61)).heap.size = w.heap.size + 1 := by simp
  rw [hsz1] at hsp
  have hlen := splitOn_len 32 l
  have hle : ∀ x ∈ splitOn 32 l, x.length ≤ l.length := fun x hx => splitOn_le 32 l x hx
  have HC : Hid (configP l = configP l) := rfl
  have HSP := Lib.hid hsp
  have K1 := Lib.hid k1
  have HR1 := Lib.hid hr1
  have HG1 := Lib.hid hg1
  have HBIG := Lib.hid hg.big
  clear hg hg1 hr1 k1 hsp hsz1
  have h7 : ¬ (splitOn 32 l).length < 7 := by rw [hws]; simp; omega
  rw [hws] at h7 hlen hle HSP
  have hn : (sBridge :: x1 :: x2 :: x3 :: x4 :: x5 :: rest).length = rest.length + 6 := rfl
  rw [hn] at h7 hlen HSP
  have h7i : ¬ (((rest.length + 6 : Nat) : Int) < 7) := by omega
  have HLE := Lib.hid hle
  have HCF : Hid (configP l = match parseP addrP (sNo0 ++ x2 ++ s0) with
      | .error (n, k) => .error (some n, k)
      | .ok m => match numsP (sBridge :: x1 :: x2 :: x3 :: x4 :: x5 :: rest) with
        | none => .error (none, 4)
        | some (a, b, d, e) => match portsP rest with
          | none => .error (none, 4)
          | some ps => if bridgeOk ⟨a, m.mac, ps, b, List.replicate 8 d, e⟩ then .ok ⟨a, m.mac, ps, b, List.replicate 8 d, e⟩ else .error (none, 30)) := Lib.hid (by
    unfold configP
    simp only
    rw [hws, if_neg (by intro h; rcases h with h | h; · (have e : (sBridge :: x1 :: x2 :: x3 :: x4 :: x5 :: rest).length = rest.length + 6 := rfl); omega
                        · exact h rfl)]
    rfl)
  have hx2 : x2.length ≤ l.length := hle x2 (by simp)
  obtain ⟨s1, cs1, hs1⟩ := cat_of sNo0 x2
  obtain ⟨s2, cs2, hs2⟩ := cat_of s1 s0
  have hl1 : s1.length = 11 + x2.length := by rw [hs1]; simp [sNo0]; omega
  have hl2 : s2.length = s1.length + 2 := by rw [hs2]; simp [s0]
  rw [← hs1, ← hs2] at HCF
  have hpqq := hpq
  rw [← hs1, ← hs2] at hpqq
  clear hpq
  have HP := Lib.hid (fun (w' : World) (hg : Gl w') => parse_ok s2 (by omega) (w := w') hg)
  have hlim : ¬ 9223372036854775807 < 11 + x2.length := by omega
  have hlim1 : ¬ 9223372036854775807 < s1.length + 2 := by omega
  have hlen2 : rest.length ≤ l.length := by omega
  have hqb : (sBridge == [98, 114, 105, 100, 103, 101]) = true := by decide
  unfold sNo0 at cs1
  unfold s0 at cs2
  obtain ⟨n, hnr⟩ : ∃ n, n = rest.length + 6 := ⟨_, rfl⟩
  rw [← hnr] at HSP h7i
  have HN' := Lib.hid hnr
  have HLN := Lib.hid hlen2
  have HR1L := Lib.hid hrl1
  clear hs1 hs2 hl1 hl2 hws h7 hle hn hnr hlen hlen2 hrl1 hx2
  have hpp : parseP addrP s2 = .ok m := hpqq
  rw [hpp] at HCF
  have HPE : Hid (∀ w', Gl w' → Calls Tryz.prog 17 #[strV s2] w' fun ev w2 => (MacIs m.mac ∧ ∃ A n c, ev = .returned (.tuple #[cmdV m (.slice A n c), .nilIface])) ∧ Keeps Nothing w' w2) := Lib.hid (fun w' hg => (HP.out w' hg).mono (fun ev w2 h => by
    obtain ⟨h1, h2⟩ := h
    unfold ParseIs at h1
    rw [hpp] at h1
    obtain ⟨e1, -, -, v, hv, rfl⟩ := h1
    obtain ⟨A, c, rfl⟩ := hv.lenG
    exact ⟨⟨e1, _, _, _, rfl⟩, h2⟩))
  clear HP hpp hpqq
  obtain ⟨kd, mac, ars⟩ := m
  go_enter Tryz.func57, Tryz.ntmps57
  go_upto_region 6 with (first | (go_at_call 19; refine HSP.out.mono ?_; rintro e w2 ⟨rfl, hb, k2⟩; have hs2 := CfS.mk0 (HG1.out.same k2) (K1.out.same k2) (HR1.out.keeps k2 (fun h => h)) hb HBIG.out; have HS2 := Lib.hid hs2; have d0 : w2.cell? ⟨w.heap.size + 1, 0, none⟩ = some (strV sBridge) := hb.cell 0; clear hb k2 hs2) | (refine wpList_putB rfl 61 (.tmp 5) (.tmp 34) rfl w2.heap.size cf0 rfl rfl 61 cf0 (Blk.new w2 cf0 61) size61 rfl (by decide) ?_; intro w3 hr3 k3; have hs3 := HS2.out.start hr3 k3; have d2 : w3.cell? ⟨w.heap.size + 1, 2, none⟩ = some (strV x2) := hs3.sp.cell 2; have HS3 := Lib.hid hs3; clear hr3 k3 hs3) | (go_at_call 17; refine (HPE.out _ HS3.out.gl).mono ?_; rintro e w4 ⟨⟨hm, A0, n0, c0, rfl⟩, k4⟩; obtain ⟨q0, q1, q2, q3, q4, q5, rfl⟩ := sixOf hm.1; have HM := Lib.hid hm; have HS4 := Lib.hid (HS3.out.same k4); clear k4 hm; simp only [cmdV, cmdCells, List.map_cons, List.map_nil, List.cons_append, List.nil_append]))
  have HS5 := Lib.hid (HS4.out.same ((Keeps.refl Nothing w4).alloc (.cells #[.int .i64 kd, .int .u8 q0, .int .u8 q1, .int .u8 q2, .int .u8 q3, .int .u8 q4, .int .u8 q5, .slice A0 n0 c0] 26)))
  have HB5 : Hid (Blk (w4.alloc (.cells #[.int .i64 kd, .int .u8 q0, .int .u8 q1, .int .u8 q2, .int .u8 q3, .int .u8 q4, .int .u8 q5, .slice A0 n0 c0] 26)) w4.heap.size [.int .i64 kd, .int .u8 q0, .int .u8 q1, .int .u8 q2, .int .u8 q3, .int .u8 q4, .int .u8 q5, .slice A0 n0 c0] 26) := Lib.hid (Blk.new w4 _ 26)
  generalize (w4.alloc (.cells #[.int .i64 kd, .int .u8 q0, .int .u8 q1, .int .u8 q2, .int .u8 q3, .int .u8 q4, .int .u8 q5, .slice A0 n0 c0] 26)) = w5 at *
  obtain ⟨mb, hmb⟩ : ∃ mb, mb = w4.heap.size := ⟨_, rfl⟩
  obtain ⟨cb, hcb⟩ : ∃ cb, cb = w2.heap.size := ⟨_, rfl⟩
  rw [← hmb] at HB5 ⊢
  rw [← hcb] at HS5 ⊢
  obtain ⟨e0, e1, e2, e3, e4, e5, e6, e7⟩ := HB5.out.eight
  clear HPE HSP HR1 HG1 K1 HS2 HS3 HS4 d0 d2 HB5 hcb hmb cs1 cs2 hlim hlim1 hqb
  go_wp2_with (refine wpList_putM rfl 23 (.tmp 50) (.tmp 49) rfl cb 1 [.int .u8 q0, .int .u8 q1, .int .u8 q2, .int .u8 q3, .int .u8 q4, .int .u8 q5] rfl rfl 61 [.int .i64 0] [.int .u8 0, .int .u8 0, .int .u8 0, .int .u8 0, .int .u8 0, .int .u8 0] [.slice none 0 0, .int .i64 0, .int .i64 0, .int .i64 0, .int .i64 0, .int .i64 0, .int .i64 0, .int .i64 0, .int .i64 0, .int .i64 0, .int .i64 0] HS5.out.c rfl size23 rfl (by simp [Value.oneCell']) ?_; intro w6 hr6 k6; have HS6 := Lib.hid (HS5.out.put k6 (cells' := cfC ⟨0, [q0, q1, q2, q3, q4, q5], [], 0, List.replicate 8 0, 0⟩ (.slice none 0 0)) hr6); clear hr6 k6)
  have HS7 := Lib.hid (HS6.out.same ((Keeps.refl Nothing w6).alloc (.cells #[.int .i64 0, .int .i64 0, .int .i64 0, .int .i64 0] 159)))
  have HN7 : Hid (Blk (w6.alloc (.cells #[.int .i64 0, .int .i64 0, .int .i64 0, .int .i64 0] 159)) w6.heap.size [.int .i64 0, .int .i64 0, .int .i64 0, .int .i64 0] 159) := Lib.hid (Blk.new w6 _ 159)
  have HNC := Lib.hid HS6.out.c.lt
  generalize (w6.alloc (.cells #[.int .i64 0, .int .i64 0, .int .i64 0, .int .i64 0] 159)) = w7 at *
  generalize w6.heap.size = nb at *
  clear HS5 HS6 e0 e1 e2 e3 e4 e5 e6 e7
  have HL1 := Lib.hid (fun x hx => Nat.le_trans (HLE.out x hx) (Nat.le_of_lt hl))
  go_loopw [52] (fun vi wr => ∃ (i : Nat) (acc : List Int), vi = .int .i64 i ∧ acc.length = i ∧ i ≤ 4 ∧ Hid (CfS w wr (sBridge :: x1 :: x2 :: x3 :: x4 :: x5 :: rest) cb (cfC ⟨0, [q0, q1, q2, q3, q4, q5], [], 0, List.replicate 8 0, 0⟩ (.slice none 0 0))) ∧ Hid (Blk wr nb (acc.map (Value.int .i64) ++ List.replicate (4 - i) (.int .i64 0)) 159) ∧ Hid (numsGo (sBridge :: x1 :: x2 :: x3 :: x4 :: x5 :: rest) [1, 3, 4, 5] [] = numsGo (sBridge :: x1 :: x2 :: x3 :: x4 :: x5 :: rest) ([1, 3, 4, 5].drop i) acc) ∧ Hid (∀ a ∈ acc, 0 ≤ a ∧ a ≤ 9223372036854775807)) (fun vi _ => 4 - (RowKit.intOf vi).toNat)
  case atStart => exact ⟨0, [], rfl, rfl, by omega, HS7, HN7, Lib.hid rfl, Lib.hid (by simp)⟩
  case round =>
    obtain ⟨i, acc, rfl, hacc, hi, HS, HN, HGO, HRG⟩ := hrel
    have hi4 : i = 0 ∨ i = 1 ∨ i = 2 ∨ i = 3 ∨ i = 4 := by omega
    have hnbig : (6 : Int) ≤ (n : Int) := by have := HN'.out; omega
    clear HS7 HN7 hi
    rcases hi4 with rfl | rfl | rfl | rfl | rfl
    · obtain rfl : acc = [] := List.eq_nil_of_length_eq_zero hacc
      have hix : ∀ w, (Instr.index 160 (.agg #[.int .i64 1, .int .i64 3, .int .i64 4, .int .i64 5]) (.int .i64 0)).run Tryz.prog w = .ok (.int .i64 1) w := fun w => by kernel_rfl
      have hixc : ∀ w, (Instr.index 160 (.agg #[.int .i64 1, .int .i64 3, .int .i64 4, .int .i64 5]) (.int .i64 ((0 : Nat) : Int))).run Tryz.prog w = .ok (.int .i64 1) w := fun w => by kernel_rfl
      have dk : wr.cell? ⟨w.heap.size + 1, 1, none⟩ = some (strV x1) := HS.out.sp.cell 1
      have HNU := Lib.hid (number_ok x1 (by have := HL1.out x1 (by simp); omega) HS.out.gl)
      go_upto_region 14 with (go_at_call 82; refine HNU.out.mono ?_; rintro e w2 ⟨⟨v, b, rfl, hnv⟩, k2⟩; have HS2 := Lib.hid (HS.out.same k2); have HN2 := Lib.hid (HN.out.keeps k2 (fun h => h)); have HV := Lib.hid hnv; clear k2 hnv)
      cases b with
      | false =>
        have hv0 : numP x1 = none := HV.out
        clear HV
        have HNN := nums_none (HGO.out.trans (go_none (show numP ((sBridge :: x1 :: x2 :: x3 :: x4 :: x5 :: rest).getD 1 []) = none from hv0)))
        have HA : Hid (configP l = .error (none, 4)) := Lib.hid (by rw [HCF.out, HNN])
        clear HNN
        go_wp2_with (refine wpList_putB rfl 61 (.tmp 2) (.tmp 74) rfl w.heap.size cf0 rfl rfl 61 cf0 HS2.out.r size61 rfl (by decide) ?_; intro w9 hr9 k9; have HR9 := Lib.hid hr9; have K9 := Lib.hid k9; clear hr9 k9)
        refine bodyPost_ret (results_cellT Tryz.underlying61 size61 rfl _ _ w.heap.size cf0 61 rfl HR9.out rfl) rfl ?_
        exact ⟨conf_err HA.out, HS2.out.k.up K9.out (fun k h => Nat.le_of_eq h.symm)⟩
      | true =>
        have hv0 : numP x1 = some v := HV.out
        clear HV
        by_cases hv : 1073741824 < v
        · skip
          have HNN := nums_none (HGO.out.trans (go_big (show numP ((sBridge :: x1 :: x2 :: x3 :: x4 :: x5 :: rest).getD 1 []) = some v from hv0) (by decide) hv))
          have HA : Hid (configP l = .error (none, 4)) := Lib.hid (by rw [HCF.out, HNN])
          clear HNN
          go_wp2_with (refine wpList_putB rfl 61 (.tmp 2) (.tmp 74) rfl w.heap.size cf0 rfl rfl 61 cf0 HS2.out.r size61 rfl (by decide) ?_; intro w9 hr9 k9; have HR9 := Lib.hid hr9; have K9 := Lib.hid k9; clear hr9 k9)
          refine bodyPost_ret (results_cellT Tryz.underlying61 size61 rfl _ _ w.heap.size cf0 61 rfl HR9.out rfl) rfl ?_
          exact ⟨conf_err HA.out, HS2.out.k.up K9.out (fun k h => Nat.le_of_eq h.symm)⟩
        · skip
          have n0 : w2.cell? ⟨nb, 0, none⟩ = some (.int .i64 0) := HN2.out.cell 0
          have n1 := HN2.out.frozen 0
          have HNX : Hid (numsGo (sBridge :: x1 :: x2 :: x3 :: x4 :: x5 :: rest) [1, 3, 4, 5] [] = numsGo (sBridge :: x1 :: x2 :: x3 :: x4 :: x5 :: rest) ([1, 3, 4, 5].drop 1) [v]) := Lib.hid (HGO.out.trans (go_next (show numP ((sBridge :: x1 :: x2 :: x3 :: x4 :: x5 :: rest).getD 1 []) = some v from hv0) (.inr (by omega))))
          have hvr := num_text hv0
          have HRX : Hid (∀ x ∈ [v], 0 ≤ x ∧ x ≤ 9223372036854775807) := Lib.hid (fun x hx => by
            rw [show ([v] : List Int) = [] ++ [v] from rfl, List.mem_append] at hx
            rcases hx with hx | hx
            · exact HRG.out x hx
            · simp at hx; subst hx; exact ⟨hvr.2.1, hvr.2.2⟩)
          clear hvr hv0
          go_wp2
          refine ⟨⟨1, [v], by go_num, rfl, by omega, HS2.out.aside (keeps_set1 _ _ _ _) HNC.out, HN2.out.set 0 (.int .i64 v), HNX, HRX⟩, by simp [RowKit.intOf]⟩
    · obtain ⟨a, rfl⟩ : ∃ a, acc = [a] := by
        match acc, hacc with
        | [a], _ => exact ⟨_, rfl⟩
      have hix : ∀ w, (Instr.index 160 (.agg #[.int .i64 1, .int .i64 3, .int .i64 4, .int .i64 5]) (.int .i64 1)).run Tryz.prog w = .ok (.int .i64 3) w := fun w => by kernel_rfl
      have hixc : ∀ w, (Instr.index 160 (.agg #[.int .i64 1, .int .i64 3, .int .i64 4, .int .i64 5]) (.int .i64 ((1 : Nat) : Int))).run Tryz.prog w = .ok (.int .i64 3) w := fun w => by kernel_rfl
      have dk : wr.cell? ⟨w.heap.size + 1, 3, none⟩ = some (strV x3) := HS.out.sp.cell 3
      have HNU := Lib.hid (number_ok x3 (by have := HL1.out x3 (by simp); omega) HS.out.gl)
      go_upto_region 14 with (go_at_call 82; refine HNU.out.mono ?_; rintro e w2 ⟨⟨v, b, rfl, hnv⟩, k2⟩; have HS2 := Lib.hid (HS.out.same k2); have HN2 := Lib.hid (HN.out.keeps k2 (fun h => h)); have HV := Lib.hid hnv; clear k2 hnv)
      cases b with
      | false =>
        have hv0 : numP x3 = none := HV.out
        clear HV
        have HNN := nums_none (HGO.out.trans (go_none (show numP ((sBridge :: x1 :: x2 :: x3 :: x4 :: x5 :: rest).getD 3 []) = none from hv0)))
        have HA : Hid (configP l = .error (none, 4)) := Lib.hid (by rw [HCF.out, HNN])
        clear HNN
        go_wp2_with (refine wpList_putB rfl 61 (.tmp 2) (.tmp 74) rfl w.heap.size cf0 rfl rfl 61 cf0 HS2.out.r size61 rfl (by decide) ?_; intro w9 hr9 k9; have HR9 := Lib.hid hr9; have K9 := Lib.hid k9; clear hr9 k9)
        refine bodyPost_ret (results_cellT Tryz.underlying61 size61 rfl _ _ w.heap.size cf0 61 rfl HR9.out rfl) rfl ?_
        exact ⟨conf_err HA.out, HS2.out.k.up K9.out (fun k h => Nat.le_of_eq h.symm)⟩
      | true =>
        have hv0 : numP x3 = some v := HV.out
        clear HV
        by_cases hv : 1073741824 < v
        · skip
          have HNN := nums_none (HGO.out.trans (go_big (show numP ((sBridge :: x1 :: x2 :: x3 :: x4 :: x5 :: rest).getD 3 []) = some v from hv0) (by decide) hv))
          have HA : Hid (configP l = .error (none, 4)) := Lib.hid (by rw [HCF.out, HNN])
          clear HNN
          go_wp2_with (refine wpList_putB rfl 61 (.tmp 2) (.tmp 74) rfl w.heap.size cf0 rfl rfl 61 cf0 HS2.out.r size61 rfl (by decide) ?_; intro w9 hr9 k9; have HR9 := Lib.hid hr9; have K9 := Lib.hid k9; clear hr9 k9)
          refine bodyPost_ret (results_cellT Tryz.underlying61 size61 rfl _ _ w.heap.size cf0 61 rfl HR9.out rfl) rfl ?_
          exact ⟨conf_err HA.out, HS2.out.k.up K9.out (fun k h => Nat.le_of_eq h.symm)⟩
        · skip
          have n0 : w2.cell? ⟨nb, 1, none⟩ = some (.int .i64 0) := HN2.out.cell 1
          have n1 := HN2.out.frozen 1
          have HNX : Hid (numsGo (sBridge :: x1 :: x2 :: x3 :: x4 :: x5 :: rest) [1, 3, 4, 5] [] = numsGo (sBridge :: x1 :: x2 :: x3 :: x4 :: x5 :: rest) ([1, 3, 4, 5].drop 2) [a, v]) := Lib.hid (HGO.out.trans (go_next (show numP ((sBridge :: x1 :: x2 :: x3 :: x4 :: x5 :: rest).getD 3 []) = some v from hv0) (.inr (by omega))))
          have hvr := num_text hv0
          have HRX : Hid (∀ x ∈ [a, v], 0 ≤ x ∧ x ≤ 9223372036854775807) := Lib.hid (fun x hx => by
            rw [show ([a, v] : List Int) = [a] ++ [v] from rfl, List.mem_append] at hx
            rcases hx with hx | hx
            · exact HRG.out x hx
            · simp at hx; subst hx; exact ⟨hvr.2.1, hvr.2.2⟩)
          clear hvr hv0
          go_wp2
          refine ⟨⟨2, [a, v], by go_num, rfl, by omega, HS2.out.aside (keeps_set1 _ _ _ _) HNC.out, HN2.out.set 1 (.int .i64 v), HNX, HRX⟩, by simp [RowKit.intOf]⟩
    · obtain ⟨a, b, rfl⟩ : ∃ a b, acc = [a, b] := by
        match acc, hacc with
        | [a, b], _ => exact ⟨_, _, rfl⟩
      have hix : ∀ w, (Instr.index 160 (.agg #[.int .i64 1, .int .i64 3, .int .i64 4, .int .i64 5]) (.int .i64 2)).run Tryz.prog w = .ok (.int .i64 4) w := fun w => by kernel_rfl
      have hixc : ∀ w, (Instr.index 160 (.agg #[.int .i64 1, .int .i64 3, .int .i64 4, .int .i64 5]) (.int .i64 ((2 : Nat) : Int))).run Tryz.prog w = .ok (.int .i64 4) w := fun w => by kernel_rfl
      have dk : wr.cell? ⟨w.heap.size + 1, 4, none⟩ = some (strV x4) := HS.out.sp.cell 4
      have HNU := Lib.hid (number_ok x4 (by have := HL1.out x4 (by simp); omega) HS.out.gl)
      go_upto_region 14 with (go_at_call 82; refine HNU.out.mono ?_; rintro e w2 ⟨⟨v, b, rfl, hnv⟩, k2⟩; have HS2 := Lib.hid (HS.out.same k2); have HN2 := Lib.hid (HN.out.keeps k2 (fun h => h)); have HV := Lib.hid hnv; clear k2 hnv)
      cases b with
      | false =>
        have hv0 : numP x4 = none := HV.out
        clear HV
        have HNN := nums_none (HGO.out.trans (go_none (show numP ((sBridge :: x1 :: x2 :: x3 :: x4 :: x5 :: rest).getD 4 []) = none from hv0)))
        have HA : Hid (configP l = .error (none, 4)) := Lib.hid (by rw [HCF.out, HNN])
        clear HNN
        go_wp2_with (refine wpList_putB rfl 61 (.tmp 2) (.tmp 74) rfl w.heap.size cf0 rfl rfl 61 cf0 HS2.out.r size61 rfl (by decide) ?_; intro w9 hr9 k9; have HR9 := Lib.hid hr9; have K9 := Lib.hid k9; clear hr9 k9)
        refine bodyPost_ret (results_cellT Tryz.underlying61 size61 rfl _ _ w.heap.size cf0 61 rfl HR9.out rfl) rfl ?_
        exact ⟨conf_err HA.out, HS2.out.k.up K9.out (fun k h => Nat.le_of_eq h.symm)⟩
      | true =>
        have hv0 : numP x4 = some v := HV.out
        clear HV
        by_cases hv : 1073741824 < v
        · skip
          have HNN := nums_none (HGO.out.trans (go_big (show numP ((sBridge :: x1 :: x2 :: x3 :: x4 :: x5 :: rest).getD 4 []) = some v from hv0) (by decide) hv))
          have HA : Hid (configP l = .error (none, 4)) := Lib.hid (by rw [HCF.out, HNN])
          clear HNN
          go_wp2_with (refine wpList_putB rfl 61 (.tmp 2) (.tmp 74) rfl w.heap.size cf0 rfl rfl 61 cf0 HS2.out.r size61 rfl (by decide) ?_; intro w9 hr9 k9; have HR9 := Lib.hid hr9; have K9 := Lib.hid k9; clear hr9 k9)
          refine bodyPost_ret (results_cellT Tryz.underlying61 size61 rfl _ _ w.heap.size cf0 61 rfl HR9.out rfl) rfl ?_
          exact ⟨conf_err HA.out, HS2.out.k.up K9.out (fun k h => Nat.le_of_eq h.symm)⟩
        · skip
          have n0 : w2.cell? ⟨nb, 2, none⟩ = some (.int .i64 0) := HN2.out.cell 2
          have n1 := HN2.out.frozen 2
          have HNX : Hid (numsGo (sBridge :: x1 :: x2 :: x3 :: x4 :: x5 :: rest) [1, 3, 4, 5] [] = numsGo (sBridge :: x1 :: x2 :: x3 :: x4 :: x5 :: rest) ([1, 3, 4, 5].drop 3) [a, b, v]) := Lib.hid (HGO.out.trans (go_next (show numP ((sBridge :: x1 :: x2 :: x3 :: x4 :: x5 :: rest).getD 4 []) = some v from hv0) (.inr (by omega))))
          have hvr := num_text hv0
          have HRX : Hid (∀ x ∈ [a, b, v], 0 ≤ x ∧ x ≤ 9223372036854775807) := Lib.hid (fun x hx => by
            rw [show ([a, b, v] : List Int) = [a, b] ++ [v] from rfl, List.mem_append] at hx
            rcases hx with hx | hx
            · exact HRG.out x hx
            · simp at hx; subst hx; exact ⟨hvr.2.1, hvr.2.2⟩)
          clear hvr hv0
          go_wp2
          refine ⟨⟨3, [a, b, v], by go_num, rfl, by omega, HS2.out.aside (keeps_set1 _ _ _ _) HNC.out, HN2.out.set 2 (.int .i64 v), HNX, HRX⟩, by simp [RowKit.intOf]⟩
    · obtain ⟨a, b, d, rfl⟩ : ∃ a b d, acc = [a, b, d] := by
        match acc, hacc with
        | [a, b, d], _ => exact ⟨_, _, _, rfl⟩
      have hix : ∀ w, (Instr.index 160 (.agg #[.int .i64 1, .int .i64 3, .int .i64 4, .int .i64 5]) (.int .i64 3)).run Tryz.prog w = .ok (.int .i64 5) w := fun w => by kernel_rfl
      have hixc : ∀ w, (Instr.index 160 (.agg #[.int .i64 1, .int .i64 3, .int .i64 4, .int .i64 5]) (.int .i64 ((3 : Nat) : Int))).run Tryz.prog w = .ok (.int .i64 5) w := fun w => by kernel_rfl
      have dk : wr.cell? ⟨w.heap.size + 1, 5, none⟩ = some (strV x5) := HS.out.sp.cell 5
      have HNU := Lib.hid (number_ok x5 (by have := HL1.out x5 (by simp); omega) HS.out.gl)
      go_upto_region 14 with (go_at_call 82; refine HNU.out.mono ?_; rintro e w2 ⟨⟨v, b, rfl, hnv⟩, k2⟩; have HS2 := Lib.hid (HS.out.same k2); have HN2 := Lib.hid (HN.out.keeps k2 (fun h => h)); have HV := Lib.hid hnv; clear k2 hnv)
      cases b with
      | false =>
        have hv0 : numP x5 = none := HV.out
        clear HV
        have HNN := nums_none (HGO.out.trans (go_none (show numP ((sBridge :: x1 :: x2 :: x3 :: x4 :: x5 :: rest).getD 5 []) = none from hv0)))
        have HA : Hid (configP l = .error (none, 4)) := Lib.hid (by rw [HCF.out, HNN])
        clear HNN
        go_wp2_with (refine wpList_putB rfl 61 (.tmp 2) (.tmp 74) rfl w.heap.size cf0 rfl rfl 61 cf0 HS2.out.r size61 rfl (by decide) ?_; intro w9 hr9 k9; have HR9 := Lib.hid hr9; have K9 := Lib.hid k9; clear hr9 k9)
        refine bodyPost_ret (results_cellT Tryz.underlying61 size61 rfl _ _ w.heap.size cf0 61 rfl HR9.out rfl) rfl ?_
        exact ⟨conf_err HA.out, HS2.out.k.up K9.out (fun k h => Nat.le_of_eq h.symm)⟩
      | true =>
        have hv0 : numP x5 = some v := HV.out
        clear HV
        have n0 : w2.cell? ⟨nb, 3, none⟩ = some (.int .i64 0) := HN2.out.cell 3
        have n1 := HN2.out.frozen 3
        have HNX : Hid (numsGo (sBridge :: x1 :: x2 :: x3 :: x4 :: x5 :: rest) [1, 3, 4, 5] [] = numsGo (sBridge :: x1 :: x2 :: x3 :: x4 :: x5 :: rest) ([1, 3, 4, 5].drop 4) [a, b, d, v]) := Lib.hid (HGO.out.trans (go_next (show numP ((sBridge :: x1 :: x2 :: x3 :: x4 :: x5 :: rest).getD 5 []) = some v from hv0) (.inl rfl)))
        have hvr := num_text hv0
        have HRX : Hid (∀ x ∈ [a, b, d, v], 0 ≤ x ∧ x ≤ 9223372036854775807) := Lib.hid (fun x hx => by
          rw [show ([a, b, d, v] : List Int) = [a, b, d] ++ [v] from rfl, List.mem_append] at hx
          rcases hx with hx | hx
          · exact HRG.out x hx
          · simp at hx; subst hx; exact ⟨hvr.2.1, hvr.2.2⟩)
        clear hvr hv0
        go_wp2
        refine ⟨⟨4, [a, b, d, v], by go_num, rfl, by omega, HS2.out.aside (keeps_set1 _ _ _ _) HNC.out, HN2.out.set 3 (.int .i64 v), HNX, HRX⟩, by simp [RowKit.intOf]⟩
    · obtain ⟨a, b, d, e, rfl⟩ : ∃ a b d e, acc = [a, b, d, e] := by
        match acc, hacc with
        | [a, b, d, e], _ => exact ⟨_, _, _, _, rfl⟩
      have HNUMS : Hid (numsP (sBridge :: x1 :: x2 :: x3 :: x4 :: x5 :: rest) = some (a, b, d, e)) := Lib.hid (nums_some HGO.out)
      have m0 : wr.cell? ⟨nb, 0, none⟩ = some (.int .i64 a) := HN.out.cell 0
      have m1 : wr.cell? ⟨nb, 1, none⟩ = some (.int .i64 b) := HN.out.cell 1
      have m3 : wr.cell? ⟨nb, 3, none⟩ = some (.int .i64 e) := HN.out.cell 3
      have c0' : wr.cell? ⟨cb, 0, none⟩ = some (.int .i64 0) := HS.out.c.cell 0
      have c8' : wr.cell? ⟨cb, 8, none⟩ = some (.int .i64 0) := HS.out.c.cell 8
      have c17' : wr.cell? ⟨cb, 17, none⟩ = some (.int .i64 0) := HS.out.c.cell 17
      have z0 := HS.out.c.frozen 0
      have z8 := HS.out.c.frozen 8
      have z17 := HS.out.c.frozen 17
      have hnbcb : ¬ nb = cb := by have := HNC.out; omega
      go_upto_region 18 with fail
      go_region
      have HK8 : Hid (Keeps (fun k => k = cb) wr ((((wr.setCell ⟨cb, 0, none⟩ (.int .i64 a)).setCell ⟨cb, 8, none⟩ (.int .i64 b)).setCell ⟨cb, 17, none⟩ (.int .i64 e)).drew)) := Lib.hid ((((((Keeps.refl (fun k => k = cb) wr).setCell (p := ⟨cb, 0, none⟩) (fun _ => rfl) _).setCell (p := ⟨cb, 8, none⟩) (fun _ => rfl) _).setCell (p := ⟨cb, 17, none⟩) (fun _ => rfl) _)).drew)
      have HB8 : Hid (Blk ((((wr.setCell ⟨cb, 0, none⟩ (.int .i64 a)).setCell ⟨cb, 8, none⟩ (.int .i64 b)).setCell ⟨cb, 17, none⟩ (.int .i64 e)).drew) cb ([.int .i64 a, .int .u8 q0, .int .u8 q1, .int .u8 q2, .int .u8 q3, .int .u8 q4, .int .u8 q5, .slice none 0 0, .int .i64 b] ++ (List.replicate 0 (.int .i64 d) ++ (List.replicate (8 - 0) (.int .i64 0) ++ [.int .i64 e]))) 61) := Lib.hid ((((HS.out.c.set 0 (.int .i64 a)).set 8 (.int .i64 b)).set 17 (.int .i64 e)).drew)
      have HS8 := Lib.hid (HS.out.put HK8.out HB8.out)
      have HN8 : Hid (Blk ((((wr.setCell ⟨cb, 0, none⟩ (.int .i64 a)).setCell ⟨cb, 8, none⟩ (.int .i64 b)).setCell ⟨cb, 17, none⟩ (.int .i64 e)).drew) nb [.int .i64 a, .int .i64 b, .int .i64 d, .int .i64 e] 159) := Lib.hid (HN.out.keeps HK8.out (fun h => hnbcb h))
      generalize ((((wr.setCell ⟨cb, 0, none⟩ (.int .i64 a)).setCell ⟨cb, 8, none⟩ (.int .i64 b)).setCell ⟨cb, 17, none⟩ (.int .i64 e)).drew) = w8 at *
      clear HS HN HK8 HB8 m0 m1 m3 c0' c8' c17' z0 z8 z17
      go_wp2
      go_loopw [89] (fun vi wr => ∃ i : Nat, vi = .int .i64 i ∧ i ≤ 8 ∧ Hid (CfS w wr (sBridge :: x1 :: x2 :: x3 :: x4 :: x5 :: rest) cb ([.int .i64 a, .int .u8 q0, .int .u8 q1, .int .u8 q2, .int .u8 q3, .int .u8 q4, .int .u8 q5, .slice none 0 0, .int .i64 b] ++ (List.replicate i (.int .i64 d) ++ (List.replicate (8 - i) (.int .i64 0) ++ [.int .i64 e])))) ∧ Hid (Blk wr nb [.int .i64 a, .int .i64 b, .int .i64 d, .int .i64 e] 159)) (fun vi _ => 8 - (RowKit.intOf vi).toNat)
      case atStart => exact ⟨0, rfl, by omega, HS8, HN8⟩
      case round =>
        obtain ⟨i, rfl, hi, HS, HN⟩ := hrel
        clear HS8 HN8
        by_cases hi8 : i < 8
        · obtain ⟨k, hk⟩ : ∃ k, 8 - i = k + 1 := ⟨7 - i, by omega⟩
          rw [hk] at HS
          have m2 : wr.cell? ⟨nb, 2, none⟩ = some (.int .i64 d) := HN.out.cell 2
          have cX : wr.cell? ⟨cb, 9 + i, none⟩ = some (.int .i64 0) := by rw [HS.out.c.cell]; exact get_rep [.int .i64 a, .int .u8 q0, .int .u8 q1, .int .u8 q2, .int .u8 q3, .int .u8 q4, .int .u8 q5, .slice none 0 0, .int .i64 b] [.int .i64 e] _ _ i k
          have zX := HS.out.c.frozen (9 + i)
          have HSX : Hid (∀ w', Keeps (fun k => k = cb) wr w' → Blk w' cb _ 61 → CfS w w' (sBridge :: x1 :: x2 :: x3 :: x4 :: x5 :: rest) cb _) := Lib.hid (fun w' h1 h2 => HS.out.put (cells' := [.int .i64 a, .int .u8 q0, .int .u8 q1, .int .u8 q2, .int .u8 q3, .int .u8 q4, .int .u8 q5, .slice none 0 0, .int .i64 b] ++ (List.replicate (i + 1) (.int .i64 d) ++ (List.replicate (8 - (i + 1)) (.int .i64 0) ++ [.int .i64 e]))) h1 h2)
          have HBX : Hid (Blk (wr.setCell ⟨cb, 9 + i, none⟩ (.int .i64 d)) cb ([.int .i64 a, .int .u8 q0, .int .u8 q1, .int .u8 q2, .int .u8 q3, .int .u8 q4, .int .u8 q5, .slice none 0 0, .int .i64 b] ++ (List.replicate (i + 1) (.int .i64 d) ++ (List.replicate (8 - (i + 1)) (.int .i64 0) ++ [.int .i64 e]))) 61) := Lib.hid (by
            have := HS.out.c.set (9 + i) (.int .i64 d)
            rw [show 8 - (i + 1) = k by omega]
            have e2 := set_rep [.int .i64 a, .int .u8 q0, .int .u8 q1, .int .u8 q2, .int .u8 q3, .int .u8 q4, .int .u8 q5, .slice none 0 0, .int .i64 b] [.int .i64 e] (.int .i64 d) (.int .i64 0) i k
            rw [← e2]
            exact this)
          clear hk
          go_wp2
          exact ⟨⟨i + 1, by go_num, by omega, HSX.out _ (keeps_set1 _ _ _ _) HBX.out, HN.out.keeps (keeps_set1 _ _ _ _) (fun h => hnbcb h)⟩, by simp [RowKit.intOf]; omega⟩
        · have hi8' : i = 8 := by omega
          subst hi8'
          have HS9 : Hid (CfS w wr (sBridge :: x1 :: x2 :: x3 :: x4 :: x5 :: rest) cb (cfC ⟨a, [q0, q1, q2, q3, q4, q5], [], b, List.replicate 8 d, e⟩ (.slice none 0 0))) := HS
          have HNB := Lib.hid HN.out.lt
          clear HS HN hi hi8
          have hn6 : n - 6 = rest.length := by have := HN'.out; omega
          go_wp2
          obtain ⟨i0, hi0, hz0, hz1, hz2⟩ := info_parts info70
          have hrb : rest.length ≤ 4294967000 := by have := HLN.out; omega
          go_loopw [101] (fun vi wr => ∃ (j : Nat) (ps : List Pt) (A : Option Addr) (m c : Nat), vi = .int .i64 j ∧ j ≤ rest.length ∧ ps.length = j ∧ Hid (CfS w wr (sBridge :: x1 :: x2 :: x3 :: x4 :: x5 :: rest) cb (cfC ⟨a, [q0, q1, q2, q3, q4, q5], [], b, List.replicate 8 d, e⟩ (.slice A m c))) ∧ Hid (OwnS wr (fun k => nb < k) 70 2 (.slice A m c) ps.length (ptsC ps)) ∧ Hid (portsP rest = (portsP (rest.drop j)).map (ps ++ ·)) ∧ Hid (nb < wr.heap.size)) (fun vi _ => rest.length - (RowKit.intOf vi).toNat)
          case atStart => exact ⟨0, [], none, 0, 0, rfl, Nat.zero_le _, rfl, HS9, Lib.hid (OwnS.nil _ _ _ _), Lib.hid (by simp), HNB⟩
          case round =>
            obtain ⟨j, ps, A, m, c, rfl, hj, hpj, HS, HO, HPP, HNB2⟩ := hrel
            have HPJ := Lib.hid hpj
            clear HS9 HNB hpj
            by_cases hjr : j < rest.length
            · obtain ⟨p, hp⟩ : ∃ p, rest[j]? = some p := ⟨_, List.getElem?_eq_getElem hjr⟩
              have dp : wr.cell? ⟨w.heap.size + 1, 6 + j, none⟩ = some (strV p) := by
                rw [HS.out.sp.cell, List.getElem?_map, Nat.add_comm 6 j]
                show Option.map strV rest[j]? = _
                rw [hp]; rfl
              have hpl : p.length ≤ l.length := HLE.out p (by
                have := List.mem_of_getElem? hp
                simp [this])
              have HCE := Lib.hid (fun (w' : World) => cutE_ok p (by omega) w')
              have hcl := cutE_len p
              have HNU := Lib.hid (fun (w' : World) (hg : Gl w') => number_ok (cutE p).1 (by omega) (w := w') hg)
              have HPB := Lib.hid (fun h => ports_bad HPP.out hp h)
              have HPN := Lib.hid (fun q h => ports_next (q := q) HPP.out hp h)
              have HPP' : Hid (portP p = match numP (cutE p).1 with | none => none | some x => if 1073741824 < x then none else some ⟨x, (cutE p).2⟩) := Lib.hid rfl
              clear hp hpl hcl HPP
              obtain ⟨cp, hcp⟩ : ∃ cp, cp = (cutE p).1 := ⟨_, rfl⟩
              obtain ⟨ed, hed⟩ : ∃ ed, ed = (cutE p).2 := ⟨_, rfl⟩
              rw [← hcp, ← hed] at HCE HPP'
              rw [← hcp] at HNU
              clear hcp hed
              go_upto_region 29 with (first | (go_at_call 83; refine (HCE.out _).mono ?_; rintro ev w1 ⟨rfl, rfl⟩) | (go_at_call 82; refine (HNU.out _ HS.out.gl).mono ?_; rintro ev w2 ⟨⟨v, bb, rfl, hnv⟩, k2⟩; have HS2 := Lib.hid (HS.out.same k2); have HO2 := Lib.hid (HO.out.keeps k2 (fun _ _ h => h)); have HV := Lib.hid hnv; have HS2k := Lib.hid k2.size; clear k2 hnv))
              have hnum : numP cp = if bb then some v else none := HV.out
              clear HV
              cases bb with
              | false =>
                have hpn : portsP rest = none := HPB.out (by rw [HPP'.out, show numP cp = none from hnum])
                have HA : Hid (configP l = .error (none, 4)) := Lib.hid (by rw [HCF.out, HNUMS.out]; simp only [hpn])
                clear hpn hnum
                go_wp2_with (refine wpList_putB rfl 61 (.tmp 2) (.tmp 121) rfl w.heap.size cf0 rfl rfl 61 cf0 HS2.out.r size61 rfl (by decide) ?_; intro w9 hr9 k9; have HR9 := Lib.hid hr9; have K9 := Lib.hid k9; clear hr9 k9)
                refine bodyPost_ret (results_cellT Tryz.underlying61 size61 rfl _ _ w.heap.size cf0 61 rfl HR9.out rfl) rfl ?_
                exact ⟨conf_err HA.out, HS2.out.k.up K9.out (fun k h => Nat.le_of_eq h.symm)⟩
              | true =>
                have hnum' : numP cp = some v := hnum
                clear hnum
                by_cases hv : 1073741824 < v
                · have hpn : portsP rest = none := HPB.out (by rw [HPP'.out, hnum']; exact if_pos hv)
                  have HA : Hid (configP l = .error (none, 4)) := Lib.hid (by rw [HCF.out, HNUMS.out]; simp only [hpn])
                  clear hpn hnum'
                  go_wp2_with (refine wpList_putB rfl 61 (.tmp 2) (.tmp 121) rfl w.heap.size cf0 rfl rfl 61 cf0 HS2.out.r size61 rfl (by decide) ?_; intro w9 hr9 k9; have HR9 := Lib.hid hr9; have K9 := Lib.hid k9; clear hr9 k9)
                  refine bodyPost_ret (results_cellT Tryz.underlying61 size61 rfl _ _ w.heap.size cf0 61 rfl HR9.out rfl) rfl ?_
                  exact ⟨conf_err HA.out, HS2.out.k.up K9.out (fun k h => Nat.le_of_eq h.symm)⟩
                · have hpq : portP p = some ⟨v, ed⟩ := by rw [HPP'.out, hnum']; exact if_neg hv
                  have HPX := Lib.hid (HPN.out _ hpq)
                  have c7' : w2.cell? ⟨cb, 7, none⟩ = some (.slice A m c) := HS2.out.c.cell 7
                  have hps : ps.length < rest.length := by have := HPJ.out; omega
                  clear hpq hnum' HPN HPB HPP'
                  have HNB3 := Lib.hid (Nat.lt_of_lt_of_le HNB2.out HS2k.out)
                  go_wp2_with (first | (at_builtin; refine wpList_app rfl (.tmp 124) (.tmp 128) 58 rfl 70 i0 (.agg #[.int .i64 0, .bool false]) 2 16 Tryz.underlying58 hi0 hz0 hz1 hz2 rfl (by decide) (fun k => nb < k) (.slice A m c) ps.length (ptsC ps) rfl (HO2.out.keeps ((Keeps.refl Nothing w2).alloc _) (fun _ _ h => h)) ⟨w2.heap.size, 0, none⟩ 1 1 [.int .i64 v, .bool ed] rfl rfl (lit2 w2 _ _ 70) (fun u hu => by simp at hu; rcases hu with rfl | rfl <;> rfl) (by decide) (by omega) (by omega) ?_; intro g cap w4 hO4 hk4; have hs4 := (HS2.out.same ((Keeps.refl Nothing w2).alloc _)).asideF hk4 (fun k hk => Nat.lt_trans HNC.out (HO2.out.2 k hk)); have HS4 := Lib.hid hs4; have HO4 := Lib.hid hO4; have c7 : w4.cell? ⟨cb, 7, none⟩ = some (.slice A m c) := hs4.c.cell 7; have z7 := hs4.c.frozen 7; have HSZ := Lib.hid (Nat.lt_of_lt_of_le HNB3.out (Nat.le_trans ((Keeps.refl Nothing w2).alloc _).size hk4.size)); clear hO4 hk4 hs4))
                  refine ⟨?_, ?measure⟩
                  (repeat apply Exists.intro)
                  refine ⟨?rel, rfl, rfl, rfl, rfl, rfl, rfl, rfl⟩
                  case rel =>
                    refine ⟨j + 1, by go_num, by omega, ps ++ [⟨v, ed⟩], by simp [HPJ.out], some ⟨g, 0, none⟩, ps.length + 1, cap, HS4.out.put (keeps_set1 _ _ _ _) (HS4.out.c.set 7 _), Lib.hid ?_, HPX⟩
                    have h1 := own_put HO4.out (Nat.lt_of_lt_of_le HNB3.out ((Keeps.refl Nothing w2).alloc _).size) HNC.out (.slice (some ⟨g, 0, none⟩) (ps.length + 1) cap)
                    rw [List.length_append, ptsC_snoc]
                    exact h1
                  case measure => simp [RowKit.intOf]; omega
            · have hjr' : j = rest.length := by omega
              have HPS : Hid (portsP rest = some ps) := Lib.hid (by rw [HPP.out, hjr', List.drop_length]; simp [portsP])
              have HSP' : Hid (CfS w wr (sBridge :: x1 :: x2 :: x3 :: x4 :: x5 :: rest) cb (cfC ⟨a, [q0, q1, q2, q3, q4, q5], ps, b, List.replicate 8 d, e⟩ (.slice A m c))) := HS
              have HBC := Lib.hid (bridge_check ⟨a, [q0, q1, q2, q3, q4, q5], ps, b, List.replicate 8 d, e⟩ HM.out (by simp) (.slice A m c) (by show ps.length ≤ _; have := HPJ.out; omega) wr (own_recs HO.out))
              have HD := Lib.hid (nums_d HNUMS.out)
              clear HPP HS
              cases hok : bridgeOk ⟨a, [q0, q1, q2, q3, q4, q5], ps, b, List.replicate 8 d, e⟩ with
              | false =>
                rw [bridgeE_bad (by rw [hok]; decide)] at HBC
                have HA : Hid (configP l = .error (none, 30)) := Lib.hid (by rw [HCF.out, HNUMS.out]; simp only [HPS.out]; exact if_neg (by rw [hok]; decide))
                clear hok
                go_wp2_with (first | (refine wpList_getM rfl 61 (.tmp 5) rfl cb 0 rfl (cfC ⟨a, [q0, q1, q2, q3, q4, q5], ps, b, List.replicate 8 d, e⟩ (.slice A m c)) (cfC ⟨a, [q0, q1, q2, q3, q4, q5], ps, b, List.replicate 8 d, e⟩ (.slice A m c)) 61 HSP'.out.c (by rw [List.drop_zero, List.take_length]) _ Tryz.underlying61 rfl size61 ?_) | (go_at_call 34; refine HBC.out.mono ?_; rintro ev w2 ⟨rfl, k2⟩; have HS2 := Lib.hid (HSP'.out.same k2); have HO2 := Lib.hid (HO.out.keeps k2 (fun _ _ h => h)); clear k2) | (refine wpList_putB rfl 61 (.tmp 2) (.tmp 136) rfl w.heap.size cf0 rfl rfl 61 cf0 HS2.out.r size61 rfl (by decide) ?_; intro w9 hr9 k9; have HR9 := Lib.hid hr9; have K9 := Lib.hid k9; clear hr9 k9))
                refine bodyPost_ret (results_cellT Tryz.underlying61 size61 rfl _ _ w.heap.size cf0 61 rfl HR9.out rfl) rfl ?_
                exact ⟨conf_err HA.out, HS2.out.k.up K9.out (fun k h => Nat.le_of_eq h.symm)⟩
              | true =>
                rw [bridgeE_ok hok] at HBC
                have HA : Hid (configP l = .ok ⟨a, [q0, q1, q2, q3, q4, q5], ps, b, List.replicate 8 d, e⟩) := Lib.hid (by rw [HCF.out, HNUMS.out]; simp only [HPS.out]; exact if_pos hok)
                have HP8 := Lib.hid ((bridgeOk_iff _).1 hok).2.1
                clear hok
                go_wp2_with (first | (refine wpList_getM rfl 61 (.tmp 5) rfl cb 0 rfl (cfC ⟨a, [q0, q1, q2, q3, q4, q5], ps, b, List.replicate 8 d, e⟩ (.slice A m c)) (cfC ⟨a, [q0, q1, q2, q3, q4, q5], ps, b, List.replicate 8 d, e⟩ (.slice A m c)) 61 HSP'.out.c (by rw [List.drop_zero, List.take_length]) _ Tryz.underlying61 rfl size61 ?_) | (go_at_call 34; refine HBC.out.mono ?_; rintro ev w2 ⟨rfl, k2⟩; have HS2 := Lib.hid (HSP'.out.same k2); have HO2 := Lib.hid (HO.out.keeps k2 (fun _ _ h => h)); clear k2) | (refine wpList_getM rfl 61 (.tmp 5) rfl cb 0 rfl (cfC ⟨a, [q0, q1, q2, q3, q4, q5], ps, b, List.replicate 8 d, e⟩ (.slice A m c)) (cfC ⟨a, [q0, q1, q2, q3, q4, q5], ps, b, List.replicate 8 d, e⟩ (.slice A m c)) 61 HS2.out.c (by rw [List.drop_zero, List.take_length]) _ Tryz.underlying61 rfl size61 ?_) | (refine wpList_putB rfl 61 (.tmp 2) (.tmp 139) rfl w.heap.size (cfC ⟨a, [q0, q1, q2, q3, q4, q5], ps, b, List.replicate 8 d, e⟩ (.slice A m c)) rfl rfl 61 cf0 HS2.out.r size61 rfl (by simp [cfC, Value.oneCell']) ?_; intro w9 hr9 k9; have HR9 := Lib.hid hr9; have K9 := Lib.hid k9; clear hr9 k9))
                refine bodyPost_ret (results_cellT Tryz.underlying61 size61 rfl _ _ w.heap.size (cfC ⟨a, [q0, q1, q2, q3, q4, q5], ps, b, List.replicate 8 d, e⟩ (.slice A m c)) 61 rfl HR9.out rfl) rfl ?_
                refine ⟨?_, HS2.out.k.up K9.out (fun k h => Nat.le_of_eq h.symm)⟩
                unfold ConfIs
                rw [HA.out]
                have hr2 := HRG.out d (by simp)
                have hr3 := HRG.out e (by simp)
                have hnc := HNC.out
                have hcc := HS2.out.hc
                exact ⟨⟨HM.out, rfl, HP8.out, ⟨hr2.1, HD.out⟩, hr3⟩, _, _, _, rfl, (HO2.out.keeps K9.out (fun k h1 h2 => by omega)).mono (fun k hk => by omega)⟩

theorem config_walk (l : Str) (hl : l.length < 4294967000) {w : World} (hg : Gl w) :
    Calls Tryz.prog 57 #[strV l] w fun ev w' => ConfIs w' w.heap.size l ev ∧ Keeps Nothing w w' := by
  by_cases h : ∃ x1 x2 x3 x4 x5 rest m, splitOn 32 l = sBridge :: x1 :: x2 :: x3 :: x4 :: x5 :: rest ∧ 1 ≤ rest.length ∧ parseP addrP (sNo0 ++ x2 ++ s0) = .ok m
  · obtain ⟨x1, x2, x3, x4, x5, rest, m, h1, h2, h3⟩ := h
    exact config_main l hl hg x1 x2 x3 x4 x5 rest m h1 h2 h3
  · exact config_small l hl hg (fun x1 x2 x3 x4 x5 rest m h1 h2 h3 => h ⟨x1, x2, x3, x4, x5, rest, m, h1, h2, h3⟩)
end Go.Proofs.YtdncojofilnhnaaGreatDoor
