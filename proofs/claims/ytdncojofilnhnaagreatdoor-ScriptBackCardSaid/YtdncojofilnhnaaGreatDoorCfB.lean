/- script.config: the walk. -/
import Derived.Test.YtdncojofilnhnaaGreatDoorCfA
namespace Go.Proofs.YtdncojofilnhnaaGreatDoor
open Go.RowKit Go.Lib

theorem conf_err {w w' : World} {l : Str} {k : Int} (h : configP l = .error (none, k)) :
    ConfIs w' w.heap.size l (.returned (.tuple #[.agg cf0.toArray, .iface 33 (.int .i64 k)])) := by
  unfold ConfIs
  rw [h]
  exact ⟨_, rfl, rfl⟩

/-- What stands while a first line is read. -/
structure CfS (w wr : World) (ws : List Str) (cb : Nat) (cells : List Value) : Prop where
  gl : Gl wr
  k : Keeps Nothing w wr
  r : Blk wr w.heap.size cf0 61
  sp : Blk wr (w.heap.size + 1) (ws.map strV) 9
  c : Blk wr cb cells 61
  hc : w.heap.size + 1 < cb
  big : 10 ≤ w.heap.size

/-- .. ahead of the switch's block. -/
structure CfZ (w wr : World) (ws : List Str) : Prop where
  gl : Gl wr
  k : Keeps Nothing w wr
  r : Blk wr w.heap.size cf0 61
  sp : Blk wr (w.heap.size + 1) (ws.map strV) 9
  big : 10 ≤ w.heap.size

theorem CfS.mk0 {w wr : World} {ws : List Str} (h1 : Gl wr) (h2 : Keeps Nothing w wr) (h3 : Blk wr w.heap.size cf0 61) (h4 : Blk wr (w.heap.size + 1) (ws.map strV) 9) (h5 : 10 ≤ w.heap.size) : CfZ w wr ws := ⟨h1, h2, h3, h4, h5⟩

theorem CfS.same {w wr w' : World} {ws : List Str} {cb : Nat} {cells : List Value} (h : CfS w wr ws cb cells) (hk : Keeps Nothing wr w') : CfS w w' ws cb cells :=
  ⟨h.gl.same hk, h.k.same hk, h.r.keeps hk (fun h => h), h.sp.keeps hk (fun h => h), h.c.keeps hk (fun h => h), h.hc, h.big⟩

theorem size23 : (Tryz.prog.info? 23).map (·.size) = some 6 := by kernel_rfl

theorem CfZ.start {w w2 w3 : World} {ws : List Str} (h : CfZ w w2 ws) (hb : Blk w3 w2.heap.size cf0 61) (hk : Keeps (fun k => k = w2.heap.size) (w2.alloc (.cells cf0.toArray 61)) w3) : CfS w w3 ws w2.heap.size cf0 := by
  have k0 : Keeps Nothing w2 (w2.alloc (.cells cf0.toArray 61)) := (Keeps.refl Nothing w2).alloc _
  have k1 := k0.up hk (fun k e => Nat.le_of_eq e.symm)
  exact ⟨h.gl.same k1, h.k.same k1, h.r.keeps k1 (fun h => h), h.sp.keeps k1 (fun h => h), hb, h.sp.lt, h.big⟩

/-- The switch's block is written. -/
theorem CfS.put {w wr w' : World} {ws : List Str} {cb : Nat} {cells cells' : List Value} (h : CfS w wr ws cb cells) (hk : Keeps (fun k => k = cb) wr w') (hb : Blk w' cb cells' 61) : CfS w w' ws cb cells' := by
  have := h.hc
  have hg := h.big
  exact ⟨h.gl.keeps hk (fun k hk e => by omega), h.k.up hk (fun k e => by omega), h.r.keeps hk (fun e => by omega), h.sp.keeps hk (fun e => by omega), hb, h.hc, h.big⟩

set_option maxRecDepth 100000 in
set_option maxHeartbeats 16000000 in
theorem config_small (l : Str) (hl : l.length < 4294967000) {w : World} (hg : Gl w) (hno : ∀ x1 x2 x3 x4 x5 rest m, splitOn 32 l = sBridge :: x1 :: x2 :: x3 :: x4 :: x5 :: rest → 1 ≤ rest.length → parseP addrP (sNo0 ++ x2 ++ s0) ≠ .ok m) :
    Calls Tryz.prog 57 #[strV l] w fun ev w' => ConfIs w' w.heap.size l ev ∧ Keeps Nothing w w' := by
  have k1 : Keeps Nothing w (w.alloc (.cells cf0.toArray 61)) := (Keeps.refl _ _).alloc _
  have hr1 : Blk (w.alloc (.cells cf0.toArray 61)) w.heap.size cf0 61 := Blk.new w cf0 61
  have hg1 := hg.same k1
  have hsp := split_ok l 32 (by omega) hg1
  have hsz1 : (w.alloc (.cells cf0.toArray 61)).heap.size = w.heap.size + 1 := by simp
  rw [hsz1] at hsp
  have hlen := splitOn_len 32 l
  have hle : ∀ x ∈ splitOn 32 l, x.length ≤ l.length := fun x hx => splitOn_le 32 l x hx
  have HC : Hid (configP l = configP l) := rfl
  have HSP := Lib.hid hsp
  have K1 := Lib.hid k1
  have HR1 := Lib.hid hr1
  have HG1 := Lib.hid hg1
  have HBIG := Lib.hid hg.big
  clear hg hg1 hr1 k1 hsp hsz1
  by_cases h7 : (splitOn 32 l).length < 7
  · have HA : Hid (configP l = .error (none, 4)) := Lib.hid (by unfold configP; simp only; rw [if_pos (.inl h7)])
    obtain ⟨ws, hws⟩ : ∃ ws, ws = splitOn 32 l := ⟨_, rfl⟩
    rw [← hws] at HSP h7
    obtain ⟨n, hn⟩ : ∃ n, n = ws.length := ⟨_, rfl⟩
    rw [← hn] at HSP h7
    have h7i : ((n : Int) < 7) := by omega
    clear hws hn hlen hle h7
    go_enter Tryz.func57, Tryz.ntmps57
    go_wp2_with (first | (go_at_call 19; refine HSP.out.mono ?_; rintro e w2 ⟨rfl, hb, k2⟩; have K2 := Lib.hid (K1.out.same k2); have HR2 := Lib.hid (HR1.out.keeps k2 (fun h => h)); clear hb k2) | (refine wpList_putB rfl 61 (.tmp 2) (.tmp 32) rfl w.heap.size cf0 rfl rfl 61 cf0 HR2.out size61 rfl (by decide) ?_; intro w9 hr9 k9; have HR9 := Lib.hid hr9; have K9 := Lib.hid k9; clear hr9 k9))
    refine bodyPost_ret (results_cellT Tryz.underlying61 size61 rfl _ _ w.heap.size cf0 61 rfl HR9.out rfl) rfl ?_
    exact ⟨conf_err HA.out, K2.out.up K9.out (fun k h => Nat.le_of_eq h.symm)⟩
  · obtain ⟨x0, x1, x2, x3, x4, x5, rest, hws⟩ : ∃ x0 x1 x2 x3 x4 x5 rest, splitOn 32 l = x0 :: x1 :: x2 :: x3 :: x4 :: x5 :: rest := by
      match splitOn 32 l, h7 with
      | x0 :: x1 :: x2 :: x3 :: x4 :: x5 :: rest, _ => exact ⟨_, _, _, _, _, _, _, rfl⟩
      | [], h => simp at h
      | [_], h => simp at h
      | [_, _], h => simp at h
      | [_, _, _], h => simp at h
      | [_, _, _, _], h => simp at h
      | [_, _, _, _, _], h => simp at h
    rw [hws] at h7 hlen hle HSP
    have hn : (x0 :: x1 :: x2 :: x3 :: x4 :: x5 :: rest).length = rest.length + 6 := rfl
    rw [hn] at h7 hlen HSP
    have h7i : ¬ (((rest.length + 6 : Nat) : Int) < 7) := by omega
    have hr1 : 1 ≤ rest.length := by omega
    have HLE := Lib.hid hle
    by_cases hbr : x0 = sBridge
    · subst hbr
      have HCF : Hid (configP l = match parseP addrP (sNo0 ++ x2 ++ s0) with
          | .error (n, k) => .error (some n, k)
          | .ok m => match numsP (sBridge :: x1 :: x2 :: x3 :: x4 :: x5 :: rest) with
            | none => .error (none, 4)
            | some (a, b, d, e) => match portsP rest with
              | none => .error (none, 4)
              | some ps => if bridgeOk ⟨a, m.mac, ps, b, List.replicate 8 d, e⟩ then .ok ⟨a, m.mac, ps, b, List.replicate 8 d, e⟩ else .error (none, 30)) := Lib.hid (by
        unfold configP
        simp only
        rw [hws, if_neg (by intro h; rcases h with h | h; · (have e : (sBridge :: x1 :: x2 :: x3 :: x4 :: x5 :: rest).length = rest.length + 6 := rfl); omega
                            · exact h rfl)]
        rfl)
      have hx2 : x2.length ≤ l.length := hle x2 (by simp)
      obtain ⟨s1, cs1, hs1⟩ := cat_of sNo0 x2
      obtain ⟨s2, cs2, hs2⟩ := cat_of s1 s0
      have hl1 : s1.length = 11 + x2.length := by rw [hs1]; simp [sNo0]; omega
      have hl2 : s2.length = s1.length + 2 := by rw [hs2]; simp [s0]
      rw [← hs1, ← hs2] at HCF
      have HNO : Hid (∀ m, parseP addrP s2 ≠ .ok m) := Lib.hid (fun m => by have := hno x1 x2 x3 x4 x5 rest m hws hr1; rw [← hs1, ← hs2] at this; exact this)
      clear hno
      have HP := Lib.hid (fun (w' : World) (hg : Gl w') => parse_ok s2 (by omega) (w := w') hg)
      have hlim : ¬ 9223372036854775807 < 11 + x2.length := by omega
      have hlim1 : ¬ 9223372036854775807 < s1.length + 2 := by omega
      have hlen2 : rest.length ≤ l.length := by omega
      have hqb : (sBridge == [98, 114, 105, 100, 103, 101]) = true := by decide
      unfold sNo0 at cs1
      unfold s0 at cs2
      obtain ⟨n, hnr⟩ : ∃ n, n = rest.length + 6 := ⟨_, rfl⟩
      rw [← hnr] at HSP h7i
      have HN := Lib.hid hnr
      have HLN := Lib.hid hlen2
      have HR1L := Lib.hid hr1
      clear hs1 hs2 hl1 hl2 hws h7 hle hn hnr hlen hlen2 hr1 hx2
      cases hpp : parseP addrP s2 with
      | error e =>
        obtain ⟨en, ek⟩ := e
        rw [hpp] at HCF
        have HPE : Hid (∀ w', Gl w' → Calls Tryz.prog 17 #[strV s2] w' fun ev w2 => (∃ b, ev = .returned (.tuple #[.agg #[.int .i64 0, .int .u8 0, .int .u8 0, .int .u8 0, .int .u8 0, .int .u8 0, .int .u8 0, .slice none 0 0], .iface 42 (.pointer (some ⟨b, 0, none⟩))]) ∧ WrErr w2 (.iface 42 (.pointer (some ⟨b, 0, none⟩))) (some (en, ek))) ∧ Keeps Nothing w' w2) := Lib.hid (fun w' hg => (HP.out w' hg).mono (fun ev w2 h => by
          obtain ⟨h1, h2⟩ := h
          unfold ParseIs at h1
          rw [hpp] at h1
          obtain ⟨v, hv, rfl⟩ := h1
          obtain ⟨b, hb0, rfl, hb⟩ := hv
          exact ⟨⟨b, rfl, ⟨b, hb0, rfl, hb⟩⟩, h2⟩))
        clear HP hpp
        go_enter Tryz.func57, Tryz.ntmps57
        go_upto_region 6 with (first | (go_at_call 19; refine HSP.out.mono ?_; rintro e w2 ⟨rfl, hb, k2⟩; have hs2 := CfS.mk0 (HG1.out.same k2) (K1.out.same k2) (HR1.out.keeps k2 (fun h => h)) hb HBIG.out; have HS2 := Lib.hid hs2; have d0 : w2.cell? ⟨w.heap.size + 1, 0, none⟩ = some (strV sBridge) := hb.cell 0; clear hb k2 hs2) | (refine wpList_putB rfl 61 (.tmp 5) (.tmp 34) rfl w2.heap.size cf0 rfl rfl 61 cf0 (Blk.new w2 cf0 61) size61 rfl (by decide) ?_; intro w3 hr3 k3; have hs3 := HS2.out.start hr3 k3; have d2 : w3.cell? ⟨w.heap.size + 1, 2, none⟩ = some (strV x2) := hs3.sp.cell 2; have HS3 := Lib.hid hs3; clear hr3 k3 hs3) | (go_at_call 17; refine (HPE.out _ HS3.out.gl).mono ?_; rintro e w4 ⟨⟨b, rfl, hwr⟩, k4⟩; have HWR := Lib.hid hwr; have HS4 := Lib.hid (HS3.out.same k4); clear k4 hwr))
        have HS5 := Lib.hid (HS4.out.same ((Keeps.refl Nothing w4).alloc (.cells #[.int .i64 0, .int .u8 0, .int .u8 0, .int .u8 0, .int .u8 0, .int .u8 0, .int .u8 0, .slice none 0 0] 26)))
        have HW5 := Lib.hid (WrErr.same HWR.out ((Keeps.refl Nothing w4).alloc (.cells #[.int .i64 0, .int .u8 0, .int .u8 0, .int .u8 0, .int .u8 0, .int .u8 0, .int .u8 0, .slice none 0 0] 26)))
        generalize (w4.alloc (.cells #[.int .i64 0, .int .u8 0, .int .u8 0, .int .u8 0, .int .u8 0, .int .u8 0, .int .u8 0, .slice none 0 0] 26)) = w5 at *
        clear HPE HSP HR1 HG1 K1 HS2 HS3 HS4 HWR d0 d2
        go_wp2_with (refine wpList_putB rfl 61 (.tmp 2) (.tmp 46) rfl w.heap.size cf0 rfl rfl 61 cf0 HS5.out.r size61 rfl (by decide) ?_; intro w9 hr9 k9; have HR9 := Lib.hid hr9; have K9 := Lib.hid k9; clear hr9 k9)
        refine bodyPost_ret (results_cellT Tryz.underlying61 size61 rfl _ _ w.heap.size cf0 61 rfl HR9.out rfl) rfl ?_
        refine ⟨?_, HS5.out.k.up K9.out (fun k h => Nat.le_of_eq h.symm)⟩
        unfold ConfIs
        rw [HCF.out]
        exact ⟨_, wr_apart HW5.out HS5.out.r (by decide) K9.out, rfl⟩
      | ok m =>
        exact absurd hpp (HNO.out m)
    · have HA : Hid (configP l = .error (none, 4)) := Lib.hid (by unfold configP; simp only; rw [hws, if_pos (.inr hbr)])
      have hq : (x0 == [98, 114, 105, 100, 103, 101]) = false := by simpa [sBridge] using hbr
      obtain ⟨n, hnr⟩ : ∃ n, n = rest.length + 6 := ⟨_, rfl⟩
      rw [← hnr] at HSP h7i
      clear hbr hws h7 hle hlen hn hnr
      go_enter Tryz.func57, Tryz.ntmps57
      go_wp2_with (first | (go_at_call 19; refine HSP.out.mono ?_; rintro e w2 ⟨rfl, hb, k2⟩; have K2 := Lib.hid (K1.out.same k2); have HR2 := Lib.hid (HR1.out.keeps k2 (fun h => h)); have HG2 := Lib.hid (HG1.out.same k2); have HWB := Lib.hid hb; have d0 : w2.cell? ⟨w.heap.size + 1, 0, none⟩ = some (strV x0) := hb.cell 0; have d2 : w2.cell? ⟨w.heap.size + 1, 2, none⟩ = some (strV x2) := hb.cell 2; clear hb k2) | (refine wpList_putB rfl 61 (.tmp 2) (.tmp 32) rfl w.heap.size cf0 rfl rfl 61 cf0 HR2.out size61 rfl (by decide) ?_; intro w9 hr9 k9; have HR9 := Lib.hid hr9; have K9 := Lib.hid k9; clear hr9 k9))
      refine bodyPost_ret (results_cellT Tryz.underlying61 size61 rfl _ _ w.heap.size cf0 61 rfl HR9.out rfl) rfl ?_
      exact ⟨conf_err HA.out, K2.out.up K9.out (fun k h => Nat.le_of_eq h.symm)⟩
end Go.Proofs.YtdncojofilnhnaaGreatDoor
