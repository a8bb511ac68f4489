/- script.Parse: the walk. -/
import Derived.Test.YtdncojofilnhnaaGreatDoorScA
import Derived.Test.YtdncojofilnhnaaGreatDoorCfM
namespace Go.Proofs.YtdncojofilnhnaaGreatDoor
open Go.RowKit Go.Lib

/-- .. ahead of the script's block. -/
structure ScZ (w wr : World) (ls : List Str) : Prop where
  gl : Gl wr
  k : Keeps Nothing w wr
  r : Blk wr w.heap.size sc0 64
  sp : Blk wr (w.heap.size + 1) (ls.map strV) 9
  big : 10 ≤ w.heap.size

theorem ScZ.start {w w2 : World} {ls : List Str} (h : ScZ w w2 ls) : ScS w (w2.alloc (.cells sc0.toArray 64)) ls w2.heap.size sc0 := by
  have k0 : Keeps Nothing w2 (w2.alloc (.cells sc0.toArray 64)) := (Keeps.refl Nothing w2).alloc _
  exact ⟨h.gl.same k0, h.k.same k0, h.r.keeps k0 (fun h => h), h.sp.keeps k0 (fun h => h), Blk.new w2 sc0 64, h.sp.lt, h.big⟩

/-- What a fault comes to. -/
theorem script_err {w w8 w9 : World} {t : Str} {n : Int} {e : ErrD} {b : Nat} {v : Value} {l : List Value} (hs : scriptP t = .error (n, e)) (hb : 10 ≤ b) (hB : Blk w8 b [.int .i64 n, v] 79) (hE : ErrE w8 v e) (hr : Blk w8 w.heap.size l 64) (hk : Keeps (fun k => k = w.heap.size) w8 w9) :
    ScriptIs w9 w.heap.size t (.returned (.tuple #[.agg sc0.toArray, .iface 76 (.pointer (some ⟨b, 0, none⟩))])) := by
  unfold ScriptIs
  rw [hs]
  refine ⟨b, v, rfl, hb, hB.keeps hk (fun x => ?_), ?_⟩
  · subst x; exact absurd (hB.inj hr) (by decide)
  · obtain ⟨en, ek⟩ := e
    cases en with
    | none => exact hE
    | some en => exact wr_apart hE hr (by decide) hk

theorem wr_other {G : Nat → Prop} {a b : World} {v : Value} {n k : Int} (h : WrErr a v (some (n, k))) (hk : Keeps G a b) (hG : ∀ g, G g → ∀ cur, ¬ Blk a g cur 48) : WrErr b v (some (n, k)) := by
  obtain ⟨x, h0, h1, h2⟩ := h
  exact ⟨x, h0, h1, h2.keeps hk (fun e => hG x e _ h2)⟩

theorem drop_str {ls : List Str} {i : Nat} {l : Str} (h : ls[i]? = some l) : ls.drop i = l :: ls.drop (i + 1) := by
  obtain ⟨hl, rfl⟩ := List.getElem?_eq_some_iff.1 h
  exact List.drop_eq_getElem_cons hl

/-- What stands ahead of line i. -/
def ScInv (w wr : World) (t : Str) (ls : List Str) (sb i : Nat) : Prop :=
  (i = 0 ∧ ScS w wr ls sb sc0) ∨
  (1 ≤ i ∧ ∃ (c : Cf) (acs : List Ac) (A : Option Addr) (m cp : Nat) (A2 : Option Addr) (m2 cp2 : Nat), ScS w wr ls sb (cfC c (.slice A m cp) ++ [.slice A2 m2 cp2]) ∧
    (MacIs c.mac ∧ c.bounds = List.replicate 8 (c.bounds.headD 0) ∧ c.ports.length ≤ 8 ∧ (0 ≤ c.bounds.headD 0 ∧ c.bounds.headD 0 ≤ 1073741824) ∧ (0 ≤ c.start ∧ c.start ≤ 9223372036854775807)) ∧
    OwnS wr (fun k => sb < k) 70 2 (.slice A m cp) c.ports.length (ptsC c.ports) ∧ ActsAt wr (fun k => sb < k) t.length (.slice A2 m2 cp2) acs ∧ acs.length < i ∧ ScGo t c acs i (ls.drop i))

set_option maxRecDepth 100000 in
set_option maxHeartbeats 16000000 in
theorem script_walk (t : Str) (ht : t.length < 4294967000) {w : World} (hg : Gl w) :
    Calls Tryz.prog 29 #[strV t] w fun ev w' => ScriptIs w' w.heap.size t ev ∧ Keeps Nothing w w' := by
  have k1 : Keeps Nothing w (w.alloc (.cells sc0.toArray 64)) := (Keeps.refl _ _).alloc _
  have hr1 : Blk (w.alloc (.cells sc0.toArray 64)) w.heap.size sc0 64 := Blk.new w sc0 64
  have hg1 := hg.same k1
  have hsp := split_ok t 10 (by omega) hg1
  have hsz1 : (w.alloc (.cells sc0.toArray 64)).heap.size = w.heap.size + 1 := by simp
  rw [hsz1] at hsp
  have hle : ∀ x ∈ splitOn 10 t, x.length ≤ t.length := fun x hx => splitOn_le 10 t x hx
  have HSP := Lib.hid hsp
  have K1 := Lib.hid k1
  have HR1 := Lib.hid hr1
  have HG1 := Lib.hid hg1
  have HBIG := Lib.hid hg.big
  clear hg hg1 hr1 k1 hsp hsz1
  by_cases h2 : 2000 < (splitOn 10 t).length
  · have HA := Lib.hid (script_long h2)
    obtain ⟨ls, hls⟩ : ∃ ls, ls = splitOn 10 t := ⟨_, rfl⟩
    rw [← hls] at HSP h2
    obtain ⟨n, hn⟩ : ∃ n, n = ls.length := ⟨_, rfl⟩
    rw [← hn] at HSP h2
    have h2i : ((2000 : Int) < (n : Int)) := by omega
    clear hls hn hle h2
    go_enter Tryz.func29, Tryz.ntmps29
    go_upto_region 3 with (go_at_call 19; refine HSP.out.mono ?_; rintro e w2 ⟨rfl, hb, k2⟩; have HZ2 := Lib.hid (ScZ.mk (HG1.out.same k2) (K1.out.same k2) (HR1.out.keeps k2 (fun h => h)) hb HBIG.out); clear hb k2)
    go_wp2_with (refine wpList_putB rfl 64 (.tmp 2) (.tmp 15) rfl w.heap.size sc0 rfl rfl 64 sc0 (HZ2.out.r.alloc (.cells #[.int .i64 2001, .iface 33 (.int .i64 3)] 79)) size64 rfl (by decide) ?_; intro w9 hr9 k9; have HR9 := Lib.hid hr9; have K9 := Lib.hid k9; clear hr9 k9)
    refine bodyPost_ret (results_cellT Tryz.underlying64 size64 rfl _ _ w.heap.size sc0 64 rfl HR9.out rfl) rfl ?_
    exact ⟨script_err HA.out (Nat.le_trans HZ2.out.big HZ2.out.k.size) (Blk.new w2 [.int .i64 2001, .iface 33 (.int .i64 3)] 79) rfl (HZ2.out.r.alloc _) K9.out, (HZ2.out.k.alloc _).up K9.out (fun k h => Nat.le_of_eq h.symm)⟩
  · obtain ⟨l0, tl, hls⟩ : ∃ l0 tl, splitOn 10 t = l0 :: tl := by
      cases h : splitOn 10 t with
      | nil => exact absurd h (splitOn_ne 10 t)
      | cons a b => exact ⟨a, b, rfl⟩
    have HCONF := Lib.hid (fun e hc => script_conf (e := e) hls h2 hc)
    have HGO0 := Lib.hid (fun c hc => script_go (c := c) hls h2 hc)
    rw [hls] at hle h2 HSP
    obtain ⟨n, hn⟩ : ∃ n, n = (l0 :: tl).length := ⟨_, rfl⟩
    rw [← hn] at HSP h2
    have h2i : ¬ ((2000 : Int) < (n : Int)) := by omega
    have HN := Lib.hid hn
    have HLE := Lib.hid hle
    have HT := Lib.hid ht
    clear hls hle hn ht
    go_enter Tryz.func29, Tryz.ntmps29
    go_wp2_with (go_at_call 19; refine HSP.out.mono ?_; rintro e w2 ⟨rfl, hb, k2⟩; have HZ2 := Lib.hid (ScZ.mk (HG1.out.same k2) (K1.out.same k2) (HR1.out.keeps k2 (fun h => h)) hb HBIG.out); clear hb k2)
    have HS3 := Lib.hid HZ2.out.start
    have HSB := Lib.hid HZ2.out.sp.lt
    obtain ⟨sb, hsb⟩ : ∃ sb, sb = w2.heap.size := ⟨_, rfl⟩
    rw [← hsb] at HS3 HSB ⊢
    clear hsb HSP HR1 HG1 K1 HZ2
    go_loopw [22] (fun vi wr => ∃ i : Nat, vi = .int .i64 i ∧ i ≤ n ∧ Hid (ScInv w wr t (l0 :: tl) sb i)) (fun vi _ => n - (RowKit.intOf vi).toNat)
    case atStart => exact ⟨0, rfl, Nat.zero_le _, Lib.hid (.inl ⟨rfl, HS3.out⟩)⟩
    case round =>
      obtain ⟨i, rfl, hi, HI⟩ := hrel
      clear HS3
      by_cases hin : i < n
      · rcases HI.out with ⟨rfl, hs⟩ | ⟨h1, c, acs, A, m, cp, A2, m2, cp2, hs, hc, hown, hact, hal, hgo⟩
        · have HS := Lib.hid hs
          have d0 : wr.cell? ⟨w.heap.size + 1, 0, none⟩ = some (strV l0) := hs.sp.cell 0
          have HCF := Lib.hid (config_walk l0 (by have := HLE.out l0 (by simp); have := HT.out; omega) hs.gl)
          clear hs HI
          cases hcf : configP l0 with
          | error e =>
            have HA := Lib.hid (HCONF.out e hcf)
            obtain ⟨en, ek⟩ := e
            cases en with
            | none =>
              have HCE : Hid (Calls Tryz.prog 57 #[strV l0] wr fun ev w2 => ev = .returned (.tuple #[.agg cf0.toArray, .iface 33 (.int .i64 ek)]) ∧ Keeps Nothing wr w2) := Lib.hid (HCF.out.mono (fun ev w2 h => by
                obtain ⟨h1, h2⟩ := h
                unfold ConfIs at h1
                rw [hcf] at h1
                obtain ⟨v, hv, rfl⟩ := h1
                have hv' : v = .iface 33 (.int .i64 ek) := hv
                subst hv'
                exact ⟨rfl, h2⟩))
              clear HCF hcf
              go_upto_region 16 with (first | (go_at_call 57; refine HCE.out.mono ?_; rintro ev w4 ⟨rfl, k4⟩; have HS4 := Lib.hid (HS.out.same k4); clear k4) | (refine wpList_putM rfl 61 (.tmp 35) (.tmp 33) rfl sb 0 cf0 rfl rfl 64 [] cf0 [.slice none 0 0] HS4.out.c rfl size61 rfl (by decide) ?_; intro w5 hr5 k5; have HS5 := Lib.hid (HS4.out.put k5 (cells' := cf0 ++ [.slice none 0 0]) hr5); have K5 := Lib.hid k5; clear hr5 k5))
              go_wp2_with (refine wpList_putB rfl 64 (.tmp 2) (.tmp 52) rfl w.heap.size sc0 rfl rfl 64 sc0 (HS5.out.r.alloc (.cells #[.int .i64 1, .iface 33 (.int .i64 ek)] 79)) size64 rfl (by decide) ?_; intro w9 hr9 k9; have HR9 := Lib.hid hr9; have K9 := Lib.hid k9; clear hr9 k9)
              refine bodyPost_ret (results_cellT Tryz.underlying64 size64 rfl _ _ w.heap.size sc0 64 rfl HR9.out rfl) rfl ?_
              exact ⟨script_err HA.out (Nat.le_trans HS5.out.big HS5.out.k.size) (Blk.new w5 [.int .i64 1, .iface 33 (.int .i64 ek)] 79) rfl (HS5.out.r.alloc _) K9.out, (HS5.out.k.alloc _).up K9.out (fun k h => Nat.le_of_eq h.symm)⟩
            | some en =>
              have HCE : Hid (Calls Tryz.prog 57 #[strV l0] wr fun ev w2 => (∃ bw, ev = .returned (.tuple #[.agg cf0.toArray, .iface 42 (.pointer (some ⟨bw, 0, none⟩))]) ∧ WrErr w2 (.iface 42 (.pointer (some ⟨bw, 0, none⟩))) (some (en, ek))) ∧ Keeps Nothing wr w2) := Lib.hid (HCF.out.mono (fun ev w2 h => by
                obtain ⟨h1, h2⟩ := h
                unfold ConfIs at h1
                rw [hcf] at h1
                obtain ⟨v, hv, rfl⟩ := h1
                obtain ⟨bw, hb0, rfl, hb⟩ := hv
                exact ⟨⟨bw, rfl, ⟨bw, hb0, rfl, hb⟩⟩, h2⟩))
              clear HCF hcf
              go_upto_region 16 with (first | (go_at_call 57; refine HCE.out.mono ?_; rintro ev w4 ⟨⟨bw, rfl, hwr⟩, k4⟩; have HS4 := Lib.hid (HS.out.same k4); have HW4 := Lib.hid hwr; clear k4 hwr) | (refine wpList_putM rfl 61 (.tmp 35) (.tmp 33) rfl sb 0 cf0 rfl rfl 64 [] cf0 [.slice none 0 0] HS4.out.c rfl size61 rfl (by decide) ?_; intro w5 hr5 k5; have HS5 := Lib.hid (HS4.out.put k5 (cells' := cf0 ++ [.slice none 0 0]) hr5); have K5 := Lib.hid k5; clear hr5 k5))
              have HW5 := Lib.hid (wr_apart HW4.out HS4.out.c (by decide) K5.out)
              go_wp2_with (refine wpList_putB rfl 64 (.tmp 2) (.tmp 52) rfl w.heap.size sc0 rfl rfl 64 sc0 (HS5.out.r.alloc (.cells #[.int .i64 1, .iface 42 (.pointer (some ⟨bw, 0, none⟩))] 79)) size64 rfl (by decide) ?_; intro w9 hr9 k9; have HR9 := Lib.hid hr9; have K9 := Lib.hid k9; clear hr9 k9)
              refine bodyPost_ret (results_cellT Tryz.underlying64 size64 rfl _ _ w.heap.size sc0 64 rfl HR9.out rfl) rfl ?_
              exact ⟨script_err HA.out (Nat.le_trans HS5.out.big HS5.out.k.size) (Blk.new w5 [.int .i64 1, .iface 42 (.pointer (some ⟨bw, 0, none⟩))] 79) (WrErr.same HW5.out ((Keeps.refl Nothing w5).alloc _)) (HS5.out.r.alloc _) K9.out, (HS5.out.k.alloc _).up K9.out (fun k h => Nat.le_of_eq h.symm)⟩
          | ok c =>
            have HG0 := Lib.hid (HGO0.out c hcf)
            have HCE : Hid (Calls Tryz.prog 57 #[strV l0] wr fun ev w2 => ((MacIs c.mac ∧ c.bounds = List.replicate 8 (c.bounds.headD 0) ∧ c.ports.length ≤ 8 ∧ (0 ≤ c.bounds.headD 0 ∧ c.bounds.headD 0 ≤ 1073741824) ∧ (0 ≤ c.start ∧ c.start ≤ 9223372036854775807)) ∧ ∃ A m cp, ev = .returned (.tuple #[.agg (cfC c (.slice A m cp)).toArray, .nilIface]) ∧ OwnS w2 (fun k => wr.heap.size ≤ k) 70 2 (.slice A m cp) c.ports.length (ptsC c.ports)) ∧ Keeps Nothing wr w2) := Lib.hid (HCF.out.mono (fun ev w2 h => by
              obtain ⟨h1, h2⟩ := h
              unfold ConfIs at h1
              rw [hcf] at h1
              exact ⟨h1, h2⟩))
            clear HCF hcf
            have hsbl : sb < wr.heap.size := HS.out.c.lt
            have HSBL := Lib.hid hsbl
            clear hsbl
            go_wp2_with (first | (go_at_call 57; refine HCE.out.mono ?_; rintro ev w4 ⟨⟨hfc, A, m, cp, rfl, hown⟩, k4⟩; have HS4 := Lib.hid (HS.out.same k4); have HFC := Lib.hid hfc; have HOW := Lib.hid hown; have HLN := Lib.hid (cfC_len (c := c) hfc.1.1 (by rw [hfc.2.1]; simp) (.slice A m cp)); clear k4 hfc hown) | (refine wpList_putM rfl 61 (.tmp 35) (.tmp 33) rfl sb 0 (cfC c (.slice A m cp)) rfl rfl 64 [] cf0 [.slice none 0 0] HS4.out.c rfl (by rw [HLN.out]; exact size61) (by rw [HLN.out]; rfl) (cfC_one c A m cp) ?_; intro w5 hr5 k5; have HS5 := Lib.hid (HS4.out.put k5 (cells' := (cfC c (.slice A m cp)) ++ [.slice none 0 0]) hr5); have K5 := Lib.hid k5; clear hr5 k5))
            refine ⟨⟨1, by go_num, by omega, Lib.hid (.inr ⟨by omega, c, [], A, m, cp, none, 0, 0, HS5.out, HFC.out, (HOW.out.keeps K5.out (fun k h1 h2 => by have := HSBL.out; omega)).mono (fun k h => by have := HSBL.out; omega), ⟨[], OwnS.nil _ _ _ _, .nil⟩, by simp, ?_⟩)⟩, by simp [RowKit.intOf]; omega⟩
            unfold ScGo
            rw [HG0.out]
            rw [show (l0 :: tl).drop 1 = tl from rfl]
            cases actsP 1 tl <;> simp
        · obtain ⟨l, hl⟩ : ∃ l, (l0 :: tl)[i]? = some l := ⟨_, List.getElem?_eq_getElem (by rw [← HN.out]; exact hin)⟩
          have hdrop : (l0 :: tl).drop i = l :: (l0 :: tl).drop (i + 1) := drop_str hl
          rw [hdrop] at hgo
          have di : wr.cell? ⟨w.heap.size + 1, i, none⟩ = some (strV l) := by rw [hs.sp.cell, List.getElem?_map, hl]; rfl
          have hll : l.length ≤ t.length := HLE.out l (List.mem_of_getElem? hl)
          have hi0 : ((i : Int) == 0) = false := by simp; omega
          have hi1 : ¬ (i : Int) = 0 := by omega
          have HS := Lib.hid hs
          have HC := Lib.hid hc
          have HOW := Lib.hid hown
          have HAL := Lib.hid hal
          have HGO := Lib.hid hgo
          have HACT := Lib.hid hact
          clear hdrop hl hs hc hown hal hgo hact HI
          by_cases hle : l = []
          · subst hle
            go_wp2
            exact ⟨⟨i + 1, by go_num, by omega, Lib.hid (.inr ⟨by omega, c, acs, A, m, cp, A2, m2, cp2, HS.out, HC.out, HOW.out, HACT.out, by have := HAL.out; omega, scGo_empty HGO.out⟩)⟩, by simp [RowKit.intOf]; omega⟩
          · have hq : (l == []) = false := by simpa using hle
            obtain ⟨prio, mac, ports, places, bounds, start⟩ := c
            obtain ⟨q0, q1, q2, q3, q4, q5, hmq⟩ := sixOf HC.out.1.1
            have hmq' : mac = [q0, q1, q2, q3, q4, q5] := hmq
            subst hmq'
            obtain ⟨d, hd⟩ : ∃ d, bounds = List.replicate 8 d := ⟨_, HC.out.2.1⟩
            subst hd
            clear hmq
            obtain ⟨cs, hcs1, hcs2⟩ := HACT.out
            have HCS := Lib.hid hcs2
            have HOA : Hid (OwnS wr (fun k => sb < k ∧ ¬ k = wr.heap.size) 73 12 (.slice A2 m2 cp2) acs.length cs.flatten) := Lib.hid ⟨hcs1.1, fun g hg => ⟨hcs1.2 g hg, Nat.ne_of_lt (hcs1.lt hg)⟩⟩
            have HSBL := Lib.hid HS.out.c.lt
            have hacl : acs.length < 2000 := by have := HAL.out; omega
            obtain ⟨i0, hi0', hz0, hz1, hz2⟩ := info_parts info73
            have hG1 := HS.out.gl.same ((Keeps.refl Nothing wr).alloc (.cells act0.toArray 73))
            have HAC := Lib.hid (act_ok l (by have := HT.out; omega) hG1)
            clear hcs1 hcs2 HACT hG1
            cases hac : actP l with
            | error e =>
              have HA := Lib.hid (scGo_err HGO.out hle hac)
              obtain ⟨en, ek⟩ := e
              cases en with
              | none =>
                have HCE : Hid (Calls Tryz.prog 58 #[strV l] (wr.alloc (.cells act0.toArray 73)) fun ev w2 => ev = .returned (.tuple #[.agg act0.toArray, .iface 33 (.int .i64 ek)]) ∧ Keeps Nothing (wr.alloc (.cells act0.toArray 73)) w2) := Lib.hid (HAC.out.mono (fun ev w2 h => by
                  obtain ⟨h1, h2⟩ := h
                  unfold ActIs at h1
                  rw [hac] at h1
                  obtain ⟨v, rfl, hv⟩ := h1
                  have hv' : v = .iface 33 (.int .i64 ek) := hv
                  subst hv'
                  exact ⟨rfl, h2⟩))
                clear HAC hac hle
                go_upto_region 16 with (first | (go_at_call 58; refine (HCE.out).mono ?_; rintro ev w4 ⟨rfl, k4⟩; have k4' := ((Keeps.refl Nothing wr).alloc (.cells act0.toArray 73)).same k4; have HS4 := Lib.hid (HS.out.same k4'); have HAV4 := Lib.hid ((Blk.new wr act0 73).keeps k4 (fun h => h)); have HO4 := Lib.hid (HOA.out.keeps k4' (fun _ _ h => h)); have K4 := Lib.hid k4'; clear k4 k4') | (refine wpList_putB rfl 73 (.tmp 9) (.tmp 42) rfl wr.heap.size act0 rfl rfl 73 act0 HAV4.out size73 rfl (by simp [act0, actC, cmdCells, cm0, mac0, Value.oneCell']) ?_; intro w5 hr5 k5; have HAV5 := Lib.hid hr5; have K5 := Lib.hid k5; have HS5 := Lib.hid (HS4.out.asideF k5 (fun k hk => by have := HSBL.out; omega)); have c18 : w5.cell? ⟨sb, 18, none⟩ = some (.slice A2 m2 cp2) := HS5.out.c.cell 18; have HO5 := Lib.hid (HO4.out.keeps k5 (fun k h1 h2 => h1.2 h2)); clear hr5 k5) | (refine wpList_getM rfl 73 (.tmp 9) rfl wr.heap.size 0 rfl act0 act0 73 HAV5.out (by rw [List.drop_zero, List.take_length]) _ Tryz.underlying73 rfl size73 ?_) | (at_builtin; refine wpList_app rfl (.tmp 45) (.tmp 47) 62 rfl 73 i0 (.agg act0.toArray) 12 88 Tryz.underlying62 hi0' hz0 hz1 hz2 rfl (by decide) (fun k => sb < k ∧ ¬ k = wr.heap.size) (.slice A2 m2 cp2) acs.length cs.flatten rfl (HO5.out.keeps ((Keeps.refl Nothing w5).alloc (.cells (act0 : List Value).toArray 73)) (fun _ _ h => h)) ⟨w5.heap.size, 0, none⟩ 1 1 act0 rfl rfl (litN w5 act0 73) (by simp [act0, actC, cmdCells, cm0, mac0, Value.oneCell']) (by decide) (by omega) (by omega) ?_; intro g cap w6 hO6 hk6; have hs6 := (HS5.out.same ((Keeps.refl Nothing w5).alloc (.cells (act0 : List Value).toArray 73))).asideF hk6 (fun k hk => (HO5.out.2 k hk).1); have HS6 := Lib.hid hs6; have HO6 := Lib.hid hO6; have K6 := Lib.hid hk6; have c18' : w6.cell? ⟨sb, 18, none⟩ = some (.slice A2 m2 cp2) := hs6.c.cell 18; have z18 := hs6.c.frozen 18; clear hO6 hk6 hs6))
                have HS7 := Lib.hid (HS6.out.put (keeps_set1 w6 sb 18 (.slice (some ⟨g, 0, none⟩) (acs.length + 1) cap)) (HS6.out.c.set 18 (.slice (some ⟨g, 0, none⟩) (acs.length + 1) cap)))
                generalize (w6.setCell ⟨sb, 18, none⟩ (.slice (some ⟨g, 0, none⟩) (acs.length + 1) cap)) = w7 at *
                go_wp2_with (refine wpList_putB rfl 64 (.tmp 2) (.tmp 52) rfl w.heap.size sc0 rfl rfl 64 sc0 (HS7.out.r.alloc (.cells #[.int .i64 ((i : Int) + 1), .iface 33 (.int .i64 ek)] 79)) size64 rfl (by decide) ?_; intro w9 hr9 k9; have HR9 := Lib.hid hr9; have K9 := Lib.hid k9; clear hr9 k9)
                refine bodyPost_ret (results_cellT Tryz.underlying64 size64 rfl _ _ w.heap.size sc0 64 rfl HR9.out rfl) rfl ?_
                exact ⟨script_err HA.out (Nat.le_trans HS7.out.big HS7.out.k.size) (Blk.new w7 [.int .i64 ((i : Int) + 1), .iface 33 (.int .i64 ek)] 79) rfl (HS7.out.r.alloc _) K9.out, (HS7.out.k.alloc _).up K9.out (fun k h => Nat.le_of_eq h.symm)⟩
              | some en =>
                have HCE : Hid (Calls Tryz.prog 58 #[strV l] (wr.alloc (.cells act0.toArray 73)) fun ev w2 => (∃ bw, ev = .returned (.tuple #[.agg act0.toArray, .iface 42 (.pointer (some ⟨bw, 0, none⟩))]) ∧ WrErr w2 (.iface 42 (.pointer (some ⟨bw, 0, none⟩))) (some (en, ek))) ∧ Keeps Nothing (wr.alloc (.cells act0.toArray 73)) w2) := Lib.hid (HAC.out.mono (fun ev w2 h => by
                  obtain ⟨h1, h2⟩ := h
                  unfold ActIs at h1
                  rw [hac] at h1
                  obtain ⟨v, rfl, hv⟩ := h1
                  obtain ⟨bw, hb0, rfl, hb⟩ := hv
                  exact ⟨⟨bw, rfl, ⟨bw, hb0, rfl, hb⟩⟩, h2⟩))
                clear HAC hac hle
                go_upto_region 16 with (first | (go_at_call 58; refine (HCE.out).mono ?_; rintro ev w4 ⟨⟨bw, rfl, hwr⟩, k4⟩; have k4' := ((Keeps.refl Nothing wr).alloc (.cells act0.toArray 73)).same k4; have HS4 := Lib.hid (HS.out.same k4'); have HAV4 := Lib.hid ((Blk.new wr act0 73).keeps k4 (fun h => h)); have HO4 := Lib.hid (HOA.out.keeps k4' (fun _ _ h => h)); have K4 := Lib.hid k4'; have HW4 := Lib.hid hwr; clear hwr; clear k4 k4') | (refine wpList_putB rfl 73 (.tmp 9) (.tmp 42) rfl wr.heap.size act0 rfl rfl 73 act0 HAV4.out size73 rfl (by simp [act0, actC, cmdCells, cm0, mac0, Value.oneCell']) ?_; intro w5 hr5 k5; have HAV5 := Lib.hid hr5; have K5 := Lib.hid k5; have HS5 := Lib.hid (HS4.out.asideF k5 (fun k hk => by have := HSBL.out; omega)); have c18 : w5.cell? ⟨sb, 18, none⟩ = some (.slice A2 m2 cp2) := HS5.out.c.cell 18; have HO5 := Lib.hid (HO4.out.keeps k5 (fun k h1 h2 => h1.2 h2)); clear hr5 k5) | (refine wpList_getM rfl 73 (.tmp 9) rfl wr.heap.size 0 rfl act0 act0 73 HAV5.out (by rw [List.drop_zero, List.take_length]) _ Tryz.underlying73 rfl size73 ?_) | (at_builtin; refine wpList_app rfl (.tmp 45) (.tmp 47) 62 rfl 73 i0 (.agg act0.toArray) 12 88 Tryz.underlying62 hi0' hz0 hz1 hz2 rfl (by decide) (fun k => sb < k ∧ ¬ k = wr.heap.size) (.slice A2 m2 cp2) acs.length cs.flatten rfl (HO5.out.keeps ((Keeps.refl Nothing w5).alloc (.cells (act0 : List Value).toArray 73)) (fun _ _ h => h)) ⟨w5.heap.size, 0, none⟩ 1 1 act0 rfl rfl (litN w5 act0 73) (by simp [act0, actC, cmdCells, cm0, mac0, Value.oneCell']) (by decide) (by omega) (by omega) ?_; intro g cap w6 hO6 hk6; have hs6 := (HS5.out.same ((Keeps.refl Nothing w5).alloc (.cells (act0 : List Value).toArray 73))).asideF hk6 (fun k hk => (HO5.out.2 k hk).1); have HS6 := Lib.hid hs6; have HO6 := Lib.hid hO6; have K6 := Lib.hid hk6; have c18' : w6.cell? ⟨sb, 18, none⟩ = some (.slice A2 m2 cp2) := hs6.c.cell 18; have z18 := hs6.c.frozen 18; clear hO6 hk6 hs6))
                have HS7 := Lib.hid (HS6.out.put (keeps_set1 w6 sb 18 (.slice (some ⟨g, 0, none⟩) (acs.length + 1) cap)) (HS6.out.c.set 18 (.slice (some ⟨g, 0, none⟩) (acs.length + 1) cap)))
                have hw5 := WrErr.same (wr_apart HW4.out HAV4.out (by decide) K5.out) ((Keeps.refl Nothing w5).alloc (.cells (act0 : List Value).toArray 73))
                have hw6 := wr_other hw5 K6.out (not_own (HO5.out.keeps ((Keeps.refl Nothing w5).alloc (.cells (act0 : List Value).toArray 73)) (fun _ _ h => h)) (by decide))
                have HW7 := Lib.hid (wr_apart hw6 HS6.out.c (by decide) (keeps_set1 w6 sb 18 (.slice (some ⟨g, 0, none⟩) (acs.length + 1) cap)))
                clear hw5 hw6
                generalize (w6.setCell ⟨sb, 18, none⟩ (.slice (some ⟨g, 0, none⟩) (acs.length + 1) cap)) = w7 at *
                go_wp2_with (refine wpList_putB rfl 64 (.tmp 2) (.tmp 52) rfl w.heap.size sc0 rfl rfl 64 sc0 (HS7.out.r.alloc (.cells #[.int .i64 ((i : Int) + 1), .iface 42 (.pointer (some ⟨bw, 0, none⟩))] 79)) size64 rfl (by decide) ?_; intro w9 hr9 k9; have HR9 := Lib.hid hr9; have K9 := Lib.hid k9; clear hr9 k9)
                refine bodyPost_ret (results_cellT Tryz.underlying64 size64 rfl _ _ w.heap.size sc0 64 rfl HR9.out rfl) rfl ?_
                exact ⟨script_err HA.out (Nat.le_trans HS7.out.big HS7.out.k.size) (Blk.new w7 [.int .i64 ((i : Int) + 1), .iface 42 (.pointer (some ⟨bw, 0, none⟩))] 79) (WrErr.same HW7.out ((Keeps.refl Nothing w7).alloc _)) (HS7.out.r.alloc _) K9.out, (HS7.out.k.alloc _).up K9.out (fun k h => Nat.le_of_eq h.symm)⟩
            | ok a =>
              obtain ⟨kind, port, bytes, nanos, ⟨ck, cmac, cargs⟩⟩ := a
              have HGN := Lib.hid (scGo_ok HGO.out hle hac)
              have HCE : Hid (Calls Tryz.prog 58 #[strV l] (wr.alloc (.cells act0.toArray 73)) fun ev w2 => (ActOk t.length ⟨kind, port, bytes, nanos, ⟨ck, cmac, cargs⟩⟩ ∧ ∃ (Ab : Option Addr) (nb cb : Nat) (Ad : Option Addr) (nc cc : Nat), ev = .returned (.tuple #[.agg (actC ⟨kind, port, bytes, nanos, ⟨ck, cmac, cargs⟩⟩ (.slice Ab nb cb) (.slice Ad nc cc)).toArray, .nilIface]) ∧ OwnF w2 (fun k => (wr.alloc (.cells act0.toArray 73)).heap.size ≤ k) 5 (.slice Ab nb cb) (bcells bytes) ∧ OwnF w2 (fun k => (wr.alloc (.cells act0.toArray 73)).heap.size ≤ k) 2 (.slice Ad nc cc) (icells cargs)) ∧ Keeps Nothing (wr.alloc (.cells act0.toArray 73)) w2) := Lib.hid (HAC.out.mono (fun ev w2 h => by
                obtain ⟨h1, h2⟩ := h
                unfold ActIs at h1
                rw [hac] at h1
                obtain ⟨e1, e2, e3, e4, bv, cv, rfl, o1, o2⟩ := h1
                obtain ⟨Ab, cb, rfl⟩ := o1.lenG
                obtain ⟨Ad, cc, rfl⟩ := o2.lenG
                exact ⟨⟨⟨e1, Nat.le_trans e2 hll, Nat.le_trans e3 (by omega), e4⟩, Ab, _, cb, Ad, _, cc, rfl, o1, o2⟩, h2⟩))
              clear HAC hac hle
              go_wp2_with (first | (go_at_call 58; refine (HCE.out).mono ?_; rintro ev w4 ⟨⟨hao, Ab, nb, cb, Ad, nc, cc, rfl, o1, o2⟩, k4⟩; have k4' := ((Keeps.refl Nothing wr).alloc (.cells act0.toArray 73)).same k4; have HS4 := Lib.hid (HS.out.same k4'); have HAV4 := Lib.hid ((Blk.new wr act0 73).keeps k4 (fun h => h)); have HO4 := Lib.hid (HOA.out.keeps k4' (fun _ _ h => h)); have K4 := Lib.hid k4'; obtain ⟨p0, p1, p2, p3, p4, p5, hcm⟩ := sixOf hao.1.mac.1; obtain rfl : cmac = [p0, p1, p2, p3, p4, p5] := hcm; have HAO := Lib.hid hao; have HO1 := Lib.hid o1; have HO2 := Lib.hid o2; clear hao o1 o2; simp only [actC, cmdCells, List.map_cons, List.map_nil, List.cons_append, List.nil_append]; clear k4 k4') | (refine wpList_putB rfl 73 (.tmp 9) (.tmp 42) rfl wr.heap.size [.int .i64 kind, .int .i64 port, .slice Ab nb cb, .int .i64 nanos, .int .i64 ck, .int .u8 p0, .int .u8 p1, .int .u8 p2, .int .u8 p3, .int .u8 p4, .int .u8 p5, .slice Ad nc cc] rfl rfl 73 act0 HAV4.out size73 rfl (by simp [Value.oneCell']) ?_; intro w5 hr5 k5; have HAV5 := Lib.hid hr5; have K5 := Lib.hid k5; have HS5 := Lib.hid (HS4.out.asideF k5 (fun k hk => by have := HSBL.out; omega)); have c18 : w5.cell? ⟨sb, 18, none⟩ = some (.slice A2 m2 cp2) := HS5.out.c.cell 18; have HO5 := Lib.hid (HO4.out.keeps k5 (fun k h1 h2 => h1.2 h2)); clear hr5 k5) | (refine wpList_getM rfl 73 (.tmp 9) rfl wr.heap.size 0 rfl [.int .i64 kind, .int .i64 port, .slice Ab nb cb, .int .i64 nanos, .int .i64 ck, .int .u8 p0, .int .u8 p1, .int .u8 p2, .int .u8 p3, .int .u8 p4, .int .u8 p5, .slice Ad nc cc] [.int .i64 kind, .int .i64 port, .slice Ab nb cb, .int .i64 nanos, .int .i64 ck, .int .u8 p0, .int .u8 p1, .int .u8 p2, .int .u8 p3, .int .u8 p4, .int .u8 p5, .slice Ad nc cc] 73 HAV5.out (by rw [List.drop_zero, List.take_length]) _ Tryz.underlying73 rfl size73 ?_) | (at_builtin; refine wpList_app rfl (.tmp 45) (.tmp 47) 62 rfl 73 i0 (.agg act0.toArray) 12 88 Tryz.underlying62 hi0' hz0 hz1 hz2 rfl (by decide) (fun k => sb < k ∧ ¬ k = wr.heap.size) (.slice A2 m2 cp2) acs.length cs.flatten rfl (HO5.out.keeps ((Keeps.refl Nothing w5).alloc (.cells ([.int .i64 kind, .int .i64 port, .slice Ab nb cb, .int .i64 nanos, .int .i64 ck, .int .u8 p0, .int .u8 p1, .int .u8 p2, .int .u8 p3, .int .u8 p4, .int .u8 p5, .slice Ad nc cc] : List Value).toArray 73)) (fun _ _ h => h)) ⟨w5.heap.size, 0, none⟩ 1 1 [.int .i64 kind, .int .i64 port, .slice Ab nb cb, .int .i64 nanos, .int .i64 ck, .int .u8 p0, .int .u8 p1, .int .u8 p2, .int .u8 p3, .int .u8 p4, .int .u8 p5, .slice Ad nc cc] rfl rfl (litN w5 [.int .i64 kind, .int .i64 port, .slice Ab nb cb, .int .i64 nanos, .int .i64 ck, .int .u8 p0, .int .u8 p1, .int .u8 p2, .int .u8 p3, .int .u8 p4, .int .u8 p5, .slice Ad nc cc] 73) (by simp [Value.oneCell']) (by decide) (by omega) (by omega) ?_; intro g cap w6 hO6 hk6; have hs6 := (HS5.out.same ((Keeps.refl Nothing w5).alloc (.cells ([.int .i64 kind, .int .i64 port, .slice Ab nb cb, .int .i64 nanos, .int .i64 ck, .int .u8 p0, .int .u8 p1, .int .u8 p2, .int .u8 p3, .int .u8 p4, .int .u8 p5, .slice Ad nc cc] : List Value).toArray 73))).asideF hk6 (fun k hk => (HO5.out.2 k hk).1); have HS6 := Lib.hid hs6; have HO6 := Lib.hid hO6; have K6 := Lib.hid hk6; have c18' : w6.cell? ⟨sb, 18, none⟩ = some (.slice A2 m2 cp2) := hs6.c.cell 18; have z18 := hs6.c.frozen 18; clear hO6 hk6 hs6))
              have hsbl := HSBL.out
              have k6a := (Keeps.refl Nothing w5).alloc (.cells ([.int .i64 kind, .int .i64 port, .slice Ab nb cb, .int .i64 nanos, .int .i64 ck, .int .u8 p0, .int .u8 p1, .int .u8 p2, .int .u8 p3, .int .u8 p4, .int .u8 p5, .slice Ad nc cc] : List Value).toArray 73)
              have own6 := HO5.out.keeps k6a (fun _ _ h => h)
              have k7 := keeps_set1 w6 sb 18 (.slice (some ⟨g, 0, none⟩) (acs.length + 1) cap)
              have th : ∀ T, T ≠ 73 → T ≠ 64 → Thru T w4 (w6.setCell ⟨sb, 18, none⟩ (.slice (some ⟨g, 0, none⟩) (acs.length + 1) cap)) := fun T h1 h2 => (((Thru.of K5.out (not_blk HAV4.out h1.symm)).trans (Thru.same k6a)).trans (Thru.of K6.out (not_own own6 h1.symm))).trans (Thru.of k7 (not_blk HS6.out.c h2.symm))
              have t5 := (Thru.same K4.out).trans (th 5 (by decide) (by decide))
              have t2 := (Thru.same K4.out).trans (th 2 (by decide) (by decide))
              have t70 := (Thru.same K4.out).trans (th 70 (by decide) (by decide))
              have hsz : (wr.alloc (.cells act0.toArray 73)).heap.size = wr.heap.size + 1 := by simp
              have hs5 : sb < (w5.alloc (.cells ([.int .i64 kind, .int .i64 port, .slice Ab nb cb, .int .i64 nanos, .int .i64 ck, .int .u8 p0, .int .u8 p1, .int .u8 p2, .int .u8 p3, .int .u8 p4, .int .u8 p5, .slice Ad nc cc] : List Value).toArray 73)).heap.size := Nat.lt_of_lt_of_le HS5.out.c.lt k6a.size
              have hrow := (HO6.out.keeps k7 (fun k h1 h2 => by omega)).mono (G := fun k => sb < k) (fun k h => by omega)
              exact ⟨⟨i + 1, by go_num, by omega, Lib.hid (.inr ⟨by omega, ⟨prio, [q0, q1, q2, q3, q4, q5], ports, places, List.replicate 8 d, start⟩, acs ++ [⟨kind, port, bytes, nanos, ⟨ck, [p0, p1, p2, p3, p4, p5], cargs⟩⟩], A, m, cp, some ⟨g, 0, none⟩, acs.length + 1, cap, HS6.out.put k7 (HS6.out.c.set 18 _), HC.out, t70 _ _ _ _ _ HOW.out, ⟨cs ++ [[.int .i64 kind, .int .i64 port, .slice Ab nb cb, .int .i64 nanos, .int .i64 ck, .int .u8 p0, .int .u8 p1, .int .u8 p2, .int .u8 p3, .int .u8 p4, .int .u8 p5, .slice Ad nc cc]], by
                rw [List.length_append, List.flatten_append]
                simpa using hrow, (HCS.out.imp (fun a b h => h.thru t5 t2)).snoc ⟨HAO.out, .slice Ab nb cb, .slice Ad nc cc, rfl, ((th 5 (by decide) (by decide) _ _ _ _ _ HO1.out.toS).toF).mono (fun k h => by omega), ((th 2 (by decide) (by decide) _ _ _ _ _ HO2.out.toS).toF).mono (fun k h => by omega)⟩⟩, by have := HAL.out; simp; omega, HGN.out⟩)⟩, by simp [RowKit.intOf]; omega⟩
      · have hin' : i = n := by omega
        rcases HI.out with ⟨h0, -⟩ | ⟨h1, c, acs, A, m, cp, A2, m2, cp2, hs, hc, hown, hact, hal, hgo⟩
        · exfalso
          have := HN.out
          simp at this
          omega
        · rw [hin', HN.out, List.drop_length] at hgo
          have HEND := Lib.hid (scGo_end hgo)
          have hlen : (cfC c (.slice A m cp) ++ [Value.slice A2 m2 cp2]).length = 19 := by rw [List.length_append, cfC_len hc.1.1 (by rw [hc.2.1]; simp)]; rfl
          have HLEN := Lib.hid hlen
          have HS := Lib.hid hs
          have HC := Lib.hid hc
          have HOW := Lib.hid hown
          have HACT := Lib.hid hact
          clear hlen hs hc hown hact hgo hal HI
          go_wp2_with (first | (refine wpList_getM rfl 64 (.tmp 5) rfl sb 0 rfl (cfC c (.slice A m cp) ++ [.slice A2 m2 cp2]) (cfC c (.slice A m cp) ++ [.slice A2 m2 cp2]) 64 HS.out.c (by rw [List.drop_zero, List.take_length]) _ Tryz.underlying64 rfl (by rw [HLEN.out]; exact size64) ?_) | (refine wpList_putB rfl 64 (.tmp 2) (.tmp 60) rfl w.heap.size (cfC c (.slice A m cp) ++ [.slice A2 m2 cp2]) rfl rfl 64 sc0 HS.out.r (by rw [HLEN.out]; exact size64) (by rw [HLEN.out]; rfl) (fun v hv => by rcases List.mem_append.1 hv with h | h; exact cfC_one c A m cp v h; simp at h; subst h; rfl) ?_; intro w9 hr9 k9; have HR9 := Lib.hid hr9; have K9 := Lib.hid k9; clear hr9 k9))
          refine bodyPost_ret (results_cellT Tryz.underlying64 size64 rfl _ _ w.heap.size (cfC c (.slice A m cp) ++ [.slice A2 m2 cp2]) 64 rfl HR9.out HLEN.out) rfl ?_
          refine ⟨?_, HS.out.k.up K9.out (fun k h => Nat.le_of_eq h.symm)⟩
          unfold ScriptIs
          rw [HEND.out]
          have hsb := HSB.out
          have t5 := Thru.of (T := 5) K9.out (not_blk HS.out.r (by decide))
          have t2 := Thru.of (T := 2) K9.out (not_blk HS.out.r (by decide))
          obtain ⟨cs, ho, h2⟩ := HACT.out
          exact ⟨HC.out, A, m, cp, A2, m2, cp2, rfl, (HOW.out.keeps K9.out (fun k h1 h2 => by omega)).mono (fun k h => by omega), cs, (ho.keeps K9.out (fun k h1 h2 => by omega)).mono (fun k h => by omega), h2.imp (fun a b h => (h.thru t5 t2).mono (fun k h => by omega))⟩
end Go.Proofs.YtdncojofilnhnaaGreatDoor
