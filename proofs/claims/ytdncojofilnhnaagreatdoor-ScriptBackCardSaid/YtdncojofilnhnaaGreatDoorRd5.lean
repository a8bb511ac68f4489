/- What a law of scripts begins with: the walk. -/
import Derived.Test.YtdncojofilnhnaaGreatDoorTxt
import Derived.Test.YtdncojofilnhnaaGreatDoorLineW
namespace Go.Proofs.YtdncojofilnhnaaGreatDoor
open Go.RowKit Go.Lib

/-- The fixed script in memory: its block, its ports' block, its acts' block. -/
structure RdS (w wr : World) (b gp cp ga ca : Nat) : Prop where
  gl : Gl wr
  k : Keeps Nothing w wr
  c : Blk wr b [.int .i64 32768, .int .u8 2, .int .u8 0, .int .u8 0, .int .u8 0, .int .u8 0, .int .u8 1, .slice (some ⟨gp, 0, none⟩) 2 cp, .int .i64 100, .int .i64 10, .int .i64 10, .int .i64 10, .int .i64 10, .int .i64 10, .int .i64 10, .int .i64 10, .int .i64 10, .int .i64 0, .slice (some ⟨ga, 0, none⟩) 4 ca] 64
  p : OwnS wr (fun k => w.heap.size ≤ k) 70 2 (.slice (some ⟨gp, 0, none⟩) 2 cp) 2 (ptsC C1.ports)
  a : ActsAt wr (fun k => w.heap.size ≤ k) S1.length (.slice (some ⟨ga, 0, none⟩) 4 ca) [X1, X2, X3, X4]
  big : 10 ≤ w.heap.size

theorem RdS.same {w wr w' : World} {b gp cp ga ca : Nat} (h : RdS w wr b gp cp ga ca) (hk : Keeps Nothing wr w') : RdS w w' b gp cp ga ca :=
  ⟨h.gl.same hk, h.k.same hk, h.c.keeps hk (fun h => h), h.p.keeps hk (fun _ _ h => h), h.a.thru (Thru.same hk) (Thru.same hk) (Thru.same hk), h.big⟩

/-- A block of another type is written. -/
theorem RdS.put {w wr w' : World} {b gp cp ga ca x T : Nat} {l : List Value} (h : RdS w wr b gp cp ga ca) (hx : w.heap.size ≤ x) (hb : b ≠ x) (hB : Blk wr x l T) (hT : T ≠ 70 ∧ T ≠ 73 ∧ T ≠ 5 ∧ T ≠ 2) (hk : Keeps (fun k => k = x) wr w') : RdS w w' b gp cp ga ca := by
  have hg := h.big
  exact ⟨h.gl.keeps hk (fun k hk e => by omega), h.k.up hk (fun k e => by omega), h.c.keeps hk hb, h.p.other hk (not_blk hB hT.1), h.a.thru (Thru.of hk (not_blk hB hT.2.1)) (Thru.of hk (not_blk hB hT.2.2.1)) (Thru.of hk (not_blk hB hT.2.2.2)), h.big⟩

/-- As it is laid into its variable. -/
theorem RdS.start {w w1 w2 : World} {gp cp ga ca : Nat} (hg : Gl w1) (h10 : 10 ≤ w.heap.size) (hk : Keeps Nothing w w1) (hp : OwnS w1 (fun k => w.heap.size ≤ k) 70 2 (.slice (some ⟨gp, 0, none⟩) 2 cp) 2 (ptsC C1.ports)) (ha : ActsAt w1 (fun k => w.heap.size ≤ k) S1.length (.slice (some ⟨ga, 0, none⟩) 4 ca) [X1, X2, X3, X4])
    (hb : Blk w2 w1.heap.size [.int .i64 32768, .int .u8 2, .int .u8 0, .int .u8 0, .int .u8 0, .int .u8 0, .int .u8 1, .slice (some ⟨gp, 0, none⟩) 2 cp, .int .i64 100, .int .i64 10, .int .i64 10, .int .i64 10, .int .i64 10, .int .i64 10, .int .i64 10, .int .i64 10, .int .i64 10, .int .i64 0, .slice (some ⟨ga, 0, none⟩) 4 ca] 64) (k2 : Keeps (fun k => k = w1.heap.size) (w1.alloc (.cells sc0.toArray 64)) w2) : RdS w w2 w1.heap.size gp cp ga ca := by
  have ka := (Keeps.refl Nothing w1).alloc (.cells sc0.toArray 64)
  have hB := Blk.new w1 sc0 64
  have hs := hk.size
  have th : ∀ T, T ≠ 64 → Thru T w1 w2 := fun T hT => (Thru.same ka).trans (Thru.of k2 (not_blk hB (fun e => hT e.symm)))
  exact ⟨(hg.same ka).keeps k2 (fun k hk e => by omega), (hk.same ka).up k2 (fun k e => by omega), hb, th 70 (by decide) _ _ _ _ _ hp, ha.thru (th 73 (by decide)) (th 5 (by decide)) (th 2 (by decide)), h10⟩

/-- What the law reads of it. -/
theorem RdS.reads {w wr : World} {b gp cp ga ca : Nat} (h : RdS w wr b gp cp ga ca) : wr.cell? ⟨b, 7, none⟩ = some (.slice (some ⟨gp, 0, none⟩) 2 cp) ∧ wr.cell? ⟨b, 18, none⟩ = some (.slice (some ⟨ga, 0, none⟩) 4 ca) ∧ wr.cell? ⟨gp, 1, none⟩ = some (.bool true) ∧
    ∃ Ab cb, wr.cell? ⟨ga, 14, none⟩ = some (.slice Ab 2 cb) ∧ (convert 71 9 (.slice Ab 2 cb)).run Tryz.prog wr = .ok (.string ⟨#[0, 255]⟩) wr := by
  obtain ⟨g, e, -, -, hp⟩ := h.p.form (by decide)
  injection e with e
  injection e with e
  subst e
  obtain ⟨cs, ho, h2⟩ := h.a
  obtain ⟨g, e, -, -, ha⟩ := ho.form (by decide)
  injection e with e
  injection e with e
  subst e
  obtain ⟨c2, hc2⟩ : ∃ c, cs[1]? = some c := ⟨_, List.getElem?_eq_getElem (by rw [← h2.len]; decide)⟩
  obtain ⟨-, bv, cv, hce, hb, -⟩ := h2.get 1 X2 c2 rfl hc2
  obtain ⟨Ab, cb, rfl⟩ := hb.lenG
  refine ⟨h.c.cell 7, h.c.cell 18, hp 1 _ rfl, Ab, cb, ?_, ?_⟩
  · have := ha (1 * 12 + 2) (.slice Ab 2 cb) (flat_at cs 1 c2 2 _ (acts_len h2) hc2 (by rw [hce]; rfl))
    simpa using this
  · exact conv_str Tryz.underlying71 Tryz.underlying5 Tryz.underlying9 hb.slR

/-- What is written of it. -/
theorem RdS.text {w wr : World} {b gp cp ga ca : Nat} (h : RdS w wr b gp cp ga ca) :
    Calls Tryz.prog 28 #[.agg ([.int .i64 32768, .int .u8 2, .int .u8 0, .int .u8 0, .int .u8 0, .int .u8 0, .int .u8 1, .slice (some ⟨gp, 0, none⟩) 2 cp, .int .i64 100, .int .i64 10, .int .i64 10, .int .i64 10, .int .i64 10, .int .i64 10, .int .i64 10, .int .i64 10, .int .i64 10, .int .i64 0, .slice (some ⟨ga, 0, none⟩) 4 ca] : List Value).toArray] wr fun ev w' => ev = .returned (.tuple #[strV S1, .nilIface]) ∧ Keeps Nothing wr w' := by
  obtain ⟨cs, ho, h2⟩ := h.a
  have hp : RecsR wr (.slice (some ⟨gp, 0, none⟩) 2 cp) 2 (C1.ports.map ptC) := own_recsN (n := 2) (cs := C1.ports.map ptC) (by have := h.p; simpa [ptsC, ptC] using this) rfl (by decide)
  have ha : RecsR wr (.slice (some ⟨ga, 0, none⟩) 4 ca) 12 cs := own_recsN ho h2.len.symm (acts_len h2)
  have hl : S1.length ≤ 4294967000 := by decide
  refine (text_walk C1 [X1, X2, X3, X4] cs (some ⟨gp, 0, none⟩) (some ⟨ga, 0, none⟩) 2 cp 4 ca ⟨rfl, by decide⟩ rfl (by decide) (by decide) h.gl hp ha (h2.imp (fun a c hx => hx.toR hl))).mono ?_
  rintro ev w' ⟨ht, hk⟩
  unfold STextIs at ht
  rw [text_S1] at ht
  exact ⟨ht, hk⟩

theorem line_up3 {w : World} (hg : Gl w) : Calls Tryz.prog 30 #[.agg #[.int .i64 1, .int .i64 3, .slice none 0 0, .int .i64 0, .int .i64 0, .int .u8 0, .int .u8 0, .int .u8 0, .int .u8 0, .int .u8 0, .int .u8 0, .slice none 0 0]] w fun ev w' => ev = .returned (.tuple #[strV [117, 112, 32, 51], .nilIface]) ∧ Keeps Nothing w w' := by
  have hn : SlR w (.slice none 0 0) [] := SlR.empty w none 0
  refine (line_ok ⟨1, 3, [], 0, cm0⟩ ⟨by decide, by decide, ⟨rfl, by decide⟩, by decide⟩ (by decide) (by decide) (by decide) (.slice none 0 0) (.slice none 0 0) hg hn hn).mono ?_
  rintro ev w' ⟨hl, hk⟩
  unfold LineIs at hl
  rw [line_X0] at hl
  exact ⟨hl, hk⟩

theorem fault_is4 {w : World} {b : Nat} {n : Int} (h : FaultE w b n (none, 4)) : Calls Tryz.prog 18 #[.iface 76 (.pointer (some ⟨b, 0, none⟩)), .iface 33 (.int .i64 4)] w fun ev w' => ev = .returned (.bool true) ∧ w' = w := by
  have := is_ok (l := [(true, b, n)]) (e := .num 4) h.2 4
  simpa [numOf, valOf] using this

theorem fault_as {w : World} (hg : Gl w) {b t : Nat} {n : Int} {e : ErrD} (h : FaultE w b n e) {old : Value} (hB : Blk w t [old] 76) : Calls Tryz.prog 20 #[.iface 76 (.pointer (some ⟨b, 0, none⟩)), .iface 77 (.pointer (some ⟨t, 0, none⟩))] w fun ev w' => ev = .returned (.bool true) ∧ Blk w' t [.pointer (some ⟨b, 0, none⟩)] 76 ∧ Keeps (fun k => k = t) w w' := by
  obtain ⟨en, k⟩ := e
  cases en with
  | none =>
    refine (as_77 hg (l := [(true, b, n)]) (e := .num k) h.2 hB).mono ?_
    rintro ev w' ⟨hk, he, hb⟩
    exact ⟨he, hb, hk⟩
  | some m =>
    obtain ⟨b', hc⟩ := h.2
    refine (as_77 hg (l := [(true, b, n), (false, b', m)]) (e := .num k) hc hB).mono ?_
    rintro ev w' ⟨hk, he, hb⟩
    exact ⟨he, hb, hk⟩

theorem fault_code {w : World} (hg : Gl w) {b : Nat} {n : Int} {e : ErrD} (h : FaultE w b n e) : Calls Tryz.prog 15 #[.iface 76 (.pointer (some ⟨b, 0, none⟩))] w fun ev w' => ev = .returned (.int .i64 e.2) ∧ Keeps Nothing w w' := by
  obtain ⟨en, k⟩ := e
  cases en with
  | none => exact code_ok hg (l := [(true, b, n)]) (e := .num k) h.2
  | some m =>
    obtain ⟨b', hc⟩ := h.2
    exact code_ok hg (l := [(true, b, n), (false, b', m)]) (e := .num k) hc

theorem FaultE.line {w : World} {b : Nat} {n : Int} {e : ErrD} (h : FaultE w b n e) : ∃ v, Blk w b [.int .i64 n, v] 79 := by
  obtain ⟨en, k⟩ := e
  cases en with
  | none => exact ⟨_, h.2.1⟩
  | some m => obtain ⟨b', hc⟩ := h.2; exact ⟨_, hc.1⟩

theorem FaultE.put {w w' : World} {b x : Nat} {n : Int} {e : ErrD} (h : FaultE w b n e) {l : List Value} {T : Nat} (hB : Blk w x l T) (hT : T ≠ 79 ∧ T ≠ 48) (hk : Keeps (fun k => k = x) w w') : FaultE w' b n e := by
  obtain ⟨en, k⟩ := e
  refine ⟨h.1, ?_⟩
  have hne : ∀ (b' : Nat) (l' : List Value) (T' : Nat), Blk w b' l' T' → T' ≠ T → ¬ b' = x := fun b' l' T' hb hn e => by subst e; exact hn (hb.inj hB)
  cases en with
  | none => exact ⟨h.2.1.keeps hk (hne _ _ _ h.2.1 (by simpa [tyOf] using fun e => hT.1 e.symm)), trivial⟩
  | some m =>
    obtain ⟨b', hc, hd, -⟩ := h.2
    exact ⟨b', hc.keeps hk (hne _ _ _ hc (by simpa [tyOf] using fun e => hT.1 e.symm)), hd.keeps hk (hne _ _ _ hd (by simpa [tyOf] using fun e => hT.2 e.symm)), trivial⟩

set_option maxRecDepth 100000 in
set_option maxHeartbeats 16000000 in
theorem reads25_ok {w : World} (hg : Gl w) : Calls Tryz.prog 26 #[] w fun ev w' => ev = .returned (.bool true) ∧ Keeps Nothing w w' := by
  have t1 : True := trivial
  have t2 : True := trivial
  have t3 : True := trivial
  have t4 : True := trivial
  have t5 : True := trivial
  have t6 : True := trivial
  have HG := Lib.hid hg
  have HP1 : Hid (Calls Tryz.prog 29 #[strV S1] w fun ev w' => (∃ gp cp ga ca, ev = .returned (.tuple #[.agg #[.int .i64 32768, .int .u8 2, .int .u8 0, .int .u8 0, .int .u8 0, .int .u8 0, .int .u8 1, .slice (some ⟨gp, 0, none⟩) 2 cp, .int .i64 100, .int .i64 10, .int .i64 10, .int .i64 10, .int .i64 10, .int .i64 10, .int .i64 10, .int .i64 10, .int .i64 10, .int .i64 0, .slice (some ⟨ga, 0, none⟩) 4 ca], .nilIface]) ∧ (OwnS w' (fun k => w.heap.size ≤ k) 70 2 (.slice (some ⟨gp, 0, none⟩) 2 cp) 2 (ptsC C1.ports) ∧ ActsAt w' (fun k => w.heap.size ≤ k) S1.length (.slice (some ⟨ga, 0, none⟩) 4 ca) [X1, X2, X3, X4])) ∧ Keeps Nothing w w') := Lib.hid ((script_good S1 (by decide) script_S1 hg).mono (fun ev w' h => by
    obtain ⟨⟨A, n, cp, A', n', cp', he, ho, ha, -⟩, hk⟩ := h
    obtain ⟨gp, e1, e2, -, -⟩ := ho.form (by decide)
    have ha' := ha
    obtain ⟨cs, hb, -⟩ := ha
    obtain ⟨ga, e3, e4, -, -⟩ := hb.form (by decide)
    subst e1 e2 e3 e4
    exact ⟨⟨gp, cp, ga, cp', he, ho, ha'⟩, hk⟩))
  clear hg
  go_enter Tryz.func26, Tryz.ntmps26
  go_upto_region 4 with (first | (clear t1; go_at_call 29; refine (HP1.out).mono ?_; rintro e w1 ⟨⟨gp, cp, ga, ca, rfl, ho, ha⟩, k1⟩; have HO1 := Lib.hid ho; have HA1 := Lib.hid ha; have K1 := Lib.hid k1; clear ho ha k1) | (refine wpList_putB rfl 64 (.tmp 1) (.tmp 14) rfl w1.heap.size [.int .i64 32768, .int .u8 2, .int .u8 0, .int .u8 0, .int .u8 0, .int .u8 0, .int .u8 1, .slice (some ⟨gp, 0, none⟩) 2 cp, .int .i64 100, .int .i64 10, .int .i64 10, .int .i64 10, .int .i64 10, .int .i64 10, .int .i64 10, .int .i64 10, .int .i64 10, .int .i64 0, .slice (some ⟨ga, 0, none⟩) 4 ca] rfl rfl 64 sc0 (Blk.new w1 sc0 64) size64 rfl (by simp [Value.oneCell']) ?_; intro w2 hr2 k2; have HR2 := Lib.hid (RdS.start (HG.out.same K1.out) HG.out.big K1.out HO1.out HA1.out hr2 k2); clear hr2 k2) | (clear t2; go_at_call 29; refine (script_fault S2 (by decide) script_S2 HR2.out.gl).mono ?_; rintro e w3 ⟨⟨b3, rfl, hf⟩, k3⟩; have HF3 := Lib.hid hf; have HR3 := Lib.hid (HR2.out.same k3); clear hf k3) | (refine wpList_putB rfl 64 (.tmp 3) (.tmp 18) rfl w3.heap.size sc0 rfl rfl 64 sc0 (Blk.new w3 sc0 64) size64 rfl (by decide) ?_; intro w4 hr4 k4; have ka4 := (Keeps.refl Nothing w3).alloc (.cells sc0.toArray 64); have HR4 := Lib.hid ((HR3.out.same ka4).put HR3.out.k.size (by have := HR3.out.c.lt; omega) (Blk.new w3 sc0 64) (by decide) k4); have HF4 := Lib.hid ((HF3.out.same ka4).put (Blk.new w3 sc0 64) (by decide) k4); clear hr4 k4 ka4) | (clear t3; go_at_call 29; refine (script_fault S3 (by decide) script_S3 HR4.out.gl).mono ?_; rintro e w5 ⟨⟨b5, rfl, hf⟩, k5⟩; have HF5 := Lib.hid (HF4.out.same k5); have HE5 := Lib.hid hf; have HR5 := Lib.hid (HR4.out.same k5); clear hf k5) | (refine wpList_putB rfl 64 (.tmp 5) (.tmp 22) rfl w5.heap.size sc0 rfl rfl 64 sc0 (Blk.new w5 sc0 64) size64 rfl (by decide) ?_; intro w6 hr6 k6; have ka6 := (Keeps.refl Nothing w5).alloc (.cells sc0.toArray 64); have HR6 := Lib.hid ((HR5.out.same ka6).put HR5.out.k.size (by have := HR5.out.c.lt; omega) (Blk.new w5 sc0 64) (by decide) k6); have HF6 := Lib.hid ((HF5.out.same ka6).put (Blk.new w5 sc0 64) (by decide) k6); have HE6 := Lib.hid ((HE5.out.same ka6).put (Blk.new w5 sc0 64) (by decide) k6); clear hr6 k6 ka6))
  go_upto_region 6 with (first | (refine wpList_getM rfl 64 (.tmp 1) rfl w1.heap.size 0 rfl [.int .i64 32768, .int .u8 2, .int .u8 0, .int .u8 0, .int .u8 0, .int .u8 0, .int .u8 1, .slice (some ⟨gp, 0, none⟩) 2 cp, .int .i64 100, .int .i64 10, .int .i64 10, .int .i64 10, .int .i64 10, .int .i64 10, .int .i64 10, .int .i64 10, .int .i64 10, .int .i64 0, .slice (some ⟨ga, 0, none⟩) 4 ca] [.int .i64 32768, .int .u8 2, .int .u8 0, .int .u8 0, .int .u8 0, .int .u8 0, .int .u8 1, .slice (some ⟨gp, 0, none⟩) 2 cp, .int .i64 100, .int .i64 10, .int .i64 10, .int .i64 10, .int .i64 10, .int .i64 10, .int .i64 10, .int .i64 10, .int .i64 10, .int .i64 0, .slice (some ⟨ga, 0, none⟩) 4 ca] 64 HR6.out.c (by rw [List.drop_zero, List.take_length]) _ Tryz.underlying64 rfl size64 ?_) | (go_at_call 28; refine (HR6.out.text).mono ?_; rintro e w7 ⟨rfl, k7⟩; have HR7 := Lib.hid (HR6.out.same k7); have HF7 := Lib.hid (HF6.out.same k7); have HE7 := Lib.hid (HE6.out.same k7); clear k7))
  have ka8 := (Keeps.refl Nothing w7).alloc (.cells #[.pointer none] 76)
  have HR8 := Lib.hid (HR7.out.same ka8)
  have HF8 := Lib.hid (HF7.out.same ka8)
  have HE8 := Lib.hid (HE7.out.same ka8)
  have HT8 := Lib.hid (Blk.new w7 [.pointer none] 76)
  clear ka8 HO1 HA1 HP1 HF3 HF4 HF5 HF6 HF7 HE5 HE6 HE7 HR2 HR3 HR4 HR5 HR6 K1
  have hq : hexS [10] = [48, 97] := by decide
  have hpx : Lib.hasPrefix S1 [98, 114, 105, 100, 103, 101, 32, 51, 50, 55, 54, 56, 32] = true := by decide
  have HPX := Lib.hid hpx
  clear hpx
  go_wp2_with (first | (go_at_call 30; refine (line_up3 HR8.out.gl).mono ?_; rintro e w9 ⟨rfl, k9⟩; have HR9 := Lib.hid (HR8.out.same k9); have HF9 := Lib.hid (HF8.out.same k9); have HE9 := Lib.hid (HE8.out.same k9); have HT9 := Lib.hid (HT8.out.keeps k9 (fun h => h)); have hrd := HR9.out.reads; obtain ⟨r1, r2, r3, Ab, cb, r4, r5⟩ := hrd; clear k9) | (go_at_call 18; refine (fault_is4 HF9.out).mono ?_; rintro e w' ⟨rfl, rfl⟩) | (go_at_call 20; refine (fault_as HR9.out.gl HE9.out HT9.out).mono ?_; rintro e w10 ⟨rfl, hb10, k10⟩; have hne : w1.heap.size ≠ w7.heap.size := (by have := HR7.out.c.lt; omega); have HR10 := Lib.hid (HR9.out.put HR7.out.k.size hne HT9.out (by decide) k10); have HE10 := Lib.hid (HE9.out.put HT9.out (by decide) k10); obtain ⟨fv, hl⟩ := HE10.out.line; have q1 : w10.cell? ⟨w7.heap.size, 0, none⟩ = some (.pointer (some ⟨b5, 0, none⟩)) := hb10.cell 0; have q2 : w10.cell? ⟨b5, 0, none⟩ = some (.int .i64 2) := hl.cell 0; clear hl hb10 k10 hne) | (go_at_call 15; refine (fault_code HR10.out.gl HE10.out).mono ?_; rintro e w11 ⟨rfl, k11⟩; have HR11 := Lib.hid (HR10.out.same k11); clear k11) | (go_at_call 25; refine (hasPrefix_ok _ _ _).mono ?_; rintro e w' ⟨rfl, rfl⟩; rw [HPX.out]) | (go_at_call 35; refine (hex_ok [10] (by decide) _ _ (OwnF.lit _ [.int .u8 10] 5 (by simp [maxLen])).slR).mono ?_; rintro e w12 ⟨rfl, k12⟩; rw [hq]; have K12 := Lib.hid ((HR11.out.k.alloc (.cells #[.int .u8 10] 5)).same k12); clear k12))
  go_ret
  exact ⟨rfl, K12.out⟩
end Go.Proofs.YtdncojofilnhnaaGreatDoor
