/- ScriptParses: the walk. -/
import Derived.Test.YtdncojofilnhnaaGreatDoorLnW
namespace Go.Proofs.YtdncojofilnhnaaGreatDoor
open Go.RowKit Go.Lib

/-! ## the errors' numbers are small -/
theorem act_rng {l : Str} {e : ErrD} (h : actP l = .error e) : 0 ≤ e.2 ∧ e.2 ≤ 100 := by
  unfold actP at h
  simp only at h
  repeat' split at h
  all_goals first
    | (injection h with h; subst h; simp only; first | decide | (rename_i hp; have := parse_no hp; omega))
    | cases h

theorem config_rng {l : Str} {e : ErrD} (h : configP l = .error e) : 0 ≤ e.2 ∧ e.2 ≤ 100 := by
  unfold configP at h
  simp only at h
  repeat' split at h
  all_goals first
    | (injection h with h; subst h; simp only; first | decide | (rename_i hp; have := parse_no hp; omega))
    | cases h

theorem acts_rng : ∀ (ls : List Str) (i : Nat) (n : Int) (e : ErrD), actsP i ls = .error (n, e) → 0 ≤ e.2 ∧ e.2 ≤ 100
  | [], i, n, e, h => by simp only [actsP] at h; cases h
  | l :: ls, i, n, e, h => by
    simp only [actsP] at h
    split at h
    · exact acts_rng ls (i + 1) n e h
    · split at h
      · rename_i e' he
        injection h with h
        injection h with h1 h2
        subst h1 h2
        exact act_rng he
      · split at h
        · rename_i e' he
          injection h with h
          subst h
          exact acts_rng ls (i + 1) n e he
        · cases h

theorem script_rng {t : Str} {n : Int} {e : ErrD} (h : scriptP t = .error (n, e)) : 0 ≤ e.2 ∧ e.2 ≤ 100 := by
  unfold scriptP at h
  simp only at h
  split at h
  · injection h with h
    injection h with h1 h2
    subst h1 h2
    exact ⟨by decide, by decide⟩
  · split at h
    · rename_i e' he
      injection h with h
      injection h with h1 h2
      subst h1 h2
      exact config_rng he
    · split at h
      · rename_i e' he
        injection h with h
        subst h
        exact acts_rng _ _ _ _ he
      · cases h

theorem filter_at {α : Type} (p : α → Bool) : ∀ (tl : List α) (i : Nat) (l : α), tl[i]? = some l → p l = true → (tl.filter p)[((tl.take i).filter p).length]? = some l
  | [], i, l, h, _ => by simp at h
  | x :: tl, 0, l, h, hp => by
    simp at h
    subst h
    simp [hp]
  | x :: tl, i + 1, l, h, hp => by
    have := filter_at p tl i l (by simpa using h) hp
    rw [List.take_succ_cons, List.filter_cons, List.filter_cons]
    split
    · simpa using this
    · exact this

/-! ## a fault, read -/
theorem FaultE.head {w : World} {b : Nat} {n : Int} {e : ErrD} (h : FaultE w b n e) : ∃ ls er t p, valOf ls er = .iface t p ∧ Blk w b [.int .i64 n, .iface t p] 79 ∧ ChainAt w ls er ∧ codeOf er = e.2 := by
  obtain ⟨en, k⟩ := e
  cases en with
  | none => exact ⟨[], .num k, _, _, rfl, h.2.1, trivial, rfl⟩
  | some m =>
    obtain ⟨b', hc⟩ := h.2
    exact ⟨[(false, b', m)], .num k, _, _, rfl, hc.1, hc.2, rfl⟩

theorem fault_words {w : World} (hg : Gl w) {b : Nat} {n : Int} {e : ErrD} (h : FaultE w b n e) (hn : 1 ≤ n ∧ n ≤ 1000000) (he : 0 ≤ e.2 ∧ e.2 ≤ 100) : Calls Tryz.prog 32 #[.pointer (some ⟨b, 0, none⟩)] w fun ev w' => (∃ t, ev = .returned (strV (108 :: t))) ∧ Keeps Nothing w w' := by
  obtain ⟨ls, er, t, p, hv, hB, hc, hcd⟩ := h.head
  exact fault_text (l := ls) (e := er) (n := n) (by omega) (by omega) (by rw [hcd]; omega) (by rw [hcd]; omega) hg (by rw [hv]; exact hB) hc

theorem fault_is {w : World} {b : Nat} {n : Int} {e : ErrD} (h : FaultE w b n e) : Calls Tryz.prog 18 #[.iface 76 (.pointer (some ⟨b, 0, none⟩)), .iface 33 (.int .i64 e.2)] w fun ev w' => ev = .returned (.bool true) ∧ w' = w := by
  obtain ⟨en, k⟩ := e
  cases en with
  | none =>
    have := is_ok (l := [(true, b, n)]) (e := .num k) h.2 k
    simpa [numOf, valOf] using this
  | some m =>
    obtain ⟨b', hc⟩ := h.2
    have := is_ok (l := [(true, b, n), (false, b', m)]) (e := .num k) hc k
    simpa [numOf, valOf] using this

/-- What stands while the law looks at a script that was read. -/
structure PaS (w wr : World) (b : Nat) (L : List Value) (ls : List Str) (lb : Nat) (av : Value) (acs : List Ac) : Prop where
  gl : Gl wr
  k : Keeps Nothing w wr
  c : Blk wr b L 64
  a : ActsAt wr (fun k => w.heap.size ≤ k) 4294967000 av acs
  l : Blk wr lb (ls.map strV) 9
  big : 10 ≤ w.heap.size

theorem PaS.same {w wr w' : World} {b lb : Nat} {L : List Value} {ls : List Str} {av : Value} {acs : List Ac} (h : PaS w wr b L ls lb av acs) (hk : Keeps Nothing wr w') : PaS w w' b L ls lb av acs :=
  ⟨h.gl.same hk, h.k.same hk, h.c.keeps hk (fun h => h), h.a.thru (Thru.same hk) (Thru.same hk) (Thru.same hk), h.l.keeps hk (fun h => h), h.big⟩

theorem ActOk.mono {N M : Nat} (hN : N ≤ M) {a : Ac} (h : ActOk N a) : ActOk M a := ⟨h.1, Nat.le_trans h.2.1 hN, Nat.le_trans h.2.2.1 (by omega), h.2.2.2⟩

theorem ActsAt.wide {w : World} {F : Nat → Prop} {N M : Nat} (hN : N ≤ M) {v : Value} {acs : List Ac} (h : ActsAt w F N v acs) : ActsAt w F M v acs := by
  obtain ⟨cs, ho, h2⟩ := h
  exact ⟨cs, ho, h2.imp (fun _ _ h => by obtain ⟨h0, r⟩ := h; exact ⟨h0.mono hN, r⟩)⟩

theorem ActsAt.row {w : World} {F : Nat → Prop} {N : Nat} {v : Value} {acs : List Ac} (h : ActsAt w F N v acs) : ∃ A cp, v = .slice A acs.length cp := by
  obtain ⟨cs, ho, -⟩ := h
  rcases ho.1.2 with ⟨hv, h0⟩ | ⟨g, cap, cur, hv, -⟩
  · exact ⟨none, 0, by rw [hv, h0]⟩
  · exact ⟨_, _, hv⟩

/-- One act of it: its cells, and its line. -/
theorem ActsAt.one {w : World} {F : Nat → Prop} {v : Value} {acs : List Ac} {k : Nat} {a : Ac} (h : ActsAt w F 4294967000 v acs) (ha : acs[k]? = some a) : ∃ g cp C, v = .slice (some ⟨g, 0, none⟩) acs.length cp ∧ w.rangeAt g (k * 12) C ∧ C.length = 12 ∧ (∀ v ∈ C, v.oneCell' = true) ∧
    ∀ {l : Str}, lineP a = .ok l → ∀ w', Gl w' → Keeps Nothing w w' → Calls Tryz.prog 30 #[.agg C.toArray] w' fun ev w2 => ev = .returned (.tuple #[strV l, .nilIface]) ∧ Keeps Nothing w' w2 := by
  obtain ⟨cs, ho, h2⟩ := h
  have hk : k < acs.length := (List.getElem?_eq_some_iff.1 ha).1
  obtain ⟨C, hC⟩ : ∃ C, cs[k]? = some C := ⟨_, List.getElem?_eq_getElem (by rw [← h2.len]; exact hk)⟩
  obtain ⟨⟨haI, hb, hc, hk2⟩, bv, cv, hCe, hsb, hsc⟩ := h2.get k a C ha hC
  obtain ⟨A, cp, rfl⟩ : ∃ A cp, v = .slice A acs.length cp := ActsAt.row ⟨cs, ho, h2⟩
  obtain ⟨g, rfl, -, -, hg⟩ := ho.form (by omega)
  have hl12 := acts_len h2 C (List.mem_of_getElem? hC)
  refine ⟨g, cp, C, rfl, fun j u hj => hg _ u (flat_at cs k C j u (acts_len h2) hC hj), hl12, ?_, fun {l} hl w' hgl hkk => ?_⟩
  · obtain ⟨Ab, cb, rfl⟩ := hsb.lenG
    obtain ⟨Ac, cc, rfl⟩ := hsc.lenG
    rw [hCe]
    intro v hv
    simp only [actC, cmdCells, List.mem_append, List.mem_cons, List.mem_map, List.not_mem_nil, or_false] at hv
    rcases hv with (rfl | rfl | rfl | rfl) | rfl | ⟨x, -, rfl⟩ | rfl <;> rfl
  · rw [hCe]
    exact line_yes haI hk2 (by omega) (by omega) hl hgl (hsb.slR.same hkk) (hsc.slR.same hkk)


set_option maxRecDepth 100000 in
set_option maxHeartbeats 8000000 in
theorem parses_bad (t : Str) (ht : t.length ≤ 4000) {n : Int} {e : ErrD} (h : scriptP t = .error (n, e)) {w : World} (hg : Gl w) :
    Calls Tryz.prog 10 #[strV t] w fun ev w' => ev = .returned (.bool true) ∧ Keeps Nothing w w' := by
  have HG := Lib.hid hg
  obtain ⟨hek, hn1, hn2⟩ := script_bad h
  have hrg := script_rng h
  have hsl := splitOn_len 10 t
  have HP := Lib.hid (fun (w' : World) (hg : Gl w') => script_fault t (by omega) h hg)
  have HSP := Lib.hid (fun (w' : World) (hg : Gl w') => split_ok t 10 (by omega) hg)
  have HF := Lib.hid (fun (w' : World) (hg : Gl w') (b : Nat) (hf : FaultE w' b n e) => fault_words hg hf ⟨hn1, by omega⟩ hrg)
  have hi : ¬ (4000 : Int) < (t.length : Int) := by omega
  obtain ⟨m, hm⟩ : ∃ m, m = (splitOn 10 t).length := ⟨_, rfl⟩
  rw [← hm] at hn2 hsl HSP
  have hm2 : m ≤ 4001 := by omega
  have hn3 : n ≤ (m : Int) + 1 := by omega
  obtain ⟨en, ek⟩ := e
  have hek' : ¬ ek = 0 := hek
  clear hm hg hsl hrg hek h hn2
  generalize splitOn 10 t = ls at *
  have t1 : True := trivial
  go_enter Tryz.func10, Tryz.ntmps10
  go_wp2_with (first | (go_at_call 26; refine (reads25_ok HG.out).mono ?_; rintro e w1 ⟨rfl, k1⟩; have K1 := Lib.hid k1; have HG1 := Lib.hid (HG.out.same k1); clear k1) | (go_at_call 29; refine (HP.out _ HG1.out).mono ?_; rintro e w2 ⟨⟨b, rfl, hf⟩, k2⟩; have HF2 := Lib.hid hf; have K2 := Lib.hid (K1.out.same k2); have HG2 := Lib.hid (HG1.out.same k2); clear hf k2) | (refine wpList_putB rfl 64 (.tmp 3) (.tmp 20) rfl w2.heap.size sc0 rfl rfl 64 sc0 (Blk.new w2 sc0 64) size64 rfl (by decide) ?_; intro w3 hr3 k3; have ka := (Keeps.refl Nothing w2).alloc (.cells sc0.toArray 64); have hb := Blk.new w2 sc0 64; have hsz := K2.out.size; have h10 := HG.out.big; have K3 := Lib.hid ((K2.out.same ka).up k3 (fun k e => by omega)); have HG3 := Lib.hid (((HG2.out.same ka).keeps k3 (fun k hk e => by omega))); have HF3 := Lib.hid ((HF2.out.same ka).put hb (by decide) k3); have HR3 := Lib.hid hr3; clear hr3 k3 ka hb hsz h10) | (go_at_call 19; refine (HSP.out _ HG3.out).mono ?_; rintro e w4 ⟨rfl, hlb, k4⟩; have K4 := Lib.hid (K3.out.same k4); have HG4 := Lib.hid (HG3.out.same k4); have HF4 := Lib.hid (HF3.out.same k4); have HR4 := Lib.hid (HR3.out.keeps k4 (fun h => h)); have ka5 := (Keeps.refl Nothing w4).alloc (.cells #[.pointer none] 76); have HG5 := Lib.hid (HG4.out.same ka5); have HF5 := Lib.hid (HF4.out.same ka5); have HR5 := Lib.hid (HR4.out.keeps ka5 (fun h => h)); have HT5 := Lib.hid (Blk.new w4 [.pointer none] 76); have K5 := Lib.hid (K4.out.same ka5); clear hlb k4 ka5) | (go_at_call 20; refine (fault_as HG5.out HF5.out HT5.out).mono ?_; rintro e w6 ⟨rfl, hb6, k6⟩; have hsz := K4.out.size; have h10 := HG.out.big; have hne : w2.heap.size ≠ w4.heap.size := (by have := HR4.out.lt; omega); have K6 := Lib.hid (K5.out.up k6 (fun k e => by omega)); have HG6 := Lib.hid (HG5.out.keeps k6 (fun k hk e => by omega)); have HF6 := Lib.hid (HF5.out.put HT5.out (by decide) k6); have HR6 := Lib.hid (HR5.out.keeps k6 hne); have HT6 := Lib.hid hb6; have q1 : w6.cell? ⟨w4.heap.size, 0, none⟩ = some (.pointer (some ⟨b, 0, none⟩)) := hb6.cell 0; obtain ⟨fv, hl⟩ := HF6.out.line; have q2 : w6.cell? ⟨b, 0, none⟩ = some (.int .i64 n) := hl.cell 0; clear hb6 k6 hne hl hsz h10) | (go_at_call 32; refine (HF.out _ HG6.out _ HF6.out).mono ?_; rintro e w7 ⟨⟨tx, rfl⟩, k7⟩; have K7 := Lib.hid (K6.out.same k7); have HG7 := Lib.hid (HG6.out.same k7); have HF7 := Lib.hid (HF6.out.same k7); have HR7 := Lib.hid (HR6.out.keeps k7 (fun h => h)); have HT7 := Lib.hid (HT6.out.keeps k7 (fun h => h)); have q3 : w7.cell? ⟨w4.heap.size, 0, none⟩ = some (.pointer (some ⟨b, 0, none⟩)) := HT7.out.cell 0; have hne2 : ¬ ((⟨(108 :: tx).toArray⟩ : ByteArray) = ⟨#[]⟩) := (fun e => by have := strV_inj (b := []) e; cases this); clear k7) | (go_at_call 33; obtain ⟨ls', er, ty, pv, hv, hB, -, -⟩ := HF7.out.head; refine (flt_unwrap hB).mono ?_; rintro e w' ⟨rfl, rfl⟩; clear hv hB) | (clear t1; go_at_call 15; refine (fault_code HG7.out HF7.out).mono ?_; rintro e w8 ⟨rfl, k8⟩; have K8 := Lib.hid (K7.out.same k8); have HG8 := Lib.hid (HG7.out.same k8); have HF8 := Lib.hid (HF7.out.same k8); have q4 : w8.cell? ⟨w2.heap.size, 18, none⟩ = some (.slice none 0 0) := (HR7.out.keeps k8 (fun h => h)).cell 18; clear k8) | (go_at_call 15; refine (fault_code HG8.out HF8.out).mono ?_; rintro e w9 ⟨rfl, k9⟩; have K9 := Lib.hid (K8.out.same k9); have HF9 := Lib.hid (HF8.out.same k9); clear k9) | (go_at_call 18; refine (fault_is HF9.out).mono ?_; rintro e w' ⟨rfl, rfl⟩))
  all_goals go_ret
  all_goals exact ⟨by first | rfl | (simp_all; done), K9.out⟩
end Go.Proofs.YtdncojofilnhnaaGreatDoor
