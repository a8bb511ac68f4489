/- A frame that fits into no opening of its gate: the walk. -/
import Derived.Test.YtimgmobmagpmlaaNevP
namespace Go.Proofs.Ytimgmobmagpmlaa
open Go.RowKit

theorem nS1_cnt (g cap : Nat) (o : Int) : (nS1 g cap o).cnt = 1 := rfl
theorem nS2_cnt (g cap g2 cap2 : Nat) (o t : Int) : (nS2 g cap g2 cap2 o t).cnt = 2 := rfl

theorem nev_none {S : Sch} {k : Nat} {now : Int} (hf : fitsOf S 0 now (timeOf k 1000) = -1) {v : Value} {E' : Eg} (h : Starts (nE S k 2 [0]) now v E') : v = noneV ∧ E' = nE S k 2 [0] := by
  cases h with
  | down hd => exact ⟨rfl, rfl⟩
  | none hs hu hb hh hc => exact ⟨rfl, rfl⟩
  | goes hs c x q hu hb hh hc hc8 hq =>
    have := nE_class (by decide) hh 7 (by decide)
    rw [hc, hf, if_neg (by simp [Hd.goes])] at this
    omega

theorem nev_wake {S : Sch} {k : Nat} {now : Int} (hw : S.waits = false) (hf : fitsOf S 0 now (timeOf k 1000) = -1) {t : Int} (h : Wakes (nE S k 2 [0]) now t) : t = -1 := by
  have hk1 : (nE S k 2 [0]).wk1 = -1 := if_neg (by rw [show (nE S k 2 [0]).S = S from rfl, hw]; decide)
  cases h with
  | busy hb => cases hb
  | down hb hu => cases hu
  | up hs hb hu hh =>
    rw [hk1, nE_wake (by decide) hh, hf]
    have e : wakeStep now (-1) ⟨k, -1, 0⟩ = -1 := by unfold wakeStep; rw [if_pos (.inr (by show (-1 : Int) < 0; decide))]
    rw [e]; rfl

theorem nev_wake2 {S : Sch} {k : Nat} (hw : S.waits = true) (hd : S.due = 100000) (hk : 0 < k) (hf : fitsOf S 0 5 (timeOf k 1000) = 100000) {t : Int} (h : Wakes (nE S k 2 [0]) 5 t) : t = 100000 := by
  have hk1 : (nE S k 2 [0]).wk1 = 100000 := by
    unfold Eg.wk1
    rw [show (nE S k 2 [0]).S = S from rfl, if_pos hw, hd]; rfl
  cases h with
  | busy hb => cases hb
  | down hb hu => cases hu
  | up hs hb hu hh =>
    rw [hk1, nE_wake (by decide) hh, hf]
    have e : wakeStep 5 (-1) ⟨k, 100000, 0⟩ = 100000 := by
      unfold wakeStep
      rw [if_neg (by simp; omega)]
      rfl
    rw [e]; rfl

theorem nev_start3 {S : Sch} {k : Nat} (hk : 0 < k) (hf : fitsOf S 0 100000 (timeOf k 1000) = 100000) {v : Value} {E' : Eg} (h : Starts (nE S k 2 [0]) 100000 v E') :
    v = .tuple #[.agg #[.int .i64 0, .int .i64 0, .int .i64 100000, .int .i64 (100000 + timeOf k 1000)], .bool true] := by
  have e : sizeP (nE S k 2 [0]).ps 0 = k := by
    unfold sizeP
    rw [show heldOf (nE S k 2 [0]).ps 0 = 2 from rfl, if_neg (by omega)]
    simp [nE, zN]
  cases h with
  | down hd => rcases hd with h | h <;> cases h
  | none hs hu hb hh hc =>
    have : classGo hs 100000 8 = _ := nE_class (by decide) hh 7 (by decide)
    rw [hf, if_pos (by simp [Hd.goes]; omega)] at this
    omega
  | goes hs c x q hu hb hh hc hc8 hq =>
    have : classGo hs 100000 8 = _ := nE_class (by decide) hh 7 (by decide)
    rw [hf, if_pos (by simp [Hd.goes]; omega)] at this
    obtain rfl : c = 0 := by omega
    have hx : ([0] : List Int) = x :: q := hq
    injection hx with hx _
    subst hx
    rw [e]
    rfl

theorem nev_take (S : Sch) (k : Nat) : takeV (nE S 0 0 []).ps = .tuple #[.int .i64 0, .int .i64 0] ∧ ({ nE S 0 0 [] with ps := takeP (nE S 0 0 []).ps (zN k) } : Eg) = nE S k 1 [] := ⟨rfl, rfl⟩

theorem nev_push (S : Sch) {k : Nat} (hk : 0 < k) : (nE S k 1 []).pushErr 0 0 = 0 ∧ (nE S k 1 []).pushed 0 0 = nE S k 2 [0] := by
  have e : sizeP (nE S k 1 []).ps 0 = k := by
    unfold sizeP
    rw [show heldOf (nE S k 1 []).ps 0 = 1 from rfl, if_neg (by omega)]
    simp [nE, zN]
  have hz : ¬ sizeP (nE S k 1 []).ps 0 = 0 := by rw [e]; omega
  have hup : ¬ (nE S k 1 []).up = false := by show ¬ true = false; decide
  have hr : errR (nE S k 1 []).rs 0 = 0 := rfl
  constructor
  · unfold Eg.pushErr; rw [if_neg hup, if_neg hz, hr]
  · unfold Eg.pushed; rw [if_neg hup, if_neg hz, if_pos hr]; rfl

set_option maxRecDepth 100000 in
theorem never_out {w : World} (o k : Int) (h : k < 64 ∨ 1522 < k ∨ o < 1 ∨ (64 ≤ k ∧ k ≤ 1522 ∧ 1 ≤ o ∧ timeOf k 1000 ≤ o)) :
    Calls Try.prog 7 #[.int .i64 o, .int .i64 k] w (TrueKept w) := by
  have h2 : k < 64 ∨ (decide (k < 64) = false ∧ 1522 < k) ∨ (decide (k < 64) = false ∧ decide (1522 < k) = false ∧ o < 1) ∨ (decide (k < 64) = false ∧ decide (1522 < k) = false ∧ decide (o < 1) = false ∧ 64 ≤ k ∧ k ≤ 1522 ∧ timeOf k 1000 ≤ o) := by
    by_cases h1 : k < 64
    · exact .inl h1
    · by_cases h2 : 1522 < k
      · exact .inr (.inl ⟨decide_eq_false h1, h2⟩)
      · by_cases h3 : o < 1
        · exact .inr (.inr (.inl ⟨decide_eq_false h1, decide_eq_false h2, h3⟩))
        · exact .inr (.inr (.inr ⟨decide_eq_false h1, decide_eq_false h2, decide_eq_false h3, by omega, by omega, by omega⟩))
  clear h
  rcases h2 with h | ⟨h, h'⟩ | ⟨h, h', h''⟩ | ⟨h, h', h'', h3, h4, h5⟩
  · go_enter Try.func7, Try.ntmps7
    go_wp2_with (go_at_call 8; refine (sends_ok _).mono ?_; rintro e w1 ⟨rfl, k1⟩)
    go_ret
    exact ⟨rfl, k1⟩
  · go_enter Try.func7, Try.ntmps7
    go_wp2_with (go_at_call 8; refine (sends_ok _).mono ?_; rintro e w1 ⟨rfl, k1⟩)
    go_ret
    exact ⟨rfl, k1⟩
  · go_enter Try.func7, Try.ntmps7
    go_wp2_with (go_at_call 8; refine (sends_ok _).mono ?_; rintro e w1 ⟨rfl, k1⟩)
    go_ret
    exact ⟨rfl, k1⟩
  · have C := fun v => time_ok v k 1000 (.inr (.inr (.inl rfl))) (by omega) h4
    generalize timeOf k 1000 = tm at *
    go_enter Try.func7, Try.ntmps7
    go_wp2_with (first | (go_at_call 8; refine (sends_ok _).mono ?_; rintro e w1 ⟨rfl, k1⟩) | (go_at_call 16; refine (C _).mono ?_; rintro e w2 ⟨rfl, rfl⟩))
    go_ret
    exact ⟨rfl, k1⟩

set_option maxRecDepth 100000 in
set_option maxHeartbeats 8000000 in
theorem never_in {w : World} (o : Int) (k : Nat) (hk0 : 64 ≤ k) (hk1 : k ≤ 1522) (ho : 1 ≤ o) (hot : o < timeOf k 1000) :
    Calls Try.prog 7 #[.int .i64 o, .int .i64 (k : Nat)] w (TrueKept w) := by
  obtain ⟨i0, hi0, hz0, hz1, hz2⟩ := info_parts Try.info5
  have q1 : decide ((k : Int) < 64) = false := decide_eq_false (by omega)
  have q2 : decide ((1522 : Int) < (k : Int)) = false := decide_eq_false (by omega)
  have q3 : decide (o < 1) = false := decide_eq_false (by omega)
  have C16 := fun v => time_ok v k 1000 (.inr (.inr (.inl rfl))) (by omega) (by omega)
  have htr := timeOf_range (b := (k : Int)) (n := 1000) (.inr (.inr (.inl rfl))) (by omega) (by omega)
  have htr2 : timeOf (k : Int) 1000 ≤ 20000 := by unfold timeOf; rw [Int.tdiv_eq_ediv_of_nonneg (by omega)]; omega
  have F1 := fun g cap => Lib.hid (never1 (g := g) (cap := cap) ho (by omega : o ≤ 20000) hot)
  have F2 := fun g cap g2 cap2 => Lib.hid (first2 (g := g) (cap := cap) (g2 := g2) (cap2 := cap2) ho hot htr2)
  have F3 := fun g2 cap2 => Lib.hid (first3 (g2 := g2) (cap2 := cap2) (by omega : 1 ≤ timeOf (k : Int) 1000) htr2)
  obtain ⟨tm, htm⟩ : ∃ tm, tm = timeOf (k : Int) 1000 := ⟨_, rfl⟩
  have HTM := Lib.hid htm
  rw [← htm] at C16 htr htr2 hot
  have q4 : decide (tm ≤ o) = false := decide_eq_false (by omega)
  clear htm
  go_enter Try.func7, Try.ntmps7
  go_upto_region 9 with (first
    | (go_at_call 8; refine (sends_ok _).mono ?_; rintro e w1 ⟨rfl, k1⟩)
    | (go_at_call 16; refine (C16 _).mono ?_; rintro e w1 ⟨rfl, rfl⟩)
    | (go_at_call 9; refine (new_any 2 _ 2 (by decide)).mono ?_; rintro e w2 ⟨pp, F, rfl, hP, hF, k2⟩))
  have C10 := new_eg hP 1000 (.inr (.inr (.inl rfl))) 5 0 0 0 0 0 0 0
  go_upto_region 10 with (go_at_call 10; refine C10.mono ?_; rintro e w3 ⟨G, rfl, hpp, hE, hn, -, k3⟩; clear C10)
  have hE : EgIn w3 G n0 := hE
  have HR := Lib.hid (Run.start (pp := pp) (k1.same k2) (fun x hx => by have := hF x hx; have := k1.size; omega) hE hn k3)
  subst hpp
  clear hP hF k1 k2 hE hn k3
  go_upto_region 11 with (go_at_call 11; refine (link_plain HR.out.at_ n0_pl (by decide) n0_val n0_link).mono ?_; rintro e w4 ⟨rfl, hW⟩; have HR4 := Lib.hid (HR.out.went hW); clear HR hW)
  go_upto_region 12 with fail
  have HBe := Lib.hid (Blk.new w4 [.int .i64 1, .int .i64 o, .int .i64 0, .int .i64 1] 61)
  have HBl : Hid (Blk ((w4.alloc (.cells #[.int .i64 1, .int .i64 o, .int .i64 0, .int .i64 1] 61)).alloc (.cells #[.int .i64 0, .int .i64 100000, .int .i64 0, .slice (some ⟨w4.heap.size, 0, none⟩) 2 2] 56)) (w4.heap.size + 1) [.int .i64 0, .int .i64 100000, .int .i64 0, .slice (some ⟨w4.heap.size, 0, none⟩) 2 2] 56) := by
    have := Blk.new (w4.alloc (.cells #[.int .i64 1, .int .i64 o, .int .i64 0, .int .i64 1] 61)) [.int .i64 0, .int .i64 100000, .int .i64 0, .slice (some ⟨w4.heap.size, 0, none⟩) 2 2] 56
    rwa [show (w4.alloc (.cells #[.int .i64 1, .int .i64 o, .int .i64 0, .int .i64 1] 61)).heap.size = w4.heap.size + 1 by simp] at this
  have HBe5 := Lib.hid (HBe.out.alloc (.cells #[.int .i64 0, .int .i64 100000, .int .i64 0, .slice (some ⟨w4.heap.size, 0, none⟩) 2 2] 56))
  have HR5 := Lib.hid ((HR4.out.same ((Keeps.refl Nothing w4).alloc (.cells #[.int .i64 1, .int .i64 o, .int .i64 0, .int .i64 1] 61))).same ((Keeps.refl Nothing _).alloc (.cells #[.int .i64 0, .int .i64 100000, .int .i64 0, .slice (some ⟨w4.heap.size, 0, none⟩) 2 2] 56)))
  have he0 := HR4.out.at_.own0 (Nat.le_refl _)
  have hl0 := HR4.out.at_.own0 (Nat.le_succ w4.heap.size)
  have hge : w.heap.size ≤ w4.heap.size := HR4.out.keeps.size
  clear HBe HR4
  generalize ((w4.alloc (.cells #[.int .i64 1, .int .i64 o, .int .i64 0, .int .i64 1] 61)).alloc (.cells #[.int .i64 0, .int .i64 100000, .int .i64 0, .slice (some ⟨w4.heap.size, 0, none⟩) 2 2] 56)) = w5 at *
  obtain ⟨eb, heb⟩ : ∃ eb, eb = w4.heap.size := ⟨_, rfl⟩
  obtain ⟨lb, hlb⟩ : ∃ lb, lb = w4.heap.size + 1 := ⟨_, rfl⟩
  have hne : lb ≠ eb := by omega
  rw [← hlb, ← heb] at HBl
  rw [← heb] at HBe5
  have HE0 : Hid (G.own eb = 0) := by rw [heb]; exact he0
  have HL0 : Hid (G.own lb = 0) := by rw [hlb]; exact hl0
  rw [← hlb, ← heb]
  have HNE := Lib.hid hne
  have HGE : Hid (w.heap.size ≤ eb) := by rw [heb]; exact hge
  clear he0 hl0 heb hlb hne hge
  have a0 : w5.cell? ⟨G.p, 0, none⟩ = some (.pointer (some ⟨G.sp, 0, none⟩)) := HR5.out.at_.blk.cell 0
  have l0 : w5.cell? ⟨lb, 0, none⟩ = some (.int .i64 0) := HBl.out.cell 0
  have l1 : w5.cell? ⟨lb, 1, none⟩ = some (.int .i64 100000) := HBl.out.cell 1
  have l2 : w5.cell? ⟨lb, 2, none⟩ = some (.int .i64 0) := HBl.out.cell 2
  have l3 : w5.cell? ⟨lb, 3, none⟩ = some (.slice (some ⟨eb, 0, none⟩) 2 2) := HBl.out.cell 3
  have entsR : ∀ v x, Blk v eb [.int .i64 1, .int .i64 x, .int .i64 0, .int .i64 1] 61 → EntsR v (some ⟨eb, 0, none⟩) 2 (es1 x) := fun v x hb => .inr ⟨eb, 0, rfl, Nat.le_refl _, fun j e he => by
    rcases j with _ | _ | j
    · injection he with he; subst he; exact ⟨hb.cell 0, hb.cell 1⟩
    · injection he with he; subst he; exact ⟨hb.cell 2, hb.cell 3⟩
    · cases he⟩
  have HEN := Lib.hid entsR
  clear entsR
  refine wp_region_still_tail 5 (by kernel_rfl) (by kernel_rfl) ?_
  simp only [List.take_succ_cons, List.take_zero, List.drop_succ_cons, List.drop_zero]
  repeat still_step
  refine wpStill_nil ?_
  change wpList _ _ _ _ _ w5.drew
  have HR6 := Lib.hid (HR5.out.same ((Keeps.refl Nothing w5).drew))
  have HBe6 : Hid (Blk w5.drew eb [.int .i64 1, .int .i64 o, .int .i64 0, .int .i64 1] 61) := HBe5.out
  have HBl6 : Hid (Blk w5.drew lb [.int .i64 0, .int .i64 100000, .int .i64 0, .slice (some ⟨eb, 0, none⟩) 2 2] 56) := HBl.out
  clear a0 l0 l1 l2 l3 HR5 HBe5 HBl
  generalize w5.drew = w6 at *
  have nsp : eb ≠ G.sp := fun e => by have := HE0.out; rw [e, HR6.out.at_.os] at this; cases this
  have C30 := set_eg HR6.out.at_ (HEN.out w6 o HBe6.out) (fun b o' e => by injection e with e; injection e with e; rw [← e]; exact nsp) (es_good (base := 0) ho (by omega) (by decide) (by decide)) 0 (by decide) (by decide) ⟨by decide, by decide⟩ ⟨by decide, by decide⟩
  have hlE := HBe6.out.lt
  have hlL := HBl6.out.lt
  have HBB := Lib.hid (And.intro hlE hlL)
  clear hlE hlL
  go_upto_region 14 with (go_at_call 30; refine C30.mono ?_; rintro e w7 ⟨G1, g, cap, rfl, hW⟩; clear C30)
  have HR7 : Hid (Run w w7 G1 (nE (nS1 g cap o) 0 0 [])) := HR6.out.went hW
  have HX1 := Lib.hid (And.intro hW.ext.p (And.intro hW.ext.pp hW.ext.sp))
  have HBe7 := Lib.hid (HBe6.out.keeps hW.keeps (fun x => x.1 HE0.out))
  have HBl7 := Lib.hid (HBl6.out.keeps hW.keeps (fun x => x.1 HL0.out))
  have HE1 : Hid (G1.own eb = 0) := (hW.ext.own eb HBB.out.1).trans HE0.out
  have HL1 : Hid (G1.own lb = 0) := (hW.ext.own lb HBB.out.2).trans HL0.out
  clear hW HBe6 HBl6 HE0 HL0 HBB
  go_upto_region 15 with (first
    | (refine wpList_mk rfl (.tmp 60) (.tmp 60) 34 rfl 5 i0 (.int .u8 0) [.int .u8 0] Try.underlying34 hi0 hz0 hz1 rfl .i64 .i64 k k k rfl rfl rfl rfl 1 hz2 (by omega) (by omega) ?_; intro w8 hB8 k8 _; have HR8 := Lib.hid (HR7.out.same k8); have HBe8 := Lib.hid (HBe7.out.keeps k8 (fun h => h)); have HBl8 := Lib.hid (HBl7.out.keeps k8 (fun h => h)); have hB9 : Blk w8 w7.heap.size (bcells (zN k)) 5 := (rep_z k) ▸ hB8; have C12 := take_eg HR8.out.at_ (zN k) ⟨w7.heap.size, 0, none⟩ k (by rw [zN_len]; omega) (by rw [zN_len]; omega) (fun i u hu => by rw [show (⟨w7.heap.size, 0, none⟩ : Addr).add i = ⟨w7.heap.size, i, none⟩ by simp [Addr.add_lit], hB9.cell i]; exact hu); rw [(nev_take (nS1 g cap o) k).1, (nev_take (nS1 g cap o) k).2, zN_len, HX1.out.2.1] at C12; clear hB8 hB9 k8)
    | (go_at_call 12; refine C12.mono ?_; rintro e w9 ⟨rfl, G2, hW⟩; clear C12))
  have HR9 : Hid (Run w w9 G2 (nE (nS1 g cap o) k 1 [])) := HR8.out.went hW
  have HX2 := Lib.hid (And.intro (hW.ext.p.trans HX1.out.1) (And.intro (hW.ext.pp.trans HX1.out.2.1) (hW.ext.sp.trans HX1.out.2.2)))
  have HBe9 := Lib.hid (HBe8.out.keeps hW.keeps (fun x => x.1 HE1.out))
  have HBl9 := Lib.hid (HBl8.out.keeps hW.keeps (fun x => x.1 HL1.out))
  have HE2 : Hid (G2.own eb = 0) := (hW.ext.own eb HBe8.out.lt).trans HE1.out
  have HL2 : Hid (G2.own lb = 0) := (hW.ext.own lb HBl8.out.lt).trans HL1.out
  clear hW HBe7 HBl7 HBe8 HBl8 HE1 HL1 HR7 HR8 HX1
  have ho2 : o ≤ 20000 := by omega
  have x1 : Ext (nS1 g cap o) 0 := ⟨fun _ => by show (0 : Int) ≤ 0; decide, by show (2 : Nat) ≤ 64; decide, by show (0 : Nat) ≤ 64; decide⟩
  have OKa := Lib.hid (nE_ok (S := nS1 g cap o) (k := k) (h := 1) (q := []) hk1 (by decide) (.inl rfl) (nS1_good ho ho2) x1 (by decide) (by decide) (by show (0 : Int) ≤ 1; decide) (by rw [nS1_cnt]; decide))
  have OKb := Lib.hid (nE_ok (S := nS1 g cap o) (k := k) (h := 2) (q := [0]) hk1 (by decide) (.inr ⟨rfl, by decide⟩) (nS1_good ho ho2) x1 (by decide) (by decide) (by show (0 : Int) ≤ 1; decide) (by rw [nS1_cnt]; decide))
  have C13 := push_eg HR9.out.at_ OKa.out.held OKa.out.lost 0 0 0 (by decide)
  rw [(nev_push (nS1 g cap o) (by omega : 0 < k)).1, (nev_push (nS1 g cap o) (by omega : 0 < k)).2, HX2.out.1] at C13
  clear x1
  go_upto_region 16 with (go_at_call 13; refine C13.mono ?_; rintro e w10 ⟨rfl, hW⟩; clear C13; have HR10 := Lib.hid (HR9.out.went hW); have HBe10 := Lib.hid (HBe9.out.keeps hW.keeps (fun x => x.1 HE2.out)); have HBl10 := Lib.hid (HBl9.out.keeps hW.keeps (fun x => x.1 HL2.out)); clear hW HR9 HBe9 HBl9)
  have C15 := start_ok HR10.out.at_ OKb.out (Int.le_refl 0) (by decide)
  rw [HX2.out.1] at C15
  have f1 : fitsOf (nS1 g cap o) 0 0 (timeOf k 1000) = -1 := (F1 g cap).out
  have HF1 := Lib.hid f1
  clear f1
  go_upto_region 17 with (go_at_call 15; refine C15.mono ?_; rintro e w11 ⟨v, E', rfl, hSt, hW⟩; clear C15; obtain ⟨hv, hE'⟩ := nev_none HF1.out hSt; subst hv hE'; have HR11 := Lib.hid (HR10.out.went hW); have HBe11 := Lib.hid (HBe10.out.keeps hW.keeps (fun x => x.1 HE2.out)); have HBl11 := Lib.hid (HBl10.out.keeps hW.keeps (fun x => x.1 HL2.out)); clear hW hSt HR10 HBe10 HBl10; unfold noneV sentV)
  have HR12 := Lib.hid (HR11.out.same ((Keeps.refl Nothing w11).alloc (.cells #[.int .i64 0, .int .i64 0, .int .i64 0, .int .i64 0] 38)))
  have HBe12 := Lib.hid (HBe11.out.alloc (.cells #[.int .i64 0, .int .i64 0, .int .i64 0, .int .i64 0] 38))
  have HBl12 := Lib.hid (HBl11.out.alloc (.cells #[.int .i64 0, .int .i64 0, .int .i64 0, .int .i64 0] 38))
  clear HR11 HBe11 HBl11
  generalize (w11.alloc (.cells #[.int .i64 0, .int .i64 0, .int .i64 0, .int .i64 0] 38)) = w12 at *
  have C20 := wake_ok HR12.out.at_ OKb.out
  rw [HX2.out.1] at C20
  go_upto_region 19 with (go_at_call 20; refine C20.mono ?_; rintro e w13 ⟨t, rfl, hWk, hW⟩; clear C20; have ht := nev_wake rfl HF1.out hWk; subst ht; have HR13 := Lib.hid (HR12.out.went hW); have HBe13 := Lib.hid (HBe12.out.keeps hW.keeps (fun x => x.1 HE2.out)); have HBl13 := Lib.hid (HBl12.out.keeps hW.keeps (fun x => x.1 HL2.out)); clear hW hWk HR12 HBe12 HBl12)
  have l3 : w13.cell? ⟨lb, 3, none⟩ = some (.slice (some ⟨eb, 0, none⟩) 2 2) := HBl13.out.cell 3
  have e1 : w13.cell? ⟨eb, 1, none⟩ = some (.int .i64 o) := HBe13.out.cell 1
  have ef1 : w13.frozen? ⟨eb, 1, none⟩ = false := HBe13.out.frozen 1
  have HKe := Lib.hid ((Keeps.refl (fun k => k = eb) w13).setCell (p := ⟨eb, 1, none⟩) (fun _ => rfl) (.int .i64 tm))
  have HBe14 : Hid (Blk (w13.setCell ⟨eb, 1, none⟩ (.int .i64 tm)) eb [.int .i64 1, .int .i64 tm, .int .i64 0, .int .i64 1] 61) := HBe13.out.set 1 _
  have HBl14 : Hid (Blk (w13.setCell ⟨eb, 1, none⟩ (.int .i64 tm)) lb [.int .i64 0, .int .i64 100000, .int .i64 0, .slice (some ⟨eb, 0, none⟩) 2 2] 56) := HBl13.out.keeps HKe.out HNE.out
  have HR14 : Hid (Run w (w13.setCell ⟨eb, 1, none⟩ (.int .i64 tm)) G2 (nE (nS1 g cap o) k 2 [0])) :=
    ⟨HR13.out.at_.keeps HKe.out (fun x hx e => hx (by rw [e]; exact HE2.out)), HR13.out.keeps.up HKe.out (fun x hx => by rw [hx]; exact HGE.out), HR13.out.new⟩
  go_upto_region 20 with fail
  clear l3 e1 ef1 HBe13 HBl13 HR13 HKe
  generalize (w13.setCell ⟨eb, 1, none⟩ (.int .i64 tm)) = w14 at *
  have a0 : w14.cell? ⟨G.p, 0, none⟩ = some (.pointer (some ⟨G2.sp, 0, none⟩)) := by rw [← HX2.out.1]; exact HR14.out.at_.blk.cell 0
  have l0 : w14.cell? ⟨lb, 0, none⟩ = some (.int .i64 0) := HBl14.out.cell 0
  have l1 : w14.cell? ⟨lb, 1, none⟩ = some (.int .i64 100000) := HBl14.out.cell 1
  have l2 : w14.cell? ⟨lb, 2, none⟩ = some (.int .i64 0) := HBl14.out.cell 2
  have l3 : w14.cell? ⟨lb, 3, none⟩ = some (.slice (some ⟨eb, 0, none⟩) 2 2) := HBl14.out.cell 3
  refine wp_region_still_tail 5 (by kernel_rfl) (by kernel_rfl) ?_
  simp only [List.take_succ_cons, List.take_zero, List.drop_succ_cons, List.drop_zero]
  repeat still_step
  refine wpStill_nil ?_
  change wpList _ _ _ _ _ w14.drew
  have HR15 := Lib.hid (HR14.out.same ((Keeps.refl Nothing w14).drew))
  have HBe15 : Hid (Blk w14.drew eb [.int .i64 1, .int .i64 tm, .int .i64 0, .int .i64 1] 61) := HBe14.out
  clear a0 l0 l1 l2 l3 HR14 HBe14 HBl14
  generalize w14.drew = w15 at *
  have nsp2 : eb ≠ G2.sp := fun e => by have := HE2.out; rw [e, HR15.out.at_.os] at this; cases this
  have C30 := set_eg HR15.out.at_ (HEN.out w15 tm HBe15.out) (fun b o' e => by injection e with e; injection e with e; rw [← e]; exact nsp2) (es_good (base := 0) (by omega) htr2 (by decide) (by decide)) 5 (by decide) (by decide) ⟨by show (0 : Int) ≤ 1; decide, by show (1 : Int) ≤ 100000000; decide⟩ ⟨by show (0 : Int) ≤ 0; decide, by show (0 : Int) ≤ 100000000; decide⟩
  go_upto_region 22 with (first
    | (go_at_call 30; refine C30.mono ?_; rintro e w16 ⟨G3, g2, cap2, rfl, hW⟩; clear C30; have HR16 : Hid (Run w w16 G3 (nE (nS2 g cap g2 cap2 o tm) k 2 [0])) := HR15.out.went hW; have HX3 := Lib.hid (hW.ext.p.trans HX2.out.1); have OKc := Lib.hid (nE_ok (S := nS2 g cap g2 cap2 o tm) (k := k) (h := 2) (q := [0]) hk1 (by decide) (.inr ⟨rfl, by decide⟩) (nS2_good ho ho2 (by omega) htr2) (now := 5) ⟨fun _ => by show (0 : Int) ≤ 5; decide, by show (2 : Nat) ≤ 64; decide, by show (2 : Nat) ≤ 64; decide⟩ (by decide) (by decide) (by show (0 : Int) ≤ 1; decide) (by rw [nS2_cnt]; decide)); have C20 := wake_ok HR16.out.at_ OKc.out; rw [HX3.out] at C20; have f2 := (F2 g cap g2 cap2).out; rw [← HTM.out] at f2; have HF2 : Hid (fitsOf (nS2 g cap g2 cap2 o tm) 0 5 (timeOf k 1000) = 100000) := by (rw [← HTM.out]; exact f2))
    | (go_at_call 20; refine C20.mono ?_; rintro e w17 ⟨t, rfl, hWk, hW⟩; clear C20; have ht := nev_wake2 rfl rfl (by omega) HF2.out hWk; subst ht; have HR17 := Lib.hid (HR16.out.went hW); clear hW hWk HR16))
  have C15 := start_ok HR17.out.at_ OKc.out (by decide : (5 : Int) ≤ 100000) (by decide)
  rw [HX3.out] at C15
  have f3 := (F3 g2 cap2).out
  rw [← HTM.out] at f3
  have HF3 : Hid (fitsOf (nS3 g2 cap2 tm) 0 100000 (timeOf k 1000) = 100000) := by rw [← HTM.out]; exact f3
  clear f3
  go_upto_region 23 with (go_at_call 15; refine C15.mono ?_; rintro e w18 ⟨v, E', rfl, hSt, hW⟩; clear C15; have hSt' : Starts (nE (nS3 g2 cap2 tm) k 2 [0]) 100000 v E' := hSt; have hv := nev_start3 (by omega) HF3.out hSt'; subst hv; rw [← HTM.out]; have HR18 := Lib.hid (HR17.out.went hW); clear hW hSt hSt' HR17)
  have HB19 := Lib.hid (Blk.new w18 [.int .i64 0, .int .i64 0, .int .i64 100000, .int .i64 (100000 + tm)] 38)
  have HR19 := Lib.hid (HR18.out.same ((Keeps.refl Nothing w18).alloc (.cells #[.int .i64 0, .int .i64 0, .int .i64 100000, .int .i64 (100000 + tm)] 38)))
  generalize (w18.alloc (.cells #[.int .i64 0, .int .i64 0, .int .i64 100000, .int .i64 (100000 + tm)] 38)) = w19 at *
  generalize w18.heap.size = sb at *
  have s2 : w19.cell? ⟨sb, 2, none⟩ = some (.int .i64 100000) := HB19.out.cell 2
  have s3 : w19.cell? ⟨sb, 3, none⟩ = some (.int .i64 (100000 + tm)) := HB19.out.cell 3
  have hwt : IntKind.i64.wrap (100000 + tm) = 100000 + tm := by rw [IntKind.wrap_i64]; omega
  go_wp2_with fail
  go_ret
  exact ⟨by simp, HR19.out.keeps⟩

end Go.Proofs.Ytimgmobmagpmlaa
