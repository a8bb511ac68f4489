/- The document's pair: the longer last cycle, and the next edge. -/
import Derived.Test.YtpgmkekdgchkfaaPair
import Derived.Test.YtpgmkekdgchkfaaRNext
import Derived.Deep.DeepCutAuto
import Derived.Deep.CutBlock
namespace Go.Proofs.Ytpgmkekdgchkfaa
open Go.RowKit

structure ParGood (P : Par) : Prop where
  oper : P.has = true → Good P.oper.base P.oper.cyc P.oper.ext P.oper.es
  admin : P.waits = true → Good P.due P.admin.cyc P.admin.ext P.admin.es

theorem tmod_abs {a c : Int} (hc : 1 ≤ c) : -c < a.tmod c ∧ a.tmod c < c := by
  by_cases h : 0 ≤ a
  · obtain ⟨h1, h2⟩ := tmod_in h hc
    omega
  · obtain ⟨h1, h2⟩ := tmod_in (a := -a) (c := c) (by omega) hc
    rw [Int.neg_tmod] at h1 h2
    omega

set_option maxRecDepth 100000 in
set_option maxHeartbeats 4000000 in
theorem longer_ok {w : World} {q : Nat} {P : Par} (h : ParAt w q P) (hg : ParGood P) :
    Calls Try.prog 63 #[.pointer (some ⟨q, 0, none⟩)] w (fun e w' => e = .returned (.int .i64 P.longer) ∧ Keeps Nothing w w') := by
  obtain ⟨⟨ob, oc, ox, oA, ocap, oes⟩, ⟨ab, ac, ax, aA, acap, aes⟩, has, waits, due⟩ := P
  have hB : Blk w q [.int .i64 ob, .int .i64 oc, .int .i64 ox, .slice oA oes.length ocap, .int .i64 ab, .int .i64 ac, .int .i64 ax, .slice aA aes.length acap, .bool has, .bool waits, .int .i64 due] 74 := h.blk
  have HG := Lib.hid hg
  have s0 : w.cell? ⟨q, 0, none⟩ = some (.int .i64 ob) := hB.cell 0
  have s1 : w.cell? ⟨q, 1, none⟩ = some (.int .i64 oc) := hB.cell 1
  have s2 : w.cell? ⟨q, 2, none⟩ = some (.int .i64 ox) := hB.cell 2
  have s3 : w.cell? ⟨q, 3, none⟩ = some (.slice oA oes.length ocap) := hB.cell 3
  have s4 : w.cell? ⟨q, 4, none⟩ = some (.int .i64 ab) := hB.cell 4
  have s5 : w.cell? ⟨q, 5, none⟩ = some (.int .i64 ac) := hB.cell 5
  have s6 : w.cell? ⟨q, 6, none⟩ = some (.int .i64 ax) := hB.cell 6
  have s7 : w.cell? ⟨q, 7, none⟩ = some (.slice aA aes.length acap) := hB.cell 7
  have s8 : w.cell? ⟨q, 8, none⟩ = some (.bool has) := hB.cell 8
  have s9 : w.cell? ⟨q, 9, none⟩ = some (.bool waits) := hB.cell 9
  have s10 : w.cell? ⟨q, 10, none⟩ = some (.int .i64 due) := hB.cell 10
  clear h hB hg
  cases has
  · have HV : Hid (Par.longer (⟨⟨ob, oc, ox, oA, ocap, oes⟩, ⟨ab, ac, ax, aA, acap, aes⟩, false, waits, due⟩ : Par) = -1) := if_neg (fun x => by cases x.1)
    go_enter Try.func63, Try.ntmps63
    go_wp2_with fail
    go_ret
    exact ⟨by rw [HV.out]; rfl, Keeps.refl _ _⟩
  · cases waits
    · have HV : Hid (Par.longer (⟨⟨ob, oc, ox, oA, ocap, oes⟩, ⟨ab, ac, ax, aA, acap, aes⟩, true, false, due⟩ : Par) = -1) := if_neg (fun x => by cases x.2)
      go_enter Try.func63, Try.ntmps63
      go_wp2_with fail
      go_ret
      exact ⟨by rw [HV.out]; rfl, Keeps.refl _ _⟩
    · have hgo := HG.out.oper rfl
      have hga := HG.out.admin rfl
      have gb0 := hgo.b0
      have gb1 := hgo.b1
      have gc0 := hgo.c0
      have gc1 := hgo.c1
      have gx0 := hgo.x0
      have gx1 := hgo.x1
      have gd0 := hga.b0
      have gd1 := hga.b1
      simp only at gb0 gb1 gc0 gc1 gx0 gx1 gd0 gd1
      clear hgo hga
      have HV : Hid (Par.longer (⟨⟨ob, oc, ox, oA, ocap, oes⟩, ⟨ab, ac, ax, aA, acap, aes⟩, true, true, due⟩ : Par) = if (due - ob).tmod oc = 0 ∨ ox < (due - ob).tmod oc ∨ due - (due - ob).tmod oc ≤ ob then -1 else due - (due - ob).tmod oc) := if_pos ⟨rfl, rfl⟩
      obtain ⟨r0, r1⟩ := tmod_abs (a := due - ob) gc0
      have hq0 : oc ≠ 0 := by omega
      have hw1 : IntKind.i64.wrap (due - ob) = due - ob := by rw [IntKind.wrap_i64]; omega
      have hw2 : IntKind.i64.wrap ((due - ob).tmod oc) = (due - ob).tmod oc := by rw [IntKind.wrap_i64]; omega
      go_enter Try.func63, Try.ntmps63
      go_upto_region 3 with fail
      go_quiet (fail)
      go_upto_region 4 with fail
      generalize (due - ob).tmod oc = R at *
      have hw3 : IntKind.i64.wrap (due - R) = due - R := by rw [IntKind.wrap_i64]; omega
      by_cases h1 : R = 0
      · have HV2 := Lib.hid (HV.out.trans (if_pos (.inl h1)))
        have e1 : (R == 0) = true := by simpa using h1
        clear HV h1
        go_wp2_with fail
        go_ret
        exact ⟨by rw [HV2.out]; rfl, (Keeps.refl _ _).drewN _⟩
      · have e1 : (R == 0) = false := by simpa using h1
        by_cases h2 : ox < R
        · have HV2 := Lib.hid (HV.out.trans (if_pos (.inr (.inl h2))))
          clear HV
          go_wp2_with fail
          go_ret
          exact ⟨by rw [HV2.out]; rfl, (Keeps.refl _ _).drewN _⟩
        · have e2 : decide (ox < R) = false := by simpa using h2
          by_cases h3 : due - R ≤ ob
          · have HV2 := Lib.hid (HV.out.trans (if_pos (.inr (.inr h3))))
            clear HV
            go_wp2_with fail
            go_ret
            exact ⟨by rw [HV2.out]; rfl, (Keeps.refl _ _).drewN _⟩
          · have e3 : decide (due - R ≤ ob) = false := by simpa using h3
            have HV2 := Lib.hid (HV.out.trans (if_neg (by omega)))
            clear HV
            go_wp2_with fail
            go_ret
            exact ⟨by rw [HV2.out]; rfl, (Keeps.refl _ _).drewN _⟩

theorem Par.best_0 {P : Par} {t : Int} (h : P.has = false) : P.best t = -1 := by
  unfold Par.best; rw [if_neg (fun x => by rw [h] at x; cases x.1)]
theorem Par.best_1 {P : Par} {t : Int} (h : P.has = true) (h1 : P.longer < 0) : P.best t = gnx P.oper.base P.oper.cyc P.oper.es t := by
  unfold Par.best; rw [if_pos ⟨h, .inl h1⟩, if_neg (fun x => by omega)]
theorem Par.best_2 {P : Par} {t : Int} (h : P.has = true) (h1 : 0 ≤ P.longer) (h2 : t < P.longer) (h3 : P.longer < gnx P.oper.base P.oper.cyc P.oper.es t) : P.best t = P.longer := by
  unfold Par.best; rw [if_pos ⟨h, .inr h2⟩, if_pos ⟨h1, h3⟩]
theorem Par.best_3 {P : Par} {t : Int} (h : P.has = true) (h2 : t < P.longer) (h3 : ¬ P.longer < gnx P.oper.base P.oper.cyc P.oper.es t) : P.best t = gnx P.oper.base P.oper.cyc P.oper.es t := by
  unfold Par.best; rw [if_pos ⟨h, .inr h2⟩, if_neg (fun x => h3 x.2)]
theorem Par.best_4 {P : Par} {t : Int} (h1 : 0 ≤ P.longer) (h2 : ¬ t < P.longer) : P.best t = -1 := by
  unfold Par.best; rw [if_neg (fun x => by rcases x.2 with y | y <;> omega)]

theorem Par.next_of {P : Par} {t : Int} (h : P.waits = true → ¬ P.due ≤ t) : P.next t = if P.waits = true ∧ (P.best t < 0 ∨ P.due < P.best t) then P.due else P.best t := by
  unfold Par.next
  rw [if_neg (fun x => h x.1 x.2)]

set_option maxRecDepth 100000 in
set_option maxHeartbeats 8000000 in
theorem pnext_ok {w : World} {q : Nat} {P : Par} (h : ParAt w q P) (hg : ParGood P) (t : Int) (ht : t ≤ 9000000000000000000) :
    Calls Try.prog 38 #[.pointer (some ⟨q, 0, none⟩), .int .i64 t] w (fun e w' => e = .returned (.int .i64 (P.next t)) ∧ Keeps Nothing w w') := by
  obtain ⟨⟨ob, oc, ox, oA, ocap, oes⟩, ⟨ab, ac, ax, aA, acap, aes⟩, has, waits, due⟩ := P
  have hB : Blk w q [.int .i64 ob, .int .i64 oc, .int .i64 ox, .slice oA oes.length ocap, .int .i64 ab, .int .i64 ac, .int .i64 ax, .slice aA aes.length acap, .bool has, .bool waits, .int .i64 due] 74 := h.blk
  have HS := Lib.hid h
  have HG := Lib.hid hg
  have C63 := fun v (hv : Keeps Nothing w v) => longer_ok (HS.out.same hv) HG.out
  have hql := hB.lt
  have s0 : w.cell? ⟨q, 0, none⟩ = some (.int .i64 ob) := hB.cell 0
  have s1 : w.cell? ⟨q, 1, none⟩ = some (.int .i64 oc) := hB.cell 1
  have s2 : w.cell? ⟨q, 2, none⟩ = some (.int .i64 ox) := hB.cell 2
  have s3 : w.cell? ⟨q, 3, none⟩ = some (.slice oA oes.length ocap) := hB.cell 3
  have s4 : w.cell? ⟨q, 4, none⟩ = some (.int .i64 ab) := hB.cell 4
  have s5 : w.cell? ⟨q, 5, none⟩ = some (.int .i64 ac) := hB.cell 5
  have s6 : w.cell? ⟨q, 6, none⟩ = some (.int .i64 ax) := hB.cell 6
  have s7 : w.cell? ⟨q, 7, none⟩ = some (.slice aA aes.length acap) := hB.cell 7
  have s8 : w.cell? ⟨q, 8, none⟩ = some (.bool has) := hB.cell 8
  have s9 : w.cell? ⟨q, 9, none⟩ = some (.bool waits) := hB.cell 9
  have s10 : w.cell? ⟨q, 10, none⟩ = some (.int .i64 due) := hB.cell 10
  clear h hB hg
  by_cases hwd : waits = true ∧ due ≤ t
  · obtain ⟨hw1, hd⟩ := hwd
    subst hw1
    have HV : Hid (Par.next (⟨⟨ob, oc, ox, oA, ocap, oes⟩, ⟨ab, ac, ax, aA, acap, aes⟩, has, true, due⟩ : Par) t = gnx due ac aes t) := if_pos ⟨rfl, hd⟩
    have C := fun v (hv : Keeps Nothing w v) => rnext_ok (HS.out.admin.1.same hv) (HG.out.admin rfl) t ht
    clear C63
    go_enter Try.func38, Try.ntmps38
    go_wp2_with (go_at_call 62; refine (C _ ((Keeps.refl _ _).alloc _)).mono ?_; rintro e w3 ⟨rfl, hk3⟩; clear C)
    go_ret
    exact ⟨by rw [HV.out]; rfl, ((Keeps.refl _ _).alloc _).same hk3⟩
  · have HWD : Hid (waits = true → ¬ due ≤ t) := fun x y => hwd ⟨x, y⟩
    have HV := Lib.hid (Par.next_of (P := (⟨⟨ob, oc, ox, oA, ocap, oes⟩, ⟨ab, ac, ax, aA, acap, aes⟩, has, waits, due⟩ : Par)) (t := t) HWD.out)
    go_enter Try.func38, Try.ntmps38
    cases waits
    · clear HWD
      cases has
      · have HB : Hid (Par.best (⟨⟨ob, oc, ox, oA, ocap, oes⟩, ⟨ab, ac, ax, aA, acap, aes⟩, false, false, due⟩ : Par) t = -1) := Par.best_0 rfl
        go_wp2_with (first | (go_at_call 63; refine (C63 _ (Keeps.refl _ _)).mono ?_; rintro e w2 ⟨rfl, hk2⟩; clear C63; have hB2 := HS.out.blk.keeps hk2 (fun h => h); have s0 : w2.cell? ⟨q, 0, none⟩ = some (.int .i64 ob) := hB2.cell 0; have s1 : w2.cell? ⟨q, 1, none⟩ = some (.int .i64 oc) := hB2.cell 1; have s2 : w2.cell? ⟨q, 2, none⟩ = some (.int .i64 ox) := hB2.cell 2; have s3 : w2.cell? ⟨q, 3, none⟩ = some (.slice oA oes.length ocap) := hB2.cell 3; have s4 : w2.cell? ⟨q, 4, none⟩ = some (.int .i64 ab) := hB2.cell 4; have s5 : w2.cell? ⟨q, 5, none⟩ = some (.int .i64 ac) := hB2.cell 5; have s6 : w2.cell? ⟨q, 6, none⟩ = some (.int .i64 ax) := hB2.cell 6; have s7 : w2.cell? ⟨q, 7, none⟩ = some (.slice aA aes.length acap) := hB2.cell 7; have s8 : w2.cell? ⟨q, 8, none⟩ = some (.bool false) := hB2.cell 8; have s9 : w2.cell? ⟨q, 9, none⟩ = some (.bool false) := hB2.cell 9; have s10 : w2.cell? ⟨q, 10, none⟩ = some (.int .i64 due) := hB2.cell 10; clear hB2) | (go_at_call 62; refine (C _ hk2).mono ?_; rintro e w3 ⟨rfl, hk3⟩; clear C; have hB3 := HS.out.blk.keeps (hk2.same hk3) (fun h => h); skip; clear hB3))
        go_ret
        exact ⟨by rw [HV.out, HB.out, if_neg (fun x => by cases x.1)]; rfl, hk2⟩
      · have hgo := HG.out.oper rfl
        have hge := gnx_ge (base := ob) (cyc := oc) (es := oes) (t := t) hgo.b0 hgo.c0
        have C := fun v (hv : Keeps Nothing w v) => rnext_ok (HS.out.oper.1.same hv) hgo t ht
        have hb1 := fun h1 => Par.best_1 (P := (⟨⟨ob, oc, ox, oA, ocap, oes⟩, ⟨ab, ac, ax, aA, acap, aes⟩, true, false, due⟩ : Par)) (t := t) rfl h1
        have hb2 := fun h1 h2 h3 => Par.best_2 (P := (⟨⟨ob, oc, ox, oA, ocap, oes⟩, ⟨ab, ac, ax, aA, acap, aes⟩, true, false, due⟩ : Par)) (t := t) rfl h1 h2 h3
        have hb3 := fun h2 h3 => Par.best_3 (P := (⟨⟨ob, oc, ox, oA, ocap, oes⟩, ⟨ab, ac, ax, aA, acap, aes⟩, true, false, due⟩ : Par)) (t := t) rfl h2 h3
        have hb4 := fun h1 h2 => Par.best_4 (P := (⟨⟨ob, oc, ox, oA, ocap, oes⟩, ⟨ab, ac, ax, aA, acap, aes⟩, true, false, due⟩ : Par)) (t := t) h1 h2
        have H1 := Lib.hid hb1
        have H2 := Lib.hid hb2
        have H3 := Lib.hid hb3
        have H4 := Lib.hid hb4
        clear hb1 hb2 hb3 hb4 hgo
        generalize Par.longer (⟨⟨ob, oc, ox, oA, ocap, oes⟩, ⟨ab, ac, ax, aA, acap, aes⟩, true, false, due⟩ : Par) = L at *
        generalize gnx ob oc oes t = N at *
        by_cases hL : L < 0
        · have hL' : decide (0 ≤ L) = false := by simp; omega
          have HB := Lib.hid (H1.out hL)
          clear H1 H2 H3 H4
          go_wp2_with (first | (go_at_call 63; refine (C63 _ (Keeps.refl _ _)).mono ?_; rintro e w2 ⟨rfl, hk2⟩; clear C63; have hB2 := HS.out.blk.keeps hk2 (fun h => h); have s0 : w2.cell? ⟨q, 0, none⟩ = some (.int .i64 ob) := hB2.cell 0; have s1 : w2.cell? ⟨q, 1, none⟩ = some (.int .i64 oc) := hB2.cell 1; have s2 : w2.cell? ⟨q, 2, none⟩ = some (.int .i64 ox) := hB2.cell 2; have s3 : w2.cell? ⟨q, 3, none⟩ = some (.slice oA oes.length ocap) := hB2.cell 3; have s4 : w2.cell? ⟨q, 4, none⟩ = some (.int .i64 ab) := hB2.cell 4; have s5 : w2.cell? ⟨q, 5, none⟩ = some (.int .i64 ac) := hB2.cell 5; have s6 : w2.cell? ⟨q, 6, none⟩ = some (.int .i64 ax) := hB2.cell 6; have s7 : w2.cell? ⟨q, 7, none⟩ = some (.slice aA aes.length acap) := hB2.cell 7; have s8 : w2.cell? ⟨q, 8, none⟩ = some (.bool true) := hB2.cell 8; have s9 : w2.cell? ⟨q, 9, none⟩ = some (.bool false) := hB2.cell 9; have s10 : w2.cell? ⟨q, 10, none⟩ = some (.int .i64 due) := hB2.cell 10; clear hB2) | (go_at_call 62; refine (C _ hk2).mono ?_; rintro e w3 ⟨rfl, hk3⟩; clear C; have hB3 := HS.out.blk.keeps (hk2.same hk3) (fun h => h); have s0 : w3.cell? ⟨q, 0, none⟩ = some (.int .i64 ob) := hB3.cell 0; have s1 : w3.cell? ⟨q, 1, none⟩ = some (.int .i64 oc) := hB3.cell 1; have s2 : w3.cell? ⟨q, 2, none⟩ = some (.int .i64 ox) := hB3.cell 2; have s3 : w3.cell? ⟨q, 3, none⟩ = some (.slice oA oes.length ocap) := hB3.cell 3; have s4 : w3.cell? ⟨q, 4, none⟩ = some (.int .i64 ab) := hB3.cell 4; have s5 : w3.cell? ⟨q, 5, none⟩ = some (.int .i64 ac) := hB3.cell 5; have s6 : w3.cell? ⟨q, 6, none⟩ = some (.int .i64 ax) := hB3.cell 6; have s7 : w3.cell? ⟨q, 7, none⟩ = some (.slice aA aes.length acap) := hB3.cell 7; have s8 : w3.cell? ⟨q, 8, none⟩ = some (.bool true) := hB3.cell 8; have s9 : w3.cell? ⟨q, 9, none⟩ = some (.bool false) := hB3.cell 9; have s10 : w3.cell? ⟨q, 10, none⟩ = some (.int .i64 due) := hB3.cell 10; clear hB3))
          go_ret
          exact ⟨by rw [HV.out, HB.out, if_neg (fun x => by cases x.1)]; rfl, hk2.same hk3⟩
        · have hL' : decide (L < 0) = false := by simp; omega
          have hL0 : 0 ≤ L := by omega
          by_cases h5 : t < L
          · by_cases h6 : L < N
            · have HB := Lib.hid (H2.out hL0 h5 h6)
              clear H1 H2 H3 H4
              go_wp2_with (first | (go_at_call 63; refine (C63 _ (Keeps.refl _ _)).mono ?_; rintro e w2 ⟨rfl, hk2⟩; clear C63; have hB2 := HS.out.blk.keeps hk2 (fun h => h); have s0 : w2.cell? ⟨q, 0, none⟩ = some (.int .i64 ob) := hB2.cell 0; have s1 : w2.cell? ⟨q, 1, none⟩ = some (.int .i64 oc) := hB2.cell 1; have s2 : w2.cell? ⟨q, 2, none⟩ = some (.int .i64 ox) := hB2.cell 2; have s3 : w2.cell? ⟨q, 3, none⟩ = some (.slice oA oes.length ocap) := hB2.cell 3; have s4 : w2.cell? ⟨q, 4, none⟩ = some (.int .i64 ab) := hB2.cell 4; have s5 : w2.cell? ⟨q, 5, none⟩ = some (.int .i64 ac) := hB2.cell 5; have s6 : w2.cell? ⟨q, 6, none⟩ = some (.int .i64 ax) := hB2.cell 6; have s7 : w2.cell? ⟨q, 7, none⟩ = some (.slice aA aes.length acap) := hB2.cell 7; have s8 : w2.cell? ⟨q, 8, none⟩ = some (.bool true) := hB2.cell 8; have s9 : w2.cell? ⟨q, 9, none⟩ = some (.bool false) := hB2.cell 9; have s10 : w2.cell? ⟨q, 10, none⟩ = some (.int .i64 due) := hB2.cell 10; clear hB2) | (go_at_call 62; refine (C _ hk2).mono ?_; rintro e w3 ⟨rfl, hk3⟩; clear C; have hB3 := HS.out.blk.keeps (hk2.same hk3) (fun h => h); have s0 : w3.cell? ⟨q, 0, none⟩ = some (.int .i64 ob) := hB3.cell 0; have s1 : w3.cell? ⟨q, 1, none⟩ = some (.int .i64 oc) := hB3.cell 1; have s2 : w3.cell? ⟨q, 2, none⟩ = some (.int .i64 ox) := hB3.cell 2; have s3 : w3.cell? ⟨q, 3, none⟩ = some (.slice oA oes.length ocap) := hB3.cell 3; have s4 : w3.cell? ⟨q, 4, none⟩ = some (.int .i64 ab) := hB3.cell 4; have s5 : w3.cell? ⟨q, 5, none⟩ = some (.int .i64 ac) := hB3.cell 5; have s6 : w3.cell? ⟨q, 6, none⟩ = some (.int .i64 ax) := hB3.cell 6; have s7 : w3.cell? ⟨q, 7, none⟩ = some (.slice aA aes.length acap) := hB3.cell 7; have s8 : w3.cell? ⟨q, 8, none⟩ = some (.bool true) := hB3.cell 8; have s9 : w3.cell? ⟨q, 9, none⟩ = some (.bool false) := hB3.cell 9; have s10 : w3.cell? ⟨q, 10, none⟩ = some (.int .i64 due) := hB3.cell 10; clear hB3))
              go_ret
              exact ⟨by rw [HV.out, HB.out, if_neg (fun x => by cases x.1)]; rfl, hk2.same hk3⟩
            · have h6' : decide (L < N) = false := by simp; omega
              have HB := Lib.hid (H3.out h5 (by omega))
              clear H1 H2 H3 H4
              go_wp2_with (first | (go_at_call 63; refine (C63 _ (Keeps.refl _ _)).mono ?_; rintro e w2 ⟨rfl, hk2⟩; clear C63; have hB2 := HS.out.blk.keeps hk2 (fun h => h); have s0 : w2.cell? ⟨q, 0, none⟩ = some (.int .i64 ob) := hB2.cell 0; have s1 : w2.cell? ⟨q, 1, none⟩ = some (.int .i64 oc) := hB2.cell 1; have s2 : w2.cell? ⟨q, 2, none⟩ = some (.int .i64 ox) := hB2.cell 2; have s3 : w2.cell? ⟨q, 3, none⟩ = some (.slice oA oes.length ocap) := hB2.cell 3; have s4 : w2.cell? ⟨q, 4, none⟩ = some (.int .i64 ab) := hB2.cell 4; have s5 : w2.cell? ⟨q, 5, none⟩ = some (.int .i64 ac) := hB2.cell 5; have s6 : w2.cell? ⟨q, 6, none⟩ = some (.int .i64 ax) := hB2.cell 6; have s7 : w2.cell? ⟨q, 7, none⟩ = some (.slice aA aes.length acap) := hB2.cell 7; have s8 : w2.cell? ⟨q, 8, none⟩ = some (.bool true) := hB2.cell 8; have s9 : w2.cell? ⟨q, 9, none⟩ = some (.bool false) := hB2.cell 9; have s10 : w2.cell? ⟨q, 10, none⟩ = some (.int .i64 due) := hB2.cell 10; clear hB2) | (go_at_call 62; refine (C _ hk2).mono ?_; rintro e w3 ⟨rfl, hk3⟩; clear C; have hB3 := HS.out.blk.keeps (hk2.same hk3) (fun h => h); have s0 : w3.cell? ⟨q, 0, none⟩ = some (.int .i64 ob) := hB3.cell 0; have s1 : w3.cell? ⟨q, 1, none⟩ = some (.int .i64 oc) := hB3.cell 1; have s2 : w3.cell? ⟨q, 2, none⟩ = some (.int .i64 ox) := hB3.cell 2; have s3 : w3.cell? ⟨q, 3, none⟩ = some (.slice oA oes.length ocap) := hB3.cell 3; have s4 : w3.cell? ⟨q, 4, none⟩ = some (.int .i64 ab) := hB3.cell 4; have s5 : w3.cell? ⟨q, 5, none⟩ = some (.int .i64 ac) := hB3.cell 5; have s6 : w3.cell? ⟨q, 6, none⟩ = some (.int .i64 ax) := hB3.cell 6; have s7 : w3.cell? ⟨q, 7, none⟩ = some (.slice aA aes.length acap) := hB3.cell 7; have s8 : w3.cell? ⟨q, 8, none⟩ = some (.bool true) := hB3.cell 8; have s9 : w3.cell? ⟨q, 9, none⟩ = some (.bool false) := hB3.cell 9; have s10 : w3.cell? ⟨q, 10, none⟩ = some (.int .i64 due) := hB3.cell 10; clear hB3))
              go_ret
              exact ⟨by rw [HV.out, HB.out, if_neg (fun x => by cases x.1)]; rfl, hk2.same hk3⟩
          · have h5' : decide (t < L) = false := by simp; omega
            have HB := Lib.hid (H4.out hL0 (by omega))
            clear H1 H2 H3 H4
            go_wp2_with (first | (go_at_call 63; refine (C63 _ (Keeps.refl _ _)).mono ?_; rintro e w2 ⟨rfl, hk2⟩; clear C63; have hB2 := HS.out.blk.keeps hk2 (fun h => h); have s0 : w2.cell? ⟨q, 0, none⟩ = some (.int .i64 ob) := hB2.cell 0; have s1 : w2.cell? ⟨q, 1, none⟩ = some (.int .i64 oc) := hB2.cell 1; have s2 : w2.cell? ⟨q, 2, none⟩ = some (.int .i64 ox) := hB2.cell 2; have s3 : w2.cell? ⟨q, 3, none⟩ = some (.slice oA oes.length ocap) := hB2.cell 3; have s4 : w2.cell? ⟨q, 4, none⟩ = some (.int .i64 ab) := hB2.cell 4; have s5 : w2.cell? ⟨q, 5, none⟩ = some (.int .i64 ac) := hB2.cell 5; have s6 : w2.cell? ⟨q, 6, none⟩ = some (.int .i64 ax) := hB2.cell 6; have s7 : w2.cell? ⟨q, 7, none⟩ = some (.slice aA aes.length acap) := hB2.cell 7; have s8 : w2.cell? ⟨q, 8, none⟩ = some (.bool true) := hB2.cell 8; have s9 : w2.cell? ⟨q, 9, none⟩ = some (.bool false) := hB2.cell 9; have s10 : w2.cell? ⟨q, 10, none⟩ = some (.int .i64 due) := hB2.cell 10; clear hB2) | (go_at_call 62; refine (C _ hk2).mono ?_; rintro e w3 ⟨rfl, hk3⟩; clear C; have hB3 := HS.out.blk.keeps (hk2.same hk3) (fun h => h); skip; clear hB3))
            go_ret
            exact ⟨by rw [HV.out, HB.out, if_neg (fun x => by cases x.1)]; rfl, hk2⟩
    · have hd' : decide (due ≤ t) = false := by simpa using HWD.out rfl
      have gd0 : 0 ≤ due := (HG.out.admin rfl).b0
      clear HWD
      cases has
      · have HB : Hid (Par.best (⟨⟨ob, oc, ox, oA, ocap, oes⟩, ⟨ab, ac, ax, aA, acap, aes⟩, false, true, due⟩ : Par) t = -1) := Par.best_0 rfl
        go_wp2_with (first | (go_at_call 63; refine (C63 _ (Keeps.refl _ _)).mono ?_; rintro e w2 ⟨rfl, hk2⟩; clear C63; have hB2 := HS.out.blk.keeps hk2 (fun h => h); have s0 : w2.cell? ⟨q, 0, none⟩ = some (.int .i64 ob) := hB2.cell 0; have s1 : w2.cell? ⟨q, 1, none⟩ = some (.int .i64 oc) := hB2.cell 1; have s2 : w2.cell? ⟨q, 2, none⟩ = some (.int .i64 ox) := hB2.cell 2; have s3 : w2.cell? ⟨q, 3, none⟩ = some (.slice oA oes.length ocap) := hB2.cell 3; have s4 : w2.cell? ⟨q, 4, none⟩ = some (.int .i64 ab) := hB2.cell 4; have s5 : w2.cell? ⟨q, 5, none⟩ = some (.int .i64 ac) := hB2.cell 5; have s6 : w2.cell? ⟨q, 6, none⟩ = some (.int .i64 ax) := hB2.cell 6; have s7 : w2.cell? ⟨q, 7, none⟩ = some (.slice aA aes.length acap) := hB2.cell 7; have s8 : w2.cell? ⟨q, 8, none⟩ = some (.bool false) := hB2.cell 8; have s9 : w2.cell? ⟨q, 9, none⟩ = some (.bool true) := hB2.cell 9; have s10 : w2.cell? ⟨q, 10, none⟩ = some (.int .i64 due) := hB2.cell 10; clear hB2) | (go_at_call 62; refine (C _ hk2).mono ?_; rintro e w3 ⟨rfl, hk3⟩; clear C; have hB3 := HS.out.blk.keeps (hk2.same hk3) (fun h => h); skip; clear hB3))
        go_ret
        exact ⟨by rw [HV.out, HB.out, if_pos (by first | exact ⟨rfl, .inl (by decide)⟩ | exact ⟨trivial, .inl (by decide)⟩)]; rfl, hk2⟩
      · have hgo := HG.out.oper rfl
        have hge := gnx_ge (base := ob) (cyc := oc) (es := oes) (t := t) hgo.b0 hgo.c0
        have C := fun v (hv : Keeps Nothing w v) => rnext_ok (HS.out.oper.1.same hv) hgo t ht
        have hb1 := fun h1 => Par.best_1 (P := (⟨⟨ob, oc, ox, oA, ocap, oes⟩, ⟨ab, ac, ax, aA, acap, aes⟩, true, true, due⟩ : Par)) (t := t) rfl h1
        have hb2 := fun h1 h2 h3 => Par.best_2 (P := (⟨⟨ob, oc, ox, oA, ocap, oes⟩, ⟨ab, ac, ax, aA, acap, aes⟩, true, true, due⟩ : Par)) (t := t) rfl h1 h2 h3
        have hb3 := fun h2 h3 => Par.best_3 (P := (⟨⟨ob, oc, ox, oA, ocap, oes⟩, ⟨ab, ac, ax, aA, acap, aes⟩, true, true, due⟩ : Par)) (t := t) rfl h2 h3
        have hb4 := fun h1 h2 => Par.best_4 (P := (⟨⟨ob, oc, ox, oA, ocap, oes⟩, ⟨ab, ac, ax, aA, acap, aes⟩, true, true, due⟩ : Par)) (t := t) h1 h2
        have H1 := Lib.hid hb1
        have H2 := Lib.hid hb2
        have H3 := Lib.hid hb3
        have H4 := Lib.hid hb4
        clear hb1 hb2 hb3 hb4 hgo
        generalize Par.longer (⟨⟨ob, oc, ox, oA, ocap, oes⟩, ⟨ab, ac, ax, aA, acap, aes⟩, true, true, due⟩ : Par) = L at *
        generalize gnx ob oc oes t = N at *
        by_cases hL : L < 0
        · have hL' : decide (0 ≤ L) = false := by simp; omega
          have HB := Lib.hid (H1.out hL)
          clear H1 H2 H3 H4
          by_cases h9 : due < N
          · go_wp2_with (first | (go_at_call 63; refine (C63 _ (Keeps.refl _ _)).mono ?_; rintro e w2 ⟨rfl, hk2⟩; clear C63; have hB2 := HS.out.blk.keeps hk2 (fun h => h); have s0 : w2.cell? ⟨q, 0, none⟩ = some (.int .i64 ob) := hB2.cell 0; have s1 : w2.cell? ⟨q, 1, none⟩ = some (.int .i64 oc) := hB2.cell 1; have s2 : w2.cell? ⟨q, 2, none⟩ = some (.int .i64 ox) := hB2.cell 2; have s3 : w2.cell? ⟨q, 3, none⟩ = some (.slice oA oes.length ocap) := hB2.cell 3; have s4 : w2.cell? ⟨q, 4, none⟩ = some (.int .i64 ab) := hB2.cell 4; have s5 : w2.cell? ⟨q, 5, none⟩ = some (.int .i64 ac) := hB2.cell 5; have s6 : w2.cell? ⟨q, 6, none⟩ = some (.int .i64 ax) := hB2.cell 6; have s7 : w2.cell? ⟨q, 7, none⟩ = some (.slice aA aes.length acap) := hB2.cell 7; have s8 : w2.cell? ⟨q, 8, none⟩ = some (.bool true) := hB2.cell 8; have s9 : w2.cell? ⟨q, 9, none⟩ = some (.bool true) := hB2.cell 9; have s10 : w2.cell? ⟨q, 10, none⟩ = some (.int .i64 due) := hB2.cell 10; clear hB2) | (go_at_call 62; refine (C _ hk2).mono ?_; rintro e w3 ⟨rfl, hk3⟩; clear C; have hB3 := HS.out.blk.keeps (hk2.same hk3) (fun h => h); have s0 : w3.cell? ⟨q, 0, none⟩ = some (.int .i64 ob) := hB3.cell 0; have s1 : w3.cell? ⟨q, 1, none⟩ = some (.int .i64 oc) := hB3.cell 1; have s2 : w3.cell? ⟨q, 2, none⟩ = some (.int .i64 ox) := hB3.cell 2; have s3 : w3.cell? ⟨q, 3, none⟩ = some (.slice oA oes.length ocap) := hB3.cell 3; have s4 : w3.cell? ⟨q, 4, none⟩ = some (.int .i64 ab) := hB3.cell 4; have s5 : w3.cell? ⟨q, 5, none⟩ = some (.int .i64 ac) := hB3.cell 5; have s6 : w3.cell? ⟨q, 6, none⟩ = some (.int .i64 ax) := hB3.cell 6; have s7 : w3.cell? ⟨q, 7, none⟩ = some (.slice aA aes.length acap) := hB3.cell 7; have s8 : w3.cell? ⟨q, 8, none⟩ = some (.bool true) := hB3.cell 8; have s9 : w3.cell? ⟨q, 9, none⟩ = some (.bool true) := hB3.cell 9; have s10 : w3.cell? ⟨q, 10, none⟩ = some (.int .i64 due) := hB3.cell 10; clear hB3))
            go_ret
            exact ⟨by rw [HV.out, HB.out, if_pos (by first | exact ⟨rfl, .inr h9⟩ | exact ⟨trivial, .inr h9⟩)]; rfl, hk2.same hk3⟩
          · have h9' : decide (due < N) = false := by simpa using h9
            have h9n : decide (N < 0) = false := by simp; omega
            go_wp2_with (first | (go_at_call 63; refine (C63 _ (Keeps.refl _ _)).mono ?_; rintro e w2 ⟨rfl, hk2⟩; clear C63; have hB2 := HS.out.blk.keeps hk2 (fun h => h); have s0 : w2.cell? ⟨q, 0, none⟩ = some (.int .i64 ob) := hB2.cell 0; have s1 : w2.cell? ⟨q, 1, none⟩ = some (.int .i64 oc) := hB2.cell 1; have s2 : w2.cell? ⟨q, 2, none⟩ = some (.int .i64 ox) := hB2.cell 2; have s3 : w2.cell? ⟨q, 3, none⟩ = some (.slice oA oes.length ocap) := hB2.cell 3; have s4 : w2.cell? ⟨q, 4, none⟩ = some (.int .i64 ab) := hB2.cell 4; have s5 : w2.cell? ⟨q, 5, none⟩ = some (.int .i64 ac) := hB2.cell 5; have s6 : w2.cell? ⟨q, 6, none⟩ = some (.int .i64 ax) := hB2.cell 6; have s7 : w2.cell? ⟨q, 7, none⟩ = some (.slice aA aes.length acap) := hB2.cell 7; have s8 : w2.cell? ⟨q, 8, none⟩ = some (.bool true) := hB2.cell 8; have s9 : w2.cell? ⟨q, 9, none⟩ = some (.bool true) := hB2.cell 9; have s10 : w2.cell? ⟨q, 10, none⟩ = some (.int .i64 due) := hB2.cell 10; clear hB2) | (go_at_call 62; refine (C _ hk2).mono ?_; rintro e w3 ⟨rfl, hk3⟩; clear C; have hB3 := HS.out.blk.keeps (hk2.same hk3) (fun h => h); have s0 : w3.cell? ⟨q, 0, none⟩ = some (.int .i64 ob) := hB3.cell 0; have s1 : w3.cell? ⟨q, 1, none⟩ = some (.int .i64 oc) := hB3.cell 1; have s2 : w3.cell? ⟨q, 2, none⟩ = some (.int .i64 ox) := hB3.cell 2; have s3 : w3.cell? ⟨q, 3, none⟩ = some (.slice oA oes.length ocap) := hB3.cell 3; have s4 : w3.cell? ⟨q, 4, none⟩ = some (.int .i64 ab) := hB3.cell 4; have s5 : w3.cell? ⟨q, 5, none⟩ = some (.int .i64 ac) := hB3.cell 5; have s6 : w3.cell? ⟨q, 6, none⟩ = some (.int .i64 ax) := hB3.cell 6; have s7 : w3.cell? ⟨q, 7, none⟩ = some (.slice aA aes.length acap) := hB3.cell 7; have s8 : w3.cell? ⟨q, 8, none⟩ = some (.bool true) := hB3.cell 8; have s9 : w3.cell? ⟨q, 9, none⟩ = some (.bool true) := hB3.cell 9; have s10 : w3.cell? ⟨q, 10, none⟩ = some (.int .i64 due) := hB3.cell 10; clear hB3))
            go_ret
            exact ⟨by rw [HV.out, HB.out, if_neg (by rintro ⟨-, x⟩; (try simp only at x); omega)]; rfl, hk2.same hk3⟩
        · have hL' : decide (L < 0) = false := by simp; omega
          have hL0 : 0 ≤ L := by omega
          by_cases h5 : t < L
          · by_cases h6 : L < N
            · have HB := Lib.hid (H2.out hL0 h5 h6)
              clear H1 H2 H3 H4
              by_cases h9 : due < L
              · go_wp2_with (first | (go_at_call 63; refine (C63 _ (Keeps.refl _ _)).mono ?_; rintro e w2 ⟨rfl, hk2⟩; clear C63; have hB2 := HS.out.blk.keeps hk2 (fun h => h); have s0 : w2.cell? ⟨q, 0, none⟩ = some (.int .i64 ob) := hB2.cell 0; have s1 : w2.cell? ⟨q, 1, none⟩ = some (.int .i64 oc) := hB2.cell 1; have s2 : w2.cell? ⟨q, 2, none⟩ = some (.int .i64 ox) := hB2.cell 2; have s3 : w2.cell? ⟨q, 3, none⟩ = some (.slice oA oes.length ocap) := hB2.cell 3; have s4 : w2.cell? ⟨q, 4, none⟩ = some (.int .i64 ab) := hB2.cell 4; have s5 : w2.cell? ⟨q, 5, none⟩ = some (.int .i64 ac) := hB2.cell 5; have s6 : w2.cell? ⟨q, 6, none⟩ = some (.int .i64 ax) := hB2.cell 6; have s7 : w2.cell? ⟨q, 7, none⟩ = some (.slice aA aes.length acap) := hB2.cell 7; have s8 : w2.cell? ⟨q, 8, none⟩ = some (.bool true) := hB2.cell 8; have s9 : w2.cell? ⟨q, 9, none⟩ = some (.bool true) := hB2.cell 9; have s10 : w2.cell? ⟨q, 10, none⟩ = some (.int .i64 due) := hB2.cell 10; clear hB2) | (go_at_call 62; refine (C _ hk2).mono ?_; rintro e w3 ⟨rfl, hk3⟩; clear C; have hB3 := HS.out.blk.keeps (hk2.same hk3) (fun h => h); have s0 : w3.cell? ⟨q, 0, none⟩ = some (.int .i64 ob) := hB3.cell 0; have s1 : w3.cell? ⟨q, 1, none⟩ = some (.int .i64 oc) := hB3.cell 1; have s2 : w3.cell? ⟨q, 2, none⟩ = some (.int .i64 ox) := hB3.cell 2; have s3 : w3.cell? ⟨q, 3, none⟩ = some (.slice oA oes.length ocap) := hB3.cell 3; have s4 : w3.cell? ⟨q, 4, none⟩ = some (.int .i64 ab) := hB3.cell 4; have s5 : w3.cell? ⟨q, 5, none⟩ = some (.int .i64 ac) := hB3.cell 5; have s6 : w3.cell? ⟨q, 6, none⟩ = some (.int .i64 ax) := hB3.cell 6; have s7 : w3.cell? ⟨q, 7, none⟩ = some (.slice aA aes.length acap) := hB3.cell 7; have s8 : w3.cell? ⟨q, 8, none⟩ = some (.bool true) := hB3.cell 8; have s9 : w3.cell? ⟨q, 9, none⟩ = some (.bool true) := hB3.cell 9; have s10 : w3.cell? ⟨q, 10, none⟩ = some (.int .i64 due) := hB3.cell 10; clear hB3))
                go_ret
                exact ⟨by rw [HV.out, HB.out, if_pos (by first | exact ⟨rfl, .inr h9⟩ | exact ⟨trivial, .inr h9⟩)]; rfl, hk2.same hk3⟩
              · have h9' : decide (due < L) = false := by simpa using h9
                have h9n : decide (L < 0) = false := by simp; omega
                go_wp2_with (first | (go_at_call 63; refine (C63 _ (Keeps.refl _ _)).mono ?_; rintro e w2 ⟨rfl, hk2⟩; clear C63; have hB2 := HS.out.blk.keeps hk2 (fun h => h); have s0 : w2.cell? ⟨q, 0, none⟩ = some (.int .i64 ob) := hB2.cell 0; have s1 : w2.cell? ⟨q, 1, none⟩ = some (.int .i64 oc) := hB2.cell 1; have s2 : w2.cell? ⟨q, 2, none⟩ = some (.int .i64 ox) := hB2.cell 2; have s3 : w2.cell? ⟨q, 3, none⟩ = some (.slice oA oes.length ocap) := hB2.cell 3; have s4 : w2.cell? ⟨q, 4, none⟩ = some (.int .i64 ab) := hB2.cell 4; have s5 : w2.cell? ⟨q, 5, none⟩ = some (.int .i64 ac) := hB2.cell 5; have s6 : w2.cell? ⟨q, 6, none⟩ = some (.int .i64 ax) := hB2.cell 6; have s7 : w2.cell? ⟨q, 7, none⟩ = some (.slice aA aes.length acap) := hB2.cell 7; have s8 : w2.cell? ⟨q, 8, none⟩ = some (.bool true) := hB2.cell 8; have s9 : w2.cell? ⟨q, 9, none⟩ = some (.bool true) := hB2.cell 9; have s10 : w2.cell? ⟨q, 10, none⟩ = some (.int .i64 due) := hB2.cell 10; clear hB2) | (go_at_call 62; refine (C _ hk2).mono ?_; rintro e w3 ⟨rfl, hk3⟩; clear C; have hB3 := HS.out.blk.keeps (hk2.same hk3) (fun h => h); have s0 : w3.cell? ⟨q, 0, none⟩ = some (.int .i64 ob) := hB3.cell 0; have s1 : w3.cell? ⟨q, 1, none⟩ = some (.int .i64 oc) := hB3.cell 1; have s2 : w3.cell? ⟨q, 2, none⟩ = some (.int .i64 ox) := hB3.cell 2; have s3 : w3.cell? ⟨q, 3, none⟩ = some (.slice oA oes.length ocap) := hB3.cell 3; have s4 : w3.cell? ⟨q, 4, none⟩ = some (.int .i64 ab) := hB3.cell 4; have s5 : w3.cell? ⟨q, 5, none⟩ = some (.int .i64 ac) := hB3.cell 5; have s6 : w3.cell? ⟨q, 6, none⟩ = some (.int .i64 ax) := hB3.cell 6; have s7 : w3.cell? ⟨q, 7, none⟩ = some (.slice aA aes.length acap) := hB3.cell 7; have s8 : w3.cell? ⟨q, 8, none⟩ = some (.bool true) := hB3.cell 8; have s9 : w3.cell? ⟨q, 9, none⟩ = some (.bool true) := hB3.cell 9; have s10 : w3.cell? ⟨q, 10, none⟩ = some (.int .i64 due) := hB3.cell 10; clear hB3))
                go_ret
                exact ⟨by rw [HV.out, HB.out, if_neg (by rintro ⟨-, x⟩; (try simp only at x); omega)]; rfl, hk2.same hk3⟩
            · have h6' : decide (L < N) = false := by simp; omega
              have HB := Lib.hid (H3.out h5 (by omega))
              clear H1 H2 H3 H4
              by_cases h9 : due < N
              · go_wp2_with (first | (go_at_call 63; refine (C63 _ (Keeps.refl _ _)).mono ?_; rintro e w2 ⟨rfl, hk2⟩; clear C63; have hB2 := HS.out.blk.keeps hk2 (fun h => h); have s0 : w2.cell? ⟨q, 0, none⟩ = some (.int .i64 ob) := hB2.cell 0; have s1 : w2.cell? ⟨q, 1, none⟩ = some (.int .i64 oc) := hB2.cell 1; have s2 : w2.cell? ⟨q, 2, none⟩ = some (.int .i64 ox) := hB2.cell 2; have s3 : w2.cell? ⟨q, 3, none⟩ = some (.slice oA oes.length ocap) := hB2.cell 3; have s4 : w2.cell? ⟨q, 4, none⟩ = some (.int .i64 ab) := hB2.cell 4; have s5 : w2.cell? ⟨q, 5, none⟩ = some (.int .i64 ac) := hB2.cell 5; have s6 : w2.cell? ⟨q, 6, none⟩ = some (.int .i64 ax) := hB2.cell 6; have s7 : w2.cell? ⟨q, 7, none⟩ = some (.slice aA aes.length acap) := hB2.cell 7; have s8 : w2.cell? ⟨q, 8, none⟩ = some (.bool true) := hB2.cell 8; have s9 : w2.cell? ⟨q, 9, none⟩ = some (.bool true) := hB2.cell 9; have s10 : w2.cell? ⟨q, 10, none⟩ = some (.int .i64 due) := hB2.cell 10; clear hB2) | (go_at_call 62; refine (C _ hk2).mono ?_; rintro e w3 ⟨rfl, hk3⟩; clear C; have hB3 := HS.out.blk.keeps (hk2.same hk3) (fun h => h); have s0 : w3.cell? ⟨q, 0, none⟩ = some (.int .i64 ob) := hB3.cell 0; have s1 : w3.cell? ⟨q, 1, none⟩ = some (.int .i64 oc) := hB3.cell 1; have s2 : w3.cell? ⟨q, 2, none⟩ = some (.int .i64 ox) := hB3.cell 2; have s3 : w3.cell? ⟨q, 3, none⟩ = some (.slice oA oes.length ocap) := hB3.cell 3; have s4 : w3.cell? ⟨q, 4, none⟩ = some (.int .i64 ab) := hB3.cell 4; have s5 : w3.cell? ⟨q, 5, none⟩ = some (.int .i64 ac) := hB3.cell 5; have s6 : w3.cell? ⟨q, 6, none⟩ = some (.int .i64 ax) := hB3.cell 6; have s7 : w3.cell? ⟨q, 7, none⟩ = some (.slice aA aes.length acap) := hB3.cell 7; have s8 : w3.cell? ⟨q, 8, none⟩ = some (.bool true) := hB3.cell 8; have s9 : w3.cell? ⟨q, 9, none⟩ = some (.bool true) := hB3.cell 9; have s10 : w3.cell? ⟨q, 10, none⟩ = some (.int .i64 due) := hB3.cell 10; clear hB3))
                go_ret
                exact ⟨by rw [HV.out, HB.out, if_pos (by first | exact ⟨rfl, .inr h9⟩ | exact ⟨trivial, .inr h9⟩)]; rfl, hk2.same hk3⟩
              · have h9' : decide (due < N) = false := by simpa using h9
                have h9n : decide (N < 0) = false := by simp; omega
                go_wp2_with (first | (go_at_call 63; refine (C63 _ (Keeps.refl _ _)).mono ?_; rintro e w2 ⟨rfl, hk2⟩; clear C63; have hB2 := HS.out.blk.keeps hk2 (fun h => h); have s0 : w2.cell? ⟨q, 0, none⟩ = some (.int .i64 ob) := hB2.cell 0; have s1 : w2.cell? ⟨q, 1, none⟩ = some (.int .i64 oc) := hB2.cell 1; have s2 : w2.cell? ⟨q, 2, none⟩ = some (.int .i64 ox) := hB2.cell 2; have s3 : w2.cell? ⟨q, 3, none⟩ = some (.slice oA oes.length ocap) := hB2.cell 3; have s4 : w2.cell? ⟨q, 4, none⟩ = some (.int .i64 ab) := hB2.cell 4; have s5 : w2.cell? ⟨q, 5, none⟩ = some (.int .i64 ac) := hB2.cell 5; have s6 : w2.cell? ⟨q, 6, none⟩ = some (.int .i64 ax) := hB2.cell 6; have s7 : w2.cell? ⟨q, 7, none⟩ = some (.slice aA aes.length acap) := hB2.cell 7; have s8 : w2.cell? ⟨q, 8, none⟩ = some (.bool true) := hB2.cell 8; have s9 : w2.cell? ⟨q, 9, none⟩ = some (.bool true) := hB2.cell 9; have s10 : w2.cell? ⟨q, 10, none⟩ = some (.int .i64 due) := hB2.cell 10; clear hB2) | (go_at_call 62; refine (C _ hk2).mono ?_; rintro e w3 ⟨rfl, hk3⟩; clear C; have hB3 := HS.out.blk.keeps (hk2.same hk3) (fun h => h); have s0 : w3.cell? ⟨q, 0, none⟩ = some (.int .i64 ob) := hB3.cell 0; have s1 : w3.cell? ⟨q, 1, none⟩ = some (.int .i64 oc) := hB3.cell 1; have s2 : w3.cell? ⟨q, 2, none⟩ = some (.int .i64 ox) := hB3.cell 2; have s3 : w3.cell? ⟨q, 3, none⟩ = some (.slice oA oes.length ocap) := hB3.cell 3; have s4 : w3.cell? ⟨q, 4, none⟩ = some (.int .i64 ab) := hB3.cell 4; have s5 : w3.cell? ⟨q, 5, none⟩ = some (.int .i64 ac) := hB3.cell 5; have s6 : w3.cell? ⟨q, 6, none⟩ = some (.int .i64 ax) := hB3.cell 6; have s7 : w3.cell? ⟨q, 7, none⟩ = some (.slice aA aes.length acap) := hB3.cell 7; have s8 : w3.cell? ⟨q, 8, none⟩ = some (.bool true) := hB3.cell 8; have s9 : w3.cell? ⟨q, 9, none⟩ = some (.bool true) := hB3.cell 9; have s10 : w3.cell? ⟨q, 10, none⟩ = some (.int .i64 due) := hB3.cell 10; clear hB3))
                go_ret
                exact ⟨by rw [HV.out, HB.out, if_neg (by rintro ⟨-, x⟩; (try simp only at x); omega)]; rfl, hk2.same hk3⟩
          · have h5' : decide (t < L) = false := by simp; omega
            have HB := Lib.hid (H4.out hL0 (by omega))
            clear H1 H2 H3 H4
            go_wp2_with (first | (go_at_call 63; refine (C63 _ (Keeps.refl _ _)).mono ?_; rintro e w2 ⟨rfl, hk2⟩; clear C63; have hB2 := HS.out.blk.keeps hk2 (fun h => h); have s0 : w2.cell? ⟨q, 0, none⟩ = some (.int .i64 ob) := hB2.cell 0; have s1 : w2.cell? ⟨q, 1, none⟩ = some (.int .i64 oc) := hB2.cell 1; have s2 : w2.cell? ⟨q, 2, none⟩ = some (.int .i64 ox) := hB2.cell 2; have s3 : w2.cell? ⟨q, 3, none⟩ = some (.slice oA oes.length ocap) := hB2.cell 3; have s4 : w2.cell? ⟨q, 4, none⟩ = some (.int .i64 ab) := hB2.cell 4; have s5 : w2.cell? ⟨q, 5, none⟩ = some (.int .i64 ac) := hB2.cell 5; have s6 : w2.cell? ⟨q, 6, none⟩ = some (.int .i64 ax) := hB2.cell 6; have s7 : w2.cell? ⟨q, 7, none⟩ = some (.slice aA aes.length acap) := hB2.cell 7; have s8 : w2.cell? ⟨q, 8, none⟩ = some (.bool true) := hB2.cell 8; have s9 : w2.cell? ⟨q, 9, none⟩ = some (.bool true) := hB2.cell 9; have s10 : w2.cell? ⟨q, 10, none⟩ = some (.int .i64 due) := hB2.cell 10; clear hB2) | (go_at_call 62; refine (C _ hk2).mono ?_; rintro e w3 ⟨rfl, hk3⟩; clear C; have hB3 := HS.out.blk.keeps (hk2.same hk3) (fun h => h); skip; clear hB3))
            go_ret
            exact ⟨by rw [HV.out, HB.out, if_pos (by first | exact ⟨rfl, .inl (by decide)⟩ | exact ⟨trivial, .inl (by decide)⟩)]; rfl, hk2⟩

end Go.Proofs.Ytpgmkekdgchkfaa
