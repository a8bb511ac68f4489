/- What may go at a time; and when that may change next. -/
import Derived.Test.YtpgmkekdgchkfaaSched4
namespace Go.Proofs.Ytpgmkekdgchkfaa
open Go.RowKit

theorem Sch.state_none {S : Sch} {t : Int} (h : S.waits = true → ¬ S.due ≤ t) (hT : S.tail = none) : S.state t = if S.has = true then gst S.oper.base S.oper.cyc S.oper.es t else 255 := by
  unfold Sch.state
  rw [if_neg (fun x => h x.1 x.2), hT]

theorem Sch.state_tail {S : Sch} {t f : Int} (h : S.waits = true → ¬ S.due ≤ t) (hT : S.tail = some f) : S.state t = if f ≤ t then gst S.oper.base S.oper.cyc S.oper.es (f - 1) else if S.has = true then gst S.oper.base S.oper.cyc S.oper.es t else 255 := by
  unfold Sch.state
  rw [if_neg (fun x => h x.1 x.2), hT]

theorem Sch.next_of {S : Sch} {t n : Int} (h : S.waits = true → ¬ S.due ≤ t) (hn : S.pre t = n) : S.next t = if S.waits = true ∧ (n < 0 ∨ S.due < n) then S.due else n := by
  unfold Sch.next
  rw [if_neg (fun x => h x.1 x.2), hn]

theorem Sch.next_n {S : Sch} {t : Int} (h : S.waits = true → ¬ S.due ≤ t) (hT : S.tail = none) (hh : S.has = false) : S.next t = if S.waits = true ∧ ((-1 : Int) < 0 ∨ S.due < -1) then S.due else -1 :=
  Sch.next_of h (by unfold Sch.pre; rw [hT]; simp [hh])

theorem Sch.next_g {S : Sch} {t : Int} (h : S.waits = true → ¬ S.due ≤ t) (hT : S.tail = none) (hh : S.has = true) : S.next t = if S.waits = true ∧ (gnx S.oper.base S.oper.cyc S.oper.es t < 0 ∨ S.due < gnx S.oper.base S.oper.cyc S.oper.es t) then S.due else gnx S.oper.base S.oper.cyc S.oper.es t :=
  Sch.next_of h (by unfold Sch.pre; rw [hT]; simp [hh])

theorem Sch.next_l {S : Sch} {t f : Int} (h : S.waits = true → ¬ S.due ≤ t) (hT : S.tail = some f) (hf : f ≤ t) : S.next t = if S.waits = true ∧ ((-1 : Int) < 0 ∨ S.due < -1) then S.due else -1 :=
  Sch.next_of h (by unfold Sch.pre; rw [hT]; simp [hf])

theorem Sch.next_b {S : Sch} {t f : Int} (h : S.waits = true → ¬ S.due ≤ t) (hT : S.tail = some f) (hf : ¬ f ≤ t) (hh : S.has = true) (hn : f < gnx S.oper.base S.oper.cyc S.oper.es t) : S.next t = if S.waits = true ∧ (f < 0 ∨ S.due < f) then S.due else f :=
  Sch.next_of h (by unfold Sch.pre; rw [hT]; simp [hf, hh, hn])

theorem Sch.next_c {S : Sch} {t f : Int} (h : S.waits = true → ¬ S.due ≤ t) (hT : S.tail = some f) (hf : ¬ f ≤ t) (hh : S.has = true) (hn : ¬ f < gnx S.oper.base S.oper.cyc S.oper.es t) : S.next t = if S.waits = true ∧ (gnx S.oper.base S.oper.cyc S.oper.es t < 0 ∨ S.due < gnx S.oper.base S.oper.cyc S.oper.es t) then S.due else gnx S.oper.base S.oper.cyc S.oper.es t :=
  Sch.next_of h (by unfold Sch.pre; rw [hT]; simp [hf, hh, hn])

theorem Sch.tail_ge {S : Sch} {f : Int} (hT : S.tail = some f) (hb : 0 ≤ S.oper.base) (hc : 1 ≤ S.oper.cyc) : 0 ≤ f := by
  unfold Sch.tail at hT
  split at hT
  · rename_i h
    simp only at hT
    split at hT
    · cases hT
    · injection hT with hT
      have h1 : 0 ≤ (S.due - S.oper.base).tdiv S.oper.cyc := Int.tdiv_nonneg (by omega) (by omega)
      have h2 : 0 ≤ (S.due - S.oper.base).tdiv S.oper.cyc * S.oper.cyc := Int.mul_nonneg h1 (by omega)
      omega
  · cases hT

theorem gnx_ge {base cyc : Int} {es : List Ent} {t : Int} (hb : 0 ≤ base) (hc : 1 ≤ cyc) : 0 ≤ gnx base cyc es t := by
  by_cases h : t < base
  · unfold gnx; rw [if_pos h]; exact hb
  · have := (gnx_range (es := es) hc (Int.not_lt.1 h)).1
    omega

theorem Sch.tail_some {S : Sch} {f : Int} (hT : S.tail = some f) : S.waits = true ∧ S.has = true := by
  unfold Sch.tail at hT
  split at hT
  · rename_i h
    exact ⟨h.1, h.2.1⟩
  · cases hT

set_option maxRecDepth 100000 in
set_option maxHeartbeats 4000000 in
theorem state_ok {w : World} {p : Nat} {S : Sch} (h : SchAt w p S) (hg : SchGood S) (t : Int) (ht : t ≤ 9000000000000000000) :
    Calls Try.prog 39 #[.pointer (some ⟨p, 0, none⟩), .int .i64 t] w (fun e w' => e = .returned (.int .i64 (S.state t)) ∧ Keeps Nothing w w') := by
  obtain ⟨⟨ob, oc, ox, oA, ocap, oes⟩, ⟨ab, ac, ax, aA, acap, aes⟩, has, waits, due, chg, rep⟩ := S
  have hB : Blk w p [.int .i64 ob, .int .i64 oc, .int .i64 ox, .slice oA oes.length ocap, .int .i64 ab, .int .i64 ac, .int .i64 ax, .slice aA aes.length acap, .bool has, .bool waits, .int .i64 due, .int .i64 chg, .int .i64 rep] 79 := h.blk
  have HS := Lib.hid h
  have HG := Lib.hid hg
  have C60 := fun v (hv : Keeps Nothing w v) => moved_ok (HS.out.same hv)
  have C61 := fun v (hv : Keeps Nothing w v) => tail_ok (HS.out.same hv) HG.out
  have s0 : w.cell? ⟨p, 0, none⟩ = some (.int .i64 ob) := hB.cell 0
  have s1 : w.cell? ⟨p, 1, none⟩ = some (.int .i64 oc) := hB.cell 1
  have s2 : w.cell? ⟨p, 2, none⟩ = some (.int .i64 ox) := hB.cell 2
  have s3 : w.cell? ⟨p, 3, none⟩ = some (.slice oA oes.length ocap) := hB.cell 3
  have s4 : w.cell? ⟨p, 4, none⟩ = some (.int .i64 ab) := hB.cell 4
  have s5 : w.cell? ⟨p, 5, none⟩ = some (.int .i64 ac) := hB.cell 5
  have s6 : w.cell? ⟨p, 6, none⟩ = some (.int .i64 ax) := hB.cell 6
  have s7 : w.cell? ⟨p, 7, none⟩ = some (.slice aA aes.length acap) := hB.cell 7
  have s8 : w.cell? ⟨p, 8, none⟩ = some (.bool has) := hB.cell 8
  have s9 : w.cell? ⟨p, 9, none⟩ = some (.bool waits) := hB.cell 9
  have s10 : w.cell? ⟨p, 10, none⟩ = some (.int .i64 due) := hB.cell 10
  have s11 : w.cell? ⟨p, 11, none⟩ = some (.int .i64 chg) := hB.cell 11
  have s12 : w.cell? ⟨p, 12, none⟩ = some (.int .i64 rep) := hB.cell 12
  clear h hB hg
  cases waits
  · have HN : Hid (¬ (false = true ∧ due ≤ t)) := fun h => by cases h.1
    clear C60
    go_enter Try.func39, Try.ntmps39
    go_upto_region 4 with (go_at_call 61; refine (C61 _ (Keeps.refl _ _)).mono ?_; rintro e w2 ⟨f, o, b, rfl, hT, ho, hk2⟩; clear C61; have hB2 := HS.out.blk.keeps hk2 (fun h => h); have s0 : w2.cell? ⟨p, 0, none⟩ = some (.int .i64 ob) := hB2.cell 0; have s1 : w2.cell? ⟨p, 1, none⟩ = some (.int .i64 oc) := hB2.cell 1; have s2 : w2.cell? ⟨p, 2, none⟩ = some (.int .i64 ox) := hB2.cell 2; have s3 : w2.cell? ⟨p, 3, none⟩ = some (.slice oA oes.length ocap) := hB2.cell 3; have s4 : w2.cell? ⟨p, 4, none⟩ = some (.int .i64 ab) := hB2.cell 4; have s5 : w2.cell? ⟨p, 5, none⟩ = some (.int .i64 ac) := hB2.cell 5; have s6 : w2.cell? ⟨p, 6, none⟩ = some (.int .i64 ax) := hB2.cell 6; have s7 : w2.cell? ⟨p, 7, none⟩ = some (.slice aA aes.length acap) := hB2.cell 7; have s8 : w2.cell? ⟨p, 8, none⟩ = some (.bool has) := hB2.cell 8; have s9 : w2.cell? ⟨p, 9, none⟩ = some (.bool false) := hB2.cell 9; have s10 : w2.cell? ⟨p, 10, none⟩ = some (.int .i64 due) := hB2.cell 10; have s11 : w2.cell? ⟨p, 11, none⟩ = some (.int .i64 chg) := hB2.cell 11; have s12 : w2.cell? ⟨p, 12, none⟩ = some (.int .i64 rep) := hB2.cell 12; clear hB2)
    have HT := Lib.hid hT
    have HO := Lib.hid ho
    clear hT ho
    cases b
    · have hT2 : Sch.tail (⟨⟨ob, oc, ox, oA, ocap, oes⟩, ⟨ab, ac, ax, aA, acap, aes⟩, has, false, due, chg, rep⟩ : Sch) = none := HT.out
      cases has
      · have HV := Lib.hid (Sch.state_none (S := (⟨⟨ob, oc, ox, oA, ocap, oes⟩, ⟨ab, ac, ax, aA, acap, aes⟩, false, false, due, chg, rep⟩ : Sch)) (t := t) (fun h => by cases h) hT2)
        clear hT2 HT HO
        go_wp2_with fail
        go_ret
        exact ⟨by rw [HV.out]; rfl, hk2⟩
      · have HV := Lib.hid (Sch.state_none (S := (⟨⟨ob, oc, ox, oA, ocap, oes⟩, ⟨ab, ac, ax, aA, acap, aes⟩, true, false, due, chg, rep⟩ : Sch)) (t := t) (fun h => by cases h) hT2)
        have C := fun v (hv : Keeps Nothing w2 v) => gstate_ok (HS.out.oper.1.same (hk2.same hv)) (HG.out.oper rfl) t ht
        clear hT2 HT HO
        go_wp2_with (go_at_call 64; refine (C _ (Keeps.refl _ _)).mono ?_; rintro e w3 ⟨rfl, hk3⟩; clear C)
        go_ret
        exact ⟨by rw [HV.out]; rfl, hk2.same hk3⟩
    · have hT2 : Sch.tail (⟨⟨ob, oc, ox, oA, ocap, oes⟩, ⟨ab, ac, ax, aA, acap, aes⟩, has, false, due, chg, rep⟩ : Sch) = some f := HT.out
      have ho2 : o = gst ob oc oes (f - 1) := HO.out rfl
      by_cases hf : f ≤ t
      · have HV := Lib.hid ((Sch.state_tail (S := (⟨⟨ob, oc, ox, oA, ocap, oes⟩, ⟨ab, ac, ax, aA, acap, aes⟩, has, false, due, chg, rep⟩ : Sch)) (t := t) (fun h => by cases h) hT2).trans ((if_pos hf).trans ho2.symm))
        clear hT2 HT HO ho2
        go_wp2_with fail
        go_ret
        exact ⟨by rw [HV.out]; rfl, hk2⟩
      · have hf' : decide (f ≤ t) = false := by simpa using hf
        cases has
        · have HV := Lib.hid ((Sch.state_tail (S := (⟨⟨ob, oc, ox, oA, ocap, oes⟩, ⟨ab, ac, ax, aA, acap, aes⟩, false, false, due, chg, rep⟩ : Sch)) (t := t) (fun h => by cases h) hT2).trans (if_neg hf))
          clear hT2 HT HO ho2
          go_wp2_with fail
          go_ret
          exact ⟨by rw [HV.out]; rfl, hk2⟩
        · have HV := Lib.hid ((Sch.state_tail (S := (⟨⟨ob, oc, ox, oA, ocap, oes⟩, ⟨ab, ac, ax, aA, acap, aes⟩, true, false, due, chg, rep⟩ : Sch)) (t := t) (fun h => by cases h) hT2).trans (if_neg hf))
          have C := fun v (hv : Keeps Nothing w2 v) => gstate_ok (HS.out.oper.1.same (hk2.same hv)) (HG.out.oper rfl) t ht
          clear hT2 HT HO ho2
          go_wp2_with (go_at_call 64; refine (C _ (Keeps.refl _ _)).mono ?_; rintro e w3 ⟨rfl, hk3⟩; clear C)
          go_ret
          exact ⟨by rw [HV.out]; rfl, hk2.same hk3⟩
  · by_cases hd : due ≤ t
    · have HV : Hid (Sch.state (⟨⟨ob, oc, ox, oA, ocap, oes⟩, ⟨ab, ac, ax, aA, acap, aes⟩, has, true, due, chg, rep⟩ : Sch) t = gst due ac aes t) := by show _ = _; unfold Sch.state; rw [if_pos ⟨rfl, hd⟩]
      have C := fun v (hv : Keeps Nothing w v) => gstate_ok (HS.out.admin.1.same hv) (HG.out.admin rfl) t ht
      clear C61
      go_enter Try.func39, Try.ntmps39
      go_wp2_with (first | (go_at_call 60; refine (C60 _ (Keeps.refl _ _)).mono ?_; rintro e w2 ⟨rfl, hk2⟩; clear C60) | (go_at_call 64; refine (C _ hk2).mono ?_; rintro e w3 ⟨rfl, hk3⟩; clear C))
      go_ret
      exact ⟨by rw [HV.out]; rfl, hk2.same hk3⟩
    · have HN : Hid (¬ (true = true ∧ due ≤ t)) := fun h => hd h.2
      have hd' : decide (due ≤ t) = false := by simpa using hd
      clear C60
      go_enter Try.func39, Try.ntmps39
      go_upto_region 4 with (go_at_call 61; refine (C61 _ (Keeps.refl _ _)).mono ?_; rintro e w2 ⟨f, o, b, rfl, hT, ho, hk2⟩; clear C61; have hB2 := HS.out.blk.keeps hk2 (fun h => h); have s0 : w2.cell? ⟨p, 0, none⟩ = some (.int .i64 ob) := hB2.cell 0; have s1 : w2.cell? ⟨p, 1, none⟩ = some (.int .i64 oc) := hB2.cell 1; have s2 : w2.cell? ⟨p, 2, none⟩ = some (.int .i64 ox) := hB2.cell 2; have s3 : w2.cell? ⟨p, 3, none⟩ = some (.slice oA oes.length ocap) := hB2.cell 3; have s4 : w2.cell? ⟨p, 4, none⟩ = some (.int .i64 ab) := hB2.cell 4; have s5 : w2.cell? ⟨p, 5, none⟩ = some (.int .i64 ac) := hB2.cell 5; have s6 : w2.cell? ⟨p, 6, none⟩ = some (.int .i64 ax) := hB2.cell 6; have s7 : w2.cell? ⟨p, 7, none⟩ = some (.slice aA aes.length acap) := hB2.cell 7; have s8 : w2.cell? ⟨p, 8, none⟩ = some (.bool has) := hB2.cell 8; have s9 : w2.cell? ⟨p, 9, none⟩ = some (.bool true) := hB2.cell 9; have s10 : w2.cell? ⟨p, 10, none⟩ = some (.int .i64 due) := hB2.cell 10; have s11 : w2.cell? ⟨p, 11, none⟩ = some (.int .i64 chg) := hB2.cell 11; have s12 : w2.cell? ⟨p, 12, none⟩ = some (.int .i64 rep) := hB2.cell 12; clear hB2)
      have HT := Lib.hid hT
      have HO := Lib.hid ho
      clear hT ho
      cases b
      · have hT2 : Sch.tail (⟨⟨ob, oc, ox, oA, ocap, oes⟩, ⟨ab, ac, ax, aA, acap, aes⟩, has, true, due, chg, rep⟩ : Sch) = none := HT.out
        cases has
        · have HV := Lib.hid (Sch.state_none (S := (⟨⟨ob, oc, ox, oA, ocap, oes⟩, ⟨ab, ac, ax, aA, acap, aes⟩, false, true, due, chg, rep⟩ : Sch)) (t := t) (fun _ => by show ¬ due ≤ t; omega) hT2)
          clear hT2 HT HO
          go_wp2_with fail
          go_ret
          exact ⟨by rw [HV.out]; rfl, hk2⟩
        · have HV := Lib.hid (Sch.state_none (S := (⟨⟨ob, oc, ox, oA, ocap, oes⟩, ⟨ab, ac, ax, aA, acap, aes⟩, true, true, due, chg, rep⟩ : Sch)) (t := t) (fun _ => by show ¬ due ≤ t; omega) hT2)
          have C := fun v (hv : Keeps Nothing w2 v) => gstate_ok (HS.out.oper.1.same (hk2.same hv)) (HG.out.oper rfl) t ht
          clear hT2 HT HO
          go_wp2_with (go_at_call 64; refine (C _ (Keeps.refl _ _)).mono ?_; rintro e w3 ⟨rfl, hk3⟩; clear C)
          go_ret
          exact ⟨by rw [HV.out]; rfl, hk2.same hk3⟩
      · have hT2 : Sch.tail (⟨⟨ob, oc, ox, oA, ocap, oes⟩, ⟨ab, ac, ax, aA, acap, aes⟩, has, true, due, chg, rep⟩ : Sch) = some f := HT.out
        have ho2 : o = gst ob oc oes (f - 1) := HO.out rfl
        by_cases hf : f ≤ t
        · have HV := Lib.hid ((Sch.state_tail (S := (⟨⟨ob, oc, ox, oA, ocap, oes⟩, ⟨ab, ac, ax, aA, acap, aes⟩, has, true, due, chg, rep⟩ : Sch)) (t := t) (fun _ => by show ¬ due ≤ t; omega) hT2).trans ((if_pos hf).trans ho2.symm))
          clear hT2 HT HO ho2
          go_wp2_with fail
          go_ret
          exact ⟨by rw [HV.out]; rfl, hk2⟩
        · have hf' : decide (f ≤ t) = false := by simpa using hf
          cases has
          · have HV := Lib.hid ((Sch.state_tail (S := (⟨⟨ob, oc, ox, oA, ocap, oes⟩, ⟨ab, ac, ax, aA, acap, aes⟩, false, true, due, chg, rep⟩ : Sch)) (t := t) (fun _ => by show ¬ due ≤ t; omega) hT2).trans (if_neg hf))
            clear hT2 HT HO ho2
            go_wp2_with fail
            go_ret
            exact ⟨by rw [HV.out]; rfl, hk2⟩
          · have HV := Lib.hid ((Sch.state_tail (S := (⟨⟨ob, oc, ox, oA, ocap, oes⟩, ⟨ab, ac, ax, aA, acap, aes⟩, true, true, due, chg, rep⟩ : Sch)) (t := t) (fun _ => by show ¬ due ≤ t; omega) hT2).trans (if_neg hf))
            have C := fun v (hv : Keeps Nothing w2 v) => gstate_ok (HS.out.oper.1.same (hk2.same hv)) (HG.out.oper rfl) t ht
            clear hT2 HT HO ho2
            go_wp2_with (go_at_call 64; refine (C _ (Keeps.refl _ _)).mono ?_; rintro e w3 ⟨rfl, hk3⟩; clear C)
            go_ret
            exact ⟨by rw [HV.out]; rfl, hk2.same hk3⟩

set_option maxRecDepth 100000 in
set_option maxHeartbeats 4000000 in
theorem next_ok {w : World} {p : Nat} {S : Sch} (h : SchAt w p S) (hg : SchGood S) (t : Int) (ht : t ≤ 9000000000000000000) :
    Calls Try.prog 37 #[.pointer (some ⟨p, 0, none⟩), .int .i64 t] w (fun e w' => e = .returned (.int .i64 (S.next t)) ∧ Keeps Nothing w w') := by
  obtain ⟨⟨ob, oc, ox, oA, ocap, oes⟩, ⟨ab, ac, ax, aA, acap, aes⟩, has, waits, due, chg, rep⟩ := S
  have hB : Blk w p [.int .i64 ob, .int .i64 oc, .int .i64 ox, .slice oA oes.length ocap, .int .i64 ab, .int .i64 ac, .int .i64 ax, .slice aA aes.length acap, .bool has, .bool waits, .int .i64 due, .int .i64 chg, .int .i64 rep] 79 := h.blk
  have HS := Lib.hid h
  have HG := Lib.hid hg
  have C60 := fun v (hv : Keeps Nothing w v) => moved_ok (HS.out.same hv)
  have C61 := fun v (hv : Keeps Nothing w v) => tail_ok (HS.out.same hv) HG.out
  have s0 : w.cell? ⟨p, 0, none⟩ = some (.int .i64 ob) := hB.cell 0
  have s1 : w.cell? ⟨p, 1, none⟩ = some (.int .i64 oc) := hB.cell 1
  have s2 : w.cell? ⟨p, 2, none⟩ = some (.int .i64 ox) := hB.cell 2
  have s3 : w.cell? ⟨p, 3, none⟩ = some (.slice oA oes.length ocap) := hB.cell 3
  have s4 : w.cell? ⟨p, 4, none⟩ = some (.int .i64 ab) := hB.cell 4
  have s5 : w.cell? ⟨p, 5, none⟩ = some (.int .i64 ac) := hB.cell 5
  have s6 : w.cell? ⟨p, 6, none⟩ = some (.int .i64 ax) := hB.cell 6
  have s7 : w.cell? ⟨p, 7, none⟩ = some (.slice aA aes.length acap) := hB.cell 7
  have s8 : w.cell? ⟨p, 8, none⟩ = some (.bool has) := hB.cell 8
  have s9 : w.cell? ⟨p, 9, none⟩ = some (.bool waits) := hB.cell 9
  have s10 : w.cell? ⟨p, 10, none⟩ = some (.int .i64 due) := hB.cell 10
  have s11 : w.cell? ⟨p, 11, none⟩ = some (.int .i64 chg) := hB.cell 11
  have s12 : w.cell? ⟨p, 12, none⟩ = some (.int .i64 rep) := hB.cell 12
  clear h hB hg
  cases waits
  · clear C60
    go_enter Try.func37, Try.ntmps37
    go_upto_region 5 with (go_at_call 61; refine (C61 _ (Keeps.refl _ _)).mono ?_; rintro e w2 ⟨f, o, b, rfl, hT, ho, hk2⟩; clear C61; have hB2 := HS.out.blk.keeps hk2 (fun h => h); have s0 : w2.cell? ⟨p, 0, none⟩ = some (.int .i64 ob) := hB2.cell 0; have s1 : w2.cell? ⟨p, 1, none⟩ = some (.int .i64 oc) := hB2.cell 1; have s2 : w2.cell? ⟨p, 2, none⟩ = some (.int .i64 ox) := hB2.cell 2; have s3 : w2.cell? ⟨p, 3, none⟩ = some (.slice oA oes.length ocap) := hB2.cell 3; have s4 : w2.cell? ⟨p, 4, none⟩ = some (.int .i64 ab) := hB2.cell 4; have s5 : w2.cell? ⟨p, 5, none⟩ = some (.int .i64 ac) := hB2.cell 5; have s6 : w2.cell? ⟨p, 6, none⟩ = some (.int .i64 ax) := hB2.cell 6; have s7 : w2.cell? ⟨p, 7, none⟩ = some (.slice aA aes.length acap) := hB2.cell 7; have s8 : w2.cell? ⟨p, 8, none⟩ = some (.bool has) := hB2.cell 8; have s9 : w2.cell? ⟨p, 9, none⟩ = some (.bool false) := hB2.cell 9; have s10 : w2.cell? ⟨p, 10, none⟩ = some (.int .i64 due) := hB2.cell 10; have s11 : w2.cell? ⟨p, 11, none⟩ = some (.int .i64 chg) := hB2.cell 11; have s12 : w2.cell? ⟨p, 12, none⟩ = some (.int .i64 rep) := hB2.cell 12; clear hB2)
    have HT := Lib.hid hT
    clear hT ho
    have C := fun (hh : has = true) v (hv : Keeps Nothing w2 v) => gnext_ok (HS.out.oper.1.same (hk2.same hv)) (HG.out.oper hh) t ht
    have HC := Lib.hid C
    clear C
    cases b
    · have hT2 : Sch.tail (⟨⟨ob, oc, ox, oA, ocap, oes⟩, ⟨ab, ac, ax, aA, acap, aes⟩, has, false, due, chg, rep⟩ : Sch) = none := HT.out
      cases has
      · have HV := Lib.hid (Sch.next_n (S := (⟨⟨ob, oc, ox, oA, ocap, oes⟩, ⟨ab, ac, ax, aA, acap, aes⟩, false, false, due, chg, rep⟩ : Sch)) (t := t) (fun h => by cases h) hT2 rfl)
        clear hT2 HT HC
        go_wp2_with fail
        go_ret
        exact ⟨by rw [HV.out]; rfl, hk2⟩
      · have HV := Lib.hid (Sch.next_g (S := (⟨⟨ob, oc, ox, oA, ocap, oes⟩, ⟨ab, ac, ax, aA, acap, aes⟩, true, false, due, chg, rep⟩ : Sch)) (t := t) (fun h => by cases h) hT2 rfl)
        have C := HC.out rfl
        have hge := gnx_ge (base := ob) (cyc := oc) (es := oes) (t := t) (HG.out.oper rfl).b0 (HG.out.oper rfl).c0
        clear hT2 HT HC
        go_upto_region 8 with (go_at_call 59; refine (C _ (Keeps.refl _ _)).mono ?_; rintro e w3 ⟨rfl, hk3⟩; clear C; have hB3 := HS.out.blk.keeps (hk2.same hk3) (fun h => h); have s0 : w3.cell? ⟨p, 0, none⟩ = some (.int .i64 ob) := hB3.cell 0; have s1 : w3.cell? ⟨p, 1, none⟩ = some (.int .i64 oc) := hB3.cell 1; have s2 : w3.cell? ⟨p, 2, none⟩ = some (.int .i64 ox) := hB3.cell 2; have s3 : w3.cell? ⟨p, 3, none⟩ = some (.slice oA oes.length ocap) := hB3.cell 3; have s4 : w3.cell? ⟨p, 4, none⟩ = some (.int .i64 ab) := hB3.cell 4; have s5 : w3.cell? ⟨p, 5, none⟩ = some (.int .i64 ac) := hB3.cell 5; have s6 : w3.cell? ⟨p, 6, none⟩ = some (.int .i64 ax) := hB3.cell 6; have s7 : w3.cell? ⟨p, 7, none⟩ = some (.slice aA aes.length acap) := hB3.cell 7; have s8 : w3.cell? ⟨p, 8, none⟩ = some (.bool true) := hB3.cell 8; have s9 : w3.cell? ⟨p, 9, none⟩ = some (.bool false) := hB3.cell 9; have s10 : w3.cell? ⟨p, 10, none⟩ = some (.int .i64 due) := hB3.cell 10; have s11 : w3.cell? ⟨p, 11, none⟩ = some (.int .i64 chg) := hB3.cell 11; have s12 : w3.cell? ⟨p, 12, none⟩ = some (.int .i64 rep) := hB3.cell 12; clear hB3)
        generalize gnx ob oc oes t = N at *
        go_wp2_with fail
        go_ret
        exact ⟨by rw [HV.out]; rfl, hk2.same hk3⟩
    · have hT2 : Sch.tail (⟨⟨ob, oc, ox, oA, ocap, oes⟩, ⟨ab, ac, ax, aA, acap, aes⟩, has, false, due, chg, rep⟩ : Sch) = some f := HT.out
      obtain ⟨hx, hh⟩ := Sch.tail_some hT2
      cases hx
  · by_cases hd : due ≤ t
    · have HV : Hid (Sch.next (⟨⟨ob, oc, ox, oA, ocap, oes⟩, ⟨ab, ac, ax, aA, acap, aes⟩, has, true, due, chg, rep⟩ : Sch) t = gnx due ac aes t) := by show _ = _; unfold Sch.next; rw [if_pos ⟨rfl, hd⟩]
      have C := fun v (hv : Keeps Nothing w v) => gnext_ok (HS.out.admin.1.same hv) (HG.out.admin rfl) t ht
      clear C61
      go_enter Try.func37, Try.ntmps37
      go_wp2_with (first | (go_at_call 60; refine (C60 _ (Keeps.refl _ _)).mono ?_; rintro e w2 ⟨rfl, hk2⟩; clear C60) | (go_at_call 59; refine (C _ hk2).mono ?_; rintro e w3 ⟨rfl, hk3⟩; clear C))
      go_ret
      exact ⟨by rw [HV.out]; rfl, hk2.same hk3⟩
    · have hd' : decide (due ≤ t) = false := by simpa using hd
      clear C60
      go_enter Try.func37, Try.ntmps37
      go_upto_region 5 with (go_at_call 61; refine (C61 _ (Keeps.refl _ _)).mono ?_; rintro e w2 ⟨f, o, b, rfl, hT, ho, hk2⟩; clear C61; have hB2 := HS.out.blk.keeps hk2 (fun h => h); have s0 : w2.cell? ⟨p, 0, none⟩ = some (.int .i64 ob) := hB2.cell 0; have s1 : w2.cell? ⟨p, 1, none⟩ = some (.int .i64 oc) := hB2.cell 1; have s2 : w2.cell? ⟨p, 2, none⟩ = some (.int .i64 ox) := hB2.cell 2; have s3 : w2.cell? ⟨p, 3, none⟩ = some (.slice oA oes.length ocap) := hB2.cell 3; have s4 : w2.cell? ⟨p, 4, none⟩ = some (.int .i64 ab) := hB2.cell 4; have s5 : w2.cell? ⟨p, 5, none⟩ = some (.int .i64 ac) := hB2.cell 5; have s6 : w2.cell? ⟨p, 6, none⟩ = some (.int .i64 ax) := hB2.cell 6; have s7 : w2.cell? ⟨p, 7, none⟩ = some (.slice aA aes.length acap) := hB2.cell 7; have s8 : w2.cell? ⟨p, 8, none⟩ = some (.bool has) := hB2.cell 8; have s9 : w2.cell? ⟨p, 9, none⟩ = some (.bool true) := hB2.cell 9; have s10 : w2.cell? ⟨p, 10, none⟩ = some (.int .i64 due) := hB2.cell 10; have s11 : w2.cell? ⟨p, 11, none⟩ = some (.int .i64 chg) := hB2.cell 11; have s12 : w2.cell? ⟨p, 12, none⟩ = some (.int .i64 rep) := hB2.cell 12; clear hB2)
      have HT := Lib.hid hT
      clear hT ho
      have C := fun (hh : has = true) v (hv : Keeps Nothing w2 v) => gnext_ok (HS.out.oper.1.same (hk2.same hv)) (HG.out.oper hh) t ht
      have HC := Lib.hid C
      clear C
      cases b
      · have hT2 : Sch.tail (⟨⟨ob, oc, ox, oA, ocap, oes⟩, ⟨ab, ac, ax, aA, acap, aes⟩, has, true, due, chg, rep⟩ : Sch) = none := HT.out
        cases has
        · have HV := Lib.hid (Sch.next_n (S := (⟨⟨ob, oc, ox, oA, ocap, oes⟩, ⟨ab, ac, ax, aA, acap, aes⟩, false, true, due, chg, rep⟩ : Sch)) (t := t) (fun _ => by show ¬ due ≤ t; omega) hT2 rfl)
          clear hT2 HT HC
          go_wp2_with fail
          go_ret
          exact ⟨by rw [HV.out]; rfl, hk2⟩
        · have HV := Lib.hid (Sch.next_g (S := (⟨⟨ob, oc, ox, oA, ocap, oes⟩, ⟨ab, ac, ax, aA, acap, aes⟩, true, true, due, chg, rep⟩ : Sch)) (t := t) (fun _ => by show ¬ due ≤ t; omega) hT2 rfl)
          have C := HC.out rfl
          have hge := gnx_ge (base := ob) (cyc := oc) (es := oes) (t := t) (HG.out.oper rfl).b0 (HG.out.oper rfl).c0
          clear hT2 HT HC
          go_upto_region 8 with (go_at_call 59; refine (C _ (Keeps.refl _ _)).mono ?_; rintro e w3 ⟨rfl, hk3⟩; clear C; have hB3 := HS.out.blk.keeps (hk2.same hk3) (fun h => h); have s0 : w3.cell? ⟨p, 0, none⟩ = some (.int .i64 ob) := hB3.cell 0; have s1 : w3.cell? ⟨p, 1, none⟩ = some (.int .i64 oc) := hB3.cell 1; have s2 : w3.cell? ⟨p, 2, none⟩ = some (.int .i64 ox) := hB3.cell 2; have s3 : w3.cell? ⟨p, 3, none⟩ = some (.slice oA oes.length ocap) := hB3.cell 3; have s4 : w3.cell? ⟨p, 4, none⟩ = some (.int .i64 ab) := hB3.cell 4; have s5 : w3.cell? ⟨p, 5, none⟩ = some (.int .i64 ac) := hB3.cell 5; have s6 : w3.cell? ⟨p, 6, none⟩ = some (.int .i64 ax) := hB3.cell 6; have s7 : w3.cell? ⟨p, 7, none⟩ = some (.slice aA aes.length acap) := hB3.cell 7; have s8 : w3.cell? ⟨p, 8, none⟩ = some (.bool true) := hB3.cell 8; have s9 : w3.cell? ⟨p, 9, none⟩ = some (.bool true) := hB3.cell 9; have s10 : w3.cell? ⟨p, 10, none⟩ = some (.int .i64 due) := hB3.cell 10; have s11 : w3.cell? ⟨p, 11, none⟩ = some (.int .i64 chg) := hB3.cell 11; have s12 : w3.cell? ⟨p, 12, none⟩ = some (.int .i64 rep) := hB3.cell 12; clear hB3)
          generalize gnx ob oc oes t = N at *
          have q1 : decide (N < 0) = false := by simp; omega
          by_cases h2 : due < N
          · go_wp2_with fail
            go_ret
            exact ⟨by rw [HV.out, if_pos (by first | exact ⟨rfl, .inr h2⟩ | exact ⟨trivial, .inr h2⟩)]; rfl, hk2.same hk3⟩
          · have q2 : decide (due < N) = false := by simpa using h2
            go_wp2_with fail
            go_ret
            exact ⟨by rw [HV.out, if_neg (by rintro ⟨-, h⟩; (try simp only at h); omega)]; rfl, hk2.same hk3⟩
      · have hT2 : Sch.tail (⟨⟨ob, oc, ox, oA, ocap, oes⟩, ⟨ab, ac, ax, aA, acap, aes⟩, has, true, due, chg, rep⟩ : Sch) = some f := HT.out
        obtain ⟨hx, hh⟩ := Sch.tail_some hT2
        have hh' : has = true := hh
        subst hh'
        clear hx hh
        by_cases hf : f ≤ t
        · have HV := Lib.hid (Sch.next_l (S := (⟨⟨ob, oc, ox, oA, ocap, oes⟩, ⟨ab, ac, ax, aA, acap, aes⟩, true, true, due, chg, rep⟩ : Sch)) (t := t) (fun _ => by show ¬ due ≤ t; omega) hT2 hf)
          clear hT2 HT HC
          go_wp2_with fail
          go_ret
          exact ⟨by rw [HV.out]; rfl, hk2⟩
        · have hf' : decide (f ≤ t) = false := by simpa using hf
          have hge := gnx_ge (base := ob) (cyc := oc) (es := oes) (t := t) (HG.out.oper rfl).b0 (HG.out.oper rfl).c0
          have HV1 := Lib.hid (fun hn => Sch.next_b (S := (⟨⟨ob, oc, ox, oA, ocap, oes⟩, ⟨ab, ac, ax, aA, acap, aes⟩, true, true, due, chg, rep⟩ : Sch)) (t := t) (fun _ => by show ¬ due ≤ t; omega) hT2 hf rfl hn)
          have HV2 := Lib.hid (fun hn => Sch.next_c (S := (⟨⟨ob, oc, ox, oA, ocap, oes⟩, ⟨ab, ac, ax, aA, acap, aes⟩, true, true, due, chg, rep⟩ : Sch)) (t := t) (fun _ => by show ¬ due ≤ t; omega) hT2 hf rfl hn)
          have hf0 : 0 ≤ f := Sch.tail_ge hT2 (HG.out.oper rfl).b0 (HG.out.oper rfl).c0
          have C := HC.out rfl
          clear hT2 HT HC
          go_upto_region 8 with (go_at_call 59; refine (C _ (Keeps.refl _ _)).mono ?_; rintro e w3 ⟨rfl, hk3⟩; clear C; have hB3 := HS.out.blk.keeps (hk2.same hk3) (fun h => h); have s0 : w3.cell? ⟨p, 0, none⟩ = some (.int .i64 ob) := hB3.cell 0; have s1 : w3.cell? ⟨p, 1, none⟩ = some (.int .i64 oc) := hB3.cell 1; have s2 : w3.cell? ⟨p, 2, none⟩ = some (.int .i64 ox) := hB3.cell 2; have s3 : w3.cell? ⟨p, 3, none⟩ = some (.slice oA oes.length ocap) := hB3.cell 3; have s4 : w3.cell? ⟨p, 4, none⟩ = some (.int .i64 ab) := hB3.cell 4; have s5 : w3.cell? ⟨p, 5, none⟩ = some (.int .i64 ac) := hB3.cell 5; have s6 : w3.cell? ⟨p, 6, none⟩ = some (.int .i64 ax) := hB3.cell 6; have s7 : w3.cell? ⟨p, 7, none⟩ = some (.slice aA aes.length acap) := hB3.cell 7; have s8 : w3.cell? ⟨p, 8, none⟩ = some (.bool true) := hB3.cell 8; have s9 : w3.cell? ⟨p, 9, none⟩ = some (.bool true) := hB3.cell 9; have s10 : w3.cell? ⟨p, 10, none⟩ = some (.int .i64 due) := hB3.cell 10; have s11 : w3.cell? ⟨p, 11, none⟩ = some (.int .i64 chg) := hB3.cell 11; have s12 : w3.cell? ⟨p, 12, none⟩ = some (.int .i64 rep) := hB3.cell 12; clear hB3)
          generalize gnx ob oc oes t = N at *
          by_cases hn : f < N
          · have HV := Lib.hid (HV1.out (by omega))
            clear HV1 HV2
            have q1 : decide (f < 0) = false := by simp; omega
            by_cases h2 : due < f
            · go_wp2_with fail
              go_ret
              exact ⟨by rw [HV.out, if_pos (by first | exact ⟨rfl, .inr h2⟩ | exact ⟨trivial, .inr h2⟩)]; rfl, hk2.same hk3⟩
            · have q2 : decide (due < f) = false := by simpa using h2
              go_wp2_with fail
              go_ret
              exact ⟨by rw [HV.out, if_neg (by rintro ⟨-, h⟩; (try simp only at h); omega)]; rfl, hk2.same hk3⟩
          · have hn' : decide (f < N) = false := by simpa using hn
            have HV := Lib.hid (HV2.out (by omega))
            clear HV1 HV2
            have q1 : decide (N < 0) = false := by simp; omega
            by_cases h2 : due < N
            · go_wp2_with fail
              go_ret
              exact ⟨by rw [HV.out, if_pos (by first | exact ⟨rfl, .inr h2⟩ | exact ⟨trivial, .inr h2⟩)]; rfl, hk2.same hk3⟩
            · have q2 : decide (due < N) = false := by simpa using h2
              go_wp2_with fail
              go_ret
              exact ⟨by rw [HV.out, if_neg (by rintro ⟨-, h⟩; (try simp only at h); omega)]; rfl, hk2.same hk3⟩

end Go.Proofs.Ytpgmkekdgchkfaa
