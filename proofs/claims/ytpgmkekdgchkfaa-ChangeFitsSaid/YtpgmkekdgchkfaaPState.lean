/- The document's state of a pair; whether a whole cycle went by. -/
import Derived.Test.YtpgmkekdgchkfaaRState
import Derived.Test.YtpgmkekdgchkfaaLeap
namespace Go.Proofs.Ytpgmkekdgchkfaa
open Go.RowKit

def Par.state (P : Par) (t : Int) : Int :=
  if P.waits = true ∧ P.due ≤ t then gst P.due P.admin.cyc P.admin.es t
  else if P.has = true then (if 0 ≤ P.longer ∧ P.longer ≤ t then gst P.oper.base P.oper.cyc P.oper.es (P.longer - 1) else gst P.oper.base P.oper.cyc P.oper.es t) else 255

theorem state_eq {S : Sch} {P : Par} (h : Alike S P) (hg : SchGood S) (t : Int) : P.state t = S.state t := by
  unfold Par.state
  by_cases hw : P.waits = true ∧ P.due ≤ t
  · have ha := h.admin hw.1
    have hs : S.waits = true := by rw [h.waits]; exact hw.1
    rw [if_pos hw, Sch.state_due hs (by rw [h.due hw.1]; exact hw.2), h.due hw.1, ha.cyc, ha.es]
  · rw [if_neg hw]
    have hd : S.waits = true → ¬ S.due ≤ t := fun x y => hw ⟨by rw [← h.waits]; exact x, by rw [← h.due (by rw [← h.waits]; exact x)]; exact y⟩
    have hl := longer_eq h hg
    by_cases hh : P.has = true
    · have ho := h.oper hh
      have hs : S.has = true := by rw [h.has]; exact hh
      rw [if_pos hh, hl, ← ho.base, ← ho.cyc, ← ho.es]
      cases hT : S.tail with
      | none => rw [Sch.state_none hd hT, if_pos hs, if_neg (by simp)]
      | some f =>
        have g := hg.oper hs
        have := Sch.tail_ge hT g.b0 g.c0
        rw [Sch.state_tail hd hT, if_pos hs]
        simp only [Option.getD_some]
        by_cases hf : f ≤ t
        · rw [if_pos hf, if_pos ⟨this, hf⟩]
        · rw [if_neg hf, if_neg (fun x => hf x.2)]
    · have hs : S.has = false := by rw [h.has]; simpa using hh
      rw [if_neg hh, Sch.state_none hd (Sch.lone_none hs), if_neg (by rw [hs]; decide)]

theorem Par.longer_top {P : Par} (hg : ParGood P) : P.longer ≤ 4700000000000000000 := by
  unfold Par.longer
  by_cases hh : P.has = true ∧ P.waits = true
  · have g1 := hg.oper hh.1
    have g2 := hg.admin hh.2
    have h1 := tmod_abs (a := P.due - P.oper.base) g1.c0
    have := g2.b1
    have := g1.c1
    rw [if_pos hh]
    split <;> omega
  · rw [if_neg hh]; decide

set_option maxRecDepth 100000 in
set_option maxHeartbeats 8000000 in
theorem pstate_ok {w : World} {q : Nat} {P : Par} (h : ParAt w q P) (hg : ParGood P) (t : Int) (ht : t ≤ 9000000000000000000) :
    Calls Try.prog 66 #[.pointer (some ⟨q, 0, none⟩), .int .i64 t] w (fun e w' => e = .returned (.int .i64 (P.state t)) ∧ Keeps Nothing w w') := by
  have hlt := Par.longer_top hg
  obtain ⟨⟨ob, oc, ox, oA, ocap, oes⟩, ⟨ab, ac, ax, aA, acap, aes⟩, has, waits, due⟩ := P
  have hB : Blk w q [.int .i64 ob, .int .i64 oc, .int .i64 ox, .slice oA oes.length ocap, .int .i64 ab, .int .i64 ac, .int .i64 ax, .slice aA aes.length acap, .bool has, .bool waits, .int .i64 due] 74 := h.blk
  have HS := Lib.hid h
  have HG := Lib.hid hg
  have C63 := fun v (hv : Keeps Nothing w v) => longer_ok (HS.out.same hv) HG.out
  have hql := hB.lt
  have s0 : w.cell? ⟨q, 0, none⟩ = some (.int .i64 ob) := hB.cell 0
  have s1 : w.cell? ⟨q, 1, none⟩ = some (.int .i64 oc) := hB.cell 1
  have s2 : w.cell? ⟨q, 2, none⟩ = some (.int .i64 ox) := hB.cell 2
  have s3 : w.cell? ⟨q, 3, none⟩ = some (.slice oA oes.length ocap) := hB.cell 3
  have s4 : w.cell? ⟨q, 4, none⟩ = some (.int .i64 ab) := hB.cell 4
  have s5 : w.cell? ⟨q, 5, none⟩ = some (.int .i64 ac) := hB.cell 5
  have s6 : w.cell? ⟨q, 6, none⟩ = some (.int .i64 ax) := hB.cell 6
  have s7 : w.cell? ⟨q, 7, none⟩ = some (.slice aA aes.length acap) := hB.cell 7
  have s8 : w.cell? ⟨q, 8, none⟩ = some (.bool has) := hB.cell 8
  have s9 : w.cell? ⟨q, 9, none⟩ = some (.bool waits) := hB.cell 9
  have s10 : w.cell? ⟨q, 10, none⟩ = some (.int .i64 due) := hB.cell 10
  clear h hB hg
  by_cases hwd : waits = true ∧ due ≤ t
  · obtain ⟨hw1, hd⟩ := hwd
    subst hw1
    have HV : Hid (Par.state (⟨⟨ob, oc, ox, oA, ocap, oes⟩, ⟨ab, ac, ax, aA, acap, aes⟩, has, true, due⟩ : Par) t = gst due ac aes t) := if_pos ⟨rfl, hd⟩
    have C := fun v (hv : Keeps Nothing w v) => rstate_ok (HS.out.admin.1.same hv) (HG.out.admin rfl) t ht
    clear C63 hlt
    go_enter Try.func66, Try.ntmps66
    go_wp2_with (go_at_call 76; refine (C _ ((Keeps.refl _ _).alloc _)).mono ?_; rintro e w3 ⟨rfl, hk3⟩; clear C)
    go_ret
    exact ⟨by rw [HV.out]; rfl, ((Keeps.refl _ _).alloc _).same hk3⟩
  · have HV : Hid (Par.state (⟨⟨ob, oc, ox, oA, ocap, oes⟩, ⟨ab, ac, ax, aA, acap, aes⟩, has, waits, due⟩ : Par) t = if has = true then (if 0 ≤ Par.longer (⟨⟨ob, oc, ox, oA, ocap, oes⟩, ⟨ab, ac, ax, aA, acap, aes⟩, has, waits, due⟩ : Par) ∧ Par.longer (⟨⟨ob, oc, ox, oA, ocap, oes⟩, ⟨ab, ac, ax, aA, acap, aes⟩, has, waits, due⟩ : Par) ≤ t then gst ob oc oes (Par.longer (⟨⟨ob, oc, ox, oA, ocap, oes⟩, ⟨ab, ac, ax, aA, acap, aes⟩, has, waits, due⟩ : Par) - 1) else gst ob oc oes t) else 255) := if_neg hwd
    have HWD : Hid (waits = true → ¬ due ≤ t) := fun x y => hwd ⟨x, y⟩
    cases has
    · clear hlt C63
      have HV2 := Lib.hid (HV.out.trans (if_neg (by decide)))
      clear HV
      cases waits
      · clear hwd
        go_enter Try.func66, Try.ntmps66
        go_wp2_with fail
        go_ret
        exact ⟨by rw [HV2.out]; rfl, Keeps.refl _ _⟩
      · have hd' : decide (due ≤ t) = false := by simpa using HWD.out rfl
        clear hwd
        go_enter Try.func66, Try.ntmps66
        go_wp2_with fail
        go_ret
        exact ⟨by rw [HV2.out]; rfl, Keeps.refl _ _⟩
    · have HV2 := Lib.hid (HV.out.trans (if_pos rfl))
      clear HV
      have CA := fun v (hv : Keeps Nothing w v) (u : Int) (hu : u ≤ 9000000000000000000) => rstate_ok (HS.out.oper.1.same hv) (HG.out.oper rfl) u hu
      cases waits
      · clear hwd HWD
        generalize Par.longer (⟨⟨ob, oc, ox, oA, ocap, oes⟩, ⟨ab, ac, ax, aA, acap, aes⟩, true, false, due⟩ : Par) = L at *
        by_cases hL : 0 ≤ L ∧ L ≤ t
        · have HV3 := Lib.hid (HV2.out.trans (if_pos hL))
          have C := fun v (hv : Keeps Nothing w v) => CA v hv (L - 1) (by omega)
          obtain ⟨hL1, hL2⟩ := hL
          have hwl : IntKind.i64.wrap (L - 1) = L - 1 := by rw [IntKind.wrap_i64]; omega
          clear HV2 CA
          go_enter Try.func66, Try.ntmps66
          go_wp2_with (first | (go_at_call 63; refine (C63 _ (Keeps.refl _ _)).mono ?_; rintro e w2 ⟨rfl, hk2⟩; clear C63; have hB2 := HS.out.blk.keeps hk2 (fun h => h); have s0 : w2.cell? ⟨q, 0, none⟩ = some (.int .i64 ob) := hB2.cell 0; have s1 : w2.cell? ⟨q, 1, none⟩ = some (.int .i64 oc) := hB2.cell 1; have s2 : w2.cell? ⟨q, 2, none⟩ = some (.int .i64 ox) := hB2.cell 2; have s3 : w2.cell? ⟨q, 3, none⟩ = some (.slice oA oes.length ocap) := hB2.cell 3; have s4 : w2.cell? ⟨q, 4, none⟩ = some (.int .i64 ab) := hB2.cell 4; have s5 : w2.cell? ⟨q, 5, none⟩ = some (.int .i64 ac) := hB2.cell 5; have s6 : w2.cell? ⟨q, 6, none⟩ = some (.int .i64 ax) := hB2.cell 6; have s7 : w2.cell? ⟨q, 7, none⟩ = some (.slice aA aes.length acap) := hB2.cell 7; have s8 : w2.cell? ⟨q, 8, none⟩ = some (.bool true) := hB2.cell 8; have s9 : w2.cell? ⟨q, 9, none⟩ = some (.bool false) := hB2.cell 9; have s10 : w2.cell? ⟨q, 10, none⟩ = some (.int .i64 due) := hB2.cell 10; clear hB2) | (go_at_call 76; refine (C _ hk2).mono ?_; rintro e w3 ⟨rfl, hk3⟩; clear C))
          go_ret
          exact ⟨by rw [HV3.out]; rfl, hk2.same hk3⟩
        · have HV3 := Lib.hid (HV2.out.trans (if_neg hL))
          have C := fun v (hv : Keeps Nothing w v) => CA v hv t ht
          clear HV2 CA
          by_cases hL1 : 0 ≤ L
          · have hL2 : decide (L ≤ t) = false := by simp; omega
            clear hL
            go_enter Try.func66, Try.ntmps66
            go_wp2_with (first | (go_at_call 63; refine (C63 _ (Keeps.refl _ _)).mono ?_; rintro e w2 ⟨rfl, hk2⟩; clear C63; have hB2 := HS.out.blk.keeps hk2 (fun h => h); have s0 : w2.cell? ⟨q, 0, none⟩ = some (.int .i64 ob) := hB2.cell 0; have s1 : w2.cell? ⟨q, 1, none⟩ = some (.int .i64 oc) := hB2.cell 1; have s2 : w2.cell? ⟨q, 2, none⟩ = some (.int .i64 ox) := hB2.cell 2; have s3 : w2.cell? ⟨q, 3, none⟩ = some (.slice oA oes.length ocap) := hB2.cell 3; have s4 : w2.cell? ⟨q, 4, none⟩ = some (.int .i64 ab) := hB2.cell 4; have s5 : w2.cell? ⟨q, 5, none⟩ = some (.int .i64 ac) := hB2.cell 5; have s6 : w2.cell? ⟨q, 6, none⟩ = some (.int .i64 ax) := hB2.cell 6; have s7 : w2.cell? ⟨q, 7, none⟩ = some (.slice aA aes.length acap) := hB2.cell 7; have s8 : w2.cell? ⟨q, 8, none⟩ = some (.bool true) := hB2.cell 8; have s9 : w2.cell? ⟨q, 9, none⟩ = some (.bool false) := hB2.cell 9; have s10 : w2.cell? ⟨q, 10, none⟩ = some (.int .i64 due) := hB2.cell 10; clear hB2) | (go_at_call 76; refine (C _ hk2).mono ?_; rintro e w3 ⟨rfl, hk3⟩; clear C))
            go_ret
            exact ⟨by rw [HV3.out]; rfl, hk2.same hk3⟩
          · have hL2 : decide (0 ≤ L) = false := by simpa using hL1
            clear hL
            go_enter Try.func66, Try.ntmps66
            go_wp2_with (first | (go_at_call 63; refine (C63 _ (Keeps.refl _ _)).mono ?_; rintro e w2 ⟨rfl, hk2⟩; clear C63; have hB2 := HS.out.blk.keeps hk2 (fun h => h); have s0 : w2.cell? ⟨q, 0, none⟩ = some (.int .i64 ob) := hB2.cell 0; have s1 : w2.cell? ⟨q, 1, none⟩ = some (.int .i64 oc) := hB2.cell 1; have s2 : w2.cell? ⟨q, 2, none⟩ = some (.int .i64 ox) := hB2.cell 2; have s3 : w2.cell? ⟨q, 3, none⟩ = some (.slice oA oes.length ocap) := hB2.cell 3; have s4 : w2.cell? ⟨q, 4, none⟩ = some (.int .i64 ab) := hB2.cell 4; have s5 : w2.cell? ⟨q, 5, none⟩ = some (.int .i64 ac) := hB2.cell 5; have s6 : w2.cell? ⟨q, 6, none⟩ = some (.int .i64 ax) := hB2.cell 6; have s7 : w2.cell? ⟨q, 7, none⟩ = some (.slice aA aes.length acap) := hB2.cell 7; have s8 : w2.cell? ⟨q, 8, none⟩ = some (.bool true) := hB2.cell 8; have s9 : w2.cell? ⟨q, 9, none⟩ = some (.bool false) := hB2.cell 9; have s10 : w2.cell? ⟨q, 10, none⟩ = some (.int .i64 due) := hB2.cell 10; clear hB2) | (go_at_call 76; refine (C _ hk2).mono ?_; rintro e w3 ⟨rfl, hk3⟩; clear C))
            go_ret
            exact ⟨by rw [HV3.out]; rfl, hk2.same hk3⟩
      · have hd' : decide (due ≤ t) = false := by simpa using HWD.out rfl
        clear hwd HWD
        generalize Par.longer (⟨⟨ob, oc, ox, oA, ocap, oes⟩, ⟨ab, ac, ax, aA, acap, aes⟩, true, true, due⟩ : Par) = L at *
        by_cases hL : 0 ≤ L ∧ L ≤ t
        · have HV3 := Lib.hid (HV2.out.trans (if_pos hL))
          have C := fun v (hv : Keeps Nothing w v) => CA v hv (L - 1) (by omega)
          obtain ⟨hL1, hL2⟩ := hL
          have hwl : IntKind.i64.wrap (L - 1) = L - 1 := by rw [IntKind.wrap_i64]; omega
          clear HV2 CA
          go_enter Try.func66, Try.ntmps66
          go_wp2_with (first | (go_at_call 63; refine (C63 _ (Keeps.refl _ _)).mono ?_; rintro e w2 ⟨rfl, hk2⟩; clear C63; have hB2 := HS.out.blk.keeps hk2 (fun h => h); have s0 : w2.cell? ⟨q, 0, none⟩ = some (.int .i64 ob) := hB2.cell 0; have s1 : w2.cell? ⟨q, 1, none⟩ = some (.int .i64 oc) := hB2.cell 1; have s2 : w2.cell? ⟨q, 2, none⟩ = some (.int .i64 ox) := hB2.cell 2; have s3 : w2.cell? ⟨q, 3, none⟩ = some (.slice oA oes.length ocap) := hB2.cell 3; have s4 : w2.cell? ⟨q, 4, none⟩ = some (.int .i64 ab) := hB2.cell 4; have s5 : w2.cell? ⟨q, 5, none⟩ = some (.int .i64 ac) := hB2.cell 5; have s6 : w2.cell? ⟨q, 6, none⟩ = some (.int .i64 ax) := hB2.cell 6; have s7 : w2.cell? ⟨q, 7, none⟩ = some (.slice aA aes.length acap) := hB2.cell 7; have s8 : w2.cell? ⟨q, 8, none⟩ = some (.bool true) := hB2.cell 8; have s9 : w2.cell? ⟨q, 9, none⟩ = some (.bool true) := hB2.cell 9; have s10 : w2.cell? ⟨q, 10, none⟩ = some (.int .i64 due) := hB2.cell 10; clear hB2) | (go_at_call 76; refine (C _ hk2).mono ?_; rintro e w3 ⟨rfl, hk3⟩; clear C))
          go_ret
          exact ⟨by rw [HV3.out]; rfl, hk2.same hk3⟩
        · have HV3 := Lib.hid (HV2.out.trans (if_neg hL))
          have C := fun v (hv : Keeps Nothing w v) => CA v hv t ht
          clear HV2 CA
          by_cases hL1 : 0 ≤ L
          · have hL2 : decide (L ≤ t) = false := by simp; omega
            clear hL
            go_enter Try.func66, Try.ntmps66
            go_wp2_with (first | (go_at_call 63; refine (C63 _ (Keeps.refl _ _)).mono ?_; rintro e w2 ⟨rfl, hk2⟩; clear C63; have hB2 := HS.out.blk.keeps hk2 (fun h => h); have s0 : w2.cell? ⟨q, 0, none⟩ = some (.int .i64 ob) := hB2.cell 0; have s1 : w2.cell? ⟨q, 1, none⟩ = some (.int .i64 oc) := hB2.cell 1; have s2 : w2.cell? ⟨q, 2, none⟩ = some (.int .i64 ox) := hB2.cell 2; have s3 : w2.cell? ⟨q, 3, none⟩ = some (.slice oA oes.length ocap) := hB2.cell 3; have s4 : w2.cell? ⟨q, 4, none⟩ = some (.int .i64 ab) := hB2.cell 4; have s5 : w2.cell? ⟨q, 5, none⟩ = some (.int .i64 ac) := hB2.cell 5; have s6 : w2.cell? ⟨q, 6, none⟩ = some (.int .i64 ax) := hB2.cell 6; have s7 : w2.cell? ⟨q, 7, none⟩ = some (.slice aA aes.length acap) := hB2.cell 7; have s8 : w2.cell? ⟨q, 8, none⟩ = some (.bool true) := hB2.cell 8; have s9 : w2.cell? ⟨q, 9, none⟩ = some (.bool true) := hB2.cell 9; have s10 : w2.cell? ⟨q, 10, none⟩ = some (.int .i64 due) := hB2.cell 10; clear hB2) | (go_at_call 76; refine (C _ hk2).mono ?_; rintro e w3 ⟨rfl, hk3⟩; clear C))
            go_ret
            exact ⟨by rw [HV3.out]; rfl, hk2.same hk3⟩
          · have hL2 : decide (0 ≤ L) = false := by simpa using hL1
            clear hL
            go_enter Try.func66, Try.ntmps66
            go_wp2_with (first | (go_at_call 63; refine (C63 _ (Keeps.refl _ _)).mono ?_; rintro e w2 ⟨rfl, hk2⟩; clear C63; have hB2 := HS.out.blk.keeps hk2 (fun h => h); have s0 : w2.cell? ⟨q, 0, none⟩ = some (.int .i64 ob) := hB2.cell 0; have s1 : w2.cell? ⟨q, 1, none⟩ = some (.int .i64 oc) := hB2.cell 1; have s2 : w2.cell? ⟨q, 2, none⟩ = some (.int .i64 ox) := hB2.cell 2; have s3 : w2.cell? ⟨q, 3, none⟩ = some (.slice oA oes.length ocap) := hB2.cell 3; have s4 : w2.cell? ⟨q, 4, none⟩ = some (.int .i64 ab) := hB2.cell 4; have s5 : w2.cell? ⟨q, 5, none⟩ = some (.int .i64 ac) := hB2.cell 5; have s6 : w2.cell? ⟨q, 6, none⟩ = some (.int .i64 ax) := hB2.cell 6; have s7 : w2.cell? ⟨q, 7, none⟩ = some (.slice aA aes.length acap) := hB2.cell 7; have s8 : w2.cell? ⟨q, 8, none⟩ = some (.bool true) := hB2.cell 8; have s9 : w2.cell? ⟨q, 9, none⟩ = some (.bool true) := hB2.cell 9; have s10 : w2.cell? ⟨q, 10, none⟩ = some (.int .i64 due) := hB2.cell 10; clear hB2) | (go_at_call 76; refine (C _ hk2).mono ?_; rintro e w3 ⟨rfl, hk3⟩; clear C))
            go_ret
            exact ⟨by rw [HV3.out]; rfl, hk2.same hk3⟩

end Go.Proofs.Ytpgmkekdgchkfaa
