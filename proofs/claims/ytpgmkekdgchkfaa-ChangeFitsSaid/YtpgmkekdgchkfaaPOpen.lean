/- The document's search: is a class open for so long. -/
import Derived.Test.YtpgmkekdgchkfaaPWhole
import Derived.Test.YtpgmkekdgchkfaaGFits
namespace Go.Proofs.Ytpgmkekdgchkfaa
open Go.RowKit

theorem gst_range {base cyc ext : Int} {es : List Ent} (g : Good base cyc ext es) (t : Int) : 0 ≤ gst base cyc es t ∧ gst base cyc es t ≤ 255 := by
  unfold gst
  split
  · omega
  · have hi := atGo_lt g.pos (cyc := cyc) (into := (t - base).tmod cyc) es 0 0 (by omega)
    have hm : es.getD (atGo es.length cyc ((t - base).tmod cyc) es 0 0).1 ⟨0, 0⟩ ∈ es := by
      rw [List.getD_eq_getElem?_getD, List.getElem?_eq_getElem hi]
      exact List.getElem_mem _
    exact ⟨(g.ents _ hm).1, (g.ents _ hm).2.1⟩

theorem Sch.state_range {S : Sch} (hg : SchGood S) (t : Int) : 0 ≤ S.state t ∧ S.state t ≤ 255 := by
  unfold Sch.state
  split
  · rename_i hw
    exact gst_range (hg.admin hw.1) t
  · split
    · rename_i f hT
      have hh := (Sch.tail_some hT).2
      split
      · exact gst_range (hg.oper hh) _
      · first | exact gst_range (hg.oper hh) _ | (rw [if_pos hh]; exact gst_range (hg.oper hh) _)
    · split
      · rename_i hh
        exact gst_range (hg.oper hh) _
      · omega

theorem bit_fin : ∀ v : Fin 256, ∀ c : Fin 8, ((((v.val : Nat) : Int) / (2 : Int) ^ c.val).tmod 2 == 0) = (bits .and .i64 ((v.val : Nat) : Int) (wrap64 ((2 : Int) ^ c.val)) == 0) := by decide +kernel

theorem bit_eq {V b : Int} {c : Nat} (h0 : 0 ≤ V) (h1 : V ≤ 255) (hc : c < 8) (hb : wrap64 ((2 : Int) ^ c) = b) : ((V / (2 : Int) ^ c).tmod 2 == 0) = !(opn b V) := by
  obtain ⟨n, rfl⟩ : ∃ n : Nat, V = (n : Int) := ⟨V.toNat, by omega⟩
  have := bit_fin ⟨n, by omega⟩ ⟨c, hc⟩
  simp only at this
  rw [this, hb]
  unfold opn
  rw [Bool.not_not]

def POInv (w : World) (S : Sch) (now b fin : Int) (r : Bool) (N k : Nat) (t g i : Value) (wr : World) : Prop :=
  ∃ (j : Nat) (t' g' : Int), j + k = N ∧ i = .int .i64 (j : Nat) ∧ t = .int .i64 t' ∧ g = .int .i64 g' ∧ 0 ≤ g' ∧ g' ≤ t' ∧ t' ≤ 9000000000000000000 ∧ (S.sys now).openR (opn b) fin k t' g' = r ∧ Keeps Nothing w wr

set_option maxRecDepth 100000 in
set_option maxHeartbeats 8000000 in
theorem popen_ok {w : World} {q : Nat} {P : Par} {S : Sch} (h : ParAt w q P) (ha : Alike S P) (hg : SchGood S) {now : Int} (c : Nat) (b : Int) (hc : c < 8) (hb : wrap64 ((2 : Int) ^ c) = b) (t need : Int) (ht0 : 0 ≤ t) (ht : t ≤ 4650000000000000000) (hn0 : 1 ≤ need) (hn1 : need ≤ 500) :
    Calls Try.prog 42 #[.pointer (some ⟨q, 0, none⟩), .int .i64 (c : Nat), .int .i64 t, .int .i64 need, .int .i64 600] w (fun e w' => e = .returned (.bool ((S.sys now).openR (opn b) (t + need) 600 t t)) ∧ Keeps Nothing w w') := by
  have HS := Lib.hid h
  have HA := Lib.hid ha
  have HG := Lib.hid hg
  have HPG := Lib.hid (Par.good ha hg)
  obtain ⟨r, hr⟩ : ∃ r, r = (S.sys now).openR (opn b) (t + need) 600 t t := ⟨_, rfl⟩
  rw [← hr]
  have HR := Lib.hid hr
  clear h ha hg hr
  go_enter Try.func42, Try.ntmps42
  go_wp2_with fail
  generalize hfin : t + need = fin at *
  go_loopg [2, 12, 13] 600 (fun k t g i wr => POInv w S now b fin r 600 k t g i wr)
  case atStart => exact ⟨0, t, t, by omega, rfl, rfl, rfl, ht0, Int.le_refl _, by omega, HR.out.symm, Keeps.refl _ _⟩
  case round =>
    obtain ⟨j, t', g', hj, rfl, rfl, rfl, hg0, hgt, htb, ho, hk⟩ := hrel
    have HK := Lib.hid hk
    have hq := HS.out.blk.keeps hk (fun h => h)
    have p9 : wr.cell? ⟨q, 9, none⟩ = some (.bool P.waits) := hq.cell 9
    have p10 : wr.cell? ⟨q, 10, none⟩ = some (.int .i64 P.due) := hq.cell 10
    by_cases hlt : j < 600
    · obtain ⟨k0, hk0⟩ : ∃ k0, gk = k0 + 1 := ⟨gk - 1, by omega⟩
      have C1 := fun v (hv : Keeps Nothing wr v) => pstate_ok ((HS.out.same HK.out).same hv) HPG.out t' (by omega)
      rw [state_eq HA.out HG.out] at C1
      have C2 := fun v (hv : Keeps Nothing wr v) => pwhole_ok ((HS.out.same HK.out).same hv) HPG.out g' t' hg0 hgt (by omega)
      rw [whole_eq HA.out now] at C2
      have C3 := fun v (hv : Keeps Nothing wr v) => pnext_ok ((HS.out.same HK.out).same hv) HPG.out t' (by omega)
      rw [next_eq HA.out HG.out] at C3
      obtain ⟨v0, v1⟩ := Sch.state_range HG.out t'
      have hbit := bit_eq v0 v1 hc hb
      rw [hk0, Fit.Sys.openR] at ho
      have e1 : (S.sys now).st t' = S.state t' := rfl
      have e2 : (S.sys now).nx t' = S.next t' := rfl
      have e3 : (S.sys now).due = S.due := rfl
      have e4 : (S.sys now).waits = S.waits := rfl
      rw [e1, e2, e3, e4] at ho
      have hgt2 : 0 ≤ S.next t' → t' < S.next t' := fun h => Sch.next_gt HG.out t' h (by omega)
      have hcl : (c : Int) < 8 := by omega
      have hP := Lib.hid (show P.waits = S.waits ∧ (S.waits = true → P.due = S.due ∧ 0 ≤ S.due ∧ S.due < 4611686018427387904) from ⟨HA.out.waits.symm, fun hw => ⟨(HA.out.due (by rw [← HA.out.waits]; exact hw)).symm, (HG.out.admin hw).b0, (HG.out.admin hw).b1⟩⟩)
      rw [hP.out.1] at p9
      generalize S.state t' = V at *
      generalize S.next t' = N at *
      generalize (S.sys now).wholeR g' t' = W at *
      clear hk hq e1 e2 e3 e4
      by_cases hp : opn b V = true
      · rw [if_pos hp] at ho
        rw [hp] at hbit
        have hbit2 : ((V / (2 : Int) ^ c).tmod 2 == 0) = false := hbit
        clear hbit hp
        cases W
        · rw [if_neg (by decide)] at ho
          by_cases hn : N < 0
          · rw [if_pos (.inl hn)] at ho
            subst ho
            go_wp2_with (first | (go_at_call 66; refine (C1 _ (Keeps.refl _ _)).mono ?_; rintro e w3 ⟨rfl, hk3⟩; clear C1) | (go_at_call 67; refine (C2 _ hk3).mono ?_; rintro e w4 ⟨rfl, hk4⟩; clear C2) | (go_at_call 38; refine (C3 _ (hk3.same hk4)).mono ?_; rintro e w5 ⟨rfl, hk5⟩; clear C3))
            go_ret
            exact ⟨rfl, HK.out.same ((hk3.same hk4).same hk5)⟩
          · have hn' : decide (N < 0) = false := by simpa using hn
            by_cases hf : fin ≤ N
            · rw [if_pos (.inr hf)] at ho
              subst ho
              go_wp2_with (first | (go_at_call 66; refine (C1 _ (Keeps.refl _ _)).mono ?_; rintro e w3 ⟨rfl, hk3⟩; clear C1) | (go_at_call 67; refine (C2 _ hk3).mono ?_; rintro e w4 ⟨rfl, hk4⟩; clear C2) | (go_at_call 38; refine (C3 _ (hk3.same hk4)).mono ?_; rintro e w5 ⟨rfl, hk5⟩; clear C3))
              go_ret
              exact ⟨rfl, HK.out.same ((hk3.same hk4).same hk5)⟩
            · rw [if_neg (by omega)] at ho
              have HO := Lib.hid ho
              have hf' : decide (fin ≤ N) = false := by simpa using hf
              have hNt := hgt2 (by omega)
              clear ho hgt2
              go_wp2_with (first | (go_at_call 66; refine (C1 _ (Keeps.refl _ _)).mono ?_; rintro e w3 ⟨rfl, hk3⟩; clear C1) | (go_at_call 67; refine (C2 _ hk3).mono ?_; rintro e w4 ⟨rfl, hk4⟩; clear C2) | (go_at_call 38; refine (C3 _ (hk3.same hk4)).mono ?_; rintro e w5 ⟨rfl, hk5⟩; clear C3))
              go_roundg (gk - 1)
              case measure => omega
              case rel => exact ⟨j + 1, N, g', by omega, by go_num, rfl, rfl, hg0, by omega, by omega, (by rw [show gk - 1 = k0 by omega]; exact HO.out), HK.out.same ((hk3.same hk4).same hk5)⟩
        · rw [if_pos rfl] at ho
          cases hw : S.waits with
          | false =>
            rw [hw] at p9
            rw [if_pos (.inl hw)] at ho
            subst ho
            clear C3 hgt2 hw
            go_wp2_with (first | (go_at_call 66; refine (C1 _ (Keeps.refl _ _)).mono ?_; rintro e w3 ⟨rfl, hk3⟩; clear C1) | (go_at_call 67; refine (C2 _ hk3).mono ?_; rintro e w4 ⟨rfl, hk4⟩; clear C2; have z9 : w4.cell? ⟨q, 9, none⟩ = some (.bool false) := ((hk3.same hk4).cell (World.block_lt_of_cell? _ _ p9) (fun h => h)).trans p9; have z10 : w4.cell? ⟨q, 10, none⟩ = some (.int .i64 P.due) := ((hk3.same hk4).cell (World.block_lt_of_cell? _ _ p10) (fun h => h)).trans p10; clear p9 p10))
            go_ret
            exact ⟨rfl, HK.out.same (hk3.same hk4)⟩
          | true =>
            rw [hw] at p9
            obtain ⟨d1, d2, d3⟩ := hP.out.2 hw
            rw [d1] at p10
            by_cases c1 : S.due ≤ t'
            · rw [if_pos (.inr (.inl c1))] at ho
              subst ho
              clear C3 hgt2 hw d1
              go_wp2_with (first | (go_at_call 66; refine (C1 _ (Keeps.refl _ _)).mono ?_; rintro e w3 ⟨rfl, hk3⟩; clear C1) | (go_at_call 67; refine (C2 _ hk3).mono ?_; rintro e w4 ⟨rfl, hk4⟩; clear C2; have z9 : w4.cell? ⟨q, 9, none⟩ = some (.bool true) := ((hk3.same hk4).cell (World.block_lt_of_cell? _ _ p9) (fun h => h)).trans p9; have z10 : w4.cell? ⟨q, 10, none⟩ = some (.int .i64 S.due) := ((hk3.same hk4).cell (World.block_lt_of_cell? _ _ p10) (fun h => h)).trans p10; clear p9 p10))
              go_ret
              exact ⟨rfl, HK.out.same (hk3.same hk4)⟩
            · have c1' : decide (S.due ≤ t') = false := by simpa using c1
              by_cases c2 : fin ≤ S.due
              · rw [if_pos (.inr (.inr c2))] at ho
                subst ho
                clear C3 hgt2 hw d1
                go_wp2_with (first | (go_at_call 66; refine (C1 _ (Keeps.refl _ _)).mono ?_; rintro e w3 ⟨rfl, hk3⟩; clear C1) | (go_at_call 67; refine (C2 _ hk3).mono ?_; rintro e w4 ⟨rfl, hk4⟩; clear C2; have z9 : w4.cell? ⟨q, 9, none⟩ = some (.bool true) := ((hk3.same hk4).cell (World.block_lt_of_cell? _ _ p9) (fun h => h)).trans p9; have z10 : w4.cell? ⟨q, 10, none⟩ = some (.int .i64 S.due) := ((hk3.same hk4).cell (World.block_lt_of_cell? _ _ p10) (fun h => h)).trans p10; clear p9 p10))
                go_ret
                exact ⟨rfl, HK.out.same (hk3.same hk4)⟩
              · have c2' : decide (fin ≤ S.due) = false := by simpa using c2
                rw [if_neg (fun x => by rcases x with x | x | x; (· rw [hw] at x; cases x); (· exact c1 x); (· exact c2 x))] at ho
                have HO := Lib.hid ho
                clear C3 hgt2 hw d1 ho
                go_upto_region 10 with (first | (go_at_call 66; refine (C1 _ (Keeps.refl _ _)).mono ?_; rintro e w3 ⟨rfl, hk3⟩; clear C1) | (go_at_call 67; refine (C2 _ hk3).mono ?_; rintro e w4 ⟨rfl, hk4⟩; clear C2; have z9 : w4.cell? ⟨q, 9, none⟩ = some (.bool true) := ((hk3.same hk4).cell (World.block_lt_of_cell? _ _ p9) (fun h => h)).trans p9; have z10 : w4.cell? ⟨q, 10, none⟩ = some (.int .i64 S.due) := ((hk3.same hk4).cell (World.block_lt_of_cell? _ _ p10) (fun h => h)).trans p10; clear p9 p10))
                go_quiet (fail)
                go_wp2_with fail
                go_roundg (gk - 1)
                case measure => omega
                case rel => exact ⟨j + 1, S.due, S.due, by omega, by go_num, rfl, rfl, by omega, Int.le_refl _, by omega, (by rw [show gk - 1 = k0 by omega]; exact HO.out), by first | exact HK.out.same ((hk3.same hk4).drewN _) | exact HK.out.same ((hk3.same hk4).drew) | exact HK.out.same (hk3.same hk4)⟩
      · rw [if_neg hp] at ho
        have hpf : opn b V = false := by simpa using hp
        rw [hpf] at hbit
        have hbit2 : ((V / (2 : Int) ^ c).tmod 2 == 0) = true := hbit
        subst ho
        clear hbit hp hpf
        go_wp2_with (go_at_call 66; refine (C1 _ (Keeps.refl _ _)).mono ?_; rintro e w3 ⟨rfl, hk3⟩; clear C1)
        go_ret
        exact ⟨rfl, HK.out.same hk3⟩
    · have hk0 : gk = 0 := by omega
      rw [hk0, Fit.Sys.openR] at ho
      subst ho
      have hlt' : decide ((j : Int) < 600) = false := by simp; omega
      clear hk hq
      go_wp2_with fail
      go_ret
      exact ⟨rfl, HK.out⟩

end Go.Proofs.Ytpgmkekdgchkfaa
