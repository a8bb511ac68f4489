/- CommandBack: the walk. -/
import Derived.Test.YtdncojofilnhnaaGreatDoorReads
import Derived.Deep.DeepCutAuto
import Derived.Deep.CutRange
namespace Go.Proofs.YtdncojofilnhnaaGreatDoor
open Go.RowKit Go.Lib

theorem text_len (c : Cm) (hm : MacIs c.mac) (ha : ∀ a ∈ c.args, -9223372036854775808 ≤ a ∧ a ≤ 9223372036854775807) (h : c.args.length ≤ 200) : (textP c).length ≤ 5000 := by
  have h1 := joinOn_len 32 21 (wordsOf c) (fun w hw => by
    unfold wordsOf at hw
    rcases List.mem_cons.1 hw with rfl | hw
    · have := word_len c.kind.toNat; omega
    · have hi : ∀ a ∈ c.args, (itoa a).length ≤ 21 := fun a h => itoa_length_le a (ha a h).1 (ha a h).2
      unfold argWords at hw
      split at hw
      · split at hw
        · simp at hw
        · rename_i a r e
          rcases List.mem_cons.1 hw with rfl | hw
          · exact hi a (by rw [e]; exact List.mem_cons_self)
          · rcases List.mem_cons.1 hw with rfl | hw
            · have := macText_len hm; omega
            · obtain ⟨x, hx, rfl⟩ := List.mem_map.1 hw
              exact hi x (by rw [e]; exact List.mem_cons_of_mem _ hx)
      · obtain ⟨x, hx, rfl⟩ := List.mem_map.1 hw
        exact hi x hx)
  have h2 : (wordsOf c).length ≤ 202 := by
    unfold wordsOf argWords
    split
    · split
      · simp
      · rename_i a r e
        rw [e] at h
        simp at h ⊢
        omega
    · simp; omega
  unfold textP
  omega

/-- What is written of a command is read as it. -/
theorem parse_back {c : Cm} (hm : MacIs c.mac) (ha : ∀ a ∈ c.args, -9223372036854775808 ≤ a ∧ a ≤ 9223372036854775807) (hc : checkP c = none) {w : World} (hg : Gl w) :
    Calls Tryz.prog 17 #[strV (textP c)] w fun ev w' => (∃ A cp, OwnF w' (fun k => w.heap.size ≤ k) 2 (.slice A c.args.length cp) (icells c.args) ∧ ev = .returned (.tuple #[cmdV c (.slice A c.args.length cp), .nilIface])) ∧ Keeps Nothing w w' := by
  have hl := text_len c hm ha (check_len hc).1
  refine (parse_yes (textP c) (by omega) (text_parse' hm ha hc) hg).mono ?_
  rintro e w1 ⟨-, -, -, h, k1⟩
  exact ⟨h, k1⟩

set_option maxRecDepth 100000 in
set_option maxHeartbeats 8000000 in
theorem back_walk (kind : Int) (hk : -9223372036854775808 ≤ kind ∧ kind ≤ 9223372036854775807) {q0 q1 q2 q3 q4 q5 : Int} (hm : MacIs [q0, q1, q2, q3, q4, q5]) {A : Option Addr} {c : Nat} {args : List Int} (hl : args.length ≤ 9223372036854775807) (ha : ∀ a ∈ args, -9223372036854775808 ≤ a ∧ a ≤ 9223372036854775807) {w : World} (hg : Gl w) (hs : SlR w (.slice A args.length c) (icells args)) :
    Calls Tryz.prog 3 #[.agg #[.int .i64 kind, .int .u8 q0, .int .u8 q1, .int .u8 q2, .int .u8 q3, .int .u8 q4, .int .u8 q5, .slice A args.length c]] w (TrueKept w) := by
  have ka : Keeps Nothing w (w.alloc (.cells #[.int .i64 kind, .int .u8 q0, .int .u8 q1, .int .u8 q2, .int .u8 q3, .int .u8 q4, .int .u8 q5, .slice A args.length c] 26)) := allocK _ _
  have hB : Blk (w.alloc (.cells #[.int .i64 kind, .int .u8 q0, .int .u8 q1, .int .u8 q2, .int .u8 q3, .int .u8 q4, .int .u8 q5, .slice A args.length c] 26)) w.heap.size [.int .i64 kind, .int .u8 q0, .int .u8 q1, .int .u8 q2, .int .u8 q3, .int .u8 q4, .int .u8 q5, .slice A args.length c] 26 := Blk.new w _ 26
  have HB := Lib.hid hB
  have HR := Lib.hid (reads_ok (hg.same ka))
  have HG := Lib.hid (hg.same ka)
  have HS := Lib.hid (hs.same ka)
  have HA := Lib.hid ha
  have HM := Lib.hid hm
  have KA := Lib.hid ka
  clear hg hs ha ka hB hm
  by_cases hbig : 300 < (args.length : Int)
  · go_enter Tryz.func3, Tryz.ntmps3
    go_wp2_with (go_at_call 12; refine HR.out.mono ?_; rintro e w1 ⟨rfl, k1⟩; have K1 := Lib.hid (KA.out.same k1); have c7 : w1.cell? ⟨w.heap.size, 7, none⟩ = some (.slice A args.length c) := (HB.out.keeps k1 (fun h => h)).cell 7; clear k1)
    go_ret
    exact ⟨rfl, K1.out⟩
  · have hl2 : args.length ≤ 140737488355328 := by omega
    have hT := fun (w' : World) (hg : Gl w') (hs : SlR w' (.slice A args.length c) (icells args)) => text_ok ⟨kind, [q0, q1, q2, q3, q4, q5], args⟩ HM.out hk hl2 HA.out hg hs
    have hC := fun (w' : World) (hg : Gl w') => check_ok ⟨kind, [q0, q1, q2, q3, q4, q5], args⟩ HM.out hk hl2 A c hg.big
    have HT : Hid (∀ (w' : World) (hg : Gl w') (hs : SlR w' (.slice A args.length c) (icells args)), Calls Tryz.prog 13 #[.agg #[.int .i64 kind, .int .u8 q0, .int .u8 q1, .int .u8 q2, .int .u8 q3, .int .u8 q4, .int .u8 q5, .slice A args.length c]] w' (fun ev w'' => TextIs w'' ⟨kind, [q0, q1, q2, q3, q4, q5], args⟩ ev ∧ Keeps Nothing w' w'')) := hT
    have HC : Hid (∀ (w' : World) (hg : Gl w'), Calls Tryz.prog 14 #[.agg #[.int .i64 kind, .int .u8 q0, .int .u8 q1, .int .u8 q2, .int .u8 q3, .int .u8 q4, .int .u8 q5, .slice A args.length c]] w' (fun ev w'' => ∃ v, ev = .returned v ∧ WrErr w'' v (checkP ⟨kind, [q0, q1, q2, q3, q4, q5], args⟩) ∧ Keeps Nothing w' w'')) := hC
    clear hT hC
    unfold TextIs at HT
    cases hcp : checkP ⟨kind, [q0, q1, q2, q3, q4, q5], args⟩ with
    | some e =>
      obtain ⟨en, ek⟩ := e
      rw [hcp] at HT HC
      clear hcp
      have t1 : True := trivial
      have t2 : True := trivial
      have t3 : True := trivial
      have t4 : True := trivial
      go_enter Tryz.func3, Tryz.ntmps3
      go_wp2_with (first | (go_at_call 12; refine HR.out.mono ?_; rintro e w1 ⟨rfl, k1⟩; have K1 := Lib.hid (KA.out.same k1); have HG1 := Lib.hid (HG.out.same k1); have HS1 := Lib.hid (HS.out.same k1); have HB1 := Lib.hid (HB.out.keeps k1 (fun h => h)); obtain ⟨c0, c1, c2, c3, c4, c5, c6, c7⟩ := Blk.eight HB1.out; clear k1) | (go_at_call 13; refine (HT.out _ HG1.out HS1.out).mono ?_; rintro e w2 ⟨⟨v, ⟨b2, hb2, rfl, hx2⟩, rfl⟩, k2⟩; have H2 : Hid (WrB w2 b2 en ek) := hx2; have K2 := Lib.hid (K1.out.same k2); have HG2 := Lib.hid (HG1.out.same k2); have HB2 := Lib.hid (HB1.out.keeps k2 (fun h => h)); clear c0 c1 c2 c3 c4 c5 c6 c7; obtain ⟨c0, c1, c2, c3, c4, c5, c6, c7⟩ := Blk.eight HB2.out; clear k2 hx2) | (go_at_call 14; refine (HC.out _ HG2.out).mono ?_; rintro e w3 ⟨v, rfl, ⟨b3, hb3, rfl, hx3⟩, k3⟩; have H3 : Hid (WrB w3 b3 en ek) := hx3; have H2 := Lib.hid (H2.out.same k3); have K3 := Lib.hid (K2.out.same k3); have HG3 := Lib.hid (HG2.out.same k3); clear k3 hx3 c0 c1 c2 c3 c4 c5 c6 c7) | (clear t1; go_at_call 15; refine (code_wr HG3.out H2.out).mono ?_; rintro e w4 ⟨rfl, k4⟩; have H3 := Lib.hid (H3.out.same k4); have H2 := Lib.hid (H2.out.same k4); have K4 := Lib.hid (K3.out.same k4); have HG4 := Lib.hid (HG3.out.same k4); clear k4) | (clear t2; go_at_call 15; refine (code_wr HG4.out H3.out).mono ?_; rintro e w5 ⟨rfl, k5⟩; have H3 := Lib.hid (H3.out.same k5); have H2 := Lib.hid (H2.out.same k5); have K5 := Lib.hid (K4.out.same k5); have HG5 := Lib.hid (HG4.out.same k5); clear k5) | (clear t3; go_at_call 16; refine (where_wr HG5.out H2.out).mono ?_; rintro e w6 ⟨rfl, k6⟩; have H3 := Lib.hid (H3.out.same k6); have K6 := Lib.hid (K5.out.same k6); have HG6 := Lib.hid (HG5.out.same k6); clear k6) | (clear t4; go_at_call 16; refine (where_wr HG6.out H3.out).mono ?_; rintro e w7 ⟨rfl, k7⟩; have K7 := Lib.hid (K6.out.same k7); clear k7))
      go_ret
      exact ⟨rfl, K7.out⟩
    | none =>
      have l200 := (check_len hcp).1
      simp only at l200
      have hP := fun {w : World} (hg : Gl w) => parse_back (c := ⟨kind, [q0, q1, q2, q3, q4, q5], args⟩) HM.out HA.out hcp hg
      have hq := eq_mac q0 q1 q2 q3 q4 q5 q0 q1 q2 q3 q4 q5
      rw [decide_eq_true rfl] at hq
      generalize textP ⟨kind, [q0, q1, q2, q3, q4, q5], args⟩ = tx at *
      have HP : Hid (∀ {w : World} (hg : Gl w), Calls Tryz.prog 17 #[strV tx] w fun ev w' => (∃ A2 c2, OwnF w' (fun k => w.heap.size ≤ k) 2 (.slice A2 args.length c2) (icells args) ∧ ev = .returned (.tuple #[.agg #[.int .i64 kind, .int .u8 q0, .int .u8 q1, .int .u8 q2, .int .u8 q3, .int .u8 q4, .int .u8 q5, .slice A2 args.length c2], .nilIface])) ∧ Keeps Nothing w w') := @hP
      clear hP
      rw [hcp] at HT HC
      clear hcp
      go_enter Tryz.func3, Tryz.ntmps3
      go_wp2_with (first | (go_at_call 12; refine HR.out.mono ?_; rintro e w1 ⟨rfl, k1⟩; have K1 := Lib.hid (KA.out.same k1); have HG1 := Lib.hid (HG.out.same k1); have HS1 := Lib.hid (HS.out.same k1); have HB1 := Lib.hid (HB.out.keeps k1 (fun h => h)); obtain ⟨c0, c1, c2, c3, c4, c5, c6, c7⟩ := Blk.eight HB1.out; clear k1) | (go_at_call 13; refine (HT.out _ HG1.out HS1.out).mono ?_; rintro e w2 ⟨rfl, k2⟩; have K2 := Lib.hid (K1.out.same k2); have HG2 := Lib.hid (HG1.out.same k2); have HS2 := Lib.hid (HS1.out.same k2); have HB2 := Lib.hid (HB1.out.keeps k2 (fun h => h)); clear c0 c1 c2 c3 c4 c5 c6 c7; obtain ⟨c0, c1, c2, c3, c4, c5, c6, c7⟩ := Blk.eight HB2.out; clear k2) | (go_at_call 14; refine (HC.out _ HG2.out).mono ?_; rintro e w3 ⟨v, rfl, hv, k3⟩; obtain rfl : v = .nilIface := hv; have K3 := Lib.hid (K2.out.same k3); have HG3 := Lib.hid (HG2.out.same k3); have HS3 := Lib.hid (HS2.out.same k3); have HB3 := Lib.hid (HB2.out.keeps k3 (fun h => h)); clear k3 c0 c1 c2 c3 c4 c5 c6 c7) | (go_at_call 17; refine (HP.out HG3.out).mono ?_; rintro e w4 ⟨⟨A2, e2, hO, rfl⟩, k4⟩; have ka := k4.alloc (.cells #[.int .i64 kind, .int .u8 q0, .int .u8 q1, .int .u8 q2, .int .u8 q3, .int .u8 q4, .int .u8 q5, .slice A2 args.length e2] 26); have HS4 := Lib.hid (HS3.out.same ka); have HO4 := Lib.hid (hO.slR.same (allocK w4 (.cells #[.int .i64 kind, .int .u8 q0, .int .u8 q1, .int .u8 q2, .int .u8 q3, .int .u8 q4, .int .u8 q5, .slice A2 args.length e2] 26))); have K4 := Lib.hid (K3.out.same ka); have HB4 := Lib.hid (HB3.out.keeps ka (fun h => h)); have HD4 := Lib.hid (Blk.new w4 [.int .i64 kind, .int .u8 q0, .int .u8 q1, .int .u8 q2, .int .u8 q3, .int .u8 q4, .int .u8 q5, .slice A2 args.length e2] 26); obtain ⟨c0, c1, c2, c3, c4, c5, c6, c7⟩ := Blk.eight HB4.out; clear k4 ka hO))
      clear c0 c1 c2 c3 c4 c5 c6 c7
      generalize hw5 : w4.alloc (.cells #[.int .i64 kind, .int .u8 q0, .int .u8 q1, .int .u8 q2, .int .u8 q3, .int .u8 q4, .int .u8 q5, .slice A2 args.length e2] 26) = w5 at *
      clear hw5
      have HD5 : Hid (Blk w5 w4.heap.size [.int .i64 kind, .int .u8 q0, .int .u8 q1, .int .u8 q2, .int .u8 q3, .int .u8 q4, .int .u8 q5, .slice A2 args.length e2] 26) := HD4
      generalize w4.heap.size = db at *
      go_loopg [77] args.length (fun n i wr => ∃ j : Nat, j + n = args.length ∧ i = .int .i64 (j : Nat) ∧ Keeps Nothing w5 wr)
      case atStart => exact ⟨0, by omega, rfl, Keeps.refl _ _⟩
      case round =>
        obtain ⟨j, hj, rfl, hk⟩ := hrel
        have HKr := Lib.hid hk
        have HSr := Lib.hid (HS4.out.same hk)
        have HOr := Lib.hid (HO4.out.same hk)
        have a7 : wr.cell? ⟨w.heap.size, 7, none⟩ = some (.slice A args.length c) := (HB4.out.keeps hk (fun h => h)).cell 7
        have b7 : wr.cell? ⟨db, 7, none⟩ = some (.slice A2 args.length e2) := (HD5.out.keeps hk (fun h => h)).cell 7
        clear hk
        by_cases hlt : j < args.length
        · obtain ⟨x, hx⟩ : ∃ x, args[j]? = some x := ⟨_, List.getElem?_eq_getElem hlt⟩
          have hxi : (icells args)[j]? = some (.int .i64 x) := by simp [icells, hx]
          obtain ⟨ad, rfl, f1⟩ : ∃ ad, A = some ad ∧ wr.cell? (ad.add j) = some (.int .i64 x) := by
            rcases HSr.out with ⟨c', h1, h2⟩ | ⟨ad, c', h1, -, h3⟩
            · rw [h2] at hxi; simp at hxi
            · injection h1 with e1
              exact ⟨ad, e1, h3 j _ hxi⟩
          obtain ⟨ad2, rfl, f2⟩ : ∃ ad, A2 = some ad ∧ wr.cell? (ad.add j) = some (.int .i64 x) := by
            rcases HOr.out with ⟨c', h1, h2⟩ | ⟨ad, c', h1, -, h3⟩
            · rw [h2] at hxi; simp at hxi
            · injection h1 with e1
              exact ⟨ad, e1, h3 j _ hxi⟩
          have hjl : (j : Int) < (args.length : Int) := by omega
          clear hx hxi
          go_upto_region 15 with fail
          go_quiet (fail)
          have HKd := Lib.hid (HKr.out.drewN nq)
          go_wp2_with fail
          go_roundg (gk - 1)
          case measure => omega
          case rel => exact ⟨j + 1, by omega, by go_num, HKd.out⟩
        · obtain rfl : j = args.length := by omega
          have hqq : ¬ (args.length : Int) < (args.length : Int) := by omega
          go_wp2_with fail
          go_ret
          exact ⟨rfl, K4.out.same HKr.out⟩
end Go.Proofs.YtdncojofilnhnaaGreatDoor
