/- CommandParses: the walk. -/
import Derived.Test.YtdncojofilnhnaaGreatDoorErrT
namespace Go.Proofs.YtdncojofilnhnaaGreatDoor
open Go.RowKit Go.Lib

theorem as_wr {w : World} (hg : Gl w) {b t : Nat} {n k : Int} {old : Value} (h : WrB w b n k) (hB : Blk w t [old] 42) :
    Calls Tryz.prog 20 #[.iface 42 (.pointer (some ⟨b, 0, none⟩)), .iface 46 (.pointer (some ⟨t, 0, none⟩))] w fun ev w' => ev = .returned (.bool true) ∧ Blk w' t [.pointer (some ⟨b, 0, none⟩)] 42 ∧ Keeps (fun k => k = t) w w' := by
  refine (as_46 (l := [(false, b, n)]) (e := .num k) hg ⟨h, trivial⟩ hB).mono ?_
  rintro ev w' ⟨hk, hm⟩
  exact ⟨hm.1, hm.2, hk⟩

theorem text_wr {w : World} (hg : Gl w) {b : Nat} {n k : Int} (h0 : -9223372036854775808 ≤ n) (h1 : n ≤ 9223372036854775807) (x0 : -9223372036854775808 ≤ k) (x1 : k ≤ 9223372036854775807) (h : WrB w b n k) :
    Calls Tryz.prog 21 #[.pointer (some ⟨b, 0, none⟩)] w fun ev w' => (∃ t, ev = .returned (strV (119 :: t))) ∧ Keeps Nothing w w' :=
  wrong_text (l := []) (e := .num k) h0 h1 x0 x1 hg h trivial

theorem parse_lit (line : Str) (hl : line.length < 4294967280) {kind : Int} {mac args : List Int} (h : parseP addrP line = .ok ⟨kind, mac, args⟩) {w : World} (hg : Gl w) :
    Calls Tryz.prog 17 #[strV line] w fun ev w' => ∃ (q0 q1 q2 q3 q4 q5 : Int) (A : Option Addr) (cp : Nat), mac = [q0, q1, q2, q3, q4, q5] ∧ MacIs [q0, q1, q2, q3, q4, q5] ∧ (∀ a ∈ args, -9223372036854775808 ≤ a ∧ a ≤ 9223372036854775807) ∧ SlR w' (.slice A args.length cp) (icells args) ∧ ev = .returned (.tuple #[.agg #[.int .i64 kind, .int .u8 q0, .int .u8 q1, .int .u8 q2, .int .u8 q3, .int .u8 q4, .int .u8 q5, .slice A args.length cp], .nilIface]) ∧ Keeps Nothing w w' := by
  refine (parse_yes line hl h hg).mono ?_
  rintro ev w' ⟨hm, ha, -, ⟨A, cp, hO, rfl⟩, hk⟩
  obtain ⟨q0, q1, q2, q3, q4, q5, rfl⟩ := six_of hm
  exact ⟨q0, q1, q2, q3, q4, q5, A, cp, rfl, hm, ha, hO.slR, rfl, hk⟩

theorem text_lit {line : Str} {kind q0 q1 q2 q3 q4 q5 : Int} {args : List Int} (h : parseP addrP line = .ok ⟨kind, [q0, q1, q2, q3, q4, q5], args⟩) (hm : MacIs [q0, q1, q2, q3, q4, q5]) (ha : ∀ a ∈ args, -9223372036854775808 ≤ a ∧ a ≤ 9223372036854775807) {A : Option Addr} {cp : Nat} {w : World} (hg : Gl w) (hs : SlR w (.slice A args.length cp) (icells args)) :
    Calls Tryz.prog 13 #[.agg #[.int .i64 kind, .int .u8 q0, .int .u8 q1, .int .u8 q2, .int .u8 q3, .int .u8 q4, .int .u8 q5, .slice A args.length cp]] w fun ev w' => ev = .returned (.tuple #[strV line, .nilIface]) ∧ Keeps Nothing w w' := by
  obtain ⟨h1, h2⟩ := parse_text' h
  obtain ⟨l1, l2, l3, -⟩ := check_len h2
  simp only at l1 l2 l3
  refine (text_ok ⟨kind, [q0, q1, q2, q3, q4, q5], args⟩ hm (show -9223372036854775808 ≤ kind ∧ kind ≤ 9223372036854775807 by omega) (show args.length ≤ 140737488355328 by omega) ha hg hs).mono ?_
  rintro ev w' ⟨ht, hk⟩
  unfold TextIs at ht
  rw [h2, h1] at ht
  exact ⟨ht, hk⟩

theorem check_lit {line : Str} {kind q0 q1 q2 q3 q4 q5 : Int} {args : List Int} (h : parseP addrP line = .ok ⟨kind, [q0, q1, q2, q3, q4, q5], args⟩) (hm : MacIs [q0, q1, q2, q3, q4, q5]) (A : Option Addr) (cp : Nat) {w : World} (hg : Gl w) :
    Calls Tryz.prog 14 #[.agg #[.int .i64 kind, .int .u8 q0, .int .u8 q1, .int .u8 q2, .int .u8 q3, .int .u8 q4, .int .u8 q5, .slice A args.length cp]] w fun ev w' => ev = .returned .nilIface ∧ Keeps Nothing w w' := by
  obtain ⟨h1, h2⟩ := parse_text' h
  obtain ⟨l1, l2, l3, -⟩ := check_len h2
  simp only at l1 l2 l3
  refine (check_ok ⟨kind, [q0, q1, q2, q3, q4, q5], args⟩ hm (show -9223372036854775808 ≤ kind ∧ kind ≤ 9223372036854775807 by omega) (show args.length ≤ 140737488355328 by omega) A cp hg.big).mono ?_
  rintro ev w' ⟨v, rfl, hv, hk⟩
  rw [h2] at hv
  obtain rfl : v = .nilIface := hv
  exact ⟨rfl, hk⟩

set_option maxRecDepth 100000 in
set_option maxHeartbeats 8000000 in
theorem parses_walk (line : Str) {w : World} (hg : Gl w) (hsz : line.length ≤ 9223372036854775807) :
    Calls Tryz.prog 5 #[strV line] w (TrueKept w) := by
  have HR := Lib.hid (reads_ok hg)
  have HG := Lib.hid hg
  clear hg
  by_cases hbig : 1000 < (line.length : Int)
  · go_enter Tryz.func5, Tryz.ntmps5
    go_wp2_with (go_at_call 12; refine HR.out.mono ?_; rintro e w1 ⟨rfl, k1⟩; have K1 := Lib.hid k1; clear k1)
    go_ret
    exact ⟨rfl, K1.out⟩
  · have hd1 : decide (1000 < (line.length : Int)) = false := by simp; omega
    have hl : line.length < 4294967280 := by omega
    cases hp : parseP addrP line with
    | ok c =>
      obtain ⟨kind, mac, args⟩ := c
      have HPP := Lib.hid hp
      have HP := Lib.hid (fun (w' : World) (hg : Gl w') => parse_lit line hl hp hg)
      clear hp
      go_enter Tryz.func5, Tryz.ntmps5
      go_wp2_with (first | (go_at_call 12; refine HR.out.mono ?_; rintro e w1 ⟨rfl, k1⟩; have HG1 := Lib.hid (HG.out.same k1); have K1 := Lib.hid k1; clear k1) | (go_at_call 17; refine (HP.out _ HG1.out).mono ?_; rintro e w2 ⟨q0, q1, q2, q3, q4, q5, A, cp, rfl, hm, ha, hs, rfl, k2⟩; have ka := k2.alloc (.cells #[.int .i64 kind, .int .u8 q0, .int .u8 q1, .int .u8 q2, .int .u8 q3, .int .u8 q4, .int .u8 q5, .slice A args.length cp] 26); have HG2 := Lib.hid (HG1.out.same ka); have K2 := Lib.hid (K1.out.same ka); have HB2 := Lib.hid (Blk.new w2 [.int .i64 kind, .int .u8 q0, .int .u8 q1, .int .u8 q2, .int .u8 q3, .int .u8 q4, .int .u8 q5, .slice A args.length cp] 26); have HT := Lib.hid (text_lit HPP.out hm ha HG2.out (hs.same (allocK w2 (.cells #[.int .i64 kind, .int .u8 q0, .int .u8 q1, .int .u8 q2, .int .u8 q3, .int .u8 q4, .int .u8 q5, .slice A args.length cp] 26)))); have HC := Lib.hid (fun (w' : World) (hg : Gl w') => check_lit HPP.out hm A cp hg); clear k2 hm ha hs ka; obtain ⟨c0, c1, c2, c3, c4, c5, c6, c7⟩ := Blk.eight HB2.out) | (go_at_call 13; refine HT.out.mono ?_; rintro e w3 ⟨rfl, k3⟩; have K3 := Lib.hid (K2.out.same k3); have HG3 := Lib.hid (HG2.out.same k3); have HB3 := Lib.hid (HB2.out.keeps k3 (fun h => h)); clear c0 c1 c2 c3 c4 c5 c6 c7; obtain ⟨c0, c1, c2, c3, c4, c5, c6, c7⟩ := Blk.eight HB3.out; clear k3) | (go_at_call 14; refine (HC.out _ HG3.out).mono ?_; rintro e w4 ⟨rfl, k4⟩; have K4 := Lib.hid (K3.out.same k4); clear k4))
      go_ret
      exact ⟨rfl, K4.out⟩
    | error e =>
      obtain ⟨n, k⟩ := e
      obtain ⟨hk, hn0, hn1⟩ := parse_fail addrP hp
      have hP := Lib.hid (fun (w' : World) (hg : Gl w') => parse_no' line hl hp hg)
      have hS := Lib.hid (fun (w' : World) (hg : Gl w') => split_ok line 32 (by omega) hg)
      have hnl : (splitOn 32 line).length ≤ line.length + 1 := splitOn_len 32 line
      generalize (splitOn 32 line).length = N at *
      have HK := Lib.hid hk
      have hkb : -9223372036854775808 ≤ k ∧ k ≤ 9223372036854775807 := by omega
      have hlt0 : ¬ n < 0 := by omega
      have hltN : ¬ (N : Int) < n := by omega
      have HNB : Hid (-9223372036854775808 ≤ n ∧ n ≤ 9223372036854775807) := by show _ ∧ _; omega
      have HKB := Lib.hid hkb
      clear hp hk hkb hsz hbig
      go_enter Tryz.func5, Tryz.ntmps5
      go_upto_region 14 with (first | (go_at_call 12; refine HR.out.mono ?_; rintro e w1 ⟨rfl, k1⟩; have HG1 := Lib.hid (HG.out.same k1); have K1 := Lib.hid k1; clear k1) | (go_at_call 17; refine (hP.out _ HG1.out).mono ?_; rintro e w2 ⟨⟨b, hb, rfl⟩, k2⟩; have ka := k2.alloc (.cells #[.int .i64 0, .int .u8 0, .int .u8 0, .int .u8 0, .int .u8 0, .int .u8 0, .int .u8 0, .slice none 0 0] 26); have HG2 := Lib.hid (HG1.out.same ka); have K2 := Lib.hid (K1.out.same ka); have HW2 := Lib.hid (hb.same (allocK w2 (.cells #[.int .i64 0, .int .u8 0, .int .u8 0, .int .u8 0, .int .u8 0, .int .u8 0, .int .u8 0, .slice none 0 0] 26))); have HB2 := Lib.hid (Blk.new w2 [.int .i64 0, .int .u8 0, .int .u8 0, .int .u8 0, .int .u8 0, .int .u8 0, .int .u8 0, .slice none 0 0] 26); clear k2 hb ka) | (go_at_call 15; refine (code_wr HG2.out HW2.out).mono ?_; rintro e w3 ⟨rfl, k3⟩; have HG3 := Lib.hid (HG2.out.same k3); have K3 := Lib.hid (K2.out.same k3); have HW3 := Lib.hid (HW2.out.same k3); have HB3 := Lib.hid (Blk.keeps HB2.out k3 (fun h => h)); clear k3) | (go_at_call 16; refine (where_wr HG3.out HW3.out).mono ?_; rintro e w4 ⟨rfl, k4⟩; have HNE := Lib.hid (Nat.ne_of_lt (Blk.lt (HW3.out.same k4))); have HN2 := Lib.hid (Nat.ne_of_lt (Blk.lt (Blk.keeps HB3.out k4 (fun h => h)))); have HSZ := Lib.hid (K3.out.same k4).size; have HTB := Lib.hid (HG3.out.same k4).big; have ka := k4.alloc (.cells #[.pointer none] 42); have HG4 := Lib.hid (HG3.out.same ka); have K4 := Lib.hid (K3.out.same ka); have HW4 := Lib.hid (HW3.out.same ka); have HB4 := Lib.hid (Blk.keeps HB3.out ka (fun h => h)); have HT4 := Lib.hid (Blk.new w4 [.pointer none] 42); clear k4 ka) | (go_at_call 19; refine (hS.out _ HG4.out).mono ?_; rintro e w5 ⟨rfl, -, k5⟩; have HG5 := Lib.hid (HG4.out.same k5); have K5 := Lib.hid (K4.out.same k5); have HW5 := Lib.hid (HW4.out.same k5); have HB5 := Lib.hid (Blk.keeps HB4.out k5 (fun h => h)); have HT5 := Lib.hid (Blk.keeps HT4.out k5 (fun h => h)); clear k5) | (go_at_call 20; refine (as_wr HG5.out HW5.out HT5.out).mono ?_; rintro e w6 ⟨rfl, ht6, k6⟩; have HG6 := Lib.hid (HG5.out.keeps k6 (fun x hx e => by have := HTB.out; omega)); have HK6 := Lib.hid (K5.out.up k6 (fun x hx => by have := HSZ.out; omega)); have hw6 := Blk.keeps HW5.out k6 HNE.out; have HW6 : Hid (WrB w6 b n k) := hw6; have HB6 := Lib.hid (Blk.keeps HB5.out k6 HN2.out); have ct := ht6.cell 0; have cn := hw6.cell 0; simp only [List.getElem?_cons_zero] at ct cn; clear k6 ht6 hw6) | (go_at_call 18; refine (is_wr HW6.out _).mono ?_; rintro e w7 ⟨rfl, rfl⟩) | (go_at_call 21; refine (text_wr HG6.out HNB.out.1 HNB.out.2 HKB.out.1 HKB.out.2 HW6.out).mono ?_; rintro e w8 ⟨⟨tx, rfl⟩, k8⟩; have K8 := Lib.hid (HK6.out.same k8); have c7 := (Blk.keeps HB6.out k8 (fun h => h)).cell 7; simp only [List.getElem?_cons_zero, List.getElem?_cons_succ] at c7; clear k8))
      have K8 := K8
      clear ct cn c7 hlt0 hltN
      rcases HK.out with ⟨rfl, rfl⟩ | rfl | rfl | rfl
      · go_wp2_with fail
        go_ret
        exact ⟨rfl, K8.out⟩
      all_goals
        have hk11 : True := trivial
        go_wp2_with fail
        go_ret
        exact ⟨rfl, K8.out⟩
end Go.Proofs.YtdncojofilnhnaaGreatDoor
