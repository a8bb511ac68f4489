/- What a law of commands begins with: the walk. -/
import Derived.Test.YtdncojofilnhnaaGreatDoorCmd3
import Derived.Test.YtdncojofilnhnaaGreatDoorEval
namespace Go.Proofs.YtdncojofilnhnaaGreatDoor
open Go.RowKit Go.Lib

/-- An error at a word. -/
def WrB (w : World) (b : Nat) (n k : Int) : Prop := Blk w b [.int .i64 n, .iface 33 (.int .i64 k)] 48

theorem code_wr {w : World} (hg : Gl w) {b : Nat} {n k : Int} (h : WrB w b n k) : Calls Tryz.prog 15 #[.iface 42 (.pointer (some ⟨b, 0, none⟩))] w fun ev w' => ev = .returned (.int .i64 k) ∧ Keeps Nothing w w' :=
  code_ok (l := [(false, b, n)]) (e := .num k) hg ⟨h, trivial⟩

theorem where_wr {w : World} (hg : Gl w) {b : Nat} {n k : Int} (h : WrB w b n k) : Calls Tryz.prog 16 #[.iface 42 (.pointer (some ⟨b, 0, none⟩))] w fun ev w' => ev = .returned (.int .i64 n) ∧ Keeps Nothing w w' :=
  where_ok (l := [(false, b, n)]) (e := .num k) hg ⟨h, trivial⟩

theorem is_wr {w : World} {b : Nat} {n k : Int} (h : WrB w b n k) (k0 : Int) : Calls Tryz.prog 18 #[.iface 42 (.pointer (some ⟨b, 0, none⟩)), .iface 33 (.int .i64 k0)] w fun ev w' => ev = .returned (.bool (decide (k = k0))) ∧ w' = w := by
  have := is_ok (l := [(false, b, n)]) (e := .num k) ⟨h, trivial⟩ k0
  refine this.mono ?_
  rintro ev w' ⟨rfl, rfl⟩
  exact ⟨by simp [numOf], rfl⟩

theorem as_nil (t : Value) (w : World) : Calls Tryz.prog 20 #[.nilIface, t] w fun e w' => e = .returned (.bool false) ∧ w' = w := by
  go_enter Tryz.func20, Tryz.ntmps20
  go_wp2
  go_ret
  exact ⟨rfl, rfl⟩

theorem where_nil (w : World) : Calls Tryz.prog 16 #[.nilIface] w fun ev w' => ev = .returned (.int .i64 (-1)) ∧ Keeps Nothing w w' := by
  have K1 := Lib.hid ((Keeps.refl Nothing w).alloc (.cells #[.pointer none] 42))
  go_enter Tryz.func16, Tryz.ntmps16
  go_wp2_with (go_at_call 20; refine (as_nil _ _).mono ?_; rintro e w' ⟨rfl, rfl⟩)
  go_ret
  exact ⟨rfl, K1.out⟩

/-- A line that is a command. -/
theorem parse_yes (line : Str) (hl : line.length < 4294967280) {c : Cm} (h : parseP addrP line = .ok c) {w : World} (hg : Gl w) :
    Calls Tryz.prog 17 #[strV line] w fun ev w' => MacIs c.mac ∧ (∀ a ∈ c.args, -9223372036854775808 ≤ a ∧ a ≤ 9223372036854775807) ∧ c.args.length ≤ line.length + 1 ∧ (∃ A cp, OwnF w' (fun k => w.heap.size ≤ k) 2 (.slice A c.args.length cp) (icells c.args) ∧ ev = .returned (.tuple #[cmdV c (.slice A c.args.length cp), .nilIface])) ∧ Keeps Nothing w w' := by
  refine (parse_ok line hl hg).mono ?_
  rintro ev w' ⟨hp, hk⟩
  unfold ParseIs at hp
  rw [h] at hp
  obtain ⟨h1, h2, h3, v, ho, he⟩ := hp
  refine ⟨h1, h2, h3, ?_, hk⟩
  obtain ⟨A, cp, hv⟩ := ho.lenG
  have : (icells c.args).length = c.args.length := by simp [icells]
  rw [this] at hv
  subst hv
  exact ⟨A, cp, ho, he⟩

/-- A line that is none. -/
theorem parse_no' (line : Str) (hl : line.length < 4294967280) {n k : Int} (h : parseP addrP line = .error (n, k)) {w : World} (hg : Gl w) :
    Calls Tryz.prog 17 #[strV line] w fun ev w' => (∃ b, WrB w' b n k ∧ ev = .returned (.tuple #[.agg #[.int .i64 0, .int .u8 0, .int .u8 0, .int .u8 0, .int .u8 0, .int .u8 0, .int .u8 0, .slice none 0 0], .iface 42 (.pointer (some ⟨b, 0, none⟩))])) ∧ Keeps Nothing w w' := by
  refine (parse_ok line hl hg).mono ?_
  rintro ev w' ⟨hp, hk⟩
  unfold ParseIs at hp
  rw [h] at hp
  obtain ⟨v, ⟨b, hb0, rfl, hb⟩, he⟩ := hp
  exact ⟨⟨b, hb, he⟩, hk⟩

theorem WrB.same {w w' : World} {b : Nat} {n k : Int} (h : WrB w b n k) (hk : Keeps Nothing w w') : WrB w' b n k := Blk.keeps h hk (fun h => h)

theorem allocK (w : World) (o : Obj) : Keeps Nothing w (w.alloc o) := (Keeps.refl _ _).alloc o

theorem parse_1 {w : World} (hg : Gl w) : Calls Tryz.prog 17 #[strV L1] w fun ev w' => (∃ A cp, ev = .returned (.tuple #[.agg #[.int .i64 0, .int .u8 0, .int .u8 0, .int .u8 0, .int .u8 0, .int .u8 0, .int .u8 0, .slice A 3 cp], .nilIface])) ∧ Keeps Nothing w w' := by
  refine (parse_yes L1 (by decide) parse_L1 hg).mono ?_
  rintro e w1 ⟨-, -, -, ⟨A1, c1, -, rfl⟩, k1⟩
  exact ⟨⟨A1, c1, rfl⟩, k1⟩

theorem parse_2 {w : World} (hg : Gl w) : Calls Tryz.prog 17 #[strV L2] w fun ev w' => (∃ A cp, OwnF w' (fun k => w.heap.size ≤ k) 2 (.slice A 3 cp) (icells [0, 5, 7]) ∧ ev = .returned (.tuple #[.agg #[.int .i64 5, .int .u8 2, .int .u8 0, .int .u8 0, .int .u8 0, .int .u8 0, .int .u8 1, .slice A 3 cp], .nilIface])) ∧ Keeps Nothing w w' := by
  refine (parse_yes L2 (by decide) parse_L2 hg).mono ?_
  rintro e w1 ⟨-, -, -, ⟨A1, c1, h, rfl⟩, k1⟩
  exact ⟨⟨A1, c1, h, rfl⟩, k1⟩

/-- Text of the command that was read of the second line. -/
theorem text_2 {w : World} (hg : Gl w) {A : Option Addr} {cp : Nat} (h : SlR w (.slice A 3 cp) (icells [0, 5, 7])) :
    Calls Tryz.prog 13 #[.agg #[.int .i64 5, .int .u8 2, .int .u8 0, .int .u8 0, .int .u8 0, .int .u8 0, .int .u8 1, .slice A 3 cp]] w fun ev w' => ev = .returned (.tuple #[strV L2, .nilIface]) ∧ Keeps Nothing w w' := by
  have hm : MacIs [2, 0, 0, 0, 0, 1] := ⟨rfl, by decide⟩
  refine (text_ok ⟨5, [2, 0, 0, 0, 0, 1], [0, 5, 7]⟩ hm (show -9223372036854775808 ≤ (5 : Int) ∧ (5 : Int) ≤ 9223372036854775807 by decide) (by decide) (by decide) hg h).mono ?_
  rintro e w1 ⟨ht, k1⟩
  unfold TextIs at ht
  rw [check_L2, text_L2] at ht
  exact ⟨ht, k1⟩

set_option maxRecDepth 100000 in
set_option maxHeartbeats 8000000 in
theorem reads_ok {w : World} (hg : Gl w) : Calls Tryz.prog 12 #[] w fun ev w' => ev = .returned (.bool true) ∧ Keeps Nothing w w' := by
  have t1 : True := trivial
  have t2 : True := trivial
  have t3 : True := trivial
  have t4 : True := trivial
  have t5 : True := trivial
  have t6 : True := trivial
  have t7 : True := trivial
  have t8 : True := trivial
  have t9 : True := trivial
  have t10 : True := trivial
  have t11 : True := trivial
  have t12 : True := trivial
  have t13 : True := trivial
  have t14 : True := trivial
  have t15 : True := trivial
  have t16 : True := trivial
  have HG := Lib.hid hg
  have N9 : nameOf 9 = [114, 117, 108, 101] := by decide
  have N10 : nameOf 10 = [] := by decide
  clear hg
  go_enter Tryz.func12, Tryz.ntmps12
  go_wp2_with (first | (clear t1; go_at_call 17; refine (parse_1 HG.out).mono ?_; rintro e w1 ⟨⟨A1, c1, rfl⟩, k1⟩; have K1 := Lib.hid k1; have HG1 := Lib.hid (HG.out.same k1); clear k1) | (clear t2; go_at_call 17; refine (parse_2 (HG1.out.same (allocK _ _))).mono ?_; rintro e w2 ⟨⟨A2, c2, hO2, rfl⟩, k2⟩; have HB1 := Lib.hid ((Blk.new w1 [.int .i64 0, .int .u8 0, .int .u8 0, .int .u8 0, .int .u8 0, .int .u8 0, .int .u8 0, .slice A1 3 c1] 26).keeps k2 (fun h => h)); have K2 := Lib.hid (K1.out.same ((allocK _ _).same k2)); have HG2 := Lib.hid (HG1.out.same ((allocK _ _).same k2)); have HO2 := Lib.hid hO2; clear k2 hO2) | (clear t3; go_at_call 17; refine (parse_no' L3 (by decide) parse_L3 (HG2.out.same (allocK _ _))).mono ?_; rintro e w3 ⟨⟨b3, h3, rfl⟩, k3⟩; have ka := (allocK w2 _).same k3; have HB2 := Lib.hid ((Blk.new w2 [.int .i64 5, .int .u8 2, .int .u8 0, .int .u8 0, .int .u8 0, .int .u8 0, .int .u8 1, .slice A2 3 c2] 26).keeps k3 (fun h => h)); have HB1 := Lib.hid (HB1.out.keeps ka (fun h => h)); have HO2 := Lib.hid (HO2.out.keeps ka (fun _ _ h => h)); have K3 := Lib.hid (K2.out.same ka); have HG3 := Lib.hid (HG2.out.same ka); have H3 := Lib.hid h3; clear k3 h3 ka) | (clear t4; go_at_call 17; refine (parse_no' L4 (by decide) parse_L4 (HG3.out.same (allocK _ _))).mono ?_; rintro e w4 ⟨⟨b4, h4, rfl⟩, k4⟩; have ka := (allocK w3 _).same k4; have HB2 := Lib.hid (HB2.out.keeps ka (fun h => h)); have HB1 := Lib.hid (HB1.out.keeps ka (fun h => h)); have HO2 := Lib.hid (HO2.out.keeps ka (fun _ _ h => h)); have K4 := Lib.hid (K3.out.same ka); have HG4 := Lib.hid (HG3.out.same ka); have H3 := Lib.hid (H3.out.same ka); have H4 := Lib.hid h4; clear k4 h4 ka) | (clear t5; go_at_call 17; refine (parse_no' L5 (by decide) parse_L5 (HG4.out.same (allocK _ _))).mono ?_; rintro e w5 ⟨⟨b5, h5, rfl⟩, k5⟩; have ka := ((allocK w4 _).same k5).alloc (.cells #[.int .i64 0, .int .u8 0, .int .u8 0, .int .u8 0, .int .u8 0, .int .u8 0, .int .u8 0, .slice none 0 0] 26); have HB2 := Lib.hid (HB2.out.keeps ka (fun h => h)); have HB1 := Lib.hid (HB1.out.keeps ka (fun h => h)); have HO2 := Lib.hid (HO2.out.keeps ka (fun _ _ h => h)); have K5 := Lib.hid (K4.out.same ka); have HG5 := Lib.hid (HG4.out.same ka); have H3 := Lib.hid (H3.out.same ka); have H4 := Lib.hid (H4.out.same ka); have H5 := Lib.hid (WrB.same h5 (allocK w5 (.cells #[.int .i64 0, .int .u8 0, .int .u8 0, .int .u8 0, .int .u8 0, .int .u8 0, .int .u8 0, .slice none 0 0] 26))); obtain ⟨d0, d1, d2, d3, d4, d5, d6, d7⟩ := Blk.eight HB2.out; clear k5 h5 ka) | (clear t6; go_at_call 13; refine (text_2 HG5.out HO2.out.slR).mono ?_; rintro e w6 ⟨rfl, k6⟩; have x0 : w6.cell? ⟨w1.heap.size, 0, none⟩ = some (.int .i64 0) := (HB1.out.keeps k6 (fun h => h)).cell 0; have x7 : w6.cell? ⟨w1.heap.size, 7, none⟩ = some (.slice A1 3 c1) := (HB1.out.keeps k6 (fun h => h)).cell 7; have y6 : w6.cell? ⟨w2.heap.size, 6, none⟩ = some (.int .u8 1) := (HB2.out.keeps k6 (fun h => h)).cell 6; have y7 : w6.cell? ⟨w2.heap.size, 7, none⟩ = some (.slice A2 3 c2) := (HB2.out.keeps k6 (fun h => h)).cell 7; have K6 := Lib.hid (K5.out.same k6); have HG6 := Lib.hid (HG5.out.same k6); have H3 := Lib.hid (H3.out.same k6); have H4 := Lib.hid (H4.out.same k6); have H5 := Lib.hid (H5.out.same k6); clear k6) | (clear t7; go_at_call 15; refine (code_wr HG6.out H3.out).mono ?_; rintro e w7 ⟨rfl, k7⟩; have K7 := Lib.hid (K6.out.same k7); have HG7 := Lib.hid (HG6.out.same k7); have H3 := Lib.hid (H3.out.same k7); have H4 := Lib.hid (H4.out.same k7); have H5 := Lib.hid (H5.out.same k7); clear k7) | (clear t8; go_at_call 16; refine (where_wr HG7.out H3.out).mono ?_; rintro e w8 ⟨rfl, k8⟩; have K8 := Lib.hid (K7.out.same k8); have HG8 := Lib.hid (HG7.out.same k8); have H3 := Lib.hid (H3.out.same k8); have H4 := Lib.hid (H4.out.same k8); have H5 := Lib.hid (H5.out.same k8); clear k8) | (clear t9; go_at_call 18; refine (is_wr H4.out 11).mono ?_; rintro e w9 ⟨rfl, rfl⟩) | (clear t10; go_at_call 16; refine (where_wr HG8.out H4.out).mono ?_; rintro e w10 ⟨rfl, k10⟩; have K10 := Lib.hid (K8.out.same k10); have HG10 := Lib.hid (HG8.out.same k10); have H3 := Lib.hid (H3.out.same k10); have H4 := Lib.hid (H4.out.same k10); have H5 := Lib.hid (H5.out.same k10); clear k10) | (clear t11; go_at_call 18; refine (is_wr H5.out 4).mono ?_; rintro e w11 ⟨rfl, rfl⟩) | (clear t12; go_at_call 16; refine (where_wr HG10.out H5.out).mono ?_; rintro e w12 ⟨rfl, k12⟩; have K12 := Lib.hid (K10.out.same k12); have HG12 := Lib.hid (HG10.out.same k12); have H3 := Lib.hid (H3.out.same k12); have H4 := Lib.hid (H4.out.same k12); have H5 := Lib.hid (H5.out.same k12); clear k12) | (clear t13; go_at_call 15; refine (code_nil _).mono ?_; rintro e w13 ⟨rfl, k13⟩; have K13 := Lib.hid (K12.out.same k13); have HG13 := Lib.hid (HG12.out.same k13); have H3 := Lib.hid (H3.out.same k13); have H4 := Lib.hid (H4.out.same k13); have H5 := Lib.hid (H5.out.same k13); clear k13) | (clear t14; go_at_call 16; refine (where_nil _).mono ?_; rintro e w14 ⟨rfl, k14⟩; have K14 := Lib.hid (K13.out.same k14); have HG14 := Lib.hid (HG13.out.same k14); have H3 := Lib.hid (H3.out.same k14); have H4 := Lib.hid (H4.out.same k14); have H5 := Lib.hid (H5.out.same k14); clear k14) | (clear t15; go_at_call 24; refine (name_ok 9 HG14.out).mono ?_; rw [N9]; rintro e w15 ⟨rfl, k15⟩; have K15 := Lib.hid (K14.out.same k15); have HG15 := Lib.hid (HG14.out.same k15); have H3 := Lib.hid (H3.out.same k15); have H4 := Lib.hid (H4.out.same k15); have H5 := Lib.hid (H5.out.same k15); clear k15) | (clear t16; go_at_call 24; refine (name_ok 10 HG15.out).mono ?_; rw [N10]; rintro e w16 ⟨rfl, k16⟩; have K16 := Lib.hid (K15.out.same k16); have HG16 := Lib.hid (HG15.out.same k16); have H3 := Lib.hid (H3.out.same k16); have H4 := Lib.hid (H4.out.same k16); have H5 := Lib.hid (H5.out.same k16); clear k16))
  go_ret
  exact ⟨rfl, K16.out⟩
end Go.Proofs.YtdncojofilnhnaaGreatDoor
