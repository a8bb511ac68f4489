/- CaptureMerges: the walk. -/
import Derived.Test.YtmmeloklnkfjjaaKeep
namespace Go.Proofs.Ytmmeloklnkfjjaa
open Go.RowKit

instance (f g : Fr) : Decidable (f.Same g) := inferInstanceAs (Decidable (_ ∧ _))
def sameB (g f : Fr) : Bool := decide (f.Same g)

theorem own_none27 (w : World) (h : Nat) (hb : Blk w h [] 27) (F : Nat → Prop) (hF : F h) : OwnS w F 27 5 (.slice (some ⟨h, 0, none⟩) 0 0) ([] : List Fr).length (fcells []) :=
  ⟨⟨by simp [fcells], .inr ⟨h, 0, #[], rfl, Nat.zero_le _, hb, by simp, by unfold maxLen; omega, by simp, by simp [fcells]⟩⟩, fun g hg => by simp [Value.ownBlock] at hg; subst hg; exact hF⟩

def MgI (w : World) (n : Nat) (k : Nat) (i : Value) (wr : World) : Prop := ∃ j : Nat, 1 ≤ j ∧ j ≤ n + 1 ∧ j + k = n + 1 ∧ i = .int .i64 (j : Nat) ∧ Keeps Nothing w wr
def MgO (w : World) (n : Nat) (k : Nat) (i : Value) (wr : World) : Prop := ∃ j : Nat, j + k = n ∧ i = .int .i64 (j : Nat) ∧ Keeps Nothing w wr
def MgC1 (w : World) (fb : Nat) (cs : List Value) (l : List Fr) (o : Fr) (k : Nat) (s i : Value) (wr : World) : Prop :=
  ∃ (j : Nat) (X : Int), j + k = l.length ∧ i = .int .i64 (j : Nat) ∧ s = .int .i64 X ∧ X = ((l.take j).countP (sameB o) : Nat) ∧ Blk wr fb cs 27 ∧ Keeps Nothing w wr
def MgC2 (w : World) (fb : Nat) (cs : List Value) (l : List Fr) (o : Fr) (T : Nat) (k : Nat) (s i : Value) (wr : World) : Prop :=
  ∃ (j : Nat) (X : Int), j + k = l.length ∧ i = .int .i64 (j : Nat) ∧ s = .int .i64 X ∧ X = (T : Int) - ((l.take j).countP (sameB o) : Nat) ∧ Blk wr fb cs 27 ∧ Keeps Nothing w wr

theorem count_le (l : List Fr) (j : Nat) (p : Fr → Bool) : (l.take j).countP p ≤ l.length := by
  have h1 := List.countP_le_length (p := p) (l := l.take j)
  have h2 : (l.take j).length ≤ l.length := by rw [List.length_take]; omega
  omega

/-- 'capture.Merge(m)'. -/
theorem merge1_ok {w : World} {A : Option Addr} {c : Nat} {a : List Fr} (ha : FrsR w A c a) (hl : a.length ≤ 1000000) :
    Calls Try.prog 15 #[.slice (some ⟨w.heap.size, 0, none⟩) 1 1] (w.alloc (.cells #[.slice A a.length c] 22)) (MergeRes (w.alloc (.cells #[.slice A a.length c] 22)) a) := by
  have hblk := Blk.new w [.slice A a.length c] 22
  have h := merge_ok (w := w.alloc (.cells #[.slice A a.length c] 22)) (g := w.heap.size) (ps := [⟨A, c, a⟩]) (fun j p hp => by
    match j, hp with
    | 0, hp =>
      simp at hp
      subst hp
      exact ⟨hblk.cell 0, ha.same ((Keeps.refl _ _).alloc _)⟩
    | j + 1, hp => simp at hp) (by simp) (by simp [catF]; omega)
  simpa [catF] using h

theorem count_step {l : List Fr} {j : Nat} {f : Fr} (h : l[j]? = some f) (p : Fr → Bool) : (l.take (j + 1)).countP p = (l.take j).countP p + (if p f then 1 else 0) := by
  rw [take_snoc' h, List.countP_append]
  simp [List.countP_cons]

set_option maxRecDepth 100000 in
set_option maxHeartbeats 32000000 in
theorem mer_in {w : World} {A B : Option Addr} {ca cb : Nat} {a b : List Fr} (ha : FrsR w A ca a) (hb : FrsR w B cb b) (hsa : Small a) (hsb : Small b) :
    Calls Try.prog 5 #[.slice A a.length ca, .slice B b.length cb] w (TrueKept w) := by
  have a100 : a.length ≤ 100 := hsa.2
  have b100 : b.length ≤ 100 := hsb.2
  have HA := Lib.hid ha
  have HB := Lib.hid hb
  have Sa := fun (v : World) (hv : Keeps Nothing w v) => small_ok (HA.out.same hv) (by omega) true ⟨fun _ => hsa, fun _ => rfl⟩
  have Sb := fun (v : World) (hv : Keeps Nothing w v) => small_ok (HB.out.same hv) (by omega) true ⟨fun _ => hsb, fun _ => rfl⟩
  have M := fun (v : World) (hv : Keeps Nothing w v) => merge2_ok (HA.out.same hv) (HB.out.same hv) (by omega)
  clear ha hb hsa hsb
  go_enter Try.func5, Try.ntmps5
  go_upto_region 6 with (first
    | (go_at_call 9; refine keeps_ok.mono ?_; rintro e w1 ⟨rfl, k1⟩; have K1 := Lib.hid k1; clear k1)
    | (go_at_call 10; refine (Sa _ K1.out).mono ?_; clear Sa; rintro e w2 ⟨rfl, k2⟩; have K2 := Lib.hid (K1.out.same k2); clear k2)
    | (go_at_call 10; refine (Sb _ K2.out).mono ?_; clear Sb; rintro e w3 ⟨rfl, k3⟩; have K3 := Lib.hid (K2.out.same k3); clear k3)
    | (go_at_call 15; refine (M _ K3.out).mono ?_; clear M; rintro e w4 ⟨m, Am, cm, rfl, hlm, hcm, hsm, -, hfm, k4⟩; have K4 := Lib.hid ((K3.out.alloc _).same k4); have HCm := Lib.hid hcm; have HFm := Lib.hid hfm; have HLm := Lib.hid hlm; have HSm := Lib.hid hsm; clear k4 hcm hfm hlm hsm))
  have hmab : m.length = a.length + b.length := by have := HLm.out; rwa [List.length_append] at this
  have hne : (((m.length : Nat) : Int) != (a.length : Int) + (b.length : Int)) = false := by simp; omega
  have hm200 : m.length ≤ 200 := by omega
  have HMab := Lib.hid hmab
  clear hmab
  go_wp2_with fail
  go_loopg [6] m.length (fun k i wr => MgI w4 m.length k i wr)
  case atStart => exact ⟨1, by omega, by omega, by omega, rfl, Keeps.refl _ _⟩
  case round =>
    obtain ⟨j, hj1, hjn, hj, rfl, hk⟩ := hrel
    have HK := Lib.hid hk
    by_cases hlt : j < m.length
    · obtain ⟨p, hp⟩ : ∃ p, p = j - 1 := ⟨_, rfl⟩
      have hpi : (j : Int) - 1 = (p : Int) := by omega
      have hpm : p < m.length := by omega
      have hpi2 : (p : Int) < (m.length : Int) := by omega
      have hji2 : (j : Int) < (m.length : Int) := by omega
      have hwp : IntKind.i64.wrap (p : Int) = (p : Int) := IntWalk.i64_in _ (by omega)
      obtain ⟨yp, yc, yf, yt, yB, ycap, ybs, bb, o, hyj, rfl, y0, y1, y2, y3, y4, -⟩ := (HFm.out.same hk).get hlt
      obtain ⟨xp, xc, xf, xt, xB, xcap, xbs, bb', o', hxj, hA, x0, x1, x2, x3, x4, -⟩ := (HFm.out.same hk).get hpm
      injection hA with hA
      injection hA with hA1 hA2
      subst hA1 hA2
      have hno := HSm.out p j _ _ (by omega) hxj hyj
      unfold Lt at hno
      simp only at hno
      have q1 : decide (yf < xf) = false := by simp; omega
      have q2 : xf = yf → decide (yp < xp) = false := fun h => by simp; omega
      have HQ2 := Lib.hid q2
      have HP := Lib.hid hp
      have hbb : bb < wr.heap.size := World.block_lt_of_cell? _ _ y0
      clear hk hyj hxj hno q2 hp
      go_upto_region 11 with fail
      go_region
      all_goals
        have HKA := Lib.hid ((HK.out.alloc (.cells #[.int .i64 yp, .int .i64 yc, .int .i64 yf, .int .i64 yt, .slice yB ybs.length ycap] 27)).alloc (.cells #[.int .i64 xp, .int .i64 xc, .int .i64 xf, .int .i64 xt, .slice xB xbs.length xcap] 27)).drew
        have HKB := Lib.hid ((HK.out.alloc (.cells #[.int .i64 xp, .int .i64 xc, .int .i64 xf, .int .i64 xt, .slice xB xbs.length xcap] 27)).alloc (.cells #[.int .i64 yp, .int .i64 yc, .int .i64 yf, .int .i64 yt, .slice yB ybs.length ycap] 27)).drew
        by_cases hef : xf = yf
        · have q3 := HQ2.out hef
          subst hef
          clear q1
          have q1 : decide (xf < xf) = false := by simp
          go_wp2_with fail
          go_roundg (gk - 1)
          case measure => omega
          case rel => exact ⟨j + 1, by omega, by omega, by omega, by go_num, by first | exact HKA.out | exact HKB.out⟩
        · have q3 : (xf == yf) = false := by simpa using hef
          clear hef
          go_wp2_with fail
          go_roundg (gk - 1)
          case measure => omega
          case rel => exact ⟨j + 1, by omega, by omega, by omega, by go_num, by first | exact HKA.out | exact HKB.out⟩
    · have K5 := Lib.hid (K4.out.same hk)
      have hnn := Blk.new wr [] 27
      have HNone := Lib.hid (own_none27 (wr.alloc (.cells #[] 27)) wr.heap.size hnn (fun k => wr.heap.size ≤ k) (Nat.le_refl _))
      have HA5 := Lib.hid ((HA.out.same K5.out).same ((Keeps.refl _ _).alloc (.cells #[] 27)))
      have HB5 := Lib.hid ((HB.out.same K5.out).same ((Keeps.refl _ _).alloc (.cells #[] 27)))
      have HFm5 := Lib.hid (HFm.out.same hk)
      clear hk hnn HFm
      go_upto_region 15 with (first
        | (refine wpList_appF rfl (.tmp 75) (.tmp 76) rfl (fun k => wr.heap.size ≤ k) (.slice (some ⟨wr.heap.size, 0, none⟩) 0 0) [] rfl HNone.out A ca a rfl HA5.out (by simp; omega) ?_; intro v6 w6 ho6 k6; have HO6 := Lib.hid (ho6.mono (G := fun k => wr.heap.size ≤ k) (fun k hk => by simp at hk; omega)); have KA6 := Lib.hid (((Keeps.refl Nothing wr).alloc (.cells #[] 27)).up k6 (fun x hx => by simp [Value.ownBlock] at hx; omega)); clear ho6 k6)
        | (refine wpList_appF rfl (.tmp 77) (.tmp 78) rfl (fun k => wr.heap.size ≤ k) v6 ([] ++ a) rfl HO6.out B cb b rfl ((HB.out.same K5.out).same KA6.out) (by simp; omega) ?_; intro v7 w7 ho7 k7; have HO7 := Lib.hid ho7; have KA7 := Lib.hid (KA6.out.up k7 (fun x hx => HO6.out.2 x hx)); clear ho7 k7))
      have hrd : ∀ f ∈ [] ++ a ++ b, f.Rd w7 := fun f hf => by
        rw [List.nil_append, List.mem_append] at hf
        have hkk := K5.out.same KA7.out
        rcases hf with hf | hf
        · exact (HA.out.same hkk).2 f hf
        · exact (HB.out.same hkk).2 f hf
      obtain ⟨AL, cL, rfl, hfl⟩ := FrsR.ofS HO7.out hrd
      rw [List.nil_append] at hfl ⊢
      have hL200 : (a ++ b).length ≤ 200 := by rw [List.length_append]; omega
      have HCL := Lib.hid HCm.out
      have HFL := Lib.hid hfl
      have HFm7 := Lib.hid (HFm5.out.same KA7.out)
      have K7 := Lib.hid (K5.out.same KA7.out)
      clear hrd hfl HO7 HO6 KA6 KA7 HNone HA5 HB5 HFm5 K5 HA HB HLm
      generalize a ++ b = L at *
      go_wp2_with fail
      go_loopg [82] L.length (fun k i wr => MgO w7 L.length k i wr)
      case atStart => exact ⟨0, by omega, rfl, Keeps.refl _ _⟩
      case round =>
        obtain ⟨j, hj, rfl, hk⟩ := hrel
        have HK := Lib.hid hk
        by_cases hlt : j < L.length
        · obtain ⟨op, oc, of, ot, oB, ocap, obs, bb, bo, hoj, hAL, o0, o1, o2, o3, o4, hos⟩ := (HFL.out.same hk).get hlt
          subst hAL
          have HOr := Lib.hid hos
          obtain ⟨gO, rfl⟩ : ∃ g, g = gk := ⟨_, rfl⟩
          obtain ⟨wo, rfl⟩ : ∃ wo, wo = wr := ⟨_, rfl⟩
          have hblk := Blk.new wo [.int .i64 op, .int .i64 oc, .int .i64 of, .int .i64 ot, .slice oB obs.length ocap] 27
          have HBl := Lib.hid hblk
          clear hk hos hoj hblk
          go_wp2_with fail
          go_loopg [12, 88] m.length (fun k s i wr => MgC1 wo wo.heap.size [.int .i64 op, .int .i64 oc, .int .i64 of, .int .i64 ot, .slice oB obs.length ocap] m ⟨op, oc, of, ot, oB, ocap, obs⟩ k s i wr)
          case atStart => exact ⟨0, 0, by omega, rfl, rfl, rfl, HBl.out, (Keeps.refl _ _).alloc _⟩
          case round =>
            obtain ⟨i, X, hi, rfl, rfl, hX, hb, hk⟩ := hrel
            have HKi := Lib.hid hk
            have HXi := Lib.hid hX
            have HBi := Lib.hid hb
            by_cases hlt2 : i < m.length
            · obtain ⟨xp, xc, xf, xt, xB, xcap, xbs, bx, box, hxi, hAx, x0, x1, x2, x3, x4, hxs⟩ := (HFm7.out.same (HK.out.same hk)).get hlt2
              first | subst hAx | (injection hAx with hAx; injection hAx with hx1 hx2; subst hx1 hx2)
              have hcl := count_le m i (sameB ⟨op, oc, of, ot, oB, ocap, obs⟩)
              have hXb : -1000 ≤ X ∧ X ≤ 1000 := by (rw [hX]; omega)
              obtain ⟨hXb1, hXb2⟩ := hXb
              have hst := count_step hxi (sameB ⟨op, oc, of, ot, oB, ocap, obs⟩)
              have HSt := Lib.hid hst
              have y0 : (wr.alloc (.cells #[.int .i64 xp, .int .i64 xc, .int .i64 xf, .int .i64 xt, .slice xB xbs.length xcap] 27)).cell? ⟨wo.heap.size, 0, none⟩ = some (.int .i64 op) := (hb.alloc _).cell 0
              have y1 : (wr.alloc (.cells #[.int .i64 xp, .int .i64 xc, .int .i64 xf, .int .i64 xt, .slice xB xbs.length xcap] 27)).cell? ⟨wo.heap.size, 1, none⟩ = some (.int .i64 oc) := (hb.alloc _).cell 1
              have y2 : (wr.alloc (.cells #[.int .i64 xp, .int .i64 xc, .int .i64 xf, .int .i64 xt, .slice xB xbs.length xcap] 27)).cell? ⟨wo.heap.size, 2, none⟩ = some (.int .i64 of) := (hb.alloc _).cell 2
              have y3 : (wr.alloc (.cells #[.int .i64 xp, .int .i64 xc, .int .i64 xf, .int .i64 xt, .slice xB xbs.length xcap] 27)).cell? ⟨wo.heap.size, 3, none⟩ = some (.int .i64 ot) := (hb.alloc _).cell 3
              have y4 : (wr.alloc (.cells #[.int .i64 xp, .int .i64 xc, .int .i64 xf, .int .i64 xt, .slice xB xbs.length xcap] 27)).cell? ⟨wo.heap.size, 4, none⟩ = some (.slice oB obs.length ocap) := (hb.alloc _).cell 4
              have hfb : wo.heap.size < wr.heap.size := hb.lt
              have S := fun (v : Bool) hv => same_ok (w := wr.alloc (.cells #[.int .i64 xp, .int .i64 xc, .int .i64 xf, .int .i64 xt, .slice xB xbs.length xcap] 27)) ⟨xp, xc, xf, xt, xB, xcap, xbs⟩ ⟨op, oc, of, ot, oB, ocap, obs⟩ (SlR.same hxs ((Keeps.refl _ _).alloc _)) (SlR.same (SlR.same HOr.out hk) ((Keeps.refl _ _).alloc _)) v hv
              unfold Fr.val at S
              simp only at S
              by_cases hsame : Fr.Same ⟨xp, xc, xf, xt, xB, xcap, xbs⟩ ⟨op, oc, of, ot, oB, ocap, obs⟩
              · have S1 := S true ⟨fun _ => hsame, fun _ => rfl⟩
                have hsb : sameB ⟨op, oc, of, ot, oB, ocap, obs⟩ ⟨xp, xc, xf, xt, xB, xcap, xbs⟩ = true := decide_eq_true hsame
                have HSb := Lib.hid hsb
                clear S hsame hsb hk hX hb hxi hxs hst hcl
                go_wp2_with (go_at_call 14; refine S1.mono ?_; clear S1; rintro e w9 ⟨rfl, k9⟩; have K9 := Lib.hid (((Keeps.refl Nothing wr).alloc (.cells #[.int .i64 xp, .int .i64 xc, .int .i64 xf, .int .i64 xt, .slice xB xbs.length xcap] 27)).same k9); clear k9)
                go_roundg (gk - 1)
                case measure => omega
                case rel =>
                  refine ⟨i + 1, X + 1, by omega, by go_num, rfl, ?_, HBi.out.keeps K9.out (fun h => h), HKi.out.same K9.out⟩
                  rw [HSt.out, HSb.out, if_pos rfl, HXi.out]
                  omega
              · have S1 := S false ⟨(fun h => by cases h), fun h => absurd h hsame⟩
                have hsb : sameB ⟨op, oc, of, ot, oB, ocap, obs⟩ ⟨xp, xc, xf, xt, xB, xcap, xbs⟩ = false := decide_eq_false hsame
                have HSb := Lib.hid hsb
                clear S hsame hsb hk hX hb hxi hxs hst hcl
                go_wp2_with (go_at_call 14; refine S1.mono ?_; clear S1; rintro e w9 ⟨rfl, k9⟩; have K9 := Lib.hid (((Keeps.refl Nothing wr).alloc (.cells #[.int .i64 xp, .int .i64 xc, .int .i64 xf, .int .i64 xt, .slice xB xbs.length xcap] 27)).same k9); clear k9)
                go_roundg (gk - 1)
                case measure => omega
                case rel =>
                  refine ⟨i + 1, X, by omega, by go_num, rfl, ?_, HBi.out.keeps K9.out (fun h => h), HKi.out.same K9.out⟩
                  rw [HSt.out, HSb.out, if_neg (by simp), HXi.out, Nat.add_zero]
            · obtain rfl : i = m.length := by omega
              rw [List.take_length] at hX
              have hTb : m.countP (sameB ⟨op, oc, of, ot, oB, ocap, obs⟩) ≤ 200 := by have := List.countP_le_length (p := sameB ⟨op, oc, of, ot, oB, ocap, obs⟩) (l := m); omega
              have HB1 := Lib.hid hb
              have HK1 := Lib.hid hk
              have HX1 := Lib.hid hX
              obtain ⟨wp, rfl⟩ : ∃ wp, wp = wr := ⟨_, rfl⟩
              clear hX HXi hb hk
              go_wp2_with fail
              go_loopg [12, 100] L.length (fun k s i wr => MgC2 wo wo.heap.size [.int .i64 op, .int .i64 oc, .int .i64 of, .int .i64 ot, .slice oB obs.length ocap] L ⟨op, oc, of, ot, oB, ocap, obs⟩ (m.countP (sameB ⟨op, oc, of, ot, oB, ocap, obs⟩)) k s i wr)
              case atStart => exact ⟨0, X, by omega, rfl, rfl, by rw [HX1.out]; simp, HB1.out, HK1.out⟩
              case round =>
                obtain ⟨i, X, hi, rfl, rfl, hX, hb, hk⟩ := hrel
                have HKi := Lib.hid hk
                have HXi := Lib.hid hX
                have HBi := Lib.hid hb
                by_cases hlt2 : i < L.length
                · obtain ⟨xp, xc, xf, xt, xB, xcap, xbs, bx, box, hxi, hAx, x0, x1, x2, x3, x4, hxs⟩ := (HFL.out.same (HK.out.same hk)).get hlt2
                  first | subst hAx | (injection hAx with hAx; injection hAx with hx1 hx2; subst hx1 hx2)
                  have hcl := count_le L i (sameB ⟨op, oc, of, ot, oB, ocap, obs⟩)
                  have hXb : -1000 ≤ X ∧ X ≤ 1000 := by (rw [hX]; have := hTb; omega)
                  obtain ⟨hXb1, hXb2⟩ := hXb
                  have hst := count_step hxi (sameB ⟨op, oc, of, ot, oB, ocap, obs⟩)
                  have HSt := Lib.hid hst
                  have y0 : (wr.alloc (.cells #[.int .i64 xp, .int .i64 xc, .int .i64 xf, .int .i64 xt, .slice xB xbs.length xcap] 27)).cell? ⟨wo.heap.size, 0, none⟩ = some (.int .i64 op) := (hb.alloc _).cell 0
                  have y1 : (wr.alloc (.cells #[.int .i64 xp, .int .i64 xc, .int .i64 xf, .int .i64 xt, .slice xB xbs.length xcap] 27)).cell? ⟨wo.heap.size, 1, none⟩ = some (.int .i64 oc) := (hb.alloc _).cell 1
                  have y2 : (wr.alloc (.cells #[.int .i64 xp, .int .i64 xc, .int .i64 xf, .int .i64 xt, .slice xB xbs.length xcap] 27)).cell? ⟨wo.heap.size, 2, none⟩ = some (.int .i64 of) := (hb.alloc _).cell 2
                  have y3 : (wr.alloc (.cells #[.int .i64 xp, .int .i64 xc, .int .i64 xf, .int .i64 xt, .slice xB xbs.length xcap] 27)).cell? ⟨wo.heap.size, 3, none⟩ = some (.int .i64 ot) := (hb.alloc _).cell 3
                  have y4 : (wr.alloc (.cells #[.int .i64 xp, .int .i64 xc, .int .i64 xf, .int .i64 xt, .slice xB xbs.length xcap] 27)).cell? ⟨wo.heap.size, 4, none⟩ = some (.slice oB obs.length ocap) := (hb.alloc _).cell 4
                  have hfb : wo.heap.size < wr.heap.size := hb.lt
                  have S := fun (v : Bool) hv => same_ok (w := wr.alloc (.cells #[.int .i64 xp, .int .i64 xc, .int .i64 xf, .int .i64 xt, .slice xB xbs.length xcap] 27)) ⟨xp, xc, xf, xt, xB, xcap, xbs⟩ ⟨op, oc, of, ot, oB, ocap, obs⟩ (SlR.same hxs ((Keeps.refl _ _).alloc _)) (SlR.same (SlR.same HOr.out hk) ((Keeps.refl _ _).alloc _)) v hv
                  unfold Fr.val at S
                  simp only at S
                  by_cases hsame : Fr.Same ⟨xp, xc, xf, xt, xB, xcap, xbs⟩ ⟨op, oc, of, ot, oB, ocap, obs⟩
                  · have S1 := S true ⟨fun _ => hsame, fun _ => rfl⟩
                    have hsb : sameB ⟨op, oc, of, ot, oB, ocap, obs⟩ ⟨xp, xc, xf, xt, xB, xcap, xbs⟩ = true := decide_eq_true hsame
                    have HSb := Lib.hid hsb
                    clear S hsame hsb hk hX hb hxi hxs hst hcl
                    go_wp2_with (go_at_call 14; refine S1.mono ?_; clear S1; rintro e w9 ⟨rfl, k9⟩; have K9 := Lib.hid (((Keeps.refl Nothing wr).alloc (.cells #[.int .i64 xp, .int .i64 xc, .int .i64 xf, .int .i64 xt, .slice xB xbs.length xcap] 27)).same k9); clear k9)
                    go_roundg (gk - 1)
                    case measure => omega
                    case rel =>
                      refine ⟨i + 1, X - 1, by omega, by go_num, rfl, ?_, HBi.out.keeps K9.out (fun h => h), HKi.out.same K9.out⟩
                      rw [HSt.out, HSb.out, if_pos rfl, HXi.out]
                      omega
                  · have S1 := S false ⟨(fun h => by cases h), fun h => absurd h hsame⟩
                    have hsb : sameB ⟨op, oc, of, ot, oB, ocap, obs⟩ ⟨xp, xc, xf, xt, xB, xcap, xbs⟩ = false := decide_eq_false hsame
                    have HSb := Lib.hid hsb
                    clear S hsame hsb hk hX hb hxi hxs hst hcl
                    go_wp2_with (go_at_call 14; refine S1.mono ?_; clear S1; rintro e w9 ⟨rfl, k9⟩; have K9 := Lib.hid (((Keeps.refl Nothing wr).alloc (.cells #[.int .i64 xp, .int .i64 xc, .int .i64 xf, .int .i64 xt, .slice xB xbs.length xcap] 27)).same k9); clear k9)
                    go_roundg (gk - 1)
                    case measure => omega
                    case rel =>
                      refine ⟨i + 1, X, by omega, by go_num, rfl, ?_, HBi.out.keeps K9.out (fun h => h), HKi.out.same K9.out⟩
                      rw [HSt.out, HSb.out, if_neg (by simp), HXi.out, Nat.add_zero]
                · obtain rfl : i = L.length := by omega
                  rw [List.take_length] at hX
                  have hX0 : X = 0 := by rw [hX, HCL.out]; omega
                  subst hX0
                  clear hX HXi hb hk
                  go_wp2_with fail
                  go_roundg (gO - 1)
                  case measure => omega
                  case rel => exact ⟨j + 1, by omega, by go_num, HK.out.same HKi.out⟩
        · obtain rfl : j = L.length := by omega
          have KM := Lib.hid (K7.out.same hk)
          have HFm8 := Lib.hid (HFm7.out.same hk)
          have C15 := merge1_ok HFm8.out (by omega)
          clear hk HFL HFm7 K7
          go_upto_region 35 with (go_at_call 15; refine C15.mono ?_; clear C15; rintro e w8 ⟨m2, A8, c8, rfl, hl8, -, -, heq8, hf8, k8⟩)
          have hm2 := heq8 HSm.out
          subst hm2
          have KA8 := Lib.hid (((Keeps.refl Nothing wr).alloc (.cells #[.slice Am m2.length cm] 22)).same k8)
          have HF8 := Lib.hid hf8
          have HF9 := Lib.hid (HFm8.out.same KA8.out)
          have K8 := Lib.hid (KM.out.same KA8.out)
          clear heq8 hf8 k8 hl8 HFm8 KM
          go_wp2_with fail
          go_loopg [118] m2.length (fun k i wr => MgO w8 m2.length k i wr)
          case atStart => exact ⟨0, by omega, rfl, Keeps.refl _ _⟩
          case round =>
            obtain ⟨i, hi, rfl, hk⟩ := hrel
            have HKi := Lib.hid hk
            by_cases hlt2 : i < m2.length
            · obtain ⟨xp, xc, xf, xt, xB, xcap, xbs, bx, box, hxi, hAx, x0, x1, x2, x3, x4, hxs⟩ := (HF9.out.same hk).get hlt2
              obtain ⟨yp, yc, yf, yt, yB, ycap, ybs, byy, boy, hyi, hAy, y0, y1, y2, y3, y4, hys⟩ := (HF8.out.same hk).get hlt2
              rw [hxi] at hyi
              simp only [Option.some.injEq, Fr.mk.injEq] at hyi
              obtain ⟨rfl, rfl, rfl, rfl, rfl, rfl, rfl⟩ := hyi
              subst hAx hAy
              have D := same_ok (w := wr.drew) ⟨xp, xc, xf, xt, xB, xcap, xbs⟩ ⟨xp, xc, xf, xt, xB, xcap, xbs⟩ (SlR.same hxs (Keeps.refl _ _).drew) (SlR.same hxs (Keeps.refl _ _).drew) true ⟨fun _ => ⟨rfl, rfl, rfl, rfl, rfl⟩, fun _ => rfl⟩
              unfold Fr.val at D
              simp only at D
              have hil : (i : Int) < (m2.length : Int) := by omega
              clear hk hxi hxs hys
              go_upto_region 38 with fail
              go_still_tail 8, (by kernel_rfl)
              change wpList _ _ _ _ _ wr.drew
              have HKd := Lib.hid (HKi.out.drew)
              clear x0 x1 x2 x3 x4 y0 y1 y2 y3 y4
              generalize wr.drew = wd at *
              go_wp2_with (go_at_call 14; refine D.mono ?_; clear D; rintro e w9 ⟨rfl, k9⟩; have K9 := Lib.hid (HKd.out.same k9); clear k9)
              go_roundg (gk - 1)
              case measure => omega
              case rel => exact ⟨i + 1, by omega, by go_num, K9.out⟩
            · obtain rfl : i = m2.length := by omega
              clear hk
              go_wp2_with fail
              go_ret
              exact ⟨rfl, K8.out.same HKi.out⟩

set_option maxRecDepth 100000 in
set_option maxHeartbeats 4000000 in
theorem mer_out {w : World} {A B : Option Addr} {ca cb : Nat} {a b : List Fr} (ha : FrsR w A ca a) (hb : FrsR w B cb b) (hla : a.length ≤ 9223372036854775807) (hlb : b.length ≤ 9223372036854775807) (hs : ¬ (Small a ∧ Small b)) :
    Calls Try.prog 5 #[.slice A a.length ca, .slice B b.length cb] w (TrueKept w) := by
  have HA := Lib.hid ha
  have HB := Lib.hid hb
  clear ha hb
  by_cases hsa : Small a
  · have hsb : ¬ Small b := fun h => hs ⟨hsa, h⟩
    have Sa := fun (v : World) (hv : Keeps Nothing w v) => small_ok (HA.out.same hv) hla true ⟨fun _ => hsa, fun _ => rfl⟩
    have Sb := fun (v : World) (hv : Keeps Nothing w v) => small_ok (HB.out.same hv) hlb false ⟨(fun h => by cases h), fun h => absurd h hsb⟩
    clear hs hsa hsb
    go_enter Try.func5, Try.ntmps5
    go_wp2_with (first
      | (go_at_call 9; refine keeps_ok.mono ?_; rintro e w1 ⟨rfl, k1⟩)
      | (go_at_call 10; refine (Sa _ k1).mono ?_; clear Sa; rintro e w2 ⟨rfl, k2⟩)
      | (go_at_call 10; refine (Sb _ (k1.same k2)).mono ?_; clear Sb; rintro e w3 ⟨rfl, k3⟩))
    go_ret
    exact ⟨rfl, (k1.same k2).same k3⟩
  · have Sa := fun (v : World) (hv : Keeps Nothing w v) => small_ok (HA.out.same hv) hla false ⟨(fun h => by cases h), fun h => absurd h hsa⟩
    clear hs hsa
    go_enter Try.func5, Try.ntmps5
    go_wp2_with (first
      | (go_at_call 9; refine keeps_ok.mono ?_; rintro e w1 ⟨rfl, k1⟩)
      | (go_at_call 10; refine (Sa _ k1).mono ?_; clear Sa; rintro e w2 ⟨rfl, k2⟩))
    go_ret
    exact ⟨rfl, k1.same k2⟩

end Go.Proofs.Ytmmeloklnkfjjaa
