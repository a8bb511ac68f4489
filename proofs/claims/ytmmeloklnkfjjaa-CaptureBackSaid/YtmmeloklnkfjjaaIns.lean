/- A range of a row, sorted by insertion. -/
import Derived.Test.YtmmeloklnkfjjaaRot
import Derived.Test.YtmmeloklnkfjjaaOrd
namespace Go.Proofs.Ytmmeloklnkfjjaa
open Go.RowKit

def Lt (f g : Fr) : Prop := f.frm < g.frm ∨ (f.frm = g.frm ∧ f.port < g.port)

theorem ordI_lt (f g : Fr) : ordI f g < 0 ↔ Lt f g := by
  unfold ordI cmpI Lt
  by_cases h1 : f.frm < g.frm
  · simp [h1]
  · by_cases h2 : g.frm < f.frm
    · simp [h1, h2]; omega
    · have h3 : f.frm = g.frm := by omega
      by_cases h4 : f.port < g.port
      · simp [h3, h4]
      · by_cases h5 : g.port < f.port
        · simp [h3, h4, h5]
        · simp [h3, h4, h5]

theorem Lt.asymm {f g : Fr} (h : Lt f g) : ¬ Lt g f := by unfold Lt at *; omega
theorem le_trans' {f g k : Fr} (h1 : ¬ Lt g f) (h2 : ¬ Lt k g) : ¬ Lt k f := by unfold Lt at *; omega

/-- Sorted within [a, b). -/
def Srt (a b : Nat) (c : Con) : Prop := ∀ i j, a ≤ i → i < j → j < b → ¬ Lt (c j) (c i)

/-- The frame at j on its way down; behind it only later ones. -/
structure Down (a i j : Nat) (e : Con) : Prop where
  rest : ∀ p q, a ≤ p → p < q → q ≤ i → p ≠ j → q ≠ j → ¬ Lt (e q) (e p)
  over : ∀ q, j < q → q ≤ i → Lt (e j) (e q)

theorem Down.start {a i : Nat} {e : Con} (h : Srt a i e) : Down a i i e :=
  ⟨fun p q hp hpq hq _ hqi => h p q hp hpq (by omega), fun q h1 h2 => by omega⟩

theorem Down.step {a i j : Nat} {e : Con} (h : Down a i j e) (haj : a < j) (hji : j ≤ i) (hlt : Lt (e j) (e (j - 1))) : Down a i (j - 1) (swp e j (j - 1)) := by
  have hne : ¬ j - 1 = j := by omega
  constructor
  · intro p q hp hpq hq hpj hqj
    have ep : swp e j (j - 1) p = if p = j then e (j - 1) else e p := by
      unfold swp
      by_cases h1 : p = j
      · rw [if_pos h1, if_pos h1]
      · rw [if_neg h1, if_neg hpj, if_neg h1]
    have eq : swp e j (j - 1) q = if q = j then e (j - 1) else e q := by
      unfold swp
      by_cases h1 : q = j
      · rw [if_pos h1, if_pos h1]
      · rw [if_neg h1, if_neg hqj, if_neg h1]
    rw [ep, eq]
    by_cases h1 : q = j
    · rw [if_pos h1, if_neg (by omega)]
      exact h.rest p (j - 1) hp (by omega) (by omega) (by omega) (by omega)
    · rw [if_neg h1]
      by_cases h2 : p = j
      · rw [if_pos h2]
        exact h.rest (j - 1) q (by omega) (by omega) hq (by omega) h1
      · rw [if_neg h2]
        exact h.rest p q hp hpq hq h2 h1
  · intro q h1 h2
    have e1 : swp e j (j - 1) (j - 1) = e j := by unfold swp; rw [if_neg hne, if_pos rfl]
    rw [e1]
    by_cases h3 : q = j
    · subst h3
      have : swp e q (q - 1) q = e (q - 1) := by unfold swp; rw [if_pos rfl]
      rw [this]
      exact hlt
    · have : swp e j (j - 1) q = e q := by unfold swp; rw [if_neg h3, if_neg (by omega)]
      rw [this]
      exact h.over q (by omega) h2

theorem Down.done {a i j : Nat} {e : Con} (h : Down a i j e) (haj : a ≤ j) (hji : j ≤ i) (hx : j = a ∨ ¬ Lt (e j) (e (j - 1))) : Srt a (i + 1) e := by
  intro p q hp hpq hq
  by_cases h1 : p = j
  · subst h1
    exact (h.over q hpq (by omega)).asymm
  · by_cases h2 : q = j
    · subst h2
      rcases hx with hx | hx
      · omega
      · by_cases h3 : p = q - 1
        · rw [h3]; exact hx
        · exact le_trans' (h.rest p (q - 1) hp (by omega) (by omega) h1 (by omega)) hx
    · exact h.rest p q hp hpq (by omega) h1 h2

/-- What a sort of a range comes to. -/
def SortRes (w : World) (g n a b : Nat) (c : Con) (e : Ending) (w' : World) : Prop :=
  ∃ d, e = .returned (.tuple #[]) ∧ RowC w' g n d ∧ Sw a b c d ∧ Srt a b d ∧ (Srt a b c → d = c) ∧ Keeps (fun k => k = g) w w'

def InsOut (w : World) (g n a b : Nat) (c : Con) (k : Nat) (i : Value) (wr : World) : Prop :=
  ∃ (x : Nat) (d : Con), x + k = b + 1 ∧ i = .int .i64 (x : Nat) ∧ a + 1 ≤ x ∧ RowC wr g n d ∧ Sw a b c d ∧ Srt a x d ∧ (Srt a b c → d = c) ∧ Keeps (fun k => k = g) w wr

def InsIn (w : World) (g n a b x : Nat) (c : Con) (k : Nat) (j : Value) (wr : World) : Prop :=
  ∃ (y : Nat) (d : Con), y = k ∧ j = .int .i64 (y : Nat) ∧ a ≤ y ∧ y ≤ x ∧ RowC wr g n d ∧ Sw a b c d ∧ Down a x y d ∧ (Srt a b c → d = c) ∧ Keeps (fun k => k = g) w wr

set_option maxRecDepth 100000 in
set_option maxHeartbeats 8000000 in
theorem ins_ok {w : World} {g n cap : Nat} {c : Con} (hr : RowC w g n c) (hn : n ≤ 1000000) (a b : Nat) (h1 : a ≤ b) (h3 : b ≤ n) :
    Calls Try.prog 40 #[.slice (some ⟨g, 0, none⟩) n cap, .int .i64 (a : Nat), .int .i64 (b : Nat), .func (.func 31) #[] #[]] w (SortRes w g n a b c) := by
  have HR := Lib.hid hr
  clear hr
  go_enter Try.func40, Try.ntmps40
  go_wp2_with fail
  go_loopg [8] (b - a) (fun k i wr => InsOut w g n a b c k i wr)
  case atStart => exact ⟨a + 1, c, by omega, by go_num, by omega, HR.out, .refl _, fun i j h1 h2 h3 => by omega, fun _ => rfl, Keeps.refl _ _⟩
  case round =>
    obtain ⟨x, d, hxk, rfl, hax, hr, hsw, hsrt, hid, hk⟩ := hrel
    have HRr := Lib.hid hr
    have HSw := Lib.hid hsw
    have HSrt := Lib.hid hsrt
    have HId := Lib.hid hid
    have HK := Lib.hid hk
    clear hr hsw hsrt hid hk
    by_cases hlt : x < b
    · obtain ⟨gO, rfl⟩ : ∃ g, g = gk := ⟨_, rfl⟩
      go_wp2_with fail
      go_loopg [9] x (fun k j wr => InsIn w g n a b x c k j wr)
      case atStart => exact ⟨x, d, rfl, rfl, by omega, by omega, HRr.out, HSw.out, Down.start HSrt.out, HId.out, HK.out⟩
      case round =>
        clear HRr HSw HSrt HId HK
        obtain ⟨y, e, rfl, rfl, hay, hyx, hr, hsw, hdn, hid, hk⟩ := hrel
        have HRr := Lib.hid hr
        have HSw := Lib.hid hsw
        have HDn := Lib.hid hdn
        have HId := Lib.hid hid
        have HK := Lib.hid hk
        clear hsw hdn hid hk
        by_cases hya : (a : Int) < (y : Int)
        · have hy1 : (y : Int) - 1 = ((y - 1 : Nat) : Int) := by omega
          obtain ⟨x0, x1, x2, x3, x4⟩ := hr.cell (i := y) (by omega)
          obtain ⟨y0, y1, y2, y3, y4⟩ := hr.cell (i := y - 1) (by omega)
          obtain ⟨f, hf⟩ : ∃ f, f = e y := ⟨_, rfl⟩
          obtain ⟨g', hg'⟩ : ∃ f, f = e (y - 1) := ⟨_, rfl⟩
          rw [← hf] at x0 x1 x2 x3 x4
          rw [← hg'] at y0 y1 y2 y3 y4
          obtain ⟨R, hR⟩ : ∃ R, ordI f g' = R := ⟨_, rfl⟩
          have C := fun v => order_ok (w := v) f g' R hR
          have hlt' : Lt (e y) (e (y - 1)) ↔ R < 0 := by rw [← hR, ordI_lt, hf, hg']
          have HLT := Lib.hid hlt'
          have HF := Lib.hid hf
          have HG := Lib.hid hg'
          obtain ⟨fp, fc, ff, ft, fA, fcap, fbs⟩ := f
          obtain ⟨gp, gc, gf, gt, gA, gcap, gbs⟩ := g'
          unfold Fr.val at C
          simp only at x0 x1 x2 x3 x4 y0 y1 y2 y3 y4 C
          obtain ⟨z, hz⟩ : ∃ z, z = y - 1 := ⟨_, rfl⟩
          rw [← hz] at hy1 y0 y1 y2 y3 y4 HG HLT
          have HZ := Lib.hid hz
          have hyn : y < n := by omega
          have hzn : z < n := by omega
          have hyn2 : (y : Int) < (n : Int) := by omega
          have hzn2 : (z : Int) < (n : Int) := by omega
          have hwz : IntKind.i64.wrap (z : Int) = (z : Int) := IntWalk.i64_in _ (by omega)
          clear hr hR hlt' hf hg' hz
          go_upto_region 4 with fail
          go_still_tail 14, (by kernel_rfl)
          change wpList _ _ _ _ _ wr.drew
          have HRd := Lib.hid (HRr.out.drew)
          have HKd := Lib.hid (HK.out.drew)
          clear HRr HK x0 x1 x2 x3 x4 y0 y1 y2 y3 y4
          generalize wr.drew = w1 at *
          by_cases hneg : R < 0
          · have hstep := HDn.out.step (j := y) (by omega) hyx (by rw [← HZ.out]; exact HLT.out.2 hneg)
            rw [← HZ.out] at hstep
            have HStep := Lib.hid hstep
            have hidn : Srt a b c → swp e y z = c := fun hs => by
              exfalso
              have he := HId.out hs
              have := HLT.out.2 hneg
              rw [he] at this
              have hz := HZ.out
              exact hs z y (by omega) (by omega) (by omega) this
            have HIdn := Lib.hid hidn
            clear hstep hidn
            go_upto_region 6 with (go_at_call 31; refine (C _).mono ?_; clear C; rintro e' w2 ⟨rfl, hk2⟩; have HR2 := Lib.hid (HRd.out.keeps hk2 (fun h => h)); have HK2 := Lib.hid (HKd.out.trans hk2 (fun _ h _ => h.elim)); clear hk2 HRd HKd)
            obtain ⟨x0, x1, x2, x3, x4⟩ := HR2.out.cell hyn
            obtain ⟨y0, y1, y2, y3, y4⟩ := HR2.out.cell hzn
            rw [← HF.out] at x0 x1 x2 x3 x4
            rw [← HG.out] at y0 y1 y2 y3 y4
            have hfz := fun o => HR2.out.frozen o
            simp only at x0 x1 x2 x3 x4 y0 y1 y2 y3 y4
            have hzy : z < y := by have := HZ.out; omega
            go_region
            obtain ⟨hx1, hx2⟩ := HR2.out.exch hyn hzn HF.out HG.out
            simp only [put5] at hx1 hx2
            have HX1 := Lib.hid hx1
            have HX2 := Lib.hid (HK2.out.trans hx2 (fun _ h _ => h))
            clear hx1 hx2 x0 x1 x2 x3 x4 y0 y1 y2 y3 y4 hfz
            generalize (((((((((((w2.setCell ⟨g, y * 5, none⟩ (.int .i64 gp)).setCell ⟨g, y * 5 + 1, none⟩ (.int .i64 gc)).setCell ⟨g, y * 5 + 2, none⟩ (.int .i64 gf)).setCell ⟨g, y * 5 + 3, none⟩ (.int .i64 gt)).setCell ⟨g, y * 5 + 4, none⟩ (.slice gA gbs.length gcap)).setCell ⟨g, z * 5, none⟩ (.int .i64 fp)).setCell ⟨g, z * 5 + 1, none⟩ (.int .i64 fc)).setCell ⟨g, z * 5 + 2, none⟩ (.int .i64 ff)).setCell ⟨g, z * 5 + 3, none⟩ (.int .i64 ft)).setCell ⟨g, z * 5 + 4, none⟩ (.slice fA fbs.length fcap)).drew) = w3 at *
            go_wp2_with fail
            go_roundg z
            case measure => omega
            case rel => exact ⟨z, swp e y z, rfl, rfl, by have := HZ.out; omega, by omega, HX1.out, HSw.out.step _ _ (by omega) (by have := HZ.out; omega), HStep.out, HIdn.out, HX2.out⟩
          · have hneg' : decide (R < 0) = false := by simpa using hneg
            have hdone := HDn.out.done hay hyx (.inr (fun h => hneg (HLT.out.1 (by rw [HZ.out]; exact h))))
            have HDone := Lib.hid hdone
            clear hdone
            go_wp2_with (go_at_call 31; refine (C _).mono ?_; clear C; rintro e' w2 ⟨rfl, hk2⟩; have HR2 := Lib.hid (HRd.out.keeps hk2 (fun h => h)); have HK2 := Lib.hid (HKd.out.trans hk2 (fun _ h _ => h.elim)); clear hk2 HRd HKd)
            go_roundg (gO - 1)
            case measure => omega
            case rel => exact ⟨x + 1, e, by omega, by go_num, by omega, HR2.out, HSw.out, HDone.out, HId.out, HK2.out⟩
        · have hya' : decide ((a : Int) < (y : Int)) = false := by simpa using hya
          have hdone := HDn.out.done hay hyx (.inl (by omega))
          have HDone := Lib.hid hdone
          clear hdone hr
          go_upto_region 4 with fail
          go_quiet (fail)
          have HRd := Lib.hid (show RowC (wr.drewN nq) g n e from by obtain ⟨sp, h⟩ := HRr.out; exact ⟨sp, h⟩)
          have HKd := Lib.hid (HK.out.drewN nq)
          generalize wr.drewN nq = w1 at *
          go_wp2_with fail
          go_roundg (gO - 1)
          case measure => omega
          case rel => exact ⟨x + 1, e, by omega, by go_num, by omega, HRd.out, HSw.out, HDone.out, HId.out, HKd.out⟩
    · go_wp2_with fail
      go_end0
      exact ⟨d, rfl, HRr.out, HSw.out, fun i j h1 h2 h3 => HSrt.out i j h1 h2 (by omega), HId.out, HK.out⟩

end Go.Proofs.Ytmmeloklnkfjjaa
