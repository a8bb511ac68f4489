/- Those to whom it is told what is sent. -/
import Derived.Test.YtimgmobmagpmlaaPlayG
namespace Go.Proofs.Ytimgmobmagpmlaa
open Go.RowKit

theorem busy_cell {w : World} {p : Nat} {b : Bool} (b13 : w.cell? ⟨p, 13, none⟩ = some (.bool b)) : Calls Try.prog 27 #[.pointer (some ⟨p, 0, none⟩)] w (fun e w' => e = .returned (.bool b) ∧ w' = w) := by
  go_enter Try.func27, Try.ntmps27
  go_wp2
  go_ret
  exact ⟨rfl, rfl⟩

theorem y25 {nl ns : Prop} {sp : Int} : YSpec 25 #[] Nothing (fun _ _ => True) nl ns sp := by
  intro w q G E P n last _ _ _ _
  simp only [List.append_toArray, List.cons_append, List.nil_append]
  go_enter Try.func25, Try.ntmps25
  go_wp2_with fail
  go_ret
  exact ⟨rfl, trivial, (Keeps.refl _ _).alloc _⟩

theorem y26 {tc : Nat} {ns : Prop} {sp : Int} : YSpec 26 #[.pointer (some ⟨tc, 0, none⟩)] (fun k => k = tc) (fun w l => Blk w tc [.int .i64 l] 2) True ns sp := by
  intro w q G E P n last hE _ hi hY
  simp only [List.append_toArray, List.cons_append, List.nil_append]
  obtain ⟨s0, s1⟩ := And.intro hY.s0 hY.s1
  have htr := timeOf_range hY.speed (by omega : 0 ≤ sizeP E.ps E.id) s1
  have ht := hY.till
  have h1 : decide (last ≤ E.frm) = true := decide_eq_true (by rw [hY.frm]; exact hY.nl trivial)
  have h2 : decide (E.frm < E.till) = true := decide_eq_true (by rw [hY.frm]; omega)
  have h3 : decide (64 ≤ sizeP E.ps E.id) = true := decide_eq_true s0
  have hne : G.p ≠ tc := fun e => by
    have := hE.blk
    rw [e] at this
    exact absurd (this.inj hi) (by decide)
  have HB := Lib.hid hi
  have f1 : (w.alloc (.cells #[.int .i64 E.cls, .int .i64 E.id, .int .i64 E.frm, .int .i64 E.till] 38)).cell? ⟨tc, 0, none⟩ = some (.int .i64 last) := (hi.alloc _).cell 0
  have f2 : (w.alloc (.cells #[.int .i64 E.cls, .int .i64 E.id, .int .i64 E.frm, .int .i64 E.till] 38)).frozen? ⟨tc, 0, none⟩ = false := (hi.alloc _).frozen 0
  have b13 : ((w.alloc (.cells #[.int .i64 E.cls, .int .i64 E.id, .int .i64 E.frm, .int .i64 E.till] 38)).setCell ⟨tc, 0, none⟩ (.int .i64 E.till)).cell? ⟨G.p, 13, none⟩ = some (.bool E.busy) := ((hE.blk.alloc _).set_ne ⟨tc, 0, none⟩ _ hne).cell 13
  rw [hY.busy] at b13
  have C := busy_cell b13
  clear hE hY htr ht s0 s1 b13 hi
  go_enter Try.func26, Try.ntmps26
  go_wp2_with (go_at_call 27; refine C.mono ?_; rintro e w1 ⟨rfl, rfl⟩; clear C)
  go_ret
  exact ⟨rfl, (HB.out.alloc _).set 0 _, ((Keeps.refl (fun k => k = tc) w).alloc _).setCell (p := ⟨tc, 0, none⟩) (fun _ => rfl) _⟩

set_option maxHeartbeats 2000000 in
theorem y28 {nl : Prop} {sp : Int} : YSpec 28 #[] Nothing (fun _ _ => True) nl True sp := by
  intro w q G E P n last hE _ _ hY
  simp only [List.append_toArray, List.cons_append, List.nil_append]
  obtain ⟨c, hc, hc8, -, hempty⟩ := hY.opens
  have HEM := Lib.hid (hempty trivial)
  have HE := Lib.hid hE
  rw [hc]
  clear hE hY hempty hc
  have hw : IntKind.i64.wrap ((c : Int) + 1) = (c : Int) + 1 := by rw [IntKind.wrap_i64]; omega
  go_enter Try.func28, Try.ntmps28
  go_upto_region 2 with fail
  go_loopg [9] (7 - c) (fun k i wr => ∃ d : Nat, d + k = 8 ∧ c < d ∧ i = .int .i64 (d : Nat) ∧ Keeps Nothing w wr)
  case atStart => exact ⟨c + 1, by omega, by omega, by go_num, (Keeps.refl _ _).alloc _⟩
  case round =>
    obtain ⟨d, hd, hcd, rfl, hk⟩ := hrel
    have HK := Lib.hid hk
    clear hk
    by_cases h8 : d < 8
    · have C := row_ok (HE.out.same HK.out) d h8
      rw [HEM.out d hcd h8] at C
      have h8' : ((d : Nat) : Int) < 8 := by omega
      have hw2 : IntKind.i64.wrap ((d : Int) + 1) = (d : Int) + 1 := by rw [IntKind.wrap_i64]; omega
      go_wp2_with (go_at_call 29; refine C.mono ?_; clear C; rintro e w2 ⟨A2, c2, rfl, k2⟩)
      go_roundg (gk - 1)
      case measure => omega
      case rel => exact ⟨d + 1, by omega, by omega, by go_num, HK.out.same k2⟩
    · go_wp2_with fail
      go_ret
      exact ⟨rfl, trivial, HK.out⟩

theorem openR_yes {S : Fit.Sys} (H : S.Ok) (p : Int → Bool) {T fin : Int} (hT : S.now ≤ T) (hall : ∀ x, T ≤ x → x < fin → p (S.st x) = true) : ∀ (k : Nat) (t begun : Int), T ≤ t → t < fin → S.openR p fin k t begun = true
  | 0, _, _, _, _ => rfl
  | k + 1, t, begun, h1, h2 => by
    rw [Fit.Sys.openR, if_pos (hall t h1 h2)]
    split
    · split
      · rfl
      · rename_i hc
        exact openR_yes H p hT hall k _ _ (by have := hc; omega) (by omega)
    · split
      · rfl
      · have hgt := H.gt t (by omega) (by omega)
        exact openR_yes H p hT hall k _ _ (by omega) (by omega)

theorem openR_fits {S : Sch} (hg : SchGood S) {n : Int} (h0 : 0 ≤ n) (hx : Ext S n) {p : Int → Bool} {need : Int} (hn : 1 ≤ need) (hf : Fit.Fits (S.sys n) p need n) (k : Nat) : (S.sys n).openR p (n + need) k n n = true :=
  openR_yes (Sch.sys_ok hg h0 hx) p (T := n) (Int.le_refl _) hf k n n (Int.le_refl _) (by omega)


set_option maxHeartbeats 4000000 in
theorem y23 {tc : Nat} {nl ns : Prop} {sp : Int} : YSpec 23 #[.pointer (some ⟨tc, 0, none⟩)] Nothing (fun w _ => Blk w tc [.int .i64 sp] 3) nl ns sp := by
  intro w q G E P n last _ hP hi hY
  simp only [List.append_toArray, List.cons_append, List.nil_append]
  obtain ⟨c, hc, hc8, hfits, -⟩ := hY.opens
  have s0 := hY.s0
  have s1 := hY.s1
  have htr := timeOf_range hY.speed (by omega : 0 ≤ sizeP E.ps E.id) s1
  have ht := hY.till
  have hf := hY.frm
  have n0 := hY.n0
  have n1 := hY.n1
  rw [hY.spd] at htr ht hfits
  obtain ⟨tm, htm⟩ : ∃ tm, tm = timeOf (sizeP E.ps E.id) sp := ⟨_, rfl⟩
  rw [← htm] at htr ht hfits
  have k1 : Keeps Nothing w (w.alloc (.cells #[.int .i64 (c : Nat), .int .i64 E.id, .int .i64 E.frm, .int .i64 E.till] 38)) := (Keeps.refl Nothing w).alloc _
  have C16 := fun v => time_ok v (sizeP E.ps E.id) sp (hY.spd ▸ hY.speed) (by omega) s1
  rw [← htm] at C16
  have hPk : ParAt (w.alloc (.cells #[.int .i64 (c : Nat), .int .i64 E.id, .int .i64 E.frm, .int .i64 E.till] 38)) q P := hP.same k1
  have C24 := popen_ok (now := n) hPk hY.alike hY.good c _ hc8 rfl n tm n0 (by omega) (by omega) (by omega)
  rw [openR_fits hY.good n0 hY.ext (by omega) hfits] at C24
  have hw : IntKind.i64.wrap (E.till - E.frm) = tm := by rw [IntKind.wrap_i64, hf, ht]; omega
  have f1 : (w.alloc (.cells #[.int .i64 (c : Nat), .int .i64 E.id, .int .i64 E.frm, .int .i64 E.till] 38)).cell? ⟨tc, 0, none⟩ = some (.int .i64 sp) := (hi.alloc _).cell 0
  have HB := Lib.hid hi
  rw [hf] at hw k1 f1 C24
  rw [hc, hf]
  clear hP hY hfits hi hPk ht hf hc htm
  go_enter Try.func23, Try.ntmps23
  go_wp2_with (first | (go_at_call 16; refine (C16 _).mono ?_; rintro e w1 ⟨rfl, rfl⟩; clear C16) | (go_at_call 24; refine C24.mono ?_; rintro e w2 ⟨rfl, k2⟩; clear C24))
  go_ret
  exact ⟨rfl, HB.out.keeps (k1.same k2) (fun x => x), k1.same k2⟩

end Go.Proofs.Ytimgmobmagpmlaa
