/- Which class sends next, and when that is to be asked again, of the heads of the rows. -/
import Derived.Test.YtimgmobmagpmlaaBase
import Derived.Deep.DeepCutAuto
import Derived.Deep.CutBlock
import Derived.Laws.Tables
import Derived.Laws.Rows
namespace Go.Proofs.Ytimgmobmagpmlaa
open Go.RowKit

structure Hd where
  sz : Int
  fits : Int
  cr : Int

def Hd.cells (h : Hd) : List Value := [.int .i64 h.sz, .int .i64 h.fits, .int .i64 h.cr]
def hcells (hs : List Hd) : List Value := (hs.map Hd.cells).flatten

theorem hcells_len (hs : List Hd) : (hcells hs).length = hs.length * 3 := by
  induction hs with
  | nil => rfl
  | cons e es ih =>
    have : hcells (e :: es) = e.cells ++ hcells es := rfl
    rw [this, List.length_append, ih, List.length_cons]
    show 3 + _ = _
    omega

theorem hcells_get : ∀ (hs : List Hd) (j : Nat) (h : Hd), hs[j]? = some h → (hcells hs)[j * 3]? = some (.int .i64 h.sz) ∧ (hcells hs)[j * 3 + 1]? = some (.int .i64 h.fits) ∧ (hcells hs)[j * 3 + 2]? = some (.int .i64 h.cr)
  | [], j, h, hj => by simp at hj
  | x :: hs, 0, h, hj => by
    simp at hj
    subst hj
    exact ⟨rfl, rfl, rfl⟩
  | x :: hs, j + 1, h, hj => by
    have := hcells_get hs j h (by simpa using hj)
    have e : hcells (x :: hs) = x.cells ++ hcells hs := rfl
    have hl : x.cells.length = 3 := rfl
    rw [e, Nat.succ_mul]
    rw [List.getElem?_append_right (by omega), List.getElem?_append_right (by omega), List.getElem?_append_right (by omega), hl]
    rw [show j * 3 + 3 - 3 = j * 3 by omega, show j * 3 + 3 + 1 - 3 = j * 3 + 1 by omega, show j * 3 + 3 + 2 - 3 = j * 3 + 2 by omega]
    exact this

theorem hcells_one (hs : List Hd) : (hcells hs).toArray.all (·.oneCell') = true := by
  rw [List.all_toArray, List.all_eq_true]
  intro u hu
  simp only [hcells, List.mem_flatten, List.mem_map] at hu
  obtain ⟨l, ⟨e, _, rfl⟩, hu⟩ := hu
  simp [Hd.cells] at hu
  rcases hu with rfl | rfl | rfl <;> rfl

def Hd.goes (h : Hd) (now : Int) : Bool := decide (0 < h.sz) && (decide (0 ≤ h.fits) && (decide (h.fits ≤ now) && decide (h.cr ≤ now)))

set_option maxRecDepth 100000 in
theorem goes_ok (w : World) (sz fits cr now : Int) : Calls Try.prog 70 #[.agg #[.int .i64 sz, .int .i64 fits, .int .i64 cr], .int .i64 now] w (fun e w' => e = .returned (.bool ((⟨sz, fits, cr⟩ : Hd).goes now)) ∧ Keeps Nothing w w') := by
  have HK := Lib.hid ((Keeps.refl Nothing w).alloc (.cells #[.int .i64 sz, .int .i64 fits, .int .i64 cr] 88))
  unfold Hd.goes
  simp only
  by_cases h1 : 0 < sz
  · by_cases h2 : 0 ≤ fits
    · by_cases h3 : fits ≤ now
      · go_enter Try.func70, Try.ntmps70
        go_wp2
        go_ret
        exact ⟨by simp [h1, h2, h3], HK.out⟩
      · have h3' : decide (fits ≤ now) = false := by simpa using h3
        go_enter Try.func70, Try.ntmps70
        go_wp2
        go_ret
        exact ⟨by simp [h1, h2, h3], HK.out⟩
    · have h2' : decide (0 ≤ fits) = false := by simpa using h2
      go_enter Try.func70, Try.ntmps70
      go_wp2
      go_ret
      exact ⟨by simp [h1, h2], HK.out⟩
  · have h1' : decide (0 < sz) = false := by simpa using h1
    go_enter Try.func70, Try.ntmps70
    go_wp2
    go_ret
    exact ⟨by simp [h1], HK.out⟩

/-- The highest class, below c, whose frame may go; -1: there is none. -/
def classGo (hs : List Hd) (now : Int) : Nat → Int
  | 0 => -1
  | c + 1 => if (hs.getD c ⟨0, 0, 0⟩).goes now = true then (c : Int) else classGo hs now c

def ClassInv (hs : List Hd) (now : Int) (w : World) (k : Nat) (i : Value) (wr : World) : Prop := ∃ j : Nat, j = k ∧ i = .int .i64 ((j : Int) - 1) ∧ j ≤ 8 ∧ classGo hs now 8 = classGo hs now j ∧ Keeps Nothing w wr

set_option maxRecDepth 100000 in
set_option maxHeartbeats 2000000 in
theorem class_ok (w : World) (hs : List Hd) (h8 : hs.length = 8) (now : Int) :
    Calls Try.prog 46 #[.agg (hcells hs).toArray, .int .i64 now] w (fun e w' => e = .returned (.int .i64 (classGo hs now 8)) ∧ Keeps Nothing w w') := by
  have HB := Lib.hid (Blk.new w (hcells hs) 89)
  have HK := Lib.hid ((Keeps.refl Nothing w).alloc (.cells (hcells hs).toArray 89))
  obtain ⟨r, hr⟩ : ∃ r, r = classGo hs now 8 := ⟨_, rfl⟩
  rw [← hr]
  have HR := Lib.hid hr
  have H8 := Lib.hid h8
  have hlen := Lib.hid (hcells_len hs)
  clear hr h8
  go_enter Try.func46, Try.ntmps46
  go_upto_region 1 with fail
  generalize (w.alloc (.cells (hcells hs).toArray 89)) = w1 at *
  go_upto_block 2 with fail
  go_loopg [5] 8 (fun k i wr => ClassInv hs now w1 k i wr)
  case atStart => exact ⟨8, rfl, rfl, Nat.le_refl _, rfl, Keeps.refl _ _⟩
  case round =>
    obtain ⟨j, rfl, rfl, hj, hgo, hk⟩ := hrel
    have HG := Lib.hid hgo
    have HK2 := Lib.hid hk
    have HB2 := Lib.hid (HB.out.keeps hk (fun h => h))
    clear hgo hk
    rcases j with _ | j
    · go_wp2
      go_ret
      exact ⟨by rw [HR.out, HG.out]; rfl, HK.out.same HK2.out⟩
    · obtain ⟨⟨sz, fits, cr⟩, hh⟩ : ∃ h, hs[j]? = some h := ⟨_, List.getElem?_eq_getElem (by have := H8.out; omega)⟩
      obtain ⟨c0, c1, c2⟩ := hcells_get hs j _ hh
      have m0 := (HB2.out.cell _).trans c0
      have m1 := (HB2.out.cell _).trans c1
      have m2 := (HB2.out.cell _).trans c2
      have C := goes_ok wr sz fits cr now
      have hgd : Hid (hs.getD j ⟨0, 0, 0⟩ = ⟨sz, fits, cr⟩) := by
        show hs.getD j ⟨0, 0, 0⟩ = ⟨sz, fits, cr⟩
        rw [List.getD_eq_getElem?_getD, hh]; rfl
      clear c0 c1 c2 hh
      have e1 : ((j + 1 : Nat) : Int) - 1 = (j : Int) := by omega
      rw [e1]
      by_cases hg : (⟨sz, fits, cr⟩ : Hd).goes now = true
      · rw [hg] at C
        go_wp2_with (go_at_call 70; refine C.mono ?_; rintro e w2 ⟨rfl, k2⟩; clear C)
        go_ret
        refine ⟨?_, (HK.out.same HK2.out).same k2⟩
        rw [HR.out, HG.out, classGo, hgd.out, if_pos hg]
        rfl
      · have hg' : (⟨sz, fits, cr⟩ : Hd).goes now = false := by simpa using hg
        rw [hg'] at C
        go_wp2_with (go_at_call 70; refine C.mono ?_; rintro e w2 ⟨rfl, k2⟩; clear C)
        go_roundg j
        case measure => omega
        case rel =>
          refine ⟨j, rfl, by go_num, by omega, ?_, HK2.out.same k2⟩
          rw [HG.out, classGo, hgd.out, if_neg hg]

theorem run_index_agg {P : Program} {T e n k : Nat} {cs : Array Value} {j : Nat} (w : World) (hT : P.underlying T = some (.array n e)) (hs : (sizeOf e).run P w = .ok k w) (ha : (isAgg e).run P w = .ok true w)
    (hj : j < n) (hjb : j < 9223372036854775808) : (Instr.index T (.agg cs) (.int .i64 (j : Nat))).run P w = .ok (.agg (cs.extract (j * k) (j * k + k))) w := by
  have h1 : (0 : Int) ≤ (j : Int) ∧ (j : Int) < (n : Int) := by omega
  have hw : IntKind.i64.wrap (j : Int) = (j : Int) := by rw [IntKind.wrap_i64]; omega
  simp [Instr.index, asIntOf, run_underlying hT, hw, hj, hs, part, ha, Result.andThen]

theorem hcells_part {hs : List Hd} {j : Nat} {h : Hd} (hh : hs[j]? = some h) : (hcells hs).toArray.extract (j * 3) (j * 3 + 3) = h.cells.toArray := by
  apply Array.ext'
  simp only [Array.toList_extract, List.extract_eq_take_drop]
  obtain ⟨c0, c1, c2⟩ := hcells_get hs j h hh
  rw [show j * 3 + 3 - j * 3 = 3 by omega]
  apply List.ext_getElem?
  intro i
  rw [List.getElem?_take, List.getElem?_drop]
  rcases i with _ | _ | _ | i
  · rw [if_pos (by omega)]; exact c0
  · rw [if_pos (by omega)]; exact c1
  · rw [if_pos (by omega)]; exact c2
  · rw [if_neg (by omega)]; rfl

/-- When that is to be asked again. -/
def wakeStep (now : Int) (wk : Int) (h : Hd) : Int :=
  if h.sz = 0 ∨ h.fits < 0 then wk
  else
    let t := if h.cr ≤ now then h.fits else h.cr
    if now < t ∧ (wk < 0 ∨ t < wk) then t else wk

def wakeOf (now : Int) (hs : List Hd) : Int := hs.foldl (wakeStep now) (-1)

theorem wakeOf_cases (now : Int) (hs : List Hd) : wakeOf now hs = -1 ∨ now < wakeOf now hs := by
  have gen : ∀ (hs : List Hd) (wk : Int), (wk = -1 ∨ now < wk) → (hs.foldl (wakeStep now) wk = -1 ∨ now < hs.foldl (wakeStep now) wk) := by
    intro hs
    induction hs with
    | nil => intro wk h; exact h
    | cons x hs ih =>
      intro wk h
      rw [List.foldl_cons]
      refine ih _ ?_
      unfold wakeStep
      by_cases h1 : x.sz = 0 ∨ x.fits < 0
      · rw [if_pos h1]; exact h
      · rw [if_neg h1]
        simp only
        generalize (if x.cr ≤ now then x.fits else x.cr) = t
        by_cases h2 : now < t ∧ (wk < 0 ∨ t < wk)
        · rw [if_pos h2]; exact .inr h2.1
        · rw [if_neg h2]; exact h
  exact gen hs _ (.inl rfl)

def HWakeInv (hs : List Hd) (now : Int) (w : World) (k : Nat) (wk i : Value) (wr : World) : Prop := ∃ (j : Nat) (x : Int), j + k = 8 ∧ i = .int .i64 (j : Nat) ∧ wk = .int .i64 x ∧ x = (hs.take j).foldl (wakeStep now) (-1) ∧ Keeps Nothing w wr

set_option maxRecDepth 100000 in
set_option maxHeartbeats 4000000 in
theorem hwake_ok (w : World) (hs : List Hd) (h8 : hs.length = 8) (now : Int) :
    Calls Try.prog 51 #[.agg (hcells hs).toArray, .int .i64 now] w (fun e w' => e = .returned (.int .i64 (wakeOf now hs)) ∧ Keeps Nothing w w') := by
  have HB := Lib.hid (Blk.new w (hcells hs) 89)
  have HK := Lib.hid ((Keeps.refl Nothing w).alloc (.cells (hcells hs).toArray 89))
  obtain ⟨r, hr⟩ : ∃ r, r = wakeOf now hs := ⟨_, rfl⟩
  rw [← hr]
  have HR := Lib.hid hr
  have H8 := Lib.hid h8
  have hlen := Lib.hid (hcells_len hs)
  clear hr h8
  go_enter Try.func51, Try.ntmps51
  go_upto_region 1 with fail
  generalize (w.alloc (.cells (hcells hs).toArray 89)) = w1 at *
  go_upto_region 2 with fail
  have HO := Lib.hid (hcells_one hs)
  have HS : Hid ((Try.prog.info? 89).map (·.size) = some (hcells hs).toArray.size) := by
    show (Try.prog.info? 89).map (·.size) = some (hcells hs).toArray.size
    rw [List.size_toArray, hlen.out, H8.out]
    kernel_rfl
  go_upto_region 3 with (refine wpList_load_row rfl 89 (.tmp 2) rfl w.heap.size rfl 89 (hcells hs).toArray (0, 0) _ HB.out Try.underlying89 rfl HS.out ?_)
  go_loopg [5, 10] 8 (fun k wk i wr => HWakeInv hs now w1 k wk i wr)
  case atStart => exact ⟨0, -1, by omega, rfl, rfl, rfl, Keeps.refl _ _⟩
  case round =>
    obtain ⟨j, x, hj, rfl, rfl, hx, hk⟩ := hrel
    have HX := Lib.hid hx
    have HK2 := Lib.hid hk
    clear hx hk
    by_cases hlt : j < 8
    · obtain ⟨⟨sz, fits, cr⟩, hh⟩ : ∃ h, hs[j]? = some h := ⟨_, List.getElem?_eq_getElem (by have := H8.out; omega)⟩
      have hix : ∀ w, (Instr.index 89 (.agg (hcells hs).toArray) (.int .i64 (j : Nat))).run Try.prog w = .ok (.agg #[.int .i64 sz, .int .i64 fits, .int .i64 cr]) w := fun w => by
        have := run_index_agg (P := Try.prog) (cs := (hcells hs).toArray) (j := j) w Try.underlying89 (k := 3) (by kernel_rfl) (by kernel_rfl) hlt (by omega)
        rw [hcells_part hh] at this
        exact this
      have hT : Hid ((hs.take (j + 1)).foldl (wakeStep now) (-1) = wakeStep now x ⟨sz, fits, cr⟩) := by
        show (hs.take (j + 1)).foldl (wakeStep now) (-1) = wakeStep now x ⟨sz, fits, cr⟩
        rw [HX.out, List.take_add_one, hh, List.foldl_append]; rfl
      clear hh
      have HK3 := Lib.hid (HK2.out.alloc (.cells #[.int .i64 sz, .int .i64 fits, .int .i64 cr] 88))
      by_cases g1 : sz = 0
      · subst g1
        go_wp2_with fail
        go_roundg (gk - 1)
        case measure => omega
        case rel => exact ⟨j + 1, _, by omega, by go_num, rfl, by rw [hT.out]; rfl, HK3.out⟩
      · have g1' : (sz == 0) = false := by simpa using g1
        by_cases g2 : fits < 0
        · go_wp2_with fail
          go_roundg (gk - 1)
          case measure => omega
          case rel => exact ⟨j + 1, _, by omega, by go_num, rfl, by rw [hT.out]; unfold wakeStep; rw [if_pos (.inr g2)], HK3.out⟩
        · have g2' : decide (fits < 0) = false := by simpa using g2
          have hT2 : Hid ((hs.take (j + 1)).foldl (wakeStep now) (-1) = if now < (if cr ≤ now then fits else cr) ∧ (x < 0 ∨ (if cr ≤ now then fits else cr) < x) then (if cr ≤ now then fits else cr) else x) := by
            show (hs.take (j + 1)).foldl (wakeStep now) (-1) = _
            rw [hT.out]; unfold wakeStep; rw [if_neg (fun h => h.elim g1 g2)]
          clear hT
          obtain ⟨t, ht⟩ : ∃ t, t = (if cr ≤ now then fits else cr) := ⟨_, rfl⟩
          rw [← ht] at hT2
          have hc : (cr ≤ now ∧ t = fits) ∨ (decide (cr ≤ now) = false ∧ t = cr) := by
            by_cases h : cr ≤ now
            · rw [if_pos h] at ht; exact .inl ⟨h, ht⟩
            · rw [if_neg h] at ht; exact .inr ⟨decide_eq_false h, ht⟩
          have hd : (now < t ∧ x < 0 ∧ (hs.take (j + 1)).foldl (wakeStep now) (-1) = t) ∨ (now < t ∧ decide (x < 0) = false ∧ t < x ∧ (hs.take (j + 1)).foldl (wakeStep now) (-1) = t) ∨ (now < t ∧ decide (x < 0) = false ∧ decide (t < x) = false ∧ (hs.take (j + 1)).foldl (wakeStep now) (-1) = x) ∨ (decide (now < t) = false ∧ (hs.take (j + 1)).foldl (wakeStep now) (-1) = x) := by
            rw [hT2.out]
            by_cases a1 : now < t
            · by_cases a2 : x < 0
              · exact .inl ⟨a1, a2, if_pos ⟨a1, .inl a2⟩⟩
              · by_cases a3 : t < x
                · exact .inr (.inl ⟨a1, decide_eq_false a2, a3, if_pos ⟨a1, .inr a3⟩⟩)
                · exact .inr (.inr (.inl ⟨a1, decide_eq_false a2, decide_eq_false a3, if_neg (fun h => h.2.elim a2 a3)⟩))
            · exact .inr (.inr (.inr ⟨decide_eq_false a1, if_neg (fun h => a1 h.1)⟩))
          clear ht hT2
          rcases hc with ⟨c1, rfl⟩ | ⟨c1, rfl⟩ <;> rcases hd with ⟨d1, d2, d3⟩ | ⟨d1, d2, d3, d4⟩ | ⟨d1, d2, d3, d4⟩ | ⟨d1, d2⟩
          all_goals first | (have HD := Lib.hid d4; clear d4) | (have HD := Lib.hid d3; clear d3) | (have HD := Lib.hid d2; clear d2)
          all_goals go_wp2_with fail
          all_goals go_roundg (gk - 1)
          all_goals first | omega | exact ⟨j + 1, _, by omega, by go_num, rfl, HD.out.symm, HK3.out⟩
    · go_wp2_with fail
      go_ret
      refine ⟨?_, HK.out.same HK2.out⟩
      rw [HR.out]
      unfold wakeOf
      rw [HX.out, List.take_of_length_le (by have := H8.out; omega)]
      rfl

end Go.Proofs.Ytimgmobmagpmlaa
