/- CaptureBytes: the plain law and the walk. -/
import Derived.Test.YtmmeloklnkfjjaaKeep
namespace Go.Proofs.Ytmmeloklnkfjjaa
open Go.RowKit

theorem sum_min (g : Fr → Nat) (B : Nat) : ∀ l : List Fr, (l.map fun x => min (g x) (B + 1)).sum = (l.map fun x => min (g x) B).sum + l.countP (fun x => decide (B < g x))
  | [] => rfl
  | x :: l => by
    have ih := sum_min g B l
    simp only [List.map_cons, List.sum_cons, List.countP_cons, decide_eq_true_eq]
    split <;> omega

theorem sum_count (g : Fr → Nat) {m l : List Fr} (h : ∀ p : Fr → Bool, m.countP p = l.countP p) : ∀ B, (m.map fun x => min (g x) B).sum = (l.map fun x => min (g x) B).sum
  | 0 => by
    have e : ∀ k : List Fr, (k.map fun x => min (g x) 0).sum = 0 := fun k => by
      induction k with
      | nil => rfl
      | cons x k ih => simp only [List.map_cons, List.sum_cons, ih]; omega
    rw [e, e]
  | B + 1 => by rw [sum_min, sum_min, sum_count g h B, h]

theorem sum_same (g : Fr → Nat) {m l : List Fr} (h : ∀ p : Fr → Bool, m.countP p = l.countP p) (B : Nat) (hm : ∀ x ∈ m, g x ≤ B) (hl : ∀ x ∈ l, g x ≤ B) : (m.map g).sum = (l.map g).sum := by
  have e : ∀ k : List Fr, (∀ x ∈ k, g x ≤ B) → (k.map g) = (k.map fun x => min (g x) B) := fun k hk => List.map_congr_left (fun x hx => by have := hk x hx; omega)
  rw [e m hm, e l hl]
  exact sum_count g h B

theorem bytesOf_sum (l : List Fr) (c : Nat) : bytesOf l c = (l.map fun x => if x.cls = (c : Int) then x.bs.length else 0).sum := by
  induction l with
  | nil => rfl
  | cons f l ih =>
    unfold bytesOf at ih ⊢
    rw [List.filter_cons]
    by_cases h : f.cls = (c : Int)
    · simp only [h, decide_true, if_true, List.map_cons, List.sum_cons, ih]
    · simp only [h, decide_false, if_false, List.map_cons, List.sum_cons, Nat.zero_add]
      exact ih

theorem mem_small {m l : List Fr} (h : ∀ p : Fr → Bool, m.countP p = l.countP p) (hl : ∀ f ∈ l, f.bs.length ≤ 1600) : ∀ f ∈ m, f.bs.length ≤ 1600 := by
  have h1 := h (fun x => decide (1600 < x.bs.length))
  have h2 : l.countP (fun x => decide (1600 < x.bs.length)) = 0 := by
    rw [List.countP_eq_zero]
    intro x hx
    have := hl x hx
    simp
    omega
  rw [h2, List.countP_eq_zero] at h1
  intro f hf
  have := h1 f hf
  simp at this
  omega

theorem bytesOf_merge {m a b : List Fr} (h : ∀ p : Fr → Bool, m.countP p = (a ++ b).countP p) (ha : ∀ f ∈ a, f.bs.length ≤ 1600) (hb : ∀ f ∈ b, f.bs.length ≤ 1600) (c : Nat) : bytesOf m c = bytesOf a c + bytesOf b c := by
  have hl : ∀ f ∈ a ++ b, f.bs.length ≤ 1600 := fun f hf => by
    rw [List.mem_append] at hf
    rcases hf with hf | hf
    · exact ha f hf
    · exact hb f hf
  have hm := mem_small h hl
  rw [bytesOf_sum, bytesOf_sum, bytesOf_sum, sum_same _ h 1600 (fun x hx => by have := hm x hx; split <;> omega) (fun x hx => by have := hl x hx; split <;> omega), List.map_append, List.sum_append]

/-- Three arrays, stored. -/
theorem three45 (w : World) (X Y Z : List Value) :
    Blk (((w.alloc (.cells (arrV .i64 8 fun _ => 0).toArray 45)).alloc (.cells (arrV .i64 8 fun _ => 0).toArray 45)).alloc (.cells (arrV .i64 8 fun _ => 0).toArray 45)) w.heap.size (arrV .i64 8 fun _ => 0) 45 ∧
    Blk ((((w.alloc (.cells (arrV .i64 8 fun _ => 0).toArray 45)).alloc (.cells (arrV .i64 8 fun _ => 0).toArray 45)).alloc (.cells (arrV .i64 8 fun _ => 0).toArray 45)).setRow w.heap.size X.toArray) (w.heap.size + 1) (arrV .i64 8 fun _ => 0) 45 ∧
    Blk (((((w.alloc (.cells (arrV .i64 8 fun _ => 0).toArray 45)).alloc (.cells (arrV .i64 8 fun _ => 0).toArray 45)).alloc (.cells (arrV .i64 8 fun _ => 0).toArray 45)).setRow w.heap.size X.toArray).setRow (w.heap.size + 1) Y.toArray) (w.heap.size + 2) (arrV .i64 8 fun _ => 0) 45 ∧
    (∀ v, v = ((((((w.alloc (.cells (arrV .i64 8 fun _ => 0).toArray 45)).alloc (.cells (arrV .i64 8 fun _ => 0).toArray 45)).alloc (.cells (arrV .i64 8 fun _ => 0).toArray 45)).setRow w.heap.size X.toArray).setRow (w.heap.size + 1) Y.toArray).setRow (w.heap.size + 2) Z.toArray) →
      Blk v w.heap.size X 45 ∧ Blk v (w.heap.size + 1) Y 45 ∧ Blk v (w.heap.size + 2) Z 45 ∧ Keeps Nothing w v) := by
  generalize (arrV .i64 8 fun _ => 0) = zs
  have s1 : (w.alloc (.cells zs.toArray 45)).heap.size = w.heap.size + 1 := by simp
  have s2 : ((w.alloc (.cells zs.toArray 45)).alloc (.cells zs.toArray 45)).heap.size = w.heap.size + 2 := by simp
  have b0 := ((Blk.new w zs 45).alloc (.cells zs.toArray 45)).alloc (.cells zs.toArray 45)
  have b1 := (Blk.new (w.alloc (.cells zs.toArray 45)) zs 45).alloc (.cells zs.toArray 45)
  have b2 := Blk.new ((w.alloc (.cells zs.toArray 45)).alloc (.cells zs.toArray 45)) zs 45
  rw [s1] at b1
  rw [s2] at b2
  have k0 := ((Keeps.refl Nothing w).alloc (.cells zs.toArray 45)).alloc (.cells zs.toArray 45) |>.alloc (.cells zs.toArray 45)
  generalize (((w.alloc (.cells zs.toArray 45)).alloc (.cells zs.toArray 45)).alloc (.cells zs.toArray 45)) = W at *
  clear s1 s2
  have e1 := setRow_keeps W w.heap.size X.toArray
  have c0 : Blk (W.setRow w.heap.size X.toArray) w.heap.size X 45 := setRow_blk b0
  have c1 := b1.keeps e1 (by omega)
  have c2 := b2.keeps e1 (by omega)
  have k1 := k0.up e1 (fun x hx => by omega)
  generalize W.setRow w.heap.size X.toArray = W1 at *
  have e2 := setRow_keeps W1 (w.heap.size + 1) Y.toArray
  have d0 := c0.keeps e2 (by omega)
  have d1 : Blk (W1.setRow (w.heap.size + 1) Y.toArray) (w.heap.size + 1) Y 45 := setRow_blk c1
  have d2 := c2.keeps e2 (by omega)
  have k2 := k1.up e2 (fun x hx => by omega)
  generalize W1.setRow (w.heap.size + 1) Y.toArray = W2 at *
  refine ⟨b0, c1, d2, fun v hv => ?_⟩
  subst hv
  have e3 := setRow_keeps W2 (w.heap.size + 2) Z.toArray
  exact ⟨d0.keeps e3 (by omega), d1.keeps e3 (by omega), setRow_blk d2, k2.up e3 (fun x hx => by omega)⟩

def ByO (w : World) (a b m : List Fr) (k : Nat) (i : Value) (wr : World) : Prop :=
  ∃ j : Nat, j + k = 8 ∧ i = .int .i64 (j : Nat) ∧ Blk wr w.heap.size (arrV .i64 8 fun c => ((bytesOf a c : Nat) : Int)) 45 ∧ Blk wr (w.heap.size + 1) (arrV .i64 8 fun c => ((bytesOf b c : Nat) : Int)) 45 ∧ Blk wr (w.heap.size + 2) (arrV .i64 8 fun c => ((bytesOf m c : Nat) : Int)) 45 ∧ Keeps Nothing w wr
def ByI (w : World) (l : List Fr) (c : Nat) (k : Nat) (s i : Value) (wr : World) : Prop :=
  ∃ j : Nat, j + k = l.length ∧ i = .int .i64 (j : Nat) ∧ s = .int .i64 (bytesOf (l.take j) c : Nat) ∧ Keeps Nothing w wr

set_option maxRecDepth 100000 in
set_option maxHeartbeats 16000000 in
theorem byt_in {w : World} {A B : Option Addr} {ca cb : Nat} {a b : List Fr} (ha : FrsR w A ca a) (hb : FrsR w B cb b) (hsa : Small a) (hsb : Small b) :
    Calls Try.prog 8 #[.slice A a.length ca, .slice B b.length cb] w (TrueKept w) := by
  obtain ⟨a16, a100⟩ := hsa
  obtain ⟨b16, b100⟩ := hsb
  have HA := Lib.hid ha
  have HB := Lib.hid hb
  have HA16 := Lib.hid a16
  have HB16 := Lib.hid b16
  have Sa := fun (v : World) (hv : Keeps Nothing w v) => small_ok (HA.out.same hv) (by omega) true ⟨fun _ => ⟨HA16.out, a100⟩, fun _ => rfl⟩
  have Sb := fun (v : World) (hv : Keeps Nothing w v) => small_ok (HB.out.same hv) (by omega) true ⟨fun _ => ⟨HB16.out, b100⟩, fun _ => rfl⟩
  have Ba := fun (v : World) (hv : Keeps Nothing w v) => bytes_ok (HA.out.same hv) (by omega) HA16.out
  have Bb := fun (v : World) (hv : Keeps Nothing w v) => bytes_ok (HB.out.same hv) (by omega) HB16.out
  have M := fun (v : World) (hv : Keeps Nothing w v) => merge2_ok (HA.out.same hv) (HB.out.same hv) (by omega)
  have hone8 : ∀ f : Nat → Int, (Try.prog.info? 45).map (·.size) = some (arrV .i64 8 f).toArray.size := fun f => by rw [List.size_toArray, arrV_length]; kernel_rfl
  have hlen8 : ∀ f : Nat → Int, (arrV .i64 8 fun _ => 0).toArray.size = (arrV .i64 8 f).toArray.size := fun f => by rw [List.size_toArray, List.size_toArray, arrV_length, arrV_length]
  have H8 := Lib.hid hone8
  have L8 := Lib.hid hlen8
  clear ha hb a16 b16 hone8 hlen8
  go_enter Try.func8, Try.ntmps8
  go_wp2_with (first
    | (go_at_call 9; refine keeps_ok.mono ?_; rintro e w1 ⟨rfl, k1⟩; have K1 := Lib.hid k1; clear k1)
    | (go_at_call 10; refine (Sa _ K1.out).mono ?_; clear Sa; rintro e w2 ⟨rfl, k2⟩; have K2 := Lib.hid (K1.out.same k2); clear k2)
    | (go_at_call 10; refine (Sb _ K2.out).mono ?_; clear Sb; rintro e w3 ⟨rfl, k3⟩; have K3 := Lib.hid (K2.out.same k3); clear k3)
    | (go_at_call 19; refine (Ba _ K3.out).mono ?_; clear Ba; rintro e w4 ⟨rfl, k4⟩; have K4 := Lib.hid (K3.out.same k4); clear k4)
    | (go_at_call 19; refine (Bb _ K4.out).mono ?_; clear Bb; rintro e w5 ⟨rfl, k5⟩; have K5 := Lib.hid (K4.out.same k5); clear k5)
    | (go_at_call 15; refine (M _ K5.out).mono ?_; clear M; rintro e w6 ⟨m, Am, cm, rfl, hlm, hcm, -, -, hfm, k6⟩; have K6 := Lib.hid ((K5.out.alloc _).same k6); have HCm := Lib.hid hcm; have HFm := Lib.hid hfm; have HLm := Lib.hid hlm; clear k6 hcm hfm hlm)
    | (go_at_call 19; refine (bytes_ok HFm.out (by have := HLm.out; rw [List.length_append] at this; omega) (mem_small HCm.out (fun f hf => by rw [List.mem_append] at hf; rcases hf with hf | hf; exact HA16.out f hf; exact HB16.out f hf))).mono ?_; rintro e w7 ⟨rfl, k7⟩; have K7 := Lib.hid (K6.out.same k7); have T3 := Lib.hid (three45 w7 (arrV .i64 8 fun c => ((bytesOf a c : Nat) : Int)) (arrV .i64 8 fun c => ((bytesOf b c : Nat) : Int)) (arrV .i64 8 fun c => ((bytesOf m c : Nat) : Int))); clear k7)
    | (refine wpList_store_row rfl 45 (.tmp 5) (.tmp 23) rfl w7.heap.size (arrV .i64 8 fun c => ((bytesOf a c : Nat) : Int)).toArray rfl rfl 45 (arrV .i64 8 fun _ => 0).toArray T3.out.1 (H8.out _) (L8.out _) (arrV_one _ _ _) ?_)
    | (refine wpList_store_row rfl 45 (.tmp 6) (.tmp 25) rfl (w7.heap.size + 1) (arrV .i64 8 fun c => ((bytesOf b c : Nat) : Int)).toArray rfl rfl 45 (arrV .i64 8 fun _ => 0).toArray T3.out.2.1 (H8.out _) (L8.out _) (arrV_one _ _ _) ?_)
    | (refine wpList_store_row rfl 45 (.tmp 7) (.tmp 30) rfl (w7.heap.size + 2) (arrV .i64 8 fun c => ((bytesOf m c : Nat) : Int)).toArray rfl rfl 45 (arrV .i64 8 fun _ => 0).toArray T3.out.2.2.1 (H8.out _) (L8.out _) (arrV_one _ _ _) ?_))
  obtain ⟨hx, hy, hz, hk8⟩ := T3.out.2.2.2 _ rfl
  have HX := Lib.hid hx
  have HY := Lib.hid hy
  have HZ := Lib.hid hz
  have K8 := Lib.hid hk8
  clear hx hy hz hk8
  have HK7 := Lib.hid K7.out
  clear T3 K1 K2 K3 K4 K5 K6 HFm H8 L8
  go_loopg [31] 8 (fun k i wr => ByO w7 a b m k i wr)
  case atStart => exact ⟨0, by omega, rfl, HX.out, HY.out, HZ.out, K8.out⟩
  case round =>
    clear HX HY HZ K8
    obtain ⟨j, hj, rfl, hx, hy, hz, hk⟩ := hrel
    have HX := Lib.hid hx
    have HY := Lib.hid hy
    have HZ := Lib.hid hz
    have hsz := hx.lt
    have HKj := Lib.hid hk
    clear hk hx hy hz
    by_cases hlt : j < 8
    · have hj8 : decide ((j : Int) < 8) = true := by simp; omega
      obtain ⟨gO, rfl⟩ : ∃ g, g = gk := ⟨_, rfl⟩
      obtain ⟨wo, rfl⟩ : ∃ wo, wo = wr := ⟨_, rfl⟩
      go_wp2_with fail
      go_loopg [9, 36] a.length (fun k s i wx => ByI wo a j k s i wx)
      case atStart => exact ⟨0, by omega, rfl, rfl, Keeps.refl _ _⟩
      case round =>
        obtain ⟨i, hi, rfl, rfl, hk⟩ := hrel
        have HKi := Lib.hid hk
        by_cases hlt2 : i < a.length
        · obtain ⟨fp, fc, ff, ft, fB, fcap, fbs, bb, o, hfi, rfl, f0, f1, f2, f3, f4, -⟩ := (HA.out.same ((HK7.out.same HKj.out).same hk)).get hlt2
          have hstep := bytesOf_snoc (a.take i) ⟨fp, fc, ff, ft, fB, fcap, fbs⟩ j
          rw [← take_snoc' hfi] at hstep
          simp only at hstep
          have hle := bytesOf_le (a.take i) j (fun f hf => HA16.out f (List.mem_of_mem_take hf))
          have hle2 : bytesOf (a.take i) j ≤ 160000 := by
            have := List.length_take_le i a
            omega
          have hbs : fbs.length ≤ 1600 := HA16.out _ (List.mem_of_getElem? hfi)
          have HStep := Lib.hid hstep
          clear hstep hle hk hfi
          generalize hS : bytesOf (a.take i) j = S at *
          clear hS
          by_cases hc : fc = (j : Int)
          · subst hc
            go_wp2_with fail
            go_roundg (gk - 1)
            case measure => omega
            case rel => exact ⟨i + 1, by omega, by go_num, by rw [HStep.out, if_pos (by first | rfl | trivial)]; go_num, HKi.out.alloc _⟩
          · have hc' : (fc == (j : Int)) = false := by simpa using hc
            have HC := Lib.hid hc
            clear hc
            go_wp2_with fail
            go_roundg (gk - 1)
            case measure => omega
            case rel => exact ⟨i + 1, by omega, by go_num, by rw [HStep.out, if_neg HC.out, Nat.add_zero], HKi.out.alloc _⟩
        · obtain rfl : i = a.length := by omega
          rw [List.take_length]
          have hmer := bytesOf_merge HCm.out HA16.out HB16.out j
          have x1 : wr.cell? ⟨w7.heap.size, j, none⟩ = some (.int .i64 (bytesOf a j : Nat)) := by
            have := (HX.out.keeps hk (fun h => h)).cell j
            rwa [arrV_get _ _ _ _ hlt] at this
          have y1 : wr.cell? ⟨w7.heap.size + 1, j, none⟩ = some (.int .i64 (bytesOf b j : Nat)) := by
            have := (HY.out.keeps hk (fun h => h)).cell j
            rwa [arrV_get _ _ _ _ hlt] at this
          have z1 : wr.cell? ⟨w7.heap.size + 2, j, none⟩ = some (.int .i64 (bytesOf m j : Nat)) := by
            have := (HZ.out.keeps hk (fun h => h)).cell j
            rwa [arrV_get _ _ _ _ hlt] at this
          have la := bytesOf_le a j HA16.out
          have lb := bytesOf_le b j HB16.out
          have la2 : bytesOf a j ≤ 160000 := by omega
          have lb2 : bytesOf b j ≤ 160000 := by omega
          clear la lb hk
          generalize bytesOf a j = sa at *
          generalize bytesOf b j = sb at *
          generalize bytesOf m j = sm at *
          have q1 : (((sa : Nat) : Int) != ((sa : Nat) : Int)) = false := by simp
          have q2 : (((sm : Nat) : Int) != ((sa : Nat) : Int) + ((sb : Nat) : Int)) = false := by simp; omega
          have hw : IntKind.i64.wrap ((sa : Int) + (sb : Int)) = (sa : Int) + (sb : Int) := IntWalk.i64_in _ (by omega)
          clear hmer
          go_upto_region 16 with fail
          go_quiet (fail)
          have HKd := Lib.hid (HKi.out.drewN nq)
          go_wp2_with fail
          go_roundg (gO - 1)
          case measure => omega
          case rel => exact ⟨j + 1, by omega, by go_num, HX.out.keeps HKd.out (fun h => h), HY.out.keeps HKd.out (fun h => h), HZ.out.keeps HKd.out (fun h => h), HKj.out.same HKd.out⟩
    · obtain rfl : j = 8 := by omega
      go_wp2_with fail
      go_ret
      exact ⟨rfl, HK7.out.same HKj.out⟩

set_option maxRecDepth 100000 in
set_option maxHeartbeats 4000000 in
theorem byt_out {w : World} {A B : Option Addr} {ca cb : Nat} {a b : List Fr} (ha : FrsR w A ca a) (hb : FrsR w B cb b) (hla : a.length ≤ 9223372036854775807) (hlb : b.length ≤ 9223372036854775807) (hs : ¬ (Small a ∧ Small b)) :
    Calls Try.prog 8 #[.slice A a.length ca, .slice B b.length cb] w (TrueKept w) := by
  have HA := Lib.hid ha
  have HB := Lib.hid hb
  clear ha hb
  by_cases hsa : Small a
  · have hsb : ¬ Small b := fun h => hs ⟨hsa, h⟩
    have Sa := fun (v : World) (hv : Keeps Nothing w v) => small_ok (HA.out.same hv) hla true ⟨fun _ => hsa, fun _ => rfl⟩
    have Sb := fun (v : World) (hv : Keeps Nothing w v) => small_ok (HB.out.same hv) hlb false ⟨(fun h => by cases h), fun h => absurd h hsb⟩
    clear hs hsa hsb
    go_enter Try.func8, Try.ntmps8
    go_wp2_with (first
      | (go_at_call 9; refine keeps_ok.mono ?_; rintro e w1 ⟨rfl, k1⟩)
      | (go_at_call 10; refine (Sa _ k1).mono ?_; clear Sa; rintro e w2 ⟨rfl, k2⟩)
      | (go_at_call 10; refine (Sb _ (k1.same k2)).mono ?_; clear Sb; rintro e w3 ⟨rfl, k3⟩))
    go_ret
    exact ⟨rfl, (k1.same k2).same k3⟩
  · have Sa := fun (v : World) (hv : Keeps Nothing w v) => small_ok (HA.out.same hv) hla false ⟨(fun h => by cases h), fun h => absurd h hsa⟩
    clear hs hsa
    go_enter Try.func8, Try.ntmps8
    go_wp2_with (first
      | (go_at_call 9; refine keeps_ok.mono ?_; rintro e w1 ⟨rfl, k1⟩)
      | (go_at_call 10; refine (Sa _ k1).mono ?_; clear Sa; rintro e w2 ⟨rfl, k2⟩))
    go_ret
    exact ⟨rfl, k1.same k2⟩

end Go.Proofs.Ytmmeloklnkfjjaa
