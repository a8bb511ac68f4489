/- How long a frame is on a wire, and the credit of a class: what each function comes to. The credit of a class: time goes on. The credit of a class: its mode, its value, and from when on it may send. -/
import Derived.Test.YtimgmobmagpmlaaBase
import Derived.Deep.DeepCutAuto
import Derived.Deep.CutBlock
namespace Go.Proofs.Ytimgmobmagpmlaa

section
open Go.RowKit

def SpeedOk (n : Int) : Prop := n = 10 ∨ n = 100 ∨ n = 1000 ∨ n = 10000
def timeOf (b n : Int) : Int := ((b + 8 + 12) * 8 * 1000 + n - 1).tdiv n

theorem speed_yes (w : World) (n : Int) (h : SpeedOk n) : Calls Try.prog 37 #[.int .i64 n] w (fun e w' => e = .returned (.bool true) ∧ w' = w) := by
  rcases h with rfl | rfl | rfl | rfl
  all_goals
    go_enter Try.func37, Try.ntmps37
    go_wp2
    go_ret
    exact ⟨rfl, rfl⟩

theorem speed_no (w : World) (n : Int) (h : ¬ SpeedOk n) : Calls Try.prog 37 #[.int .i64 n] w (fun e w' => e = .returned (.bool false) ∧ w' = w) := by
  unfold SpeedOk at h
  have h1 : (n == 10) = false := by simp; omega
  have h2 : (n == 100) = false := by simp; omega
  have h3 : (n == 1000) = false := by simp; omega
  have h4 : (n == 10000) = false := by simp; omega
  clear h
  go_enter Try.func37, Try.ntmps37
  go_wp2
  go_ret
  exact ⟨rfl, rfl⟩

theorem timeOf_range {b n : Int} (hn : SpeedOk n) (h0 : 0 ≤ b) (h1 : b ≤ 1522) : 16 ≤ timeOf b n ∧ timeOf b n ≤ 1300000 := by
  unfold timeOf
  rcases hn with rfl | rfl | rfl | rfl
  all_goals
    rw [Int.tdiv_eq_ediv_of_nonneg (by omega)]
    omega

theorem time_ok (w : World) (b n : Int) (hn : SpeedOk n) (h0 : 0 ≤ b) (h1 : b ≤ 1522) : Calls Try.prog 16 #[.int .i64 b, .int .i64 n] w (fun e w' => e = .returned (.tuple #[.int .i64 (timeOf b n), .int .i64 0]) ∧ w' = w) := by
  have C := speed_yes w n hn
  have q1 : decide (b < 0) = false := by simp; omega
  have q2 : decide (1522 < b) = false := by simp; omega
  have hd : n ≠ 0 := by unfold SpeedOk at hn; omega
  have hn1 : 10 ≤ n ∧ n ≤ 10000 := by unfold SpeedOk at hn; omega
  have hr := timeOf_range hn h0 h1
  unfold timeOf at hr ⊢
  obtain ⟨hn1, hn2⟩ := hn1
  clear hn
  go_enter Try.func16, Try.ntmps16
  go_wp2_with (go_at_call 37; refine C.mono ?_; rintro e w1 ⟨rfl, rfl⟩)
  go_ret2
  exact ⟨rfl, rfl⟩

/-! ## the credit -/

def InMost (v : Int) : Prop := -1152921504606846976 ≤ v ∧ v ≤ 1152921504606846976

theorem grow_mul {rate nanos d : Int} (hr : 1 ≤ rate) (hd : 0 ≤ d) (h : nanos ≤ d.tdiv rate) : rate * nanos ≤ d := by
  rw [Int.tdiv_eq_ediv_of_nonneg hd] at h
  have h1 : rate * nanos ≤ rate * (d / rate) := Int.mul_le_mul_of_nonneg_left h (by omega)
  have h2 := Int.mul_ediv_self_le (x := d) (k := rate) (by omega)
  omega

theorem grow_ok (w : World) (v rate nanos bound : Int) (hv : InMost v) (hr : 1 ≤ rate) (hr2 : rate ≤ 10000000000) (hn : 0 ≤ nanos) (hn2 : nanos ≤ 2305843009213693952) (hb : bound = 1152921504606846976 ∨ bound = 0) :
    ∃ r, InMost r ∧ ∀ w : World, Calls Try.prog 89 #[.int .i64 v, .int .i64 rate, .int .i64 nanos, .int .i64 bound] w (fun e w' => e = .returned (.int .i64 r) ∧ w' = w) := by
  obtain ⟨v0, v1⟩ := hv
  have hb2 : 0 ≤ bound ∧ bound ≤ 1152921504606846976 := by omega
  obtain ⟨b0, b1⟩ := hb2
  clear hb
  by_cases h1 : bound ≤ v
  · refine ⟨v, ⟨v0, v1⟩, fun w => ?_⟩
    go_enter Try.func89, Try.ntmps89
    go_wp2
    go_ret
    exact ⟨rfl, rfl⟩
  · have h1' : decide (bound ≤ v) = false := by simpa using h1
    have hd : 0 ≤ bound - v := by omega
    have hw1 : IntKind.i64.wrap (bound - v) = bound - v := by rw [IntKind.wrap_i64]; omega
    have hq0 : 0 ≤ (bound - v).tdiv rate := by rw [Int.tdiv_eq_ediv_of_nonneg hd]; exact Int.ediv_nonneg hd (by omega)
    have hq1 : (bound - v).tdiv rate ≤ bound - v := by rw [Int.tdiv_eq_ediv_of_nonneg hd]; exact Int.ediv_le_self _ hd
    have hw2 : IntKind.i64.wrap ((bound - v).tdiv rate) = (bound - v).tdiv rate := by rw [IntKind.wrap_i64]; omega
    have hr0 : rate ≠ 0 := by omega
    by_cases h2 : (bound - v).tdiv rate < nanos
    · refine ⟨bound, ⟨by omega, b1⟩, fun w => ?_⟩
      clear hq0 hq1
      go_enter Try.func89, Try.ntmps89
      go_wp2
      go_ret
      exact ⟨rfl, rfl⟩
    · have hm := grow_mul hr hd (by omega : nanos ≤ (bound - v).tdiv rate)
      have hm0 : 0 ≤ rate * nanos := Int.mul_nonneg (by omega) hn
      have h2' : decide ((bound - v).tdiv rate < nanos) = false := by simpa using h2
      have hw3 : IntKind.i64.wrap (rate * nanos) = rate * nanos := by rw [IntKind.wrap_i64]; omega
      have hw4 : IntKind.i64.wrap (v + rate * nanos) = v + rate * nanos := by rw [IntKind.wrap_i64]; omega
      refine ⟨v + rate * nanos, ⟨by omega, by omega⟩, fun w => ?_⟩
      clear hq0 hq1 hm hm0
      go_enter Try.func89, Try.ntmps89
      go_wp2
      go_ret
      exact ⟨rfl, rfl⟩

/-- A class's credit: what is known of it. -/
structure ShIs (idle port value last mode : Int) : Prop where
  i1 : 1 ≤ idle
  ip : idle ≤ port
  p1 : port ≤ 10000000000
  v : InMost value
  l0 : 0 ≤ last
  l1 : last ≤ 1152921504606846976
  m0 : 0 ≤ mode
  m1 : mode < 3

def ShAt (w : World) (g : Nat) : Prop := ∃ idle port value last mode, Blk w g [.int .i64 idle, .int .i64 port, .int .i64 value, .int .i64 last, .int .i64 mode] 119 ∧ ShIs idle port value last mode

theorem ShAt.keeps {F : Nat → Prop} {w w' : World} {g : Nat} (h : ShAt w g) (hk : Keeps F w w') (hn : ¬ F g) : ShAt w' g := by
  obtain ⟨a, b, c, d, e, hB, hI⟩ := h
  exact ⟨a, b, c, d, e, hB.keeps hk hn, hI⟩

theorem ShAt.lt {w : World} {g : Nat} (h : ShAt w g) : g < w.heap.size := by
  obtain ⟨a, b, c, d, e, hB, hI⟩ := h
  exact hB.lt
end

section
open Go.RowKit

def ShIn (w : World) (g : Nat) (idle port value last mode : Int) : Prop := Blk w g [.int .i64 idle, .int .i64 port, .int .i64 value, .int .i64 last, .int .i64 mode] 119 ∧ ShIs idle port value last mode

def ShPassed (w : World) (g : Nat) (idle port mode : Int) (e : Ending) (w' : World) : Prop :=
  e = .returned (.tuple #[]) ∧ (∃ value last, ShIn w' g idle port value last mode) ∧ Keeps (fun k => k = g) w w'

theorem InMost.neg {v : Int} (h : InMost v) : InMost (-v) := by unfold InMost at *; omega

theorem ShIs.upd {idle port value last mode : Int} (h : ShIs idle port value last mode) {v l : Int} (hv : InMost v) (h0 : 0 ≤ l) (h1 : l ≤ 1152921504606846976) : ShIs idle port v l mode :=
  ⟨h.i1, h.ip, h.p1, hv, h0, h1, h.m0, h.m1⟩

set_option maxRecDepth 100000 in
set_option maxHeartbeats 4000000 in
theorem spass_ok (w : World) (g : Nat) (idle port value last mode now : Int) (h : ShIn w g idle port value last mode) (hn : now ≤ 1152921504606846976) :
    Calls Try.prog 82 #[.pointer (some ⟨g, 0, none⟩), .int .i64 now] w (ShPassed w g idle port mode) := by
  obtain ⟨hB, hI⟩ := h
  have HI := Lib.hid hI
  obtain ⟨i1, ip, p1, hv, l0, l1, m0, m1⟩ := hI
  have HB := Lib.hid hB
  have s0 : w.cell? ⟨g, 0, none⟩ = some (.int .i64 idle) := hB.cell 0
  have s1 : w.cell? ⟨g, 1, none⟩ = some (.int .i64 port) := hB.cell 1
  have s2 : w.cell? ⟨g, 2, none⟩ = some (.int .i64 value) := hB.cell 2
  have s3 : w.cell? ⟨g, 3, none⟩ = some (.int .i64 last) := hB.cell 3
  have s4 : w.cell? ⟨g, 4, none⟩ = some (.int .i64 mode) := hB.cell 4
  have f3 : w.frozen? ⟨g, 3, none⟩ = false := hB.frozen 3
  clear hB
  by_cases hle : now ≤ last
  · go_enter Try.func82, Try.ntmps82
    go_wp2
    go_end0
    exact ⟨rfl, ⟨value, last, HB.out, HI.out⟩, Keeps.refl _ _⟩
  · have hle' : decide (now ≤ last) = false := by simpa using hle
    have hw1 : IntKind.i64.wrap (now - last) = now - last := by rw [IntKind.wrap_i64]; omega
    have HB1 := Lib.hid (HB.out.set 3 (.int .i64 now))
    have HK1 := Lib.hid ((Keeps.refl (fun k => k = g) w).setCell (p := ⟨g, 3, none⟩) (fun _ => rfl) (.int .i64 now))
    go_enter Try.func82, Try.ntmps82
    go_upto_region 3 with fail
    generalize (w.setCell ⟨g, 3, none⟩ (.int .i64 now)) = w1 at *
    have hB1 : Blk w1 g [.int .i64 idle, .int .i64 port, .int .i64 value, .int .i64 now, .int .i64 mode] 119 := HB1.out
    have t0 : w1.cell? ⟨g, 0, none⟩ = some (.int .i64 idle) := hB1.cell 0
    have t1 : w1.cell? ⟨g, 1, none⟩ = some (.int .i64 port) := hB1.cell 1
    have t2 : w1.cell? ⟨g, 2, none⟩ = some (.int .i64 value) := hB1.cell 2
    have t4 : w1.cell? ⟨g, 4, none⟩ = some (.int .i64 mode) := hB1.cell 4
    have f2 : w1.frozen? ⟨g, 2, none⟩ = false := hB1.frozen 2
    have HB2 := Lib.hid hB1
    clear hB1 s0 s1 s2 s3 s4 f3
    obtain ⟨d, hd⟩ : ∃ d, d = now - last := ⟨_, rfl⟩
    have hd0 : 0 ≤ d := by omega
    have hd1 : d ≤ 2305843009213693952 := by omega
    rw [← hd] at *
    by_cases m1 : mode = 1
    · obtain ⟨r, hr, C⟩ := grow_ok w1 value idle d 1152921504606846976 hv i1 (by omega) hd0 hd1 (.inl rfl)
      subst m1
      go_upto_region 5 with fail
      refine wp_region_still_tail 12 (by kernel_rfl) (by kernel_rfl) ?_
      simp only [List.take_succ_cons, List.take_zero, List.drop_succ_cons, List.drop_zero]
      repeat still_step
      still_call (C _)
      repeat still_step
      refine wpStill_nil ?_
      change wpList _ _ _ _ _ w1.drew
      have HB3 : Hid (Blk w1.drew g [.int .i64 idle, .int .i64 port, .int .i64 value, .int .i64 now, .int .i64 1] 119) := HB2.out
      have HK3 := Lib.hid (HK1.out.drew)
      have f2 : w1.drew.frozen? ⟨g, 2, none⟩ = false := HB3.out.frozen 2
      have t2 : w1.drew.cell? ⟨g, 2, none⟩ = some (.int .i64 value) := HB3.out.cell 2
      generalize w1.drew = w2 at *
      go_wp2
      go_end0
      exact ⟨rfl, ⟨r, now, HB3.out.set 2 _, HI.out.upd hr (by omega) hn⟩, HK3.out.setCell (fun _ => rfl) _⟩
    · by_cases m0 : mode = 0
      · obtain ⟨r, hr, C⟩ := grow_ok w1 value idle d 0 hv i1 (by omega) hd0 hd1 (.inr rfl)
        subst m0
        go_upto_region 7 with fail
        refine wp_region_still_tail 12 (by kernel_rfl) (by kernel_rfl) ?_
        simp only [List.take_succ_cons, List.take_zero, List.drop_succ_cons, List.drop_zero]
        repeat still_step
        still_call (C _)
        repeat still_step
        refine wpStill_nil ?_
        change wpList _ _ _ _ _ w1.drew
        have HB3 : Hid (Blk w1.drew g [.int .i64 idle, .int .i64 port, .int .i64 value, .int .i64 now, .int .i64 0] 119) := HB2.out
        have HK3 := Lib.hid (HK1.out.drew)
        have f2 : w1.drew.frozen? ⟨g, 2, none⟩ = false := HB3.out.frozen 2
        have t2 : w1.drew.cell? ⟨g, 2, none⟩ = some (.int .i64 value) := HB3.out.cell 2
        generalize w1.drew = w2 at *
        go_wp2
        go_end0
        exact ⟨rfl, ⟨r, now, HB3.out.set 2 _, HI.out.upd hr (by omega) hn⟩, HK3.out.setCell (fun _ => rfl) _⟩
      · have m2 : mode = 2 := by omega
        clear m0 m1
        subst m2
        by_cases hip : idle < port
        · obtain ⟨r, hr, C⟩ := grow_ok w1 (-value) (port - idle) d 1152921504606846976 hv.neg (by omega) (by omega) hd0 hd1 (.inl rfl)
          have hv2 := hv
          have hr2 := hr
          unfold InMost at hv2 hr2
          have hn1 : IntKind.i64.wrap (-value) = -value := by rw [IntKind.wrap_i64]; omega
          have hn2 : IntKind.i64.wrap (port - idle) = port - idle := by rw [IntKind.wrap_i64]; omega
          have hn3 : IntKind.i64.wrap (-r) = -r := by rw [IntKind.wrap_i64]; omega
          clear hv2 hr2
          go_upto_region 9 with fail
          go_quiet (fail)
          go_upto_region 10 with fail
          have HB5 : Hid (Blk (w1.drewN nq) g [.int .i64 idle, .int .i64 port, .int .i64 value, .int .i64 now, .int .i64 2] 119) := HB2.out
          have HK5 := Lib.hid (HK1.out.drewN nq)
          have v0 : (w1.drewN nq).cell? ⟨g, 0, none⟩ = some (.int .i64 idle) := t0
          have v1 : (w1.drewN nq).cell? ⟨g, 1, none⟩ = some (.int .i64 port) := t1
          have v2 : (w1.drewN nq).cell? ⟨g, 2, none⟩ = some (.int .i64 value) := t2
          clear t0 t1 t2 t4 f2
          generalize w1.drewN nq = w5 at *
          refine wp_region_still_tail 18 (by kernel_rfl) (by kernel_rfl) ?_
          simp only [List.take_succ_cons, List.take_zero, List.drop_succ_cons, List.drop_zero]
          repeat still_step
          still_call (C _)
          repeat still_step
          refine wpStill_nil ?_
          change wpList _ _ _ _ _ w5.drew
          have HB3 : Hid (Blk w5.drew g [.int .i64 idle, .int .i64 port, .int .i64 value, .int .i64 now, .int .i64 2] 119) := HB5.out
          have HK3 := Lib.hid (HK5.out.drew)
          have f2 : w5.drew.frozen? ⟨g, 2, none⟩ = false := HB3.out.frozen 2
          have t2 : w5.drew.cell? ⟨g, 2, none⟩ = some (.int .i64 value) := HB3.out.cell 2
          generalize w5.drew = w2 at *
          go_wp2
          go_end0
          exact ⟨rfl, ⟨-r, now, HB3.out.set 2 _, HI.out.upd hr.neg (by omega) hn⟩, HK3.out.setCell (fun _ => rfl) _⟩
        · go_upto_region 9 with fail
          go_quiet (fail)
          go_wp2
          go_end0
          exact ⟨rfl, ⟨value, now, HB2.out, HI.out.upd hv (by omega) hn⟩, HK1.out.drewN _⟩
end

section
open Go.RowKit

def ShDone (r : Value) (w : World) (g : Nat) (e : Ending) (w' : World) : Prop := e = .returned r ∧ ShAt w' g ∧ Keeps (fun k => k = g) w w'

theorem ShIs.mode {idle port value last mode : Int} (h : ShIs idle port value last mode) {v m : Int} (hv : InMost v) (h0 : 0 ≤ m) (h1 : m < 3) : ShIs idle port v last m :=
  ⟨h.i1, h.ip, h.p1, hv, h.l0, h.l1, h0, h1⟩

set_option maxRecDepth 100000 in
theorem smode_ok (w : World) (g : Nat) (m now : Int) (h : ShAt w g) (h0 : 0 ≤ m) (h1 : m < 3) (hn : now ≤ 1152921504606846976) :
    Calls Try.prog 66 #[.pointer (some ⟨g, 0, none⟩), .int .i64 m, .int .i64 now] w (ShDone (.int .i64 0) w g) := by
  obtain ⟨idle, port, value, last, mode, hB, hI⟩ := h
  have C := spass_ok w g idle port value last mode now ⟨hB, hI⟩ hn
  have q0 : decide (m < 0) = false := by simp; omega
  have q1 : decide (3 ≤ m) = false := by simp; omega
  clear hB hI
  by_cases hm : m = 0
  · subst hm
    go_enter Try.func66, Try.ntmps66
    go_wp2_with (go_at_call 82; refine C.mono ?_; rintro e w1 ⟨rfl, ⟨v, l, hB, hI⟩, hk⟩; clear C; have HB := Lib.hid hB; have HI := Lib.hid hI; have s2 : w1.cell? ⟨g, 2, none⟩ = some (.int .i64 v) := hB.cell 2; have s4 : w1.cell? ⟨g, 4, none⟩ = some (.int .i64 mode) := hB.cell 4; have f2 : w1.frozen? ⟨g, 2, none⟩ = false := hB.frozen 2; have f4 : w1.frozen? ⟨g, 4, none⟩ = false := hB.frozen 4; clear hB hI)
    all_goals go_ret
    all_goals exact ⟨rfl, ⟨idle, port, _, l, 0, (HB.out.set 4 _).set 2 _, HI.out.mode (by have := HI.out.v; unfold InMost at *; omega) h0 h1⟩, (hk.setCell (fun _ => rfl) _).setCell (fun _ => rfl) _⟩
  · have q2 : (m == 0) = false := by simpa using hm
    go_enter Try.func66, Try.ntmps66
    go_wp2_with (go_at_call 82; refine C.mono ?_; rintro e w1 ⟨rfl, ⟨v, l, hB, hI⟩, hk⟩; clear C; have HB := Lib.hid hB; have HI := Lib.hid hI; have s2 : w1.cell? ⟨g, 2, none⟩ = some (.int .i64 v) := hB.cell 2; have s4 : w1.cell? ⟨g, 4, none⟩ = some (.int .i64 mode) := hB.cell 4; have f2 : w1.frozen? ⟨g, 2, none⟩ = false := hB.frozen 2; have f4 : w1.frozen? ⟨g, 4, none⟩ = false := hB.frozen 4; clear hB hI)
    go_ret
    exact ⟨rfl, ⟨idle, port, _, l, m, HB.out.set 4 _, HI.out.mode HI.out.v h0 h1⟩, hk.setCell (fun _ => rfl) _⟩

def ShValue (w : World) (g : Nat) (idle port mode : Int) (e : Ending) (w' : World) : Prop :=
  ∃ value last, e = .returned (.int .i64 value) ∧ ShIn w' g idle port value last mode ∧ Keeps (fun k => k = g) w w'

set_option maxRecDepth 100000 in
theorem svalue_ok (w : World) (g : Nat) (idle port value last mode now : Int) (h : ShIn w g idle port value last mode) (hn : now ≤ 1152921504606846976) :
    Calls Try.prog 86 #[.pointer (some ⟨g, 0, none⟩), .int .i64 now] w (ShValue w g idle port mode) := by
  have C := spass_ok w g idle port value last mode now h hn
  clear h
  go_enter Try.func86, Try.ntmps86
  go_wp2_with (go_at_call 82; refine C.mono ?_; rintro e w1 ⟨rfl, ⟨v, l, hB, hI⟩, hk⟩; clear C; have HB := Lib.hid hB; have HI := Lib.hid hI; have s2 : w1.cell? ⟨g, 2, none⟩ = some (.int .i64 v) := hB.cell 2; clear hB hI)
  go_ret
  exact ⟨v, l, rfl, ⟨HB.out, HI.out⟩, hk⟩

def ShWhen (w : World) (g : Nat) (now : Int) (e : Ending) (w' : World) : Prop :=
  ∃ t, e = .returned (.int .i64 t) ∧ 0 ≤ t ∧ t ≤ 4611686018427387904 ∧ ShAt w' g ∧ Keeps (fun k => k = g) w w'

set_option maxRecDepth 100000 in
set_option maxHeartbeats 2000000 in
theorem swhen_ok (w : World) (g : Nat) (now : Int) (h : ShAt w g) (h0 : 0 ≤ now) (hn : now ≤ 1152921504606846976) :
    Calls Try.prog 73 #[.pointer (some ⟨g, 0, none⟩), .int .i64 now] w (ShWhen w g now) := by
  obtain ⟨idle, port, value, last, mode, hB, hI⟩ := h
  have C := svalue_ok w g idle port value last mode now ⟨hB, hI⟩ hn
  clear hB hI
  go_enter Try.func73, Try.ntmps73
  go_upto_region 2 with (go_at_call 86; refine C.mono ?_; rintro e w1 ⟨v, l, rfl, ⟨hB, hI⟩, hk⟩; clear C; have HB := Lib.hid hB; have HI := Lib.hid hI; have s0 : w1.cell? ⟨g, 0, none⟩ = some (.int .i64 idle) := hB.cell 0; have s3 : w1.cell? ⟨g, 3, none⟩ = some (.int .i64 l) := hB.cell 3; clear hB hI)
  have hv := HI.out.v
  unfold InMost at hv
  obtain ⟨v0, v1⟩ := hv
  have l0 := HI.out.l0
  have l1 := HI.out.l1
  have i1 := HI.out.i1
  by_cases hp : 0 ≤ v
  · go_wp2
    all_goals go_ret
    all_goals exact ⟨_, rfl, by omega, by omega, ⟨_, _, _, _, _, HB.out, HI.out⟩, hk⟩
  · have hp' : decide (0 ≤ v) = false := by simpa using hp
    have hd : 0 ≤ -v := by omega
    have hw1 : IntKind.i64.wrap (-v) = -v := by rw [IntKind.wrap_i64]; omega
    have hq0 : 0 ≤ (-v).tdiv idle := by rw [Int.tdiv_eq_ediv_of_nonneg hd]; exact Int.ediv_nonneg hd (by omega)
    have hq1 : (-v).tdiv idle ≤ -v := by rw [Int.tdiv_eq_ediv_of_nonneg hd]; exact Int.ediv_le_self _ hd
    have hw2 : IntKind.i64.wrap ((-v).tdiv idle) = (-v).tdiv idle := by rw [IntKind.wrap_i64]; omega
    have hr0 : idle ≠ 0 := by omega
    obtain ⟨q, hq⟩ : ∃ q, q = (-v).tdiv idle := ⟨_, rfl⟩
    rw [← hq] at hq0 hq1 hw2
    have hq2 : Hid (wrap64 (-v.tdiv idle) = q) := by
      have e : -v.tdiv idle = q := by rw [hq, Int.neg_tdiv]
      show wrap64 (-v.tdiv idle) = q
      rw [e]
      clear hw2
      unfold wrap64
      omega
    have HQ := Lib.hid (And.intro hq0 hq1)
    clear hq0 hq1 hw2
    by_cases hr : (-v).tmod idle = 0
    · go_wp2
      all_goals go_ret
      all_goals refine ⟨_, rfl, ?_, ?_, ⟨_, _, _, _, _, HB.out, HI.out⟩, hk⟩
      all_goals first | rw [hq2.out] | skip
      all_goals have HQ' := HQ.out
      all_goals clear hq hw1 hq2 HQ hr
      all_goals unfold wrap64
      all_goals omega
    · go_wp2
      all_goals go_ret
      all_goals refine ⟨_, rfl, ?_, ?_, ⟨_, _, _, _, _, HB.out, HI.out⟩, hk⟩
      all_goals first | rw [hq2.out] | skip
      all_goals have HQ' := HQ.out
      all_goals clear hq hw1 hq2 HQ hr
      all_goals unfold wrap64
      all_goals omega

def ShNew (w : World) (idle port : Int) (e : Ending) (w' : World) : Prop :=
  (e = .returned (.tuple #[.pointer none, .int .i64 30]) ∧ w' = w) ∨ (e = .returned (.tuple #[.pointer (some ⟨w.heap.size, 0, none⟩), .int .i64 0]) ∧ ShAt w' w.heap.size ∧ Keeps Nothing w w')

set_option maxRecDepth 100000 in
theorem snew_ok (w : World) (idle port : Int) : Calls Try.prog 65 #[.int .i64 idle, .int .i64 port] w (ShNew w idle port) := by
  by_cases h1 : idle < 1
  · go_enter Try.func65, Try.ntmps65
    go_wp2
    go_ret2
    exact .inl ⟨rfl, rfl⟩
  · have h1' : decide (idle < 1) = false := by simpa using h1
    by_cases h2 : 10000000000 < port
    · go_enter Try.func65, Try.ntmps65
      go_wp2
      go_ret2
      exact .inl ⟨rfl, rfl⟩
    · have h2' : decide (10000000000 < port) = false := by simpa using h2
      by_cases h3 : port < idle
      · go_enter Try.func65, Try.ntmps65
        go_wp2
        go_ret2
        exact .inl ⟨rfl, rfl⟩
      · have h3' : decide (port < idle) = false := by simpa using h3
        have HB := Lib.hid (Blk.new w [.int .i64 idle, .int .i64 port, .int .i64 0, .int .i64 0, .int .i64 0] 119)
        go_enter Try.func65, Try.ntmps65
        go_wp2
        go_ret2
        exact .inr ⟨rfl, ⟨_, _, _, _, _, HB.out, ⟨by omega, by omega, by omega, by unfold InMost; omega, by decide, by decide, by decide, by decide⟩⟩, (Keeps.refl _ _).alloc _⟩
end

end Go.Proofs.Ytimgmobmagpmlaa
