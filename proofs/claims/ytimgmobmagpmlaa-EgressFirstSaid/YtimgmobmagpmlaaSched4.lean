/- What may go at a time, and until when: the change's state and next edge. What may go at a time; and when that may change next. Until when, and from when on; where no list is in force and one waits. The plain law of the next edge: the edges of a cycle, the longer last cycle, and that nothing turns between two edges. -/
import Derived.Test.YtimgmobmagpmlaaSched
namespace Go.Proofs.Ytimgmobmagpmlaa

section
open Go.RowKit

structure SchGood (S : Sch) : Prop where
  oper : S.has = true → Good S.oper.base S.oper.cyc S.oper.ext S.oper.es
  admin : S.waits = true → Good S.due S.admin.cyc S.admin.ext S.admin.es

/-- From when on the last cycle ahead of a change is longer. -/
def Sch.tail (S : Sch) : Option Int :=
  if S.waits = true ∧ S.has = true ∧ S.oper.base < S.due then
    let f := S.oper.base + (S.due - S.oper.base).tdiv S.oper.cyc * S.oper.cyc
    if f = S.oper.base ∨ f = S.due ∨ S.oper.ext < S.due - f then none else some f
  else none

def Sch.state (S : Sch) (t : Int) : Int :=
  if S.waits = true ∧ S.due ≤ t then gst S.due S.admin.cyc S.admin.es t
  else match S.tail with
    | some f => if f ≤ t then gst S.oper.base S.oper.cyc S.oper.es (f - 1) else if S.has = true then gst S.oper.base S.oper.cyc S.oper.es t else 255
    | none => if S.has = true then gst S.oper.base S.oper.cyc S.oper.es t else 255

/-- The next edge of the list in force. -/
def Sch.pre (S : Sch) (t : Int) : Int :=
  match S.tail with
  | some f => if f ≤ t then -1 else if S.has = true then (if f < gnx S.oper.base S.oper.cyc S.oper.es t then f else gnx S.oper.base S.oper.cyc S.oper.es t) else -1
  | none => if S.has = true then gnx S.oper.base S.oper.cyc S.oper.es t else -1

def Sch.next (S : Sch) (t : Int) : Int :=
  if S.waits = true ∧ S.due ≤ t then gnx S.due S.admin.cyc S.admin.es t
  else if S.waits = true ∧ (S.pre t < 0 ∨ S.due < S.pre t) then S.due else S.pre t

set_option maxRecDepth 100000 in
theorem moved_ok {w : World} {p : Nat} {S : Sch} (h : SchAt w p S) :
    Calls Try.prog 93 #[.pointer (some ⟨p, 0, none⟩)] w (fun e w' => e = .returned (.agg #[.int .i64 S.due, .int .i64 S.admin.cyc, .int .i64 S.admin.ext, .slice S.admin.A S.admin.es.length S.admin.cap]) ∧ Keeps Nothing w w') := by
  obtain ⟨⟨ob, oc, ox, oA, ocap, oes⟩, ⟨ab, ac, ax, aA, acap, aes⟩, has, waits, due, chg, rep⟩ := S
  have hB : Blk w p [.int .i64 ob, .int .i64 oc, .int .i64 ox, .slice oA oes.length ocap, .int .i64 ab, .int .i64 ac, .int .i64 ax, .slice aA aes.length acap, .bool has, .bool waits, .int .i64 due, .int .i64 chg, .int .i64 rep] 77 := h.blk
  have hpl := hB.lt
  have s4 : w.cell? ⟨p, 4, none⟩ = some (.int .i64 ab) := hB.cell 4
  have s5 : w.cell? ⟨p, 5, none⟩ = some (.int .i64 ac) := hB.cell 5
  have s6 : w.cell? ⟨p, 6, none⟩ = some (.int .i64 ax) := hB.cell 6
  have s7 : w.cell? ⟨p, 7, none⟩ = some (.slice aA aes.length acap) := hB.cell 7
  have s10 : w.cell? ⟨p, 10, none⟩ = some (.int .i64 due) := hB.cell 10
  clear h hB
  go_enter Try.func93, Try.ntmps93
  go_wp2_with fail
  have hF := (Blk.new w [.int .i64 due, .int .i64 ac, .int .i64 ax, .slice aA aes.length acap] 56).alloc (.cells #[.int .i64 due, .int .i64 ac, .int .i64 ax, .slice aA aes.length acap] 56)
  exact bodyPost_ret (results_cell_row rfl _ _ w.heap.size 56 #[.int .i64 due, .int .i64 ac, .int .i64 ax, .slice aA aes.length acap] (0, 0) _ rfl hF Try.underlying56 rfl (by kernel_rfl)) rfl ⟨rfl, ((Keeps.refl _ _).alloc _).alloc _⟩

def TailIs (w : World) (S : Sch) (e : Ending) (w' : World) : Prop :=
  ∃ f o b, e = .returned (.tuple #[.int .i64 f, .int .i64 o, .bool b]) ∧ S.tail = (if b = true then some f else none) ∧ (b = true → o = gst S.oper.base S.oper.cyc S.oper.es (f - 1)) ∧ Keeps Nothing w w'

set_option maxRecDepth 100000 in
set_option maxHeartbeats 4000000 in
theorem tail_ok {w : World} {p : Nat} {S : Sch} (h : SchAt w p S) (hg : SchGood S) :
    Calls Try.prog 94 #[.pointer (some ⟨p, 0, none⟩)] w (TailIs w S) := by
  obtain ⟨⟨ob, oc, ox, oA, ocap, oes⟩, ⟨ab, ac, ax, aA, acap, aes⟩, has, waits, due, chg, rep⟩ := S
  have hB : Blk w p [.int .i64 ob, .int .i64 oc, .int .i64 ox, .slice oA oes.length ocap, .int .i64 ab, .int .i64 ac, .int .i64 ax, .slice aA aes.length acap, .bool has, .bool waits, .int .i64 due, .int .i64 chg, .int .i64 rep] 77 := h.blk
  have HS := Lib.hid h
  have HG := Lib.hid hg
  have s0 : w.cell? ⟨p, 0, none⟩ = some (.int .i64 ob) := hB.cell 0
  have s1 : w.cell? ⟨p, 1, none⟩ = some (.int .i64 oc) := hB.cell 1
  have s2 : w.cell? ⟨p, 2, none⟩ = some (.int .i64 ox) := hB.cell 2
  have s3 : w.cell? ⟨p, 3, none⟩ = some (.slice oA oes.length ocap) := hB.cell 3
  have s4 : w.cell? ⟨p, 4, none⟩ = some (.int .i64 ab) := hB.cell 4
  have s5 : w.cell? ⟨p, 5, none⟩ = some (.int .i64 ac) := hB.cell 5
  have s6 : w.cell? ⟨p, 6, none⟩ = some (.int .i64 ax) := hB.cell 6
  have s7 : w.cell? ⟨p, 7, none⟩ = some (.slice aA aes.length acap) := hB.cell 7
  have s8 : w.cell? ⟨p, 8, none⟩ = some (.bool has) := hB.cell 8
  have s9 : w.cell? ⟨p, 9, none⟩ = some (.bool waits) := hB.cell 9
  have s10 : w.cell? ⟨p, 10, none⟩ = some (.int .i64 due) := hB.cell 10
  have s11 : w.cell? ⟨p, 11, none⟩ = some (.int .i64 chg) := hB.cell 11
  have s12 : w.cell? ⟨p, 12, none⟩ = some (.int .i64 rep) := hB.cell 12
  clear h hB hg
  cases waits
  · go_enter Try.func94, Try.ntmps94
    go_upto_region 1 with fail
    go_quiet (fail)
    go_wp2_with fail
    go_ret3
    exact ⟨_, _, _, rfl, by simp [Sch.tail], (fun h => by cases h), (Keeps.refl _ _).drewN _⟩
  · cases has
    · go_enter Try.func94, Try.ntmps94
      go_upto_region 1 with fail
      go_quiet (fail)
      go_wp2_with fail
      go_ret3
      exact ⟨_, _, _, rfl, by simp [Sch.tail], (fun h => by cases h), (Keeps.refl _ _).drewN _⟩
    · have hgo := HG.out.oper rfl
      have hga := HG.out.admin rfl
      obtain ⟨g0, g1, gb0, gb1, gc0, gc1, gx0, gx1, -⟩ := hgo
      have hd0 := hga.b0
      have hd1 := hga.b1
      simp only at g0 g1 gb0 gb1 gc0 gc1 gx0 gx1 hd0 hd1
      clear hga
      by_cases hlt : due ≤ ob
      · have hq : decide (due ≤ ob) = true := by simpa using hlt
        go_enter Try.func94, Try.ntmps94
        go_upto_region 1 with fail
        go_quiet (fail)
        go_wp2_with fail
        go_ret3
        exact ⟨_, _, _, rfl, (by simp [Sch.tail]; omega), (fun h => by cases h), (Keeps.refl _ _).drewN _⟩
      · have hq : decide (due ≤ ob) = false := by simpa using hlt
        have e0 : 0 ≤ (due - ob).tdiv oc ∧ (due - ob).tdiv oc * oc ≤ due - ob ∧ (due - ob).tdiv oc ≤ due - ob := by
          rw [Int.tdiv_eq_ediv_of_nonneg (by omega)]
          exact ⟨Int.ediv_nonneg (by omega) (by omega), Int.ediv_mul_le _ (by omega), Int.ediv_le_self _ (by omega)⟩
        obtain ⟨e1, e2, e3⟩ := e0
        have e4 : 0 ≤ (due - ob).tdiv oc * oc := Int.mul_nonneg e1 (by omega)
        have hq0 : oc ≠ 0 := by omega
        have hw1 : IntKind.i64.wrap (due - ob) = due - ob := by rw [IntKind.wrap_i64]; omega
        have hw2 : IntKind.i64.wrap ((due - ob).tdiv oc) = (due - ob).tdiv oc := by rw [IntKind.wrap_i64]; omega
        have hw3 : IntKind.i64.wrap ((due - ob).tdiv oc * oc) = (due - ob).tdiv oc * oc := by rw [IntKind.wrap_i64]; omega
        have hw4 : IntKind.i64.wrap (ob + (due - ob).tdiv oc * oc) = ob + (due - ob).tdiv oc * oc := by rw [IntKind.wrap_i64]; omega
        have hT : Hid (Sch.tail ⟨⟨ob, oc, ox, oA, ocap, oes⟩, ⟨ab, ac, ax, aA, acap, aes⟩, true, true, due, chg, rep⟩ = if ob + (due - ob).tdiv oc * oc = ob ∨ ob + (due - ob).tdiv oc * oc = due ∨ ox < due - (ob + (due - ob).tdiv oc * oc) then none else some (ob + (due - ob).tdiv oc * oc)) := by
          show _ = _
          unfold Sch.tail
          rw [if_pos ⟨rfl, rfl, by show ob < due; omega⟩]
        go_enter Try.func94, Try.ntmps94
        go_upto_region 1 with fail
        go_quiet (fail)
        obtain ⟨nq0, rfl⟩ : ∃ n, n = nq := ⟨_, rfl⟩
        go_upto_region 3 with fail
        go_quiet (fail)
        go_upto_region 4 with fail
        have hfr : ob ≤ ob + (due - ob).tdiv oc * oc ∧ ob + (due - ob).tdiv oc * oc ≤ due := by omega
        clear hw1 hw2 hw3 hw4 e1 e2 e3 e4
        generalize ob + (due - ob).tdiv oc * oc = f at *
        have HS2 := Lib.hid (HS.out.same (((Keeps.refl Nothing w).drewN nq0).drewN nq))
        have HK2 := Lib.hid (((Keeps.refl Nothing w).drewN nq0).drewN nq)
        have hB2 : Blk ((w.drewN nq0).drewN nq) p [.int .i64 ob, .int .i64 oc, .int .i64 ox, .slice oA oes.length ocap, .int .i64 ab, .int .i64 ac, .int .i64 ax, .slice aA aes.length acap, .bool true, .bool true, .int .i64 due, .int .i64 chg, .int .i64 rep] 77 := HS2.out.blk
        have s0 : ((w.drewN nq0).drewN nq).cell? ⟨p, 0, none⟩ = some (.int .i64 ob) := hB2.cell 0
        have s1 : ((w.drewN nq0).drewN nq).cell? ⟨p, 1, none⟩ = some (.int .i64 oc) := hB2.cell 1
        have s2 : ((w.drewN nq0).drewN nq).cell? ⟨p, 2, none⟩ = some (.int .i64 ox) := hB2.cell 2
        have s3 : ((w.drewN nq0).drewN nq).cell? ⟨p, 3, none⟩ = some (.slice oA oes.length ocap) := hB2.cell 3
        have s4 : ((w.drewN nq0).drewN nq).cell? ⟨p, 4, none⟩ = some (.int .i64 ab) := hB2.cell 4
        have s5 : ((w.drewN nq0).drewN nq).cell? ⟨p, 5, none⟩ = some (.int .i64 ac) := hB2.cell 5
        have s6 : ((w.drewN nq0).drewN nq).cell? ⟨p, 6, none⟩ = some (.int .i64 ax) := hB2.cell 6
        have s7 : ((w.drewN nq0).drewN nq).cell? ⟨p, 7, none⟩ = some (.slice aA aes.length acap) := hB2.cell 7
        have s8 : ((w.drewN nq0).drewN nq).cell? ⟨p, 8, none⟩ = some (.bool true) := hB2.cell 8
        have s9 : ((w.drewN nq0).drewN nq).cell? ⟨p, 9, none⟩ = some (.bool true) := hB2.cell 9
        have s10 : ((w.drewN nq0).drewN nq).cell? ⟨p, 10, none⟩ = some (.int .i64 due) := hB2.cell 10
        have s11 : ((w.drewN nq0).drewN nq).cell? ⟨p, 11, none⟩ = some (.int .i64 chg) := hB2.cell 11
        have s12 : ((w.drewN nq0).drewN nq).cell? ⟨p, 12, none⟩ = some (.int .i64 rep) := hB2.cell 12
        clear hB2
        generalize ((w.drewN nq0).drewN nq) = wt at *
        by_cases h1 : f = ob
        · subst h1
          have q1 : (f == f) = true := by simp
          have hT2 := hT.out
          rw [if_pos (.inl rfl)] at hT2
          have HT2 := Lib.hid hT2
          clear hT hT2
          go_quiet (fail)
          go_wp2_with fail
          go_ret3
          exact ⟨_, _, _, rfl, (by rw [HT2.out]; rfl), (fun h => by cases h), HK2.out.drewN _⟩
        · have q1 : (f == ob) = false := by simpa using h1
          by_cases h2 : f = due
          · subst h2
            have q2 : (f == f) = true := by simp
            have hT2 := hT.out
            rw [if_pos (.inr (.inl rfl))] at hT2
            have HT2 := Lib.hid hT2
            clear hT hT2
            go_quiet (fail)
            go_wp2_with fail
            go_ret3
            exact ⟨_, _, _, rfl, (by rw [HT2.out]; rfl), (fun h => by cases h), HK2.out.drewN _⟩
          · have q2 : (f == due) = false := by simpa using h2
            have hw5 : IntKind.i64.wrap (due - f) = due - f := by rw [IntKind.wrap_i64]; omega
            by_cases h3 : ox < due - f
            · have hT2 := hT.out
              rw [if_pos (.inr (.inr h3))] at hT2
              have HT2 := Lib.hid hT2
              clear hT hT2
              go_quiet (fail)
              go_wp2_with fail
              go_ret3
              exact ⟨_, _, _, rfl, (by rw [HT2.out]; rfl), (fun h => by cases h), HK2.out.drewN _⟩
            · have q3 : decide (ox < due - f) = false := by simpa using h3
              have hT2 := hT.out
              rw [if_neg (by omega)] at hT2
              have HT2 := Lib.hid hT2
              clear hT hT2
              have C := fun v (hv : Keeps Nothing wt v) => gstate_ok (HS2.out.oper.1.same hv) (HG.out.oper rfl) (f - 1) (by omega)
              go_quiet (fail)
              go_wp2_with (go_at_call 92; refine (C _ ((Keeps.refl _ _).drewN _)).mono ?_; rintro e w9 ⟨rfl, hk9⟩; clear C)
              go_ret3
              exact ⟨_, _, _, rfl, (by rw [HT2.out]; rfl), (fun _ => rfl), (HK2.out.drewN _).same hk9⟩
end

section
open Go.RowKit

theorem Sch.state_none {S : Sch} {t : Int} (h : S.waits = true → ¬ S.due ≤ t) (hT : S.tail = none) : S.state t = if S.has = true then gst S.oper.base S.oper.cyc S.oper.es t else 255 := by
  unfold Sch.state
  rw [if_neg (fun x => h x.1 x.2), hT]

theorem Sch.state_tail {S : Sch} {t f : Int} (h : S.waits = true → ¬ S.due ≤ t) (hT : S.tail = some f) : S.state t = if f ≤ t then gst S.oper.base S.oper.cyc S.oper.es (f - 1) else if S.has = true then gst S.oper.base S.oper.cyc S.oper.es t else 255 := by
  unfold Sch.state
  rw [if_neg (fun x => h x.1 x.2), hT]

theorem Sch.next_of {S : Sch} {t n : Int} (h : S.waits = true → ¬ S.due ≤ t) (hn : S.pre t = n) : S.next t = if S.waits = true ∧ (n < 0 ∨ S.due < n) then S.due else n := by
  unfold Sch.next
  rw [if_neg (fun x => h x.1 x.2), hn]

theorem Sch.next_n {S : Sch} {t : Int} (h : S.waits = true → ¬ S.due ≤ t) (hT : S.tail = none) (hh : S.has = false) : S.next t = if S.waits = true ∧ ((-1 : Int) < 0 ∨ S.due < -1) then S.due else -1 :=
  Sch.next_of h (by unfold Sch.pre; rw [hT]; simp [hh])

theorem Sch.next_g {S : Sch} {t : Int} (h : S.waits = true → ¬ S.due ≤ t) (hT : S.tail = none) (hh : S.has = true) : S.next t = if S.waits = true ∧ (gnx S.oper.base S.oper.cyc S.oper.es t < 0 ∨ S.due < gnx S.oper.base S.oper.cyc S.oper.es t) then S.due else gnx S.oper.base S.oper.cyc S.oper.es t :=
  Sch.next_of h (by unfold Sch.pre; rw [hT]; simp [hh])

theorem Sch.next_l {S : Sch} {t f : Int} (h : S.waits = true → ¬ S.due ≤ t) (hT : S.tail = some f) (hf : f ≤ t) : S.next t = if S.waits = true ∧ ((-1 : Int) < 0 ∨ S.due < -1) then S.due else -1 :=
  Sch.next_of h (by unfold Sch.pre; rw [hT]; simp [hf])

theorem Sch.next_b {S : Sch} {t f : Int} (h : S.waits = true → ¬ S.due ≤ t) (hT : S.tail = some f) (hf : ¬ f ≤ t) (hh : S.has = true) (hn : f < gnx S.oper.base S.oper.cyc S.oper.es t) : S.next t = if S.waits = true ∧ (f < 0 ∨ S.due < f) then S.due else f :=
  Sch.next_of h (by unfold Sch.pre; rw [hT]; simp [hf, hh, hn])

theorem Sch.next_c {S : Sch} {t f : Int} (h : S.waits = true → ¬ S.due ≤ t) (hT : S.tail = some f) (hf : ¬ f ≤ t) (hh : S.has = true) (hn : ¬ f < gnx S.oper.base S.oper.cyc S.oper.es t) : S.next t = if S.waits = true ∧ (gnx S.oper.base S.oper.cyc S.oper.es t < 0 ∨ S.due < gnx S.oper.base S.oper.cyc S.oper.es t) then S.due else gnx S.oper.base S.oper.cyc S.oper.es t :=
  Sch.next_of h (by unfold Sch.pre; rw [hT]; simp [hf, hh, hn])

theorem Sch.tail_ge {S : Sch} {f : Int} (hT : S.tail = some f) (hb : 0 ≤ S.oper.base) (hc : 1 ≤ S.oper.cyc) : 0 ≤ f := by
  unfold Sch.tail at hT
  split at hT
  · rename_i h
    simp only at hT
    split at hT
    · cases hT
    · injection hT with hT
      have h1 : 0 ≤ (S.due - S.oper.base).tdiv S.oper.cyc := Int.tdiv_nonneg (by omega) (by omega)
      have h2 : 0 ≤ (S.due - S.oper.base).tdiv S.oper.cyc * S.oper.cyc := Int.mul_nonneg h1 (by omega)
      omega
  · cases hT

theorem gnx_ge {base cyc : Int} {es : List Ent} {t : Int} (hb : 0 ≤ base) (hc : 1 ≤ cyc) : 0 ≤ gnx base cyc es t := by
  by_cases h : t < base
  · unfold gnx; rw [if_pos h]; exact hb
  · have := (gnx_range (es := es) hc (Int.not_lt.1 h)).1
    omega

theorem Sch.tail_some {S : Sch} {f : Int} (hT : S.tail = some f) : S.waits = true ∧ S.has = true := by
  unfold Sch.tail at hT
  split at hT
  · rename_i h
    exact ⟨h.1, h.2.1⟩
  · cases hT

set_option maxRecDepth 100000 in
set_option maxHeartbeats 4000000 in
theorem state_ok {w : World} {p : Nat} {S : Sch} (h : SchAt w p S) (hg : SchGood S) (t : Int) (ht : t ≤ 9000000000000000000) :
    Calls Try.prog 90 #[.pointer (some ⟨p, 0, none⟩), .int .i64 t] w (fun e w' => e = .returned (.int .i64 (S.state t)) ∧ Keeps Nothing w w') := by
  obtain ⟨⟨ob, oc, ox, oA, ocap, oes⟩, ⟨ab, ac, ax, aA, acap, aes⟩, has, waits, due, chg, rep⟩ := S
  have hB : Blk w p [.int .i64 ob, .int .i64 oc, .int .i64 ox, .slice oA oes.length ocap, .int .i64 ab, .int .i64 ac, .int .i64 ax, .slice aA aes.length acap, .bool has, .bool waits, .int .i64 due, .int .i64 chg, .int .i64 rep] 77 := h.blk
  have HS := Lib.hid h
  have HG := Lib.hid hg
  have C60 := fun v (hv : Keeps Nothing w v) => moved_ok (HS.out.same hv)
  have C61 := fun v (hv : Keeps Nothing w v) => tail_ok (HS.out.same hv) HG.out
  have s0 : w.cell? ⟨p, 0, none⟩ = some (.int .i64 ob) := hB.cell 0
  have s1 : w.cell? ⟨p, 1, none⟩ = some (.int .i64 oc) := hB.cell 1
  have s2 : w.cell? ⟨p, 2, none⟩ = some (.int .i64 ox) := hB.cell 2
  have s3 : w.cell? ⟨p, 3, none⟩ = some (.slice oA oes.length ocap) := hB.cell 3
  have s4 : w.cell? ⟨p, 4, none⟩ = some (.int .i64 ab) := hB.cell 4
  have s5 : w.cell? ⟨p, 5, none⟩ = some (.int .i64 ac) := hB.cell 5
  have s6 : w.cell? ⟨p, 6, none⟩ = some (.int .i64 ax) := hB.cell 6
  have s7 : w.cell? ⟨p, 7, none⟩ = some (.slice aA aes.length acap) := hB.cell 7
  have s8 : w.cell? ⟨p, 8, none⟩ = some (.bool has) := hB.cell 8
  have s9 : w.cell? ⟨p, 9, none⟩ = some (.bool waits) := hB.cell 9
  have s10 : w.cell? ⟨p, 10, none⟩ = some (.int .i64 due) := hB.cell 10
  have s11 : w.cell? ⟨p, 11, none⟩ = some (.int .i64 chg) := hB.cell 11
  have s12 : w.cell? ⟨p, 12, none⟩ = some (.int .i64 rep) := hB.cell 12
  clear h hB hg
  cases waits
  · have HN : Hid (¬ (false = true ∧ due ≤ t)) := fun h => by cases h.1
    clear C60
    go_enter Try.func90, Try.ntmps90
    go_upto_region 4 with (go_at_call 94; refine (C61 _ (Keeps.refl _ _)).mono ?_; rintro e w2 ⟨f, o, b, rfl, hT, ho, hk2⟩; clear C61; have hB2 := HS.out.blk.keeps hk2 (fun h => h); have s0 : w2.cell? ⟨p, 0, none⟩ = some (.int .i64 ob) := hB2.cell 0; have s1 : w2.cell? ⟨p, 1, none⟩ = some (.int .i64 oc) := hB2.cell 1; have s2 : w2.cell? ⟨p, 2, none⟩ = some (.int .i64 ox) := hB2.cell 2; have s3 : w2.cell? ⟨p, 3, none⟩ = some (.slice oA oes.length ocap) := hB2.cell 3; have s4 : w2.cell? ⟨p, 4, none⟩ = some (.int .i64 ab) := hB2.cell 4; have s5 : w2.cell? ⟨p, 5, none⟩ = some (.int .i64 ac) := hB2.cell 5; have s6 : w2.cell? ⟨p, 6, none⟩ = some (.int .i64 ax) := hB2.cell 6; have s7 : w2.cell? ⟨p, 7, none⟩ = some (.slice aA aes.length acap) := hB2.cell 7; have s8 : w2.cell? ⟨p, 8, none⟩ = some (.bool has) := hB2.cell 8; have s9 : w2.cell? ⟨p, 9, none⟩ = some (.bool false) := hB2.cell 9; have s10 : w2.cell? ⟨p, 10, none⟩ = some (.int .i64 due) := hB2.cell 10; have s11 : w2.cell? ⟨p, 11, none⟩ = some (.int .i64 chg) := hB2.cell 11; have s12 : w2.cell? ⟨p, 12, none⟩ = some (.int .i64 rep) := hB2.cell 12; clear hB2)
    have HT := Lib.hid hT
    have HO := Lib.hid ho
    clear hT ho
    cases b
    · have hT2 : Sch.tail (⟨⟨ob, oc, ox, oA, ocap, oes⟩, ⟨ab, ac, ax, aA, acap, aes⟩, has, false, due, chg, rep⟩ : Sch) = none := HT.out
      cases has
      · have HV := Lib.hid (Sch.state_none (S := (⟨⟨ob, oc, ox, oA, ocap, oes⟩, ⟨ab, ac, ax, aA, acap, aes⟩, false, false, due, chg, rep⟩ : Sch)) (t := t) (fun h => by cases h) hT2)
        clear hT2 HT HO
        go_wp2_with fail
        go_ret
        exact ⟨by rw [HV.out]; rfl, hk2⟩
      · have HV := Lib.hid (Sch.state_none (S := (⟨⟨ob, oc, ox, oA, ocap, oes⟩, ⟨ab, ac, ax, aA, acap, aes⟩, true, false, due, chg, rep⟩ : Sch)) (t := t) (fun h => by cases h) hT2)
        have C := fun v (hv : Keeps Nothing w2 v) => gstate_ok (HS.out.oper.1.same (hk2.same hv)) (HG.out.oper rfl) t ht
        clear hT2 HT HO
        go_wp2_with (go_at_call 92; refine (C _ (Keeps.refl _ _)).mono ?_; rintro e w3 ⟨rfl, hk3⟩; clear C)
        go_ret
        exact ⟨by rw [HV.out]; rfl, hk2.same hk3⟩
    · have hT2 : Sch.tail (⟨⟨ob, oc, ox, oA, ocap, oes⟩, ⟨ab, ac, ax, aA, acap, aes⟩, has, false, due, chg, rep⟩ : Sch) = some f := HT.out
      have ho2 : o = gst ob oc oes (f - 1) := HO.out rfl
      by_cases hf : f ≤ t
      · have HV := Lib.hid ((Sch.state_tail (S := (⟨⟨ob, oc, ox, oA, ocap, oes⟩, ⟨ab, ac, ax, aA, acap, aes⟩, has, false, due, chg, rep⟩ : Sch)) (t := t) (fun h => by cases h) hT2).trans ((if_pos hf).trans ho2.symm))
        clear hT2 HT HO ho2
        go_wp2_with fail
        go_ret
        exact ⟨by rw [HV.out]; rfl, hk2⟩
      · have hf' : decide (f ≤ t) = false := by simpa using hf
        cases has
        · have HV := Lib.hid ((Sch.state_tail (S := (⟨⟨ob, oc, ox, oA, ocap, oes⟩, ⟨ab, ac, ax, aA, acap, aes⟩, false, false, due, chg, rep⟩ : Sch)) (t := t) (fun h => by cases h) hT2).trans (if_neg hf))
          clear hT2 HT HO ho2
          go_wp2_with fail
          go_ret
          exact ⟨by rw [HV.out]; rfl, hk2⟩
        · have HV := Lib.hid ((Sch.state_tail (S := (⟨⟨ob, oc, ox, oA, ocap, oes⟩, ⟨ab, ac, ax, aA, acap, aes⟩, true, false, due, chg, rep⟩ : Sch)) (t := t) (fun h => by cases h) hT2).trans (if_neg hf))
          have C := fun v (hv : Keeps Nothing w2 v) => gstate_ok (HS.out.oper.1.same (hk2.same hv)) (HG.out.oper rfl) t ht
          clear hT2 HT HO ho2
          go_wp2_with (go_at_call 92; refine (C _ (Keeps.refl _ _)).mono ?_; rintro e w3 ⟨rfl, hk3⟩; clear C)
          go_ret
          exact ⟨by rw [HV.out]; rfl, hk2.same hk3⟩
  · by_cases hd : due ≤ t
    · have HV : Hid (Sch.state (⟨⟨ob, oc, ox, oA, ocap, oes⟩, ⟨ab, ac, ax, aA, acap, aes⟩, has, true, due, chg, rep⟩ : Sch) t = gst due ac aes t) := by show _ = _; unfold Sch.state; rw [if_pos ⟨rfl, hd⟩]
      have C := fun v (hv : Keeps Nothing w v) => gstate_ok (HS.out.admin.1.same hv) (HG.out.admin rfl) t ht
      clear C61
      go_enter Try.func90, Try.ntmps90
      go_wp2_with (first | (go_at_call 93; refine (C60 _ (Keeps.refl _ _)).mono ?_; rintro e w2 ⟨rfl, hk2⟩; clear C60) | (go_at_call 92; refine (C _ hk2).mono ?_; rintro e w3 ⟨rfl, hk3⟩; clear C))
      go_ret
      exact ⟨by rw [HV.out]; rfl, hk2.same hk3⟩
    · have HN : Hid (¬ (true = true ∧ due ≤ t)) := fun h => hd h.2
      have hd' : decide (due ≤ t) = false := by simpa using hd
      clear C60
      go_enter Try.func90, Try.ntmps90
      go_upto_region 4 with (go_at_call 94; refine (C61 _ (Keeps.refl _ _)).mono ?_; rintro e w2 ⟨f, o, b, rfl, hT, ho, hk2⟩; clear C61; have hB2 := HS.out.blk.keeps hk2 (fun h => h); have s0 : w2.cell? ⟨p, 0, none⟩ = some (.int .i64 ob) := hB2.cell 0; have s1 : w2.cell? ⟨p, 1, none⟩ = some (.int .i64 oc) := hB2.cell 1; have s2 : w2.cell? ⟨p, 2, none⟩ = some (.int .i64 ox) := hB2.cell 2; have s3 : w2.cell? ⟨p, 3, none⟩ = some (.slice oA oes.length ocap) := hB2.cell 3; have s4 : w2.cell? ⟨p, 4, none⟩ = some (.int .i64 ab) := hB2.cell 4; have s5 : w2.cell? ⟨p, 5, none⟩ = some (.int .i64 ac) := hB2.cell 5; have s6 : w2.cell? ⟨p, 6, none⟩ = some (.int .i64 ax) := hB2.cell 6; have s7 : w2.cell? ⟨p, 7, none⟩ = some (.slice aA aes.length acap) := hB2.cell 7; have s8 : w2.cell? ⟨p, 8, none⟩ = some (.bool has) := hB2.cell 8; have s9 : w2.cell? ⟨p, 9, none⟩ = some (.bool true) := hB2.cell 9; have s10 : w2.cell? ⟨p, 10, none⟩ = some (.int .i64 due) := hB2.cell 10; have s11 : w2.cell? ⟨p, 11, none⟩ = some (.int .i64 chg) := hB2.cell 11; have s12 : w2.cell? ⟨p, 12, none⟩ = some (.int .i64 rep) := hB2.cell 12; clear hB2)
      have HT := Lib.hid hT
      have HO := Lib.hid ho
      clear hT ho
      cases b
      · have hT2 : Sch.tail (⟨⟨ob, oc, ox, oA, ocap, oes⟩, ⟨ab, ac, ax, aA, acap, aes⟩, has, true, due, chg, rep⟩ : Sch) = none := HT.out
        cases has
        · have HV := Lib.hid (Sch.state_none (S := (⟨⟨ob, oc, ox, oA, ocap, oes⟩, ⟨ab, ac, ax, aA, acap, aes⟩, false, true, due, chg, rep⟩ : Sch)) (t := t) (fun _ => by show ¬ due ≤ t; omega) hT2)
          clear hT2 HT HO
          go_wp2_with fail
          go_ret
          exact ⟨by rw [HV.out]; rfl, hk2⟩
        · have HV := Lib.hid (Sch.state_none (S := (⟨⟨ob, oc, ox, oA, ocap, oes⟩, ⟨ab, ac, ax, aA, acap, aes⟩, true, true, due, chg, rep⟩ : Sch)) (t := t) (fun _ => by show ¬ due ≤ t; omega) hT2)
          have C := fun v (hv : Keeps Nothing w2 v) => gstate_ok (HS.out.oper.1.same (hk2.same hv)) (HG.out.oper rfl) t ht
          clear hT2 HT HO
          go_wp2_with (go_at_call 92; refine (C _ (Keeps.refl _ _)).mono ?_; rintro e w3 ⟨rfl, hk3⟩; clear C)
          go_ret
          exact ⟨by rw [HV.out]; rfl, hk2.same hk3⟩
      · have hT2 : Sch.tail (⟨⟨ob, oc, ox, oA, ocap, oes⟩, ⟨ab, ac, ax, aA, acap, aes⟩, has, true, due, chg, rep⟩ : Sch) = some f := HT.out
        have ho2 : o = gst ob oc oes (f - 1) := HO.out rfl
        by_cases hf : f ≤ t
        · have HV := Lib.hid ((Sch.state_tail (S := (⟨⟨ob, oc, ox, oA, ocap, oes⟩, ⟨ab, ac, ax, aA, acap, aes⟩, has, true, due, chg, rep⟩ : Sch)) (t := t) (fun _ => by show ¬ due ≤ t; omega) hT2).trans ((if_pos hf).trans ho2.symm))
          clear hT2 HT HO ho2
          go_wp2_with fail
          go_ret
          exact ⟨by rw [HV.out]; rfl, hk2⟩
        · have hf' : decide (f ≤ t) = false := by simpa using hf
          cases has
          · have HV := Lib.hid ((Sch.state_tail (S := (⟨⟨ob, oc, ox, oA, ocap, oes⟩, ⟨ab, ac, ax, aA, acap, aes⟩, false, true, due, chg, rep⟩ : Sch)) (t := t) (fun _ => by show ¬ due ≤ t; omega) hT2).trans (if_neg hf))
            clear hT2 HT HO ho2
            go_wp2_with fail
            go_ret
            exact ⟨by rw [HV.out]; rfl, hk2⟩
          · have HV := Lib.hid ((Sch.state_tail (S := (⟨⟨ob, oc, ox, oA, ocap, oes⟩, ⟨ab, ac, ax, aA, acap, aes⟩, true, true, due, chg, rep⟩ : Sch)) (t := t) (fun _ => by show ¬ due ≤ t; omega) hT2).trans (if_neg hf))
            have C := fun v (hv : Keeps Nothing w2 v) => gstate_ok (HS.out.oper.1.same (hk2.same hv)) (HG.out.oper rfl) t ht
            clear hT2 HT HO ho2
            go_wp2_with (go_at_call 92; refine (C _ (Keeps.refl _ _)).mono ?_; rintro e w3 ⟨rfl, hk3⟩; clear C)
            go_ret
            exact ⟨by rw [HV.out]; rfl, hk2.same hk3⟩

set_option maxRecDepth 100000 in
set_option maxHeartbeats 4000000 in
theorem next_ok {w : World} {p : Nat} {S : Sch} (h : SchAt w p S) (hg : SchGood S) (t : Int) (ht : t ≤ 9000000000000000000) :
    Calls Try.prog 95 #[.pointer (some ⟨p, 0, none⟩), .int .i64 t] w (fun e w' => e = .returned (.int .i64 (S.next t)) ∧ Keeps Nothing w w') := by
  obtain ⟨⟨ob, oc, ox, oA, ocap, oes⟩, ⟨ab, ac, ax, aA, acap, aes⟩, has, waits, due, chg, rep⟩ := S
  have hB : Blk w p [.int .i64 ob, .int .i64 oc, .int .i64 ox, .slice oA oes.length ocap, .int .i64 ab, .int .i64 ac, .int .i64 ax, .slice aA aes.length acap, .bool has, .bool waits, .int .i64 due, .int .i64 chg, .int .i64 rep] 77 := h.blk
  have HS := Lib.hid h
  have HG := Lib.hid hg
  have C60 := fun v (hv : Keeps Nothing w v) => moved_ok (HS.out.same hv)
  have C61 := fun v (hv : Keeps Nothing w v) => tail_ok (HS.out.same hv) HG.out
  have s0 : w.cell? ⟨p, 0, none⟩ = some (.int .i64 ob) := hB.cell 0
  have s1 : w.cell? ⟨p, 1, none⟩ = some (.int .i64 oc) := hB.cell 1
  have s2 : w.cell? ⟨p, 2, none⟩ = some (.int .i64 ox) := hB.cell 2
  have s3 : w.cell? ⟨p, 3, none⟩ = some (.slice oA oes.length ocap) := hB.cell 3
  have s4 : w.cell? ⟨p, 4, none⟩ = some (.int .i64 ab) := hB.cell 4
  have s5 : w.cell? ⟨p, 5, none⟩ = some (.int .i64 ac) := hB.cell 5
  have s6 : w.cell? ⟨p, 6, none⟩ = some (.int .i64 ax) := hB.cell 6
  have s7 : w.cell? ⟨p, 7, none⟩ = some (.slice aA aes.length acap) := hB.cell 7
  have s8 : w.cell? ⟨p, 8, none⟩ = some (.bool has) := hB.cell 8
  have s9 : w.cell? ⟨p, 9, none⟩ = some (.bool waits) := hB.cell 9
  have s10 : w.cell? ⟨p, 10, none⟩ = some (.int .i64 due) := hB.cell 10
  have s11 : w.cell? ⟨p, 11, none⟩ = some (.int .i64 chg) := hB.cell 11
  have s12 : w.cell? ⟨p, 12, none⟩ = some (.int .i64 rep) := hB.cell 12
  clear h hB hg
  cases waits
  · clear C60
    go_enter Try.func95, Try.ntmps95
    go_upto_region 5 with (go_at_call 94; refine (C61 _ (Keeps.refl _ _)).mono ?_; rintro e w2 ⟨f, o, b, rfl, hT, ho, hk2⟩; clear C61; have hB2 := HS.out.blk.keeps hk2 (fun h => h); have s0 : w2.cell? ⟨p, 0, none⟩ = some (.int .i64 ob) := hB2.cell 0; have s1 : w2.cell? ⟨p, 1, none⟩ = some (.int .i64 oc) := hB2.cell 1; have s2 : w2.cell? ⟨p, 2, none⟩ = some (.int .i64 ox) := hB2.cell 2; have s3 : w2.cell? ⟨p, 3, none⟩ = some (.slice oA oes.length ocap) := hB2.cell 3; have s4 : w2.cell? ⟨p, 4, none⟩ = some (.int .i64 ab) := hB2.cell 4; have s5 : w2.cell? ⟨p, 5, none⟩ = some (.int .i64 ac) := hB2.cell 5; have s6 : w2.cell? ⟨p, 6, none⟩ = some (.int .i64 ax) := hB2.cell 6; have s7 : w2.cell? ⟨p, 7, none⟩ = some (.slice aA aes.length acap) := hB2.cell 7; have s8 : w2.cell? ⟨p, 8, none⟩ = some (.bool has) := hB2.cell 8; have s9 : w2.cell? ⟨p, 9, none⟩ = some (.bool false) := hB2.cell 9; have s10 : w2.cell? ⟨p, 10, none⟩ = some (.int .i64 due) := hB2.cell 10; have s11 : w2.cell? ⟨p, 11, none⟩ = some (.int .i64 chg) := hB2.cell 11; have s12 : w2.cell? ⟨p, 12, none⟩ = some (.int .i64 rep) := hB2.cell 12; clear hB2)
    have HT := Lib.hid hT
    clear hT ho
    have C := fun (hh : has = true) v (hv : Keeps Nothing w2 v) => gnext_ok (HS.out.oper.1.same (hk2.same hv)) (HG.out.oper hh) t ht
    have HC := Lib.hid C
    clear C
    cases b
    · have hT2 : Sch.tail (⟨⟨ob, oc, ox, oA, ocap, oes⟩, ⟨ab, ac, ax, aA, acap, aes⟩, has, false, due, chg, rep⟩ : Sch) = none := HT.out
      cases has
      · have HV := Lib.hid (Sch.next_n (S := (⟨⟨ob, oc, ox, oA, ocap, oes⟩, ⟨ab, ac, ax, aA, acap, aes⟩, false, false, due, chg, rep⟩ : Sch)) (t := t) (fun h => by cases h) hT2 rfl)
        clear hT2 HT HC
        go_wp2_with fail
        go_ret
        exact ⟨by rw [HV.out]; rfl, hk2⟩
      · have HV := Lib.hid (Sch.next_g (S := (⟨⟨ob, oc, ox, oA, ocap, oes⟩, ⟨ab, ac, ax, aA, acap, aes⟩, true, false, due, chg, rep⟩ : Sch)) (t := t) (fun h => by cases h) hT2 rfl)
        have C := HC.out rfl
        have hge := gnx_ge (base := ob) (cyc := oc) (es := oes) (t := t) (HG.out.oper rfl).b0 (HG.out.oper rfl).c0
        clear hT2 HT HC
        go_upto_region 8 with (go_at_call 97; refine (C _ (Keeps.refl _ _)).mono ?_; rintro e w3 ⟨rfl, hk3⟩; clear C; have hB3 := HS.out.blk.keeps (hk2.same hk3) (fun h => h); have s0 : w3.cell? ⟨p, 0, none⟩ = some (.int .i64 ob) := hB3.cell 0; have s1 : w3.cell? ⟨p, 1, none⟩ = some (.int .i64 oc) := hB3.cell 1; have s2 : w3.cell? ⟨p, 2, none⟩ = some (.int .i64 ox) := hB3.cell 2; have s3 : w3.cell? ⟨p, 3, none⟩ = some (.slice oA oes.length ocap) := hB3.cell 3; have s4 : w3.cell? ⟨p, 4, none⟩ = some (.int .i64 ab) := hB3.cell 4; have s5 : w3.cell? ⟨p, 5, none⟩ = some (.int .i64 ac) := hB3.cell 5; have s6 : w3.cell? ⟨p, 6, none⟩ = some (.int .i64 ax) := hB3.cell 6; have s7 : w3.cell? ⟨p, 7, none⟩ = some (.slice aA aes.length acap) := hB3.cell 7; have s8 : w3.cell? ⟨p, 8, none⟩ = some (.bool true) := hB3.cell 8; have s9 : w3.cell? ⟨p, 9, none⟩ = some (.bool false) := hB3.cell 9; have s10 : w3.cell? ⟨p, 10, none⟩ = some (.int .i64 due) := hB3.cell 10; have s11 : w3.cell? ⟨p, 11, none⟩ = some (.int .i64 chg) := hB3.cell 11; have s12 : w3.cell? ⟨p, 12, none⟩ = some (.int .i64 rep) := hB3.cell 12; clear hB3)
        generalize gnx ob oc oes t = N at *
        go_wp2_with fail
        go_ret
        exact ⟨by rw [HV.out]; rfl, hk2.same hk3⟩
    · have hT2 : Sch.tail (⟨⟨ob, oc, ox, oA, ocap, oes⟩, ⟨ab, ac, ax, aA, acap, aes⟩, has, false, due, chg, rep⟩ : Sch) = some f := HT.out
      obtain ⟨hx, hh⟩ := Sch.tail_some hT2
      cases hx
  · by_cases hd : due ≤ t
    · have HV : Hid (Sch.next (⟨⟨ob, oc, ox, oA, ocap, oes⟩, ⟨ab, ac, ax, aA, acap, aes⟩, has, true, due, chg, rep⟩ : Sch) t = gnx due ac aes t) := by show _ = _; unfold Sch.next; rw [if_pos ⟨rfl, hd⟩]
      have C := fun v (hv : Keeps Nothing w v) => gnext_ok (HS.out.admin.1.same hv) (HG.out.admin rfl) t ht
      clear C61
      go_enter Try.func95, Try.ntmps95
      go_wp2_with (first | (go_at_call 93; refine (C60 _ (Keeps.refl _ _)).mono ?_; rintro e w2 ⟨rfl, hk2⟩; clear C60) | (go_at_call 97; refine (C _ hk2).mono ?_; rintro e w3 ⟨rfl, hk3⟩; clear C))
      go_ret
      exact ⟨by rw [HV.out]; rfl, hk2.same hk3⟩
    · have hd' : decide (due ≤ t) = false := by simpa using hd
      clear C60
      go_enter Try.func95, Try.ntmps95
      go_upto_region 5 with (go_at_call 94; refine (C61 _ (Keeps.refl _ _)).mono ?_; rintro e w2 ⟨f, o, b, rfl, hT, ho, hk2⟩; clear C61; have hB2 := HS.out.blk.keeps hk2 (fun h => h); have s0 : w2.cell? ⟨p, 0, none⟩ = some (.int .i64 ob) := hB2.cell 0; have s1 : w2.cell? ⟨p, 1, none⟩ = some (.int .i64 oc) := hB2.cell 1; have s2 : w2.cell? ⟨p, 2, none⟩ = some (.int .i64 ox) := hB2.cell 2; have s3 : w2.cell? ⟨p, 3, none⟩ = some (.slice oA oes.length ocap) := hB2.cell 3; have s4 : w2.cell? ⟨p, 4, none⟩ = some (.int .i64 ab) := hB2.cell 4; have s5 : w2.cell? ⟨p, 5, none⟩ = some (.int .i64 ac) := hB2.cell 5; have s6 : w2.cell? ⟨p, 6, none⟩ = some (.int .i64 ax) := hB2.cell 6; have s7 : w2.cell? ⟨p, 7, none⟩ = some (.slice aA aes.length acap) := hB2.cell 7; have s8 : w2.cell? ⟨p, 8, none⟩ = some (.bool has) := hB2.cell 8; have s9 : w2.cell? ⟨p, 9, none⟩ = some (.bool true) := hB2.cell 9; have s10 : w2.cell? ⟨p, 10, none⟩ = some (.int .i64 due) := hB2.cell 10; have s11 : w2.cell? ⟨p, 11, none⟩ = some (.int .i64 chg) := hB2.cell 11; have s12 : w2.cell? ⟨p, 12, none⟩ = some (.int .i64 rep) := hB2.cell 12; clear hB2)
      have HT := Lib.hid hT
      clear hT ho
      have C := fun (hh : has = true) v (hv : Keeps Nothing w2 v) => gnext_ok (HS.out.oper.1.same (hk2.same hv)) (HG.out.oper hh) t ht
      have HC := Lib.hid C
      clear C
      cases b
      · have hT2 : Sch.tail (⟨⟨ob, oc, ox, oA, ocap, oes⟩, ⟨ab, ac, ax, aA, acap, aes⟩, has, true, due, chg, rep⟩ : Sch) = none := HT.out
        cases has
        · have HV := Lib.hid (Sch.next_n (S := (⟨⟨ob, oc, ox, oA, ocap, oes⟩, ⟨ab, ac, ax, aA, acap, aes⟩, false, true, due, chg, rep⟩ : Sch)) (t := t) (fun _ => by show ¬ due ≤ t; omega) hT2 rfl)
          clear hT2 HT HC
          go_wp2_with fail
          go_ret
          exact ⟨by rw [HV.out]; rfl, hk2⟩
        · have HV := Lib.hid (Sch.next_g (S := (⟨⟨ob, oc, ox, oA, ocap, oes⟩, ⟨ab, ac, ax, aA, acap, aes⟩, true, true, due, chg, rep⟩ : Sch)) (t := t) (fun _ => by show ¬ due ≤ t; omega) hT2 rfl)
          have C := HC.out rfl
          have hge := gnx_ge (base := ob) (cyc := oc) (es := oes) (t := t) (HG.out.oper rfl).b0 (HG.out.oper rfl).c0
          clear hT2 HT HC
          go_upto_region 8 with (go_at_call 97; refine (C _ (Keeps.refl _ _)).mono ?_; rintro e w3 ⟨rfl, hk3⟩; clear C; have hB3 := HS.out.blk.keeps (hk2.same hk3) (fun h => h); have s0 : w3.cell? ⟨p, 0, none⟩ = some (.int .i64 ob) := hB3.cell 0; have s1 : w3.cell? ⟨p, 1, none⟩ = some (.int .i64 oc) := hB3.cell 1; have s2 : w3.cell? ⟨p, 2, none⟩ = some (.int .i64 ox) := hB3.cell 2; have s3 : w3.cell? ⟨p, 3, none⟩ = some (.slice oA oes.length ocap) := hB3.cell 3; have s4 : w3.cell? ⟨p, 4, none⟩ = some (.int .i64 ab) := hB3.cell 4; have s5 : w3.cell? ⟨p, 5, none⟩ = some (.int .i64 ac) := hB3.cell 5; have s6 : w3.cell? ⟨p, 6, none⟩ = some (.int .i64 ax) := hB3.cell 6; have s7 : w3.cell? ⟨p, 7, none⟩ = some (.slice aA aes.length acap) := hB3.cell 7; have s8 : w3.cell? ⟨p, 8, none⟩ = some (.bool true) := hB3.cell 8; have s9 : w3.cell? ⟨p, 9, none⟩ = some (.bool true) := hB3.cell 9; have s10 : w3.cell? ⟨p, 10, none⟩ = some (.int .i64 due) := hB3.cell 10; have s11 : w3.cell? ⟨p, 11, none⟩ = some (.int .i64 chg) := hB3.cell 11; have s12 : w3.cell? ⟨p, 12, none⟩ = some (.int .i64 rep) := hB3.cell 12; clear hB3)
          generalize gnx ob oc oes t = N at *
          have q1 : decide (N < 0) = false := by simp; omega
          by_cases h2 : due < N
          · go_wp2_with fail
            go_ret
            exact ⟨by rw [HV.out, if_pos (by first | exact ⟨rfl, .inr h2⟩ | exact ⟨trivial, .inr h2⟩)]; rfl, hk2.same hk3⟩
          · have q2 : decide (due < N) = false := by simpa using h2
            go_wp2_with fail
            go_ret
            exact ⟨by rw [HV.out, if_neg (by rintro ⟨-, h⟩; (try simp only at h); omega)]; rfl, hk2.same hk3⟩
      · have hT2 : Sch.tail (⟨⟨ob, oc, ox, oA, ocap, oes⟩, ⟨ab, ac, ax, aA, acap, aes⟩, has, true, due, chg, rep⟩ : Sch) = some f := HT.out
        obtain ⟨hx, hh⟩ := Sch.tail_some hT2
        have hh' : has = true := hh
        subst hh'
        clear hx hh
        by_cases hf : f ≤ t
        · have HV := Lib.hid (Sch.next_l (S := (⟨⟨ob, oc, ox, oA, ocap, oes⟩, ⟨ab, ac, ax, aA, acap, aes⟩, true, true, due, chg, rep⟩ : Sch)) (t := t) (fun _ => by show ¬ due ≤ t; omega) hT2 hf)
          clear hT2 HT HC
          go_wp2_with fail
          go_ret
          exact ⟨by rw [HV.out]; rfl, hk2⟩
        · have hf' : decide (f ≤ t) = false := by simpa using hf
          have hge := gnx_ge (base := ob) (cyc := oc) (es := oes) (t := t) (HG.out.oper rfl).b0 (HG.out.oper rfl).c0
          have HV1 := Lib.hid (fun hn => Sch.next_b (S := (⟨⟨ob, oc, ox, oA, ocap, oes⟩, ⟨ab, ac, ax, aA, acap, aes⟩, true, true, due, chg, rep⟩ : Sch)) (t := t) (fun _ => by show ¬ due ≤ t; omega) hT2 hf rfl hn)
          have HV2 := Lib.hid (fun hn => Sch.next_c (S := (⟨⟨ob, oc, ox, oA, ocap, oes⟩, ⟨ab, ac, ax, aA, acap, aes⟩, true, true, due, chg, rep⟩ : Sch)) (t := t) (fun _ => by show ¬ due ≤ t; omega) hT2 hf rfl hn)
          have hf0 : 0 ≤ f := Sch.tail_ge hT2 (HG.out.oper rfl).b0 (HG.out.oper rfl).c0
          have C := HC.out rfl
          clear hT2 HT HC
          go_upto_region 8 with (go_at_call 97; refine (C _ (Keeps.refl _ _)).mono ?_; rintro e w3 ⟨rfl, hk3⟩; clear C; have hB3 := HS.out.blk.keeps (hk2.same hk3) (fun h => h); have s0 : w3.cell? ⟨p, 0, none⟩ = some (.int .i64 ob) := hB3.cell 0; have s1 : w3.cell? ⟨p, 1, none⟩ = some (.int .i64 oc) := hB3.cell 1; have s2 : w3.cell? ⟨p, 2, none⟩ = some (.int .i64 ox) := hB3.cell 2; have s3 : w3.cell? ⟨p, 3, none⟩ = some (.slice oA oes.length ocap) := hB3.cell 3; have s4 : w3.cell? ⟨p, 4, none⟩ = some (.int .i64 ab) := hB3.cell 4; have s5 : w3.cell? ⟨p, 5, none⟩ = some (.int .i64 ac) := hB3.cell 5; have s6 : w3.cell? ⟨p, 6, none⟩ = some (.int .i64 ax) := hB3.cell 6; have s7 : w3.cell? ⟨p, 7, none⟩ = some (.slice aA aes.length acap) := hB3.cell 7; have s8 : w3.cell? ⟨p, 8, none⟩ = some (.bool true) := hB3.cell 8; have s9 : w3.cell? ⟨p, 9, none⟩ = some (.bool true) := hB3.cell 9; have s10 : w3.cell? ⟨p, 10, none⟩ = some (.int .i64 due) := hB3.cell 10; have s11 : w3.cell? ⟨p, 11, none⟩ = some (.int .i64 chg) := hB3.cell 11; have s12 : w3.cell? ⟨p, 12, none⟩ = some (.int .i64 rep) := hB3.cell 12; clear hB3)
          generalize gnx ob oc oes t = N at *
          by_cases hn : f < N
          · have HV := Lib.hid (HV1.out (by omega))
            clear HV1 HV2
            have q1 : decide (f < 0) = false := by simp; omega
            by_cases h2 : due < f
            · go_wp2_with fail
              go_ret
              exact ⟨by rw [HV.out, if_pos (by first | exact ⟨rfl, .inr h2⟩ | exact ⟨trivial, .inr h2⟩)]; rfl, hk2.same hk3⟩
            · have q2 : decide (due < f) = false := by simpa using h2
              go_wp2_with fail
              go_ret
              exact ⟨by rw [HV.out, if_neg (by rintro ⟨-, h⟩; (try simp only at h); omega)]; rfl, hk2.same hk3⟩
          · have hn' : decide (f < N) = false := by simpa using hn
            have HV := Lib.hid (HV2.out (by omega))
            clear HV1 HV2
            have q1 : decide (N < 0) = false := by simp; omega
            by_cases h2 : due < N
            · go_wp2_with fail
              go_ret
              exact ⟨by rw [HV.out, if_pos (by first | exact ⟨rfl, .inr h2⟩ | exact ⟨trivial, .inr h2⟩)]; rfl, hk2.same hk3⟩
            · have q2 : decide (due < N) = false := by simpa using h2
              go_wp2_with fail
              go_ret
              exact ⟨by rw [HV.out, if_neg (by rintro ⟨-, h⟩; (try simp only at h); omega)]; rfl, hk2.same hk3⟩
end

section
open Go.RowKit

def Sch.steps (S : Sch) : Int := 2 * ((S.oper.es.length : Int) + (S.admin.es.length : Int)) + 8

set_option maxRecDepth 100000 in
theorem steps_ok {w : World} {p : Nat} {S : Sch} (h : SchAt w p S) (h1 : S.oper.es.length ≤ 64) (h2 : S.admin.es.length ≤ 64) :
    Calls Try.prog 83 #[.pointer (some ⟨p, 0, none⟩)] w (fun e w' => e = .returned (.int .i64 S.steps) ∧ Keeps Nothing w w') := by
  obtain ⟨⟨ob, oc, ox, oA, ocap, oes⟩, ⟨ab, ac, ax, aA, acap, aes⟩, has, waits, due, chg, rep⟩ := S
  have hB : Blk w p [.int .i64 ob, .int .i64 oc, .int .i64 ox, .slice oA oes.length ocap, .int .i64 ab, .int .i64 ac, .int .i64 ax, .slice aA aes.length acap, .bool has, .bool waits, .int .i64 due, .int .i64 chg, .int .i64 rep] 77 := h.blk
  have s3 : w.cell? ⟨p, 3, none⟩ = some (.slice oA oes.length ocap) := hB.cell 3
  have s7 : w.cell? ⟨p, 7, none⟩ = some (.slice aA aes.length acap) := hB.cell 7
  simp only at h1 h2
  have hw1 : IntKind.i64.wrap ((oes.length : Int) + aes.length) = (oes.length : Int) + aes.length := by rw [IntKind.wrap_i64]; omega
  have hw2 : IntKind.i64.wrap (2 * ((oes.length : Int) + aes.length)) = 2 * ((oes.length : Int) + aes.length) := by rw [IntKind.wrap_i64]; omega
  have hw3 : IntKind.i64.wrap (2 * ((oes.length : Int) + aes.length) + 8) = 2 * ((oes.length : Int) + aes.length) + 8 := by rw [IntKind.wrap_i64]; omega
  clear h hB
  go_enter Try.func83, Try.ntmps83
  go_upto_region 1 with fail
  go_quiet (fail)
  go_wp2_with fail
  go_ret
  exact ⟨rfl, (Keeps.refl _ _).drewN _⟩
end

section
open Go.RowKit

/-- The edges of a cycle behind a time, but for its end. -/
def edGo (cyc : Int) : List Ent → Int → List Int
  | [], _ => []
  | [_], _ => []
  | e :: e' :: rest, a => (if a + e.nanos < cyc then [a + e.nanos] else []) ++ edGo cyc (e' :: rest) (a + e.nanos)

theorem edGo_none {cyc : Int} : ∀ (es : List Ent) (a : Int), (∀ e ∈ es, 1 ≤ e.nanos) → cyc ≤ a → edGo cyc es a = []
  | [], _, _, _ => rfl
  | [_], _, _, _ => rfl
  | e :: e' :: rest, a, h, ha => by
    have h1 := h e (by simp)
    rw [edGo, if_neg (by omega), edGo_none (e' :: rest) _ (fun x hx => h x (by simp at hx ⊢; exact .inr hx)) (by omega)]
    rfl

theorem find_edge {n : Nat} {cyc into : Int} (hi : into < cyc) : ∀ (es : List Ent) (i : Nat) (en : Int), i + es.length = n → (∀ e ∈ es, 1 ≤ e.nanos) →
    (edGo cyc es en ++ [cyc]).find? (fun x => decide (into < x)) = some (into + (atGo n cyc into es i en).2)
  | [], i, en, _, _ => by
    simp only [edGo, atGo, List.nil_append, List.find?_cons, decide_eq_true hi]
    congr 1
    omega
  | [e], i, en, hn, h => by
    simp at hn
    rw [atGo, if_neg (by omega)]
    simp only [edGo, List.nil_append, List.find?_cons, decide_eq_true hi]
    split
    · congr 1; omega
    · simp only [atGo]; congr 1; omega
  | e :: e' :: rest, i, en, hn, h => by
    have ih := find_edge (n := n) hi (e' :: rest) (i + 1) (en + e.nanos) (by simp at hn ⊢; omega) (fun x hx => h x (by simp at hx ⊢; exact .inr hx))
    simp at hn
    rw [atGo, edGo]
    by_cases h1 : en + e.nanos < cyc
    · rw [if_pos h1]
      by_cases h2 : into < en + e.nanos
      · rw [if_pos ⟨h2, by omega, h1⟩]
        simp only [List.cons_append, List.nil_append, List.find?_cons, decide_eq_true h2]
        congr 1
        omega
      · rw [if_neg (fun x => h2 x.1), if_neg (by omega)]
        simp only [List.cons_append, List.nil_append, List.find?_cons, decide_eq_false h2]
        exact ih
    · rw [if_neg h1, if_neg (fun x => h1 x.2.2), if_pos (by omega), edGo_none (e' :: rest) _ (fun x hx => h x (by simp at hx ⊢; exact .inr hx)) (by omega)]
      simp only [List.nil_append, List.find?_cons, decide_eq_true hi]
      congr 1
      omega

/-- The entry in force stays so up to the next edge. -/
theorem atGo_stays {n : Nat} {cyc into into' : Int} (h1 : into ≤ into') : ∀ (es : List Ent) (i : Nat) (en : Int), i + es.length = n → into' < into + (atGo n cyc into es i en).2 → (atGo n cyc into' es i en).1 = (atGo n cyc into es i en).1
  | [], i, en, _, _ => rfl
  | e :: rest, i, en, hn, h => by
    simp at hn
    rw [atGo] at h ⊢
    rw [atGo]
    by_cases c1 : into < en + e.nanos ∧ i + 1 < n ∧ en + e.nanos < cyc
    · rw [if_pos c1] at h ⊢
      simp only at h
      rw [if_pos ⟨by omega, c1.2⟩]
    · rw [if_neg c1] at h ⊢
      by_cases c2 : cyc ≤ en + e.nanos
      · rw [if_pos c2] at h ⊢
        rw [if_neg (by omega), if_pos c2]
      · rw [if_neg c2] at h ⊢
        rw [if_neg (by omega), if_neg c2]
        exact atGo_stays h1 rest (i + 1) _ (by omega) h

theorem atGo_left2 {n : Nat} {cyc into : Int} (h1 : into < cyc) : ∀ (es : List Ent) (i : Nat) (E : Int), (atGo n cyc into es i E).2 ≤ cyc - into
  | [], i, E => by simp only [atGo]; omega
  | e :: rest, i, E => by
    rw [atGo]
    split
    · simp only; omega
    · split
      · simp only; omega
      · exact atGo_left2 h1 rest (i + 1) _

theorem gst_stays {base cyc : Int} {es : List Ent} {t t' : Int} (hc : 1 ≤ cyc) (h1 : t ≤ t') (h2 : t' < gnx base cyc es t) : gst base cyc es t' = gst base cyc es t := by
  unfold gnx at h2
  unfold gst
  by_cases hb : t < base
  · rw [if_pos hb] at h2
    rw [if_pos hb, if_pos h2]
  · rw [if_neg hb] at h2
    rw [if_neg hb, if_neg (by omega)]
    obtain ⟨m0, m1⟩ := tmod_in (a := t - base) (c := cyc) (by omega) hc
    have hl := atGo_left2 m1 (n := es.length) es 0 0
    have he : (t' - base).tmod cyc = (t - base).tmod cyc + (t' - t) := by
      rw [Int.tmod_eq_emod_of_nonneg (by omega), Int.tmod_eq_emod_of_nonneg (by omega)]
      rw [Int.tmod_eq_emod_of_nonneg (by omega)] at m0 m1 hl h2
      have hd := Int.mul_ediv_add_emod (t - base) cyc
      have : t' - base = ((t - base) % cyc + (t' - t)) + cyc * ((t - base) / cyc) := by omega
      rw [this, Int.add_mul_emod_self_left]
      exact Int.emod_eq_of_lt (by omega) (by omega)
    rw [he, atGo_stays (into := (t - base).tmod cyc) (by omega) es 0 0 (by omega) (by omega)]

/-- The next edge of the list in force, or from when on the last cycle is longer: behind the time. -/
theorem Sch.pre_gt {S : Sch} (hg : SchGood S) (t : Int) (h0 : 0 ≤ S.pre t) (ht : 0 ≤ t) : t < S.pre t := by
  unfold Sch.pre at h0 ⊢
  have hx : S.has = true → t < gnx S.oper.base S.oper.cyc S.oper.es t := fun hh => by
    have g := hg.oper hh
    by_cases hb : t < S.oper.base
    · unfold gnx; rw [if_pos hb]; exact hb
    · have := (gnx_range (es := S.oper.es) g.c0 (Int.not_lt.1 hb)).1
      omega
  cases hT : S.tail with
  | none =>
    simp only [hT] at h0 ⊢
    by_cases hh : S.has = true
    · rw [if_pos hh]; exact hx hh
    · rw [if_neg hh] at h0; omega
  | some f =>
    simp only [hT] at h0 ⊢
    by_cases hf : f ≤ t
    · rw [if_pos hf] at h0; omega
    · rw [if_neg hf] at h0 ⊢
      have hh := (Sch.tail_some hT).2
      rw [if_pos hh]
      have := hx hh
      split <;> omega

theorem Sch.next_gt {S : Sch} (hg : SchGood S) (t : Int) (h0 : 0 ≤ S.next t) (ht : 0 ≤ t) : t < S.next t := by
  by_cases hw : S.waits = true ∧ S.due ≤ t
  · have e : S.next t = gnx S.due S.admin.cyc S.admin.es t := by unfold Sch.next; rw [if_pos hw]
    rw [e]
    have := (gnx_range (es := S.admin.es) (hg.admin hw.1).c0 hw.2).1
    omega
  · have e := Sch.next_of (S := S) (t := t) (n := S.pre t) (fun x y => hw ⟨x, y⟩) rfl
    rw [e] at h0 ⊢
    by_cases hp : S.waits = true ∧ (S.pre t < 0 ∨ S.due < S.pre t)
    · rw [if_pos hp]
      by_cases hd : S.due ≤ t
      · exact absurd ⟨hp.1, hd⟩ hw
      · omega
    · rw [if_neg hp] at h0 ⊢
      exact Sch.pre_gt hg t h0 ht

theorem Sch.stays {S : Sch} (hg : SchGood S) {t t' : Int} (h1 : t ≤ t') (h2 : S.next t < 0 ∨ t' < S.next t) : S.state t' = S.state t := by
  by_cases hw : S.waits = true ∧ S.due ≤ t
  · have g := hg.admin hw.1
    have e : S.next t = gnx S.due S.admin.cyc S.admin.es t := by unfold Sch.next; rw [if_pos hw]
    have e1 : S.state t = gst S.due S.admin.cyc S.admin.es t := by unfold Sch.state; rw [if_pos hw]
    have e2 : S.state t' = gst S.due S.admin.cyc S.admin.es t' := by unfold Sch.state; rw [if_pos ⟨hw.1, by omega⟩]
    rw [e] at h2
    have := gnx_ge (base := S.due) (cyc := S.admin.cyc) (es := S.admin.es) (t := t) g.b0 g.c0
    rw [e1, e2]
    exact gst_stays g.c0 h1 (by omega)
  · have e := Sch.next_of (S := S) (t := t) (n := S.pre t) (fun x y => hw ⟨x, y⟩) rfl
    rw [e] at h2
    have hW : S.waits = true → ¬ S.due ≤ t := fun x y => hw ⟨x, y⟩
    have hC : S.waits = true → ¬ S.due ≤ t' := fun x => by
      have := (hg.admin x).b0
      by_cases hp : S.waits = true ∧ (S.pre t < 0 ∨ S.due < S.pre t)
      · rw [if_pos hp] at h2; omega
      · rw [if_neg hp] at h2
        have : ¬ (S.pre t < 0 ∨ S.due < S.pre t) := fun y => hp ⟨x, y⟩
        omega
    have hD : S.pre t < 0 ∨ t' < S.pre t := by
      by_cases hp : S.waits = true ∧ (S.pre t < 0 ∨ S.due < S.pre t)
      · rw [if_pos hp] at h2
        have := (hg.admin hp.1).b0
        omega
      · rw [if_neg hp] at h2; exact h2
    cases hT : S.tail with
    | none =>
      rw [Sch.state_none hW hT, Sch.state_none hC hT]
      by_cases hh : S.has = true
      · have g := hg.oper hh
        have hp : S.pre t = gnx S.oper.base S.oper.cyc S.oper.es t := by unfold Sch.pre; simp only [hT]; rw [if_pos hh]
        have := gnx_ge (base := S.oper.base) (cyc := S.oper.cyc) (es := S.oper.es) (t := t) g.b0 g.c0
        rw [hp] at hD
        rw [if_pos hh, if_pos hh]
        exact gst_stays g.c0 h1 (by omega)
      · rw [if_neg hh, if_neg hh]
    | some f =>
      rw [Sch.state_tail hW hT, Sch.state_tail hC hT]
      by_cases hf : f ≤ t
      · rw [if_pos hf, if_pos (by omega)]
      · have hh := (Sch.tail_some hT).2
        have g := hg.oper hh
        have hp : S.pre t = if f < gnx S.oper.base S.oper.cyc S.oper.es t then f else gnx S.oper.base S.oper.cyc S.oper.es t := by unfold Sch.pre; simp only [hT]; rw [if_neg hf, if_pos hh]
        have h3 := gnx_ge (base := S.oper.base) (cyc := S.oper.cyc) (es := S.oper.es) (t := t) g.b0 g.c0
        have h4 := Sch.tail_ge hT g.b0 g.c0
        have hD2 : t' < f ∧ t' < gnx S.oper.base S.oper.cyc S.oper.es t := by
          rw [hp] at hD
          split at hD <;> omega
        rw [if_neg hf, if_neg (by omega), if_pos hh, if_pos hh]
        exact gst_stays g.c0 h1 hD2.2

/-! The document's pair. -/
structure Par where
  oper : Lst
  admin : Lst
  has : Bool
  waits : Bool
  due : Int

def Par.longer (P : Par) : Int :=
  if P.has = true ∧ P.waits = true then
    if (P.due - P.oper.base).tmod P.oper.cyc = 0 ∨ P.oper.ext < (P.due - P.oper.base).tmod P.oper.cyc ∨ P.due - (P.due - P.oper.base).tmod P.oper.cyc ≤ P.oper.base then -1
    else P.due - (P.due - P.oper.base).tmod P.oper.cyc
  else -1

def Par.best (P : Par) (t : Int) : Int :=
  if P.has = true ∧ (P.longer < 0 ∨ t < P.longer) then
    if 0 ≤ P.longer ∧ P.longer < gnx P.oper.base P.oper.cyc P.oper.es t then P.longer else gnx P.oper.base P.oper.cyc P.oper.es t
  else -1

def Par.next (P : Par) (t : Int) : Int :=
  if P.waits = true ∧ P.due ≤ t then gnx P.due P.admin.cyc P.admin.es t
  else if P.waits = true ∧ (P.best t < 0 ∨ P.due < P.best t) then P.due else P.best t

structure Lst.like (a b : Lst) : Prop where
  base : a.base = b.base
  cyc : a.cyc = b.cyc
  ext : a.ext = b.ext
  es : a.es = b.es

structure Alike (S : Sch) (P : Par) : Prop where
  has : S.has = P.has
  waits : S.waits = P.waits
  due : P.waits = true → S.due = P.due
  admin : P.waits = true → S.admin.like P.admin
  oper : P.has = true → S.oper.like P.oper

theorem longer_eq {S : Sch} {P : Par} (h : Alike S P) (hg : SchGood S) : P.longer = S.tail.getD (-1) := by
  by_cases hh : P.has = true ∧ P.waits = true
  · obtain ⟨h1, h2⟩ := hh
    have hd := h.due h2
    have ho := h.oper h1
    have g := hg.oper (by rw [h.has]; exact h1)
    have gc := g.c0
    have eL : P.longer = if (S.due - S.oper.base).tmod S.oper.cyc = 0 ∨ S.oper.ext < (S.due - S.oper.base).tmod S.oper.cyc ∨ S.due - (S.due - S.oper.base).tmod S.oper.cyc ≤ S.oper.base then -1 else S.due - (S.due - S.oper.base).tmod S.oper.cyc := by
      unfold Par.longer
      rw [if_pos ⟨h1, h2⟩, ← hd, ← ho.base, ← ho.cyc, ← ho.ext]
    have hw : S.waits = true := by rw [h.waits]; exact h2
    have hs : S.has = true := by rw [h.has]; exact h1
    have hq := Int.tmod_add_mul_tdiv (S.due - S.oper.base) S.oper.cyc
    rw [Int.mul_comm] at hq
    by_cases hb : S.oper.base < S.due
    · have eT : S.tail = if S.oper.base + (S.due - S.oper.base).tdiv S.oper.cyc * S.oper.cyc = S.oper.base ∨ S.oper.base + (S.due - S.oper.base).tdiv S.oper.cyc * S.oper.cyc = S.due ∨ S.oper.ext < S.due - (S.oper.base + (S.due - S.oper.base).tdiv S.oper.cyc * S.oper.cyc) then none else some (S.oper.base + (S.due - S.oper.base).tdiv S.oper.cyc * S.oper.cyc) := by
        unfold Sch.tail
        rw [if_pos ⟨hw, hs, hb⟩]
      have h0 : 0 ≤ (S.due - S.oper.base).tdiv S.oper.cyc * S.oper.cyc := Int.mul_nonneg (Int.tdiv_nonneg (by omega) (by omega)) (by omega)
      generalize (S.due - S.oper.base).tdiv S.oper.cyc * S.oper.cyc = M at *
      generalize (S.due - S.oper.base).tmod S.oper.cyc = R at *
      rw [eL, eT]
      by_cases hc : S.oper.base + M = S.oper.base ∨ S.oper.base + M = S.due ∨ S.oper.ext < S.due - (S.oper.base + M)
      · rw [if_pos (by omega : R = 0 ∨ S.oper.ext < R ∨ S.due - R ≤ S.oper.base), if_pos hc]
        rfl
      · rw [if_neg (by omega : ¬ (R = 0 ∨ S.oper.ext < R ∨ S.due - R ≤ S.oper.base)), if_neg hc]
        simp only [Option.getD_some]
        omega
    · have eT : S.tail = none := by
        unfold Sch.tail
        rw [if_neg (fun x => hb x.2.2)]
      have h0 : (S.due - S.oper.base).tdiv S.oper.cyc ≤ 0 := by
        have := Int.tdiv_nonneg (a := -(S.due - S.oper.base)) (b := S.oper.cyc) (by omega) (by omega)
        rw [Int.neg_tdiv] at this
        omega
      have h3 : (S.due - S.oper.base).tdiv S.oper.cyc * S.oper.cyc ≤ 0 := by
        have := Int.mul_nonneg (a := -(S.due - S.oper.base).tdiv S.oper.cyc) (b := S.oper.cyc) (by omega) (by omega)
        rw [Int.neg_mul] at this
        omega
      generalize (S.due - S.oper.base).tdiv S.oper.cyc * S.oper.cyc = M at *
      generalize (S.due - S.oper.base).tmod S.oper.cyc = R at *
      rw [eL, eT, if_pos (by omega)]
      rfl
  · have eL : P.longer = -1 := by unfold Par.longer; rw [if_neg hh]
    have eT : S.tail = none := by
      unfold Sch.tail
      rw [if_neg (fun x => hh ⟨by rw [← h.has]; exact x.2.1, by rw [← h.waits]; exact x.1⟩)]
    rw [eL, eT]
    rfl

theorem best_eq {S : Sch} {P : Par} (h : Alike S P) (hg : SchGood S) (t : Int) : P.best t = S.pre t := by
  have hl := longer_eq h hg
  unfold Par.best Sch.pre
  rw [hl]
  cases hT : S.tail with
  | none =>
    simp only [Option.getD_none]
    by_cases hh : P.has = true
    · have ho := h.oper hh
      rw [if_pos ⟨hh, .inl (by decide)⟩, if_neg (by omega), if_pos (by rw [h.has]; exact hh), ho.base, ho.cyc, ho.es]
    · rw [if_neg (fun x => hh x.1), if_neg (by rw [h.has]; exact hh)]
  | some f =>
    obtain ⟨h1, h2⟩ := Sch.tail_some hT
    have g := hg.oper h2
    have h4 := Sch.tail_ge hT g.b0 g.c0
    have hh : P.has = true := by rw [← h.has]; exact h2
    have ho := h.oper hh
    simp only [Option.getD_some]
    by_cases hf : f ≤ t
    · rw [if_pos hf, if_neg (by rintro ⟨-, x⟩; omega)]
    · rw [if_neg hf, if_pos h2, if_pos ⟨hh, .inr (by omega)⟩, ho.base, ho.cyc, ho.es]
      by_cases hn : f < gnx P.oper.base P.oper.cyc P.oper.es t
      · rw [if_pos hn, if_pos ⟨h4, hn⟩]
      · rw [if_neg hn, if_neg (fun x => hn x.2)]

theorem next_eq {S : Sch} {P : Par} (h : Alike S P) (hg : SchGood S) (t : Int) : P.next t = S.next t := by
  unfold Par.next Sch.next
  rw [best_eq h hg, h.waits]
  by_cases hw : P.waits = true
  · have ha := h.admin hw
    rw [h.due hw, ha.cyc, ha.es]
  · rw [if_neg (fun x => hw x.1), if_neg (fun x => hw x.1), if_neg (fun x => hw x.1), if_neg (fun x => hw x.1)]

/-- The document's first beginning of a cycle. -/
def rstart (base cyc t : Int) : Int := if t ≤ base then base else if (t - base).tmod cyc = 0 then t else t - (t - base).tmod cyc + cyc

theorem rstart_eq {base cyc t : Int} (hc : 1 ≤ cyc) : rstart base cyc t = gstart base cyc t := by
  unfold rstart gstart
  by_cases h : t ≤ base
  · rw [if_pos h, if_pos h]
  · rw [if_neg h, if_neg h, Int.tmod_eq_emod_of_nonneg (by omega), Int.tdiv_eq_ediv_of_nonneg (by omega)]
    have h1 := Int.mul_ediv_add_emod (t - base) cyc
    have h2 := Int.emod_nonneg (t - base) (by omega : cyc ≠ 0)
    have h3 := Int.emod_lt_of_pos (t - base) (by omega : 0 < cyc)
    generalize hq : (t - base) / cyc = q at *
    generalize hr : (t - base) % cyc = r at *
    by_cases hz : r = 0
    · rw [if_pos hz]
      have e : (t - base + cyc - 1) / cyc = q := by
        have : t - base + cyc - 1 = (cyc - 1) + cyc * q := by omega
        rw [this, Int.add_mul_ediv_left _ _ (by omega), Int.ediv_eq_zero_of_lt (by omega) (by omega)]
        omega
      rw [e, Int.mul_comm]
      omega
    · rw [if_neg hz]
      have e : (t - base + cyc - 1) / cyc = q + 1 := by
        have : t - base + cyc - 1 = (r - 1) + cyc * (q + 1) := by rw [Int.mul_add]; omega
        rw [this, Int.add_mul_ediv_left _ _ (by omega), Int.ediv_eq_zero_of_lt (by omega) (by omega)]
        omega
      rw [e, Int.add_mul, Int.mul_comm q]
      omega
end

end Go.Proofs.Ytimgmobmagpmlaa
