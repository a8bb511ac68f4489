/- What may go at a time, and until when: the change's state and next edge. -/
import Derived.Test.YtpgmkekdgchkfaaSched2
namespace Go.Proofs.Ytpgmkekdgchkfaa
open Go.RowKit

structure SchGood (S : Sch) : Prop where
  oper : S.has = true → Good S.oper.base S.oper.cyc S.oper.ext S.oper.es
  admin : S.waits = true → Good S.due S.admin.cyc S.admin.ext S.admin.es

/-- From when on the last cycle ahead of a change is longer. -/
def Sch.tail (S : Sch) : Option Int :=
  if S.waits = true ∧ S.has = true ∧ S.oper.base < S.due then
    let f := S.oper.base + (S.due - S.oper.base).tdiv S.oper.cyc * S.oper.cyc
    if f = S.oper.base ∨ f = S.due ∨ S.oper.ext < S.due - f then none else some f
  else none

def Sch.state (S : Sch) (t : Int) : Int :=
  if S.waits = true ∧ S.due ≤ t then gst S.due S.admin.cyc S.admin.es t
  else match S.tail with
    | some f => if f ≤ t then gst S.oper.base S.oper.cyc S.oper.es (f - 1) else if S.has = true then gst S.oper.base S.oper.cyc S.oper.es t else 255
    | none => if S.has = true then gst S.oper.base S.oper.cyc S.oper.es t else 255

/-- The next edge of the list in force. -/
def Sch.pre (S : Sch) (t : Int) : Int :=
  match S.tail with
  | some f => if f ≤ t then -1 else if S.has = true then (if f < gnx S.oper.base S.oper.cyc S.oper.es t then f else gnx S.oper.base S.oper.cyc S.oper.es t) else -1
  | none => if S.has = true then gnx S.oper.base S.oper.cyc S.oper.es t else -1

def Sch.next (S : Sch) (t : Int) : Int :=
  if S.waits = true ∧ S.due ≤ t then gnx S.due S.admin.cyc S.admin.es t
  else if S.waits = true ∧ (S.pre t < 0 ∨ S.due < S.pre t) then S.due else S.pre t

set_option maxRecDepth 100000 in
theorem moved_ok {w : World} {p : Nat} {S : Sch} (h : SchAt w p S) :
    Calls Try.prog 60 #[.pointer (some ⟨p, 0, none⟩)] w (fun e w' => e = .returned (.agg #[.int .i64 S.due, .int .i64 S.admin.cyc, .int .i64 S.admin.ext, .slice S.admin.A S.admin.es.length S.admin.cap]) ∧ Keeps Nothing w w') := by
  obtain ⟨⟨ob, oc, ox, oA, ocap, oes⟩, ⟨ab, ac, ax, aA, acap, aes⟩, has, waits, due, chg, rep⟩ := S
  have hB : Blk w p [.int .i64 ob, .int .i64 oc, .int .i64 ox, .slice oA oes.length ocap, .int .i64 ab, .int .i64 ac, .int .i64 ax, .slice aA aes.length acap, .bool has, .bool waits, .int .i64 due, .int .i64 chg, .int .i64 rep] 79 := h.blk
  have hpl := hB.lt
  have s4 : w.cell? ⟨p, 4, none⟩ = some (.int .i64 ab) := hB.cell 4
  have s5 : w.cell? ⟨p, 5, none⟩ = some (.int .i64 ac) := hB.cell 5
  have s6 : w.cell? ⟨p, 6, none⟩ = some (.int .i64 ax) := hB.cell 6
  have s7 : w.cell? ⟨p, 7, none⟩ = some (.slice aA aes.length acap) := hB.cell 7
  have s10 : w.cell? ⟨p, 10, none⟩ = some (.int .i64 due) := hB.cell 10
  clear h hB
  go_enter Try.func60, Try.ntmps60
  go_wp2_with fail
  have hF := (Blk.new w [.int .i64 due, .int .i64 ac, .int .i64 ax, .slice aA aes.length acap] 72).alloc (.cells #[.int .i64 due, .int .i64 ac, .int .i64 ax, .slice aA aes.length acap] 72)
  exact bodyPost_ret (results_cell_row rfl _ _ w.heap.size 72 #[.int .i64 due, .int .i64 ac, .int .i64 ax, .slice aA aes.length acap] (0, 0) _ rfl hF Try.underlying72 rfl (by kernel_rfl)) rfl ⟨rfl, ((Keeps.refl _ _).alloc _).alloc _⟩

def TailIs (w : World) (S : Sch) (e : Ending) (w' : World) : Prop :=
  ∃ f o b, e = .returned (.tuple #[.int .i64 f, .int .i64 o, .bool b]) ∧ S.tail = (if b = true then some f else none) ∧ (b = true → o = gst S.oper.base S.oper.cyc S.oper.es (f - 1)) ∧ Keeps Nothing w w'

set_option maxRecDepth 100000 in
set_option maxHeartbeats 4000000 in
theorem tail_ok {w : World} {p : Nat} {S : Sch} (h : SchAt w p S) (hg : SchGood S) :
    Calls Try.prog 61 #[.pointer (some ⟨p, 0, none⟩)] w (TailIs w S) := by
  obtain ⟨⟨ob, oc, ox, oA, ocap, oes⟩, ⟨ab, ac, ax, aA, acap, aes⟩, has, waits, due, chg, rep⟩ := S
  have hB : Blk w p [.int .i64 ob, .int .i64 oc, .int .i64 ox, .slice oA oes.length ocap, .int .i64 ab, .int .i64 ac, .int .i64 ax, .slice aA aes.length acap, .bool has, .bool waits, .int .i64 due, .int .i64 chg, .int .i64 rep] 79 := h.blk
  have HS := Lib.hid h
  have HG := Lib.hid hg
  have s0 : w.cell? ⟨p, 0, none⟩ = some (.int .i64 ob) := hB.cell 0
  have s1 : w.cell? ⟨p, 1, none⟩ = some (.int .i64 oc) := hB.cell 1
  have s2 : w.cell? ⟨p, 2, none⟩ = some (.int .i64 ox) := hB.cell 2
  have s3 : w.cell? ⟨p, 3, none⟩ = some (.slice oA oes.length ocap) := hB.cell 3
  have s4 : w.cell? ⟨p, 4, none⟩ = some (.int .i64 ab) := hB.cell 4
  have s5 : w.cell? ⟨p, 5, none⟩ = some (.int .i64 ac) := hB.cell 5
  have s6 : w.cell? ⟨p, 6, none⟩ = some (.int .i64 ax) := hB.cell 6
  have s7 : w.cell? ⟨p, 7, none⟩ = some (.slice aA aes.length acap) := hB.cell 7
  have s8 : w.cell? ⟨p, 8, none⟩ = some (.bool has) := hB.cell 8
  have s9 : w.cell? ⟨p, 9, none⟩ = some (.bool waits) := hB.cell 9
  have s10 : w.cell? ⟨p, 10, none⟩ = some (.int .i64 due) := hB.cell 10
  have s11 : w.cell? ⟨p, 11, none⟩ = some (.int .i64 chg) := hB.cell 11
  have s12 : w.cell? ⟨p, 12, none⟩ = some (.int .i64 rep) := hB.cell 12
  clear h hB hg
  cases waits
  · go_enter Try.func61, Try.ntmps61
    go_upto_region 1 with fail
    go_quiet (fail)
    go_wp2_with fail
    go_ret3
    exact ⟨_, _, _, rfl, by simp [Sch.tail], (fun h => by cases h), (Keeps.refl _ _).drewN _⟩
  · cases has
    · go_enter Try.func61, Try.ntmps61
      go_upto_region 1 with fail
      go_quiet (fail)
      go_wp2_with fail
      go_ret3
      exact ⟨_, _, _, rfl, by simp [Sch.tail], (fun h => by cases h), (Keeps.refl _ _).drewN _⟩
    · have hgo := HG.out.oper rfl
      have hga := HG.out.admin rfl
      obtain ⟨g0, g1, gb0, gb1, gc0, gc1, gx0, gx1, -⟩ := hgo
      have hd0 := hga.b0
      have hd1 := hga.b1
      simp only at g0 g1 gb0 gb1 gc0 gc1 gx0 gx1 hd0 hd1
      clear hga
      by_cases hlt : due ≤ ob
      · have hq : decide (due ≤ ob) = true := by simpa using hlt
        go_enter Try.func61, Try.ntmps61
        go_upto_region 1 with fail
        go_quiet (fail)
        go_wp2_with fail
        go_ret3
        exact ⟨_, _, _, rfl, (by simp [Sch.tail]; omega), (fun h => by cases h), (Keeps.refl _ _).drewN _⟩
      · have hq : decide (due ≤ ob) = false := by simpa using hlt
        have e0 : 0 ≤ (due - ob).tdiv oc ∧ (due - ob).tdiv oc * oc ≤ due - ob ∧ (due - ob).tdiv oc ≤ due - ob := by
          rw [Int.tdiv_eq_ediv_of_nonneg (by omega)]
          exact ⟨Int.ediv_nonneg (by omega) (by omega), Int.ediv_mul_le _ (by omega), Int.ediv_le_self _ (by omega)⟩
        obtain ⟨e1, e2, e3⟩ := e0
        have e4 : 0 ≤ (due - ob).tdiv oc * oc := Int.mul_nonneg e1 (by omega)
        have hq0 : oc ≠ 0 := by omega
        have hw1 : IntKind.i64.wrap (due - ob) = due - ob := by rw [IntKind.wrap_i64]; omega
        have hw2 : IntKind.i64.wrap ((due - ob).tdiv oc) = (due - ob).tdiv oc := by rw [IntKind.wrap_i64]; omega
        have hw3 : IntKind.i64.wrap ((due - ob).tdiv oc * oc) = (due - ob).tdiv oc * oc := by rw [IntKind.wrap_i64]; omega
        have hw4 : IntKind.i64.wrap (ob + (due - ob).tdiv oc * oc) = ob + (due - ob).tdiv oc * oc := by rw [IntKind.wrap_i64]; omega
        have hT : Hid (Sch.tail ⟨⟨ob, oc, ox, oA, ocap, oes⟩, ⟨ab, ac, ax, aA, acap, aes⟩, true, true, due, chg, rep⟩ = if ob + (due - ob).tdiv oc * oc = ob ∨ ob + (due - ob).tdiv oc * oc = due ∨ ox < due - (ob + (due - ob).tdiv oc * oc) then none else some (ob + (due - ob).tdiv oc * oc)) := by
          show _ = _
          unfold Sch.tail
          rw [if_pos ⟨rfl, rfl, by show ob < due; omega⟩]
        go_enter Try.func61, Try.ntmps61
        go_upto_region 1 with fail
        go_quiet (fail)
        obtain ⟨nq0, rfl⟩ : ∃ n, n = nq := ⟨_, rfl⟩
        go_upto_region 3 with fail
        go_quiet (fail)
        go_upto_region 4 with fail
        have hfr : ob ≤ ob + (due - ob).tdiv oc * oc ∧ ob + (due - ob).tdiv oc * oc ≤ due := by omega
        clear hw1 hw2 hw3 hw4 e1 e2 e3 e4
        generalize ob + (due - ob).tdiv oc * oc = f at *
        have HS2 := Lib.hid (HS.out.same (((Keeps.refl Nothing w).drewN nq0).drewN nq))
        have HK2 := Lib.hid (((Keeps.refl Nothing w).drewN nq0).drewN nq)
        have hB2 : Blk ((w.drewN nq0).drewN nq) p [.int .i64 ob, .int .i64 oc, .int .i64 ox, .slice oA oes.length ocap, .int .i64 ab, .int .i64 ac, .int .i64 ax, .slice aA aes.length acap, .bool true, .bool true, .int .i64 due, .int .i64 chg, .int .i64 rep] 79 := HS2.out.blk
        have s0 : ((w.drewN nq0).drewN nq).cell? ⟨p, 0, none⟩ = some (.int .i64 ob) := hB2.cell 0
        have s1 : ((w.drewN nq0).drewN nq).cell? ⟨p, 1, none⟩ = some (.int .i64 oc) := hB2.cell 1
        have s2 : ((w.drewN nq0).drewN nq).cell? ⟨p, 2, none⟩ = some (.int .i64 ox) := hB2.cell 2
        have s3 : ((w.drewN nq0).drewN nq).cell? ⟨p, 3, none⟩ = some (.slice oA oes.length ocap) := hB2.cell 3
        have s4 : ((w.drewN nq0).drewN nq).cell? ⟨p, 4, none⟩ = some (.int .i64 ab) := hB2.cell 4
        have s5 : ((w.drewN nq0).drewN nq).cell? ⟨p, 5, none⟩ = some (.int .i64 ac) := hB2.cell 5
        have s6 : ((w.drewN nq0).drewN nq).cell? ⟨p, 6, none⟩ = some (.int .i64 ax) := hB2.cell 6
        have s7 : ((w.drewN nq0).drewN nq).cell? ⟨p, 7, none⟩ = some (.slice aA aes.length acap) := hB2.cell 7
        have s8 : ((w.drewN nq0).drewN nq).cell? ⟨p, 8, none⟩ = some (.bool true) := hB2.cell 8
        have s9 : ((w.drewN nq0).drewN nq).cell? ⟨p, 9, none⟩ = some (.bool true) := hB2.cell 9
        have s10 : ((w.drewN nq0).drewN nq).cell? ⟨p, 10, none⟩ = some (.int .i64 due) := hB2.cell 10
        have s11 : ((w.drewN nq0).drewN nq).cell? ⟨p, 11, none⟩ = some (.int .i64 chg) := hB2.cell 11
        have s12 : ((w.drewN nq0).drewN nq).cell? ⟨p, 12, none⟩ = some (.int .i64 rep) := hB2.cell 12
        clear hB2
        generalize ((w.drewN nq0).drewN nq) = wt at *
        by_cases h1 : f = ob
        · subst h1
          have q1 : (f == f) = true := by simp
          have hT2 := hT.out
          rw [if_pos (.inl rfl)] at hT2
          have HT2 := Lib.hid hT2
          clear hT hT2
          go_quiet (fail)
          go_wp2_with fail
          go_ret3
          exact ⟨_, _, _, rfl, (by rw [HT2.out]; rfl), (fun h => by cases h), HK2.out.drewN _⟩
        · have q1 : (f == ob) = false := by simpa using h1
          by_cases h2 : f = due
          · subst h2
            have q2 : (f == f) = true := by simp
            have hT2 := hT.out
            rw [if_pos (.inr (.inl rfl))] at hT2
            have HT2 := Lib.hid hT2
            clear hT hT2
            go_quiet (fail)
            go_wp2_with fail
            go_ret3
            exact ⟨_, _, _, rfl, (by rw [HT2.out]; rfl), (fun h => by cases h), HK2.out.drewN _⟩
          · have q2 : (f == due) = false := by simpa using h2
            have hw5 : IntKind.i64.wrap (due - f) = due - f := by rw [IntKind.wrap_i64]; omega
            by_cases h3 : ox < due - f
            · have hT2 := hT.out
              rw [if_pos (.inr (.inr h3))] at hT2
              have HT2 := Lib.hid hT2
              clear hT hT2
              go_quiet (fail)
              go_wp2_with fail
              go_ret3
              exact ⟨_, _, _, rfl, (by rw [HT2.out]; rfl), (fun h => by cases h), HK2.out.drewN _⟩
            · have q3 : decide (ox < due - f) = false := by simpa using h3
              have hT2 := hT.out
              rw [if_neg (by omega)] at hT2
              have HT2 := Lib.hid hT2
              clear hT hT2
              have C := fun v (hv : Keeps Nothing wt v) => gstate_ok (HS2.out.oper.1.same hv) (HG.out.oper rfl) (f - 1) (by omega)
              go_quiet (fail)
              go_wp2_with (go_at_call 64; refine (C _ ((Keeps.refl _ _).drewN _)).mono ?_; rintro e w9 ⟨rfl, hk9⟩; clear C)
              go_ret3
              exact ⟨_, _, _, rfl, (by rw [HT2.out]; rfl), (fun _ => rfl), (HK2.out.drewN _).same hk9⟩

end Go.Proofs.Ytpgmkekdgchkfaa
