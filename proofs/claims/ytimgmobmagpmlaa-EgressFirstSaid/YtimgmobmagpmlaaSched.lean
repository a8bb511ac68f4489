/- A schedule: two lists, and when the one takes the other's place. What a schedule tells, and how it is told a list. What may not be is refused; the list in force; what comes. -/
import Derived.Test.YtimgmobmagpmlaaGate
import Derived.Laws.ResultCell
namespace Go.Proofs.Ytimgmobmagpmlaa

section
open Go.RowKit

structure Lst where
  base : Int
  cyc : Int
  ext : Int
  A : Option Addr
  cap : Nat
  es : List Ent

def Lst.zero : Lst := ⟨0, 0, 0, none, 0, []⟩

structure Sch where
  oper : Lst
  admin : Lst
  has : Bool
  waits : Bool
  due : Int
  chg : Int
  rep : Int

def Sch.cells (S : Sch) : List Value := [.int .i64 S.oper.base, .int .i64 S.oper.cyc, .int .i64 S.oper.ext, .slice S.oper.A S.oper.es.length S.oper.cap, .int .i64 S.admin.base, .int .i64 S.admin.cyc, .int .i64 S.admin.ext, .slice S.admin.A S.admin.es.length S.admin.cap, .bool S.has, .bool S.waits, .int .i64 S.due, .int .i64 S.chg, .int .i64 S.rep]

def Lst.ok (w : World) (p : Nat) (l : Lst) : Prop := EntsR w l.A l.cap l.es ∧ ∀ b o, l.A = some ⟨b, o, none⟩ → b ≠ p

theorem Lst.ok.turn {w w' : World} {p : Nat} {l : Lst} (h : l.ok w p) (hk : Keeps (fun k => k = p) w w') : l.ok w' p := ⟨h.1.keeps hk (fun b o e => h.2 b o e), h.2⟩
theorem Lst.ok.same {w w' : World} {p : Nat} {l : Lst} (h : l.ok w p) (hk : Keeps Nothing w w') : l.ok w' p := ⟨h.1.same hk, h.2⟩
theorem Lst.zero_ok (w : World) (p : Nat) : Lst.zero.ok w p := ⟨.inl rfl, fun b o e => by cases e⟩

structure SchAt (w : World) (p : Nat) (S : Sch) : Prop where
  blk : Blk w p S.cells 77
  oper : S.oper.ok w p
  admin : S.admin.ok w p

theorem SchAt.same {w w' : World} {p : Nat} {S : Sch} (h : SchAt w p S) (hk : Keeps Nothing w w') : SchAt w' p S := ⟨h.blk.keeps hk (fun h => h), h.oper.same hk, h.admin.same hk⟩

def Sch.passed (S : Sch) : Sch := { oper := { S.admin with base := S.due }, admin := Lst.zero, has := true, waits := false, due := S.due, chg := S.chg + 1, rep := S.rep }
def Sch.pass (S : Sch) (now : Int) : Sch := if S.waits = true ∧ S.due ≤ now then S.passed else S

def Passed (w : World) (p : Nat) (S : Sch) (e : Ending) (w' : World) : Prop := e = .returned (.tuple #[]) ∧ SchAt w' p S ∧ Keeps (fun k => k = p) w w'

set_option maxRecDepth 100000 in
set_option maxHeartbeats 4000000 in
theorem pass_ok {w : World} {p : Nat} {S : Sch} (h : SchAt w p S) (now : Int) (hc : 0 ≤ S.chg ∧ S.chg ≤ 1000000000) :
    Calls Try.prog 45 #[.pointer (some ⟨p, 0, none⟩), .int .i64 now] w (Passed w p (S.pass now)) := by
  obtain ⟨⟨ob, oc, ox, oA, ocap, oes⟩, ⟨ab, ac, ax, aA, acap, aes⟩, has, waits, due, chg, rep⟩ := S
  have HS := Lib.hid h
  have hB : Blk w p [.int .i64 ob, .int .i64 oc, .int .i64 ox, .slice oA oes.length ocap, .int .i64 ab, .int .i64 ac, .int .i64 ax, .slice aA aes.length acap, .bool has, .bool waits, .int .i64 due, .int .i64 chg, .int .i64 rep] 77 := h.blk
  have HB := Lib.hid hB
  simp only at hc
  have s0 : w.cell? ⟨p, 0, none⟩ = some (.int .i64 ob) := hB.cell 0; have s1 : w.cell? ⟨p, 1, none⟩ = some (.int .i64 oc) := hB.cell 1; have s2 : w.cell? ⟨p, 2, none⟩ = some (.int .i64 ox) := hB.cell 2; have s3 : w.cell? ⟨p, 3, none⟩ = some (.slice oA oes.length ocap) := hB.cell 3; have s4 : w.cell? ⟨p, 4, none⟩ = some (.int .i64 ab) := hB.cell 4; have s5 : w.cell? ⟨p, 5, none⟩ = some (.int .i64 ac) := hB.cell 5; have s6 : w.cell? ⟨p, 6, none⟩ = some (.int .i64 ax) := hB.cell 6; have s7 : w.cell? ⟨p, 7, none⟩ = some (.slice aA aes.length acap) := hB.cell 7; have s8 : w.cell? ⟨p, 8, none⟩ = some (.bool has) := hB.cell 8; have s9 : w.cell? ⟨p, 9, none⟩ = some (.bool waits) := hB.cell 9; have s10 : w.cell? ⟨p, 10, none⟩ = some (.int .i64 due) := hB.cell 10; have s11 : w.cell? ⟨p, 11, none⟩ = some (.int .i64 chg) := hB.cell 11; have s12 : w.cell? ⟨p, 12, none⟩ = some (.int .i64 rep) := hB.cell 12; have f0 := hB.frozen 0; have f1 := hB.frozen 1; have f2 := hB.frozen 2; have f3 := hB.frozen 3; have f4 := hB.frozen 4; have f5 := hB.frozen 5; have f6 := hB.frozen 6; have f7 := hB.frozen 7; have f8 := hB.frozen 8; have f9 := hB.frozen 9; have f10 := hB.frozen 10; have f11 := hB.frozen 11; have f12 := hB.frozen 12
  clear h hB
  cases waits
  · have hp : Sch.pass ⟨⟨ob, oc, ox, oA, ocap, oes⟩, ⟨ab, ac, ax, aA, acap, aes⟩, has, false, due, chg, rep⟩ now = ⟨⟨ob, oc, ox, oA, ocap, oes⟩, ⟨ab, ac, ax, aA, acap, aes⟩, has, false, due, chg, rep⟩ := by simp [Sch.pass]
    rw [hp]
    go_enter Try.func45, Try.ntmps45
    go_wp2_with fail
    go_end0
    exact ⟨rfl, HS.out, Keeps.refl _ _⟩
  · by_cases hd : due ≤ now
    · have hp : Sch.pass ⟨⟨ob, oc, ox, oA, ocap, oes⟩, ⟨ab, ac, ax, aA, acap, aes⟩, has, true, due, chg, rep⟩ now = ⟨⟨due, ac, ax, aA, acap, aes⟩, Lst.zero, true, false, due, chg + 1, rep⟩ := by simp [Sch.pass, Sch.passed, hd]
      rw [hp]
      go_enter Try.func45, Try.ntmps45
      go_wp2_with fail
      go_end0
      refine ⟨rfl, ⟨((((((((((((HB.out.set 0 _).set 1 _).set 2 _).set 3 _).set 8 _).set 9 _).set 4 _).set 5 _).set 6 _).set 7 _).set 0 _).set 11 _), ?_, Lst.zero_ok _ _⟩, ?_⟩
      · exact Lst.ok.turn (l := ⟨due, ac, ax, aA, acap, aes⟩) (w := w) HS.out.admin (by exact (((((((((((((Keeps.refl (fun k => k = p) w).setCell (p := ⟨p, 0, none⟩) (fun _ => rfl) _).setCell (p := ⟨p, 1, none⟩) (fun _ => rfl) _).setCell (p := ⟨p, 2, none⟩) (fun _ => rfl) _).setCell (p := ⟨p, 3, none⟩) (fun _ => rfl) _).setCell (p := ⟨p, 8, none⟩) (fun _ => rfl) _).setCell (p := ⟨p, 9, none⟩) (fun _ => rfl) _).setCell (p := ⟨p, 4, none⟩) (fun _ => rfl) _).setCell (p := ⟨p, 5, none⟩) (fun _ => rfl) _).setCell (p := ⟨p, 6, none⟩) (fun _ => rfl) _).setCell (p := ⟨p, 7, none⟩) (fun _ => rfl) _).setCell (p := ⟨p, 0, none⟩) (fun _ => rfl) _).setCell (p := ⟨p, 11, none⟩) (fun _ => rfl) _))
      · exact (((((((((((((Keeps.refl (fun k => k = p) w).setCell (p := ⟨p, 0, none⟩) (fun _ => rfl) _).setCell (p := ⟨p, 1, none⟩) (fun _ => rfl) _).setCell (p := ⟨p, 2, none⟩) (fun _ => rfl) _).setCell (p := ⟨p, 3, none⟩) (fun _ => rfl) _).setCell (p := ⟨p, 8, none⟩) (fun _ => rfl) _).setCell (p := ⟨p, 9, none⟩) (fun _ => rfl) _).setCell (p := ⟨p, 4, none⟩) (fun _ => rfl) _).setCell (p := ⟨p, 5, none⟩) (fun _ => rfl) _).setCell (p := ⟨p, 6, none⟩) (fun _ => rfl) _).setCell (p := ⟨p, 7, none⟩) (fun _ => rfl) _).setCell (p := ⟨p, 0, none⟩) (fun _ => rfl) _).setCell (p := ⟨p, 11, none⟩) (fun _ => rfl) _)
    · have hd' : decide (due ≤ now) = false := by simpa using hd
      have hp : Sch.pass ⟨⟨ob, oc, ox, oA, ocap, oes⟩, ⟨ab, ac, ax, aA, acap, aes⟩, has, true, due, chg, rep⟩ now = ⟨⟨ob, oc, ox, oA, ocap, oes⟩, ⟨ab, ac, ax, aA, acap, aes⟩, has, true, due, chg, rep⟩ := by simp [Sch.pass, hd]
      rw [hp]
      go_enter Try.func45, Try.ntmps45
      go_wp2_with fail
      go_end0
      exact ⟨rfl, HS.out, Keeps.refl _ _⟩
end

section
open Go.RowKit

theorem Sch.pass_chg (S : Sch) (now : Int) : S.chg ≤ (S.pass now).chg ∧ (S.pass now).chg ≤ S.chg + 1 ∧ (S.pass now).rep = S.rep := by
  unfold Sch.pass
  split
  · exact ⟨by show S.chg ≤ S.chg + 1; omega, Int.le_refl _, rfl⟩
  · exact ⟨Int.le_refl _, by omega, rfl⟩

set_option maxRecDepth 100000 in
theorem waits_ok {w : World} {p : Nat} {S : Sch} (h : SchAt w p S) :
    Calls Try.prog 50 #[.pointer (some ⟨p, 0, none⟩)] w (fun e w' => e = .returned (.tuple #[.int .i64 S.due, .bool S.waits]) ∧ Keeps Nothing w w') := by
  obtain ⟨⟨ob, oc, ox, oA, ocap, oes⟩, ⟨ab, ac, ax, aA, acap, aes⟩, has, waits, due, chg, rep⟩ := S
  have hB : Blk w p [.int .i64 ob, .int .i64 oc, .int .i64 ox, .slice oA oes.length ocap, .int .i64 ab, .int .i64 ac, .int .i64 ax, .slice aA aes.length acap, .bool has, .bool waits, .int .i64 due, .int .i64 chg, .int .i64 rep] 77 := h.blk
  have s9 : w.cell? ⟨p, 9, none⟩ = some (.bool waits) := hB.cell 9
  have s10 : w.cell? ⟨p, 10, none⟩ = some (.int .i64 due) := hB.cell 10
  clear h hB
  go_enter Try.func50, Try.ntmps50
  go_upto_region 1 with fail
  go_quiet (fail)
  go_wp2_with fail
  go_ret2
  exact ⟨rfl, (Keeps.refl _ _).drewN _⟩

def Sch.told (S : Sch) (l : Lst) (due : Int) : Sch := { oper := S.oper, admin := l, has := S.has, waits := true, due := due, chg := S.chg, rep := if S.waits = true then S.rep + 1 else S.rep }

def SetTo (w : World) (p : Nat) (S : Sch) (base cyc ext : Int) (es : List Ent) (now : Int) (e : Ending) (w' : World) : Prop :=
  e = .returned (.int .i64 0) ∧ Keeps (fun k => k = p) w w' ∧ ∃ g cap, SchAt w' p (((S.pass now).told ⟨base, cyc, ext, some ⟨g, 0, none⟩, cap, es⟩ (gstart base cyc now)).pass now) ∧ w.heap.size ≤ g

set_option maxRecDepth 100000 in
set_option maxHeartbeats 4000000 in
theorem set_ok {w : World} {p : Nat} {S : Sch} (h : SchAt w p S) {base cyc ext : Int} {A : Option Addr} {c : Nat} {es : List Ent} (hr : EntsR w A c es) (hA : ∀ b o, A = some ⟨b, o, none⟩ → b ≠ p) (hg : Good base cyc ext es)
    (now : Int) (h0 : 0 ≤ now) (h1 : now < 4611686018427387904) (hs : gstart base cyc now < 4611686018427387904) (hc : 0 ≤ S.chg ∧ S.chg ≤ 100000000) (hp : 0 ≤ S.rep ∧ S.rep ≤ 100000000) :
    Calls Try.prog 30 #[.pointer (some ⟨p, 0, none⟩), .agg #[.int .i64 base, .int .i64 cyc, .int .i64 ext, .slice A es.length c], .int .i64 now] w (SetTo w p S base cyc ext es now) := by
  have HS := Lib.hid h
  have HR := Lib.hid hr
  have HA := Lib.hid hA
  have HG := Lib.hid hg
  have hpl := h.blk.lt
  clear h hr hA hg
  have h0' : decide (now < 0) = false := by simpa using h0
  have h1' : decide ((4611686018427387904 : Int) ≤ now) = false := by simpa using h1
  have K1 : Keeps Nothing w (w.alloc (.cells #[.int .i64 base, .int .i64 cyc, .int .i64 ext, .slice A es.length c] 56)) := (Keeps.refl _ _).alloc _
  have HK1 := Lib.hid K1
  have B1 : Blk (w.alloc (.cells #[.int .i64 base, .int .i64 cyc, .int .i64 ext, .slice A es.length c] 56)) w.heap.size [.int .i64 base, .int .i64 cyc, .int .i64 ext, .slice A es.length c] 56 := Blk.new w [.int .i64 base, .int .i64 cyc, .int .i64 ext, .slice A es.length c] 56
  have HB1 := Lib.hid B1
  clear K1 B1
  have C1 := fun v (hv : Keeps Nothing w v) => check_good (HR.out.same hv) HG.out
  have C2 := fun v => gstart_ok (w := v) (ext := ext) (v := .slice A es.length c) ⟨HG.out.b0, HG.out.b1⟩ ⟨HG.out.c0, HG.out.c1⟩ now h1
  have C3 := fun v (hv : Keeps Nothing w v) => pass_ok (HS.out.same hv) now (by omega)
  go_enter Try.func30, Try.ntmps30
  go_upto_region 1 with fail
  generalize (w.alloc (.cells #[.int .i64 base, .int .i64 cyc, .int .i64 ext, .slice A es.length c] 56)) = w1 at *
  have m0 : w1.cell? ⟨w.heap.size, 0, none⟩ = some (.int .i64 base) := HB1.out.cell 0
  have m1 : w1.cell? ⟨w.heap.size, 1, none⟩ = some (.int .i64 cyc) := HB1.out.cell 1
  have m2 : w1.cell? ⟨w.heap.size, 2, none⟩ = some (.int .i64 ext) := HB1.out.cell 2
  have m3 : w1.cell? ⟨w.heap.size, 3, none⟩ = some (.slice A es.length c) := HB1.out.cell 3
  go_upto_region 10 with (first | (go_at_call 55; refine (C1 _ HK1.out).mono ?_; rintro e w2 ⟨rfl, hk2⟩; have B2 := Lib.hid (HB1.out.keeps hk2 (fun h => h)); have l0 : w2.cell? ⟨w.heap.size, 0, none⟩ = some (.int .i64 base) := B2.out.cell 0; have l1 : w2.cell? ⟨w.heap.size, 1, none⟩ = some (.int .i64 cyc) := B2.out.cell 1; have l2 : w2.cell? ⟨w.heap.size, 2, none⟩ = some (.int .i64 ext) := B2.out.cell 2; have l3 : w2.cell? ⟨w.heap.size, 3, none⟩ = some (.slice A es.length c) := B2.out.cell 3; clear C1) | (go_at_call 61; refine (C2 _).mono ?_; rintro e w3 ⟨rfl, hk3⟩; clear C2) | (go_at_call 45; refine (C3 _ ((HK1.out.same hk2).same hk3)).mono ?_; rintro e w4 ⟨rfl, hS4, hk4⟩; clear C3))
  have K4 := Lib.hid (((HK1.out.same hk2).same hk3).mono (G := fun k => k = p) (fun _ h _ => h.elim) |>.trans hk4 (fun _ h _ => h))
  have B4 := Lib.hid ((B2.out.keeps hk3 (fun h => h)).keeps hk4 (fun h => by omega))
  have R4 := Lib.hid (((HR.out.same HK1.out).same (hk2.same hk3)).keeps hk4 (fun b o hb => HA.out b o hb))
  have hchg := S.pass_chg now
  have hS5 := Lib.hid hS4
  have n0 : w4.cell? ⟨w.heap.size, 0, none⟩ = some (.int .i64 base) := B4.out.cell 0
  have n1 : w4.cell? ⟨w.heap.size, 1, none⟩ = some (.int .i64 cyc) := B4.out.cell 1
  have n2 : w4.cell? ⟨w.heap.size, 2, none⟩ = some (.int .i64 ext) := B4.out.cell 2
  have n3 : w4.cell? ⟨w.heap.size, 3, none⟩ = some (.slice A es.length c) := B4.out.cell 3
  clear m0 m1 m2 m3 l0 l1 l2 l3 hk2 hk3 hk4 hS4 HB1 HK1 B2
  have hSE : ∃ S1, S1 = S.pass now := ⟨_, rfl⟩
  obtain ⟨S1, hS1⟩ := hSE
  rw [← hS1] at hS5 hchg
  have HE1 := Lib.hid hS1
  clear hS1
  obtain ⟨⟨ob, oc, ox, oA, ocap, oes⟩, ⟨ab, ac, ax, aA, acap, aes⟩, has, waits, due, chg, rep⟩ := S1
  simp only at hchg
  obtain ⟨hchg0, hchg1, hrep⟩ := hchg
  have hB : Blk w4 p [.int .i64 ob, .int .i64 oc, .int .i64 ox, .slice oA oes.length ocap, .int .i64 ab, .int .i64 ac, .int .i64 ax, .slice aA aes.length acap, .bool has, .bool waits, .int .i64 due, .int .i64 chg, .int .i64 rep] 77 := hS5.out.blk
  have HBp := Lib.hid hB
  have s0 : w4.cell? ⟨p, 0, none⟩ = some (.int .i64 ob) := hB.cell 0
  have s1 : w4.cell? ⟨p, 1, none⟩ = some (.int .i64 oc) := hB.cell 1
  have s2 : w4.cell? ⟨p, 2, none⟩ = some (.int .i64 ox) := hB.cell 2
  have s3 : w4.cell? ⟨p, 3, none⟩ = some (.slice oA oes.length ocap) := hB.cell 3
  have s4 : w4.cell? ⟨p, 4, none⟩ = some (.int .i64 ab) := hB.cell 4
  have s5 : w4.cell? ⟨p, 5, none⟩ = some (.int .i64 ac) := hB.cell 5
  have s6 : w4.cell? ⟨p, 6, none⟩ = some (.int .i64 ax) := hB.cell 6
  have s7 : w4.cell? ⟨p, 7, none⟩ = some (.slice aA aes.length acap) := hB.cell 7
  have s8 : w4.cell? ⟨p, 8, none⟩ = some (.bool has) := hB.cell 8
  have s9 : w4.cell? ⟨p, 9, none⟩ = some (.bool waits) := hB.cell 9
  have s10 : w4.cell? ⟨p, 10, none⟩ = some (.int .i64 due) := hB.cell 10
  have s11 : w4.cell? ⟨p, 11, none⟩ = some (.int .i64 chg) := hB.cell 11
  have s12 : w4.cell? ⟨p, 12, none⟩ = some (.int .i64 rep) := hB.cell 12
  have f0 := hB.frozen 0
  have f1 := hB.frozen 1
  have f2 := hB.frozen 2
  have f3 := hB.frozen 3
  have f4 := hB.frozen 4
  have f5 := hB.frozen 5
  have f6 := hB.frozen 6
  have f7 := hB.frozen 7
  have f8 := hB.frozen 8
  have f9 := hB.frozen 9
  have f10 := hB.frozen 10
  have f11 := hB.frozen 11
  have f12 := hB.frozen 12
  clear hB
  have hpn : p ≠ w.heap.size := by omega
  have C5 := fun v (hv : Keeps Nothing w4 v) => clone_ok (base := base) (cyc := cyc) (ext := ext) (R4.out.same hv) HG.out.pos HG.out.len
  cases waits
  · go_upto_region 13 with (go_at_call 62; refine (C5 _ (Keeps.refl _ _)).mono ?_; rintro e w6 ⟨g, cap, rfl, hgs, hE, hk6⟩; have HGS : Hid (w4.heap.size ≤ g) := hgs; clear C5; have hB6 := HBp.out.keeps hk6 (fun h => h); clear s0 s1 s2 s3 s4 s5 s6 s7 s8 s9 s10 s11 s12 f0 f1 f2 f3 f4 f5 f6 f7 f8 f9 f10 f11 f12; have s0 : w6.cell? ⟨p, 0, none⟩ = some (.int .i64 ob) := hB6.cell 0; have s1 : w6.cell? ⟨p, 1, none⟩ = some (.int .i64 oc) := hB6.cell 1; have s2 : w6.cell? ⟨p, 2, none⟩ = some (.int .i64 ox) := hB6.cell 2; have s3 : w6.cell? ⟨p, 3, none⟩ = some (.slice oA oes.length ocap) := hB6.cell 3; have s4 : w6.cell? ⟨p, 4, none⟩ = some (.int .i64 ab) := hB6.cell 4; have s5 : w6.cell? ⟨p, 5, none⟩ = some (.int .i64 ac) := hB6.cell 5; have s6 : w6.cell? ⟨p, 6, none⟩ = some (.int .i64 ax) := hB6.cell 6; have s7 : w6.cell? ⟨p, 7, none⟩ = some (.slice aA aes.length acap) := hB6.cell 7; have s8 : w6.cell? ⟨p, 8, none⟩ = some (.bool has) := hB6.cell 8; have s9 : w6.cell? ⟨p, 9, none⟩ = some (.bool false) := hB6.cell 9; have s10 : w6.cell? ⟨p, 10, none⟩ = some (.int .i64 due) := hB6.cell 10; have s11 : w6.cell? ⟨p, 11, none⟩ = some (.int .i64 chg) := hB6.cell 11; have s12 : w6.cell? ⟨p, 12, none⟩ = some (.int .i64 rep) := hB6.cell 12; have f0 := hB6.frozen 0; have f1 := hB6.frozen 1; have f2 := hB6.frozen 2; have f3 := hB6.frozen 3; have f4 := hB6.frozen 4; have f5 := hB6.frozen 5; have f6 := hB6.frozen 6; have f7 := hB6.frozen 7; have f8 := hB6.frozen 8; have f9 := hB6.frozen 9; have f10 := hB6.frozen 10; have f11 := hB6.frozen 11; have f12 := hB6.frozen 12)
    have HB7 := Lib.hid ((((((hB6.set 4 (.int .i64 base)).set 5 (.int .i64 cyc)).set 6 (.int .i64 ext)).set 7 (.slice (some ⟨g, 0, none⟩) es.length cap)).set 9 (.bool true)).set 10 (.int .i64 (gstart base cyc now)))
    have HK7 : Hid (Keeps (fun k => k = p) w6 _) := ((((((Keeps.refl (fun k => k = p) w6).setCell (p := ⟨p, 4, none⟩) (fun _ => rfl) (.int .i64 base)).setCell (p := ⟨p, 5, none⟩) (fun _ => rfl) (.int .i64 cyc)).setCell (p := ⟨p, 6, none⟩) (fun _ => rfl) (.int .i64 ext)).setCell (p := ⟨p, 7, none⟩) (fun _ => rfl) (.slice (some ⟨g, 0, none⟩) es.length cap)).setCell (p := ⟨p, 9, none⟩) (fun _ => rfl) (.bool true)).setCell (p := ⟨p, 10, none⟩) (fun _ => rfl) (.int .i64 (gstart base cyc now))
    clear hB6 s0 s1 s2 s3 s4 s5 s6 s7 s8 s9 s10 s11 s12 f0 f1 f2 f3 f4 f5 f6 f7 f8 f9 f10 f11 f12
    generalize (((((w6.setCell ⟨p, 4, none⟩ (.int .i64 base)).setCell ⟨p, 5, none⟩ (.int .i64 cyc)).setCell ⟨p, 6, none⟩ (.int .i64 ext)).setCell ⟨p, 7, none⟩ (.slice (some ⟨g, 0, none⟩) es.length cap)).setCell ⟨p, 9, none⟩ (.bool true)).setCell ⟨p, 10, none⟩ (.int .i64 (gstart base cyc now)) = w7 at *
    have hp4 : p < w4.heap.size := HBp.out.lt
    have hS7 : SchAt w7 p (Sch.told ⟨⟨ob, oc, ox, oA, ocap, oes⟩, ⟨ab, ac, ax, aA, acap, aes⟩, has, false, due, chg, rep⟩ ⟨base, cyc, ext, some ⟨g, 0, none⟩, cap, es⟩ (gstart base cyc now)) :=
      ⟨HB7.out, (hS5.out.oper.same hk6).turn HK7.out, Lst.ok.turn (w := w6) ⟨hE, fun b o hb => by injection hb with hb; injection hb with hb; omega⟩ HK7.out⟩
    have C6 := pass_ok hS7 now ⟨by show 0 ≤ chg; omega, by show chg ≤ 1000000000; omega⟩
    go_wp2_with (go_at_call 45; refine C6.mono ?_; rintro e w8 ⟨rfl, hS8, hk8⟩; clear C6)
    go_ret
    exact ⟨rfl, ((K4.out.trans hk6 (fun _ h _ => h.elim)).trans HK7.out (fun _ h _ => h)).trans hk8 (fun _ h _ => h), g, cap, (by rw [← HE1.out]; exact hS8), (by have h1 := K4.out.size; have h2 : w4.heap.size ≤ g := HGS.out; omega)⟩
  · have hrep1 : 0 ≤ rep ∧ rep ≤ 100000000 := by omega
    clear hrep
    go_upto_region 12 with fail
    have HB5 := Lib.hid (HBp.out.set 12 (.int .i64 (rep + 1)))
    have HK5 : Hid (Keeps (fun k => k = p) w4 _) := (Keeps.refl (fun k => k = p) w4).setCell (p := ⟨p, 12, none⟩) (fun _ => rfl) (.int .i64 (rep + 1))
    have q0 : (w4.setCell ⟨p, 12, none⟩ (.int .i64 (rep + 1))).cell? ⟨w.heap.size, 0, none⟩ = some (.int .i64 base) := (B4.out.keeps HK5.out (fun h => hpn h.symm)).cell 0
    have q1 : (w4.setCell ⟨p, 12, none⟩ (.int .i64 (rep + 1))).cell? ⟨w.heap.size, 1, none⟩ = some (.int .i64 cyc) := (B4.out.keeps HK5.out (fun h => hpn h.symm)).cell 1
    have q2 : (w4.setCell ⟨p, 12, none⟩ (.int .i64 (rep + 1))).cell? ⟨w.heap.size, 2, none⟩ = some (.int .i64 ext) := (B4.out.keeps HK5.out (fun h => hpn h.symm)).cell 2
    have q3 : (w4.setCell ⟨p, 12, none⟩ (.int .i64 (rep + 1))).cell? ⟨w.heap.size, 3, none⟩ = some (.slice A es.length c) := (B4.out.keeps HK5.out (fun h => hpn h.symm)).cell 3
    have R5 := Lib.hid (R4.out.keeps HK5.out (fun b o hb => HA.out b o hb))
    clear C5 s0 s1 s2 s3 s4 s5 s6 s7 s8 s9 s10 s11 s12 f0 f1 f2 f3 f4 f5 f6 f7 f8 f9 f10 f11 f12
    generalize w4.setCell ⟨p, 12, none⟩ (.int .i64 (rep + 1)) = w5 at *
    have C5 := fun v (hv : Keeps Nothing w5 v) => clone_ok (base := base) (cyc := cyc) (ext := ext) (R5.out.same hv) HG.out.pos HG.out.len
    go_upto_region 13 with (go_at_call 62; refine (C5 _ (Keeps.refl _ _)).mono ?_; rintro e w6 ⟨g, cap, rfl, hgs, hE, hk6⟩; have HGS : Hid (w4.heap.size ≤ g) := Nat.le_trans HK5.out.size hgs; clear C5; have hB6 := HB5.out.keeps hk6 (fun h => h); have s0 : w6.cell? ⟨p, 0, none⟩ = some (.int .i64 ob) := hB6.cell 0; have s1 : w6.cell? ⟨p, 1, none⟩ = some (.int .i64 oc) := hB6.cell 1; have s2 : w6.cell? ⟨p, 2, none⟩ = some (.int .i64 ox) := hB6.cell 2; have s3 : w6.cell? ⟨p, 3, none⟩ = some (.slice oA oes.length ocap) := hB6.cell 3; have s4 : w6.cell? ⟨p, 4, none⟩ = some (.int .i64 ab) := hB6.cell 4; have s5 : w6.cell? ⟨p, 5, none⟩ = some (.int .i64 ac) := hB6.cell 5; have s6 : w6.cell? ⟨p, 6, none⟩ = some (.int .i64 ax) := hB6.cell 6; have s7 : w6.cell? ⟨p, 7, none⟩ = some (.slice aA aes.length acap) := hB6.cell 7; have s8 : w6.cell? ⟨p, 8, none⟩ = some (.bool has) := hB6.cell 8; have s9 : w6.cell? ⟨p, 9, none⟩ = some (.bool true) := hB6.cell 9; have s10 : w6.cell? ⟨p, 10, none⟩ = some (.int .i64 due) := hB6.cell 10; have s11 : w6.cell? ⟨p, 11, none⟩ = some (.int .i64 chg) := hB6.cell 11; have s12 : w6.cell? ⟨p, 12, none⟩ = some (.int .i64 (rep + 1)) := hB6.cell 12; have f0 := hB6.frozen 0; have f1 := hB6.frozen 1; have f2 := hB6.frozen 2; have f3 := hB6.frozen 3; have f4 := hB6.frozen 4; have f5 := hB6.frozen 5; have f6 := hB6.frozen 6; have f7 := hB6.frozen 7; have f8 := hB6.frozen 8; have f9 := hB6.frozen 9; have f10 := hB6.frozen 10; have f11 := hB6.frozen 11; have f12 := hB6.frozen 12)
    have HB7 := Lib.hid ((((((hB6.set 4 (.int .i64 base)).set 5 (.int .i64 cyc)).set 6 (.int .i64 ext)).set 7 (.slice (some ⟨g, 0, none⟩) es.length cap)).set 9 (.bool true)).set 10 (.int .i64 (gstart base cyc now)))
    have HK7 : Hid (Keeps (fun k => k = p) w6 _) := ((((((Keeps.refl (fun k => k = p) w6).setCell (p := ⟨p, 4, none⟩) (fun _ => rfl) (.int .i64 base)).setCell (p := ⟨p, 5, none⟩) (fun _ => rfl) (.int .i64 cyc)).setCell (p := ⟨p, 6, none⟩) (fun _ => rfl) (.int .i64 ext)).setCell (p := ⟨p, 7, none⟩) (fun _ => rfl) (.slice (some ⟨g, 0, none⟩) es.length cap)).setCell (p := ⟨p, 9, none⟩) (fun _ => rfl) (.bool true)).setCell (p := ⟨p, 10, none⟩) (fun _ => rfl) (.int .i64 (gstart base cyc now))
    clear hB6 s0 s1 s2 s3 s4 s5 s6 s7 s8 s9 s10 s11 s12 f0 f1 f2 f3 f4 f5 f6 f7 f8 f9 f10 f11 f12
    generalize (((((w6.setCell ⟨p, 4, none⟩ (.int .i64 base)).setCell ⟨p, 5, none⟩ (.int .i64 cyc)).setCell ⟨p, 6, none⟩ (.int .i64 ext)).setCell ⟨p, 7, none⟩ (.slice (some ⟨g, 0, none⟩) es.length cap)).setCell ⟨p, 9, none⟩ (.bool true)).setCell ⟨p, 10, none⟩ (.int .i64 (gstart base cyc now)) = w7 at *
    have hp4 : p < w5.heap.size := HB5.out.lt
    have hS7 : SchAt w7 p (Sch.told ⟨⟨ob, oc, ox, oA, ocap, oes⟩, ⟨ab, ac, ax, aA, acap, aes⟩, has, true, due, chg, rep⟩ ⟨base, cyc, ext, some ⟨g, 0, none⟩, cap, es⟩ (gstart base cyc now)) :=
      ⟨HB7.out, ((hS5.out.oper.turn HK5.out).same hk6).turn HK7.out, Lst.ok.turn (w := w6) ⟨hE, fun b o hb => by injection hb with hb; injection hb with hb; omega⟩ HK7.out⟩
    have C6 := pass_ok hS7 now ⟨by show 0 ≤ chg; omega, by show chg ≤ 1000000000; omega⟩
    go_wp2_with (go_at_call 45; refine C6.mono ?_; rintro e w8 ⟨rfl, hS8, hk8⟩; clear C6)
    go_ret
    exact ⟨rfl, (((K4.out.trans HK5.out (fun _ h _ => h)).trans hk6 (fun _ h _ => h.elim)).trans HK7.out (fun _ h _ => h)).trans hk8 (fun _ h _ => h), g, cap, (by rw [← HE1.out]; exact hS8), (by have h1 := K4.out.size; have h2 : w4.heap.size ≤ g := HGS.out; omega)⟩
end

section
open Go.RowKit

set_option maxRecDepth 100000 in
set_option maxHeartbeats 4000000 in
/-- A list that may not be. -/
theorem check_bad {w : World} {base cyc ext : Int} {A : Option Addr} {c : Nat} {es : List Ent} (hr : EntsR w A c es) (hg : ¬ Good base cyc ext es) :
    Calls Try.prog 55 #[.agg #[.int .i64 base, .int .i64 cyc, .int .i64 ext, .slice A es.length c]] w (fun e w' => e = .returned (.int .i64 30) ∧ Keeps Nothing w w') := by
  have C := fun w' (hk : Keeps Nothing w w') (hl : es.length ≤ 64) (b : Bool) (hb : b = true ↔ ∃ e ∈ es, e.bad) => contains_ok (hr.same hk) hl b hb
  clear hr
  go_enter Try.func55, Try.ntmps55
  by_cases n0 : es.length = 0
  · have hn : es = [] := List.eq_nil_of_length_eq_zero n0
    subst hn
    clear C
    go_wp2_with fail
    go_ret
    exact ⟨rfl, (Keeps.refl _ _).alloc _⟩
  have hn2 : es ≠ [] := fun h => by rw [h] at n0; simp at n0
  have m0 : ((es.length : Int) == 0) = false := by simpa using hn2
  by_cases n1 : 64 < es.length
  · have n1' : (64 : Int) < es.length := by omega
    clear C
    go_wp2_with fail
    go_ret
    exact ⟨rfl, (Keeps.refl _ _).alloc _⟩
  have m1 : decide ((64 : Int) < es.length) = false := by simp; omega
  by_cases n2 : base < 0
  · clear C
    go_wp2_with fail
    go_ret
    exact ⟨rfl, (Keeps.refl _ _).alloc _⟩
  have m2 : decide (base < 0) = false := by simp; omega
  by_cases n3 : 4611686018427387904 ≤ base
  · clear C
    go_wp2_with fail
    go_ret
    exact ⟨rfl, (Keeps.refl _ _).alloc _⟩
  have m3 : decide ((4611686018427387904 : Int) ≤ base) = false := by simp; omega
  by_cases n4 : cyc < 1
  · clear C
    go_wp2_with fail
    go_ret
    exact ⟨rfl, (Keeps.refl _ _).alloc _⟩
  have m4 : decide (cyc < 1) = false := by simp; omega
  by_cases n5 : 1000000000 < cyc
  · clear C
    go_wp2_with fail
    go_ret
    exact ⟨rfl, (Keeps.refl _ _).alloc _⟩
  have m5 : decide ((1000000000 : Int) < cyc) = false := by simp; omega
  by_cases n6 : ext < 0
  · clear C
    go_wp2_with fail
    go_ret
    exact ⟨rfl, (Keeps.refl _ _).alloc _⟩
  have m6 : decide (ext < 0) = false := by simp; omega
  by_cases n7 : 1000000000 < ext
  · clear C
    go_wp2_with fail
    go_ret
    exact ⟨rfl, (Keeps.refl _ _).alloc _⟩
  have m7 : decide ((1000000000 : Int) < ext) = false := by simp; omega
  have hb : ∃ e ∈ es, e.bad := Classical.byContradiction fun hb => hg (good_of (by omega) (by omega) hb)
  go_wp2_with (go_at_call 76; refine (C _ ((Keeps.refl _ _).alloc _) (by omega) true ⟨fun _ => hb, fun _ => rfl⟩).mono ?_; rintro e w2 ⟨rfl, hk2⟩; clear C)
  go_ret
  exact ⟨rfl, ((Keeps.refl _ _).alloc _).same hk2⟩

set_option maxRecDepth 100000 in
theorem set_bad {w : World} {p : Nat} {base cyc ext : Int} {A : Option Addr} {c : Nat} {es : List Ent} (hr : EntsR w A c es) (hg : ¬ Good base cyc ext es) (now : Int) :
    Calls Try.prog 30 #[.pointer (some ⟨p, 0, none⟩), .agg #[.int .i64 base, .int .i64 cyc, .int .i64 ext, .slice A es.length c], .int .i64 now] w (fun e w' => e = .returned (.int .i64 30) ∧ Keeps Nothing w w') := by
  have C := fun v (hv : Keeps Nothing w v) => check_bad (hr.same hv) hg
  clear hr hg
  go_enter Try.func30, Try.ntmps30
  go_wp2_with (go_at_call 55; refine (C _ ((Keeps.refl _ _).alloc _)).mono ?_; rintro e w2 ⟨rfl, hk2⟩; clear C)
  go_ret
  exact ⟨rfl, ((Keeps.refl _ _).alloc _).same hk2⟩

set_option maxRecDepth 100000 in
theorem set_time {w : World} {p : Nat} {base cyc ext : Int} {A : Option Addr} {c : Nat} {es : List Ent} (hr : EntsR w A c es) (hg : Good base cyc ext es) (now : Int) (hn : now < 0) :
    Calls Try.prog 30 #[.pointer (some ⟨p, 0, none⟩), .agg #[.int .i64 base, .int .i64 cyc, .int .i64 ext, .slice A es.length c], .int .i64 now] w (fun e w' => e = .returned (.int .i64 31) ∧ Keeps Nothing w w') := by
  have C := fun v (hv : Keeps Nothing w v) => check_good (hr.same hv) hg
  clear hr hg
  go_enter Try.func30, Try.ntmps30
  go_wp2_with (go_at_call 55; refine (C _ ((Keeps.refl _ _).alloc _)).mono ?_; rintro e w2 ⟨rfl, hk2⟩; clear C)
  go_ret
  exact ⟨rfl, ((Keeps.refl _ _).alloc _).same hk2⟩
end

end Go.Proofs.Ytimgmobmagpmlaa
