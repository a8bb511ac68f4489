/- A schedule: two lists, and when the one takes the other's place. -/
import Derived.Test.YtpgmkekdgchkfaaGate3
import Derived.Test.YtpgmkekdgchkfaaGate4
import Derived.Laws.ResultCell
namespace Go.Proofs.Ytpgmkekdgchkfaa
open Go.RowKit

structure Lst where
  base : Int
  cyc : Int
  ext : Int
  A : Option Addr
  cap : Nat
  es : List Ent

def Lst.zero : Lst := ⟨0, 0, 0, none, 0, []⟩

structure Sch where
  oper : Lst
  admin : Lst
  has : Bool
  waits : Bool
  due : Int
  chg : Int
  rep : Int

def Sch.cells (S : Sch) : List Value := [.int .i64 S.oper.base, .int .i64 S.oper.cyc, .int .i64 S.oper.ext, .slice S.oper.A S.oper.es.length S.oper.cap, .int .i64 S.admin.base, .int .i64 S.admin.cyc, .int .i64 S.admin.ext, .slice S.admin.A S.admin.es.length S.admin.cap, .bool S.has, .bool S.waits, .int .i64 S.due, .int .i64 S.chg, .int .i64 S.rep]

def Lst.ok (w : World) (p : Nat) (l : Lst) : Prop := EntsR w l.A l.cap l.es ∧ ∀ b o, l.A = some ⟨b, o, none⟩ → b ≠ p

theorem Lst.ok.turn {w w' : World} {p : Nat} {l : Lst} (h : l.ok w p) (hk : Keeps (fun k => k = p) w w') : l.ok w' p := ⟨h.1.keeps hk (fun b o e => h.2 b o e), h.2⟩
theorem Lst.ok.same {w w' : World} {p : Nat} {l : Lst} (h : l.ok w p) (hk : Keeps Nothing w w') : l.ok w' p := ⟨h.1.same hk, h.2⟩
theorem Lst.zero_ok (w : World) (p : Nat) : Lst.zero.ok w p := ⟨.inl rfl, fun b o e => by cases e⟩

structure SchAt (w : World) (p : Nat) (S : Sch) : Prop where
  blk : Blk w p S.cells 79
  oper : S.oper.ok w p
  admin : S.admin.ok w p

theorem SchAt.same {w w' : World} {p : Nat} {S : Sch} (h : SchAt w p S) (hk : Keeps Nothing w w') : SchAt w' p S := ⟨h.blk.keeps hk (fun h => h), h.oper.same hk, h.admin.same hk⟩

def Sch.passed (S : Sch) : Sch := { oper := { S.admin with base := S.due }, admin := Lst.zero, has := true, waits := false, due := S.due, chg := S.chg + 1, rep := S.rep }
def Sch.pass (S : Sch) (now : Int) : Sch := if S.waits = true ∧ S.due ≤ now then S.passed else S

def Passed (w : World) (p : Nat) (S : Sch) (e : Ending) (w' : World) : Prop := e = .returned (.tuple #[]) ∧ SchAt w' p S ∧ Keeps (fun k => k = p) w w'

set_option maxRecDepth 100000 in
set_option maxHeartbeats 4000000 in
theorem pass_ok {w : World} {p : Nat} {S : Sch} (h : SchAt w p S) (now : Int) (hc : 0 ≤ S.chg ∧ S.chg ≤ 1000000000) :
    Calls Try.prog 46 #[.pointer (some ⟨p, 0, none⟩), .int .i64 now] w (Passed w p (S.pass now)) := by
  obtain ⟨⟨ob, oc, ox, oA, ocap, oes⟩, ⟨ab, ac, ax, aA, acap, aes⟩, has, waits, due, chg, rep⟩ := S
  have HS := Lib.hid h
  have hB : Blk w p [.int .i64 ob, .int .i64 oc, .int .i64 ox, .slice oA oes.length ocap, .int .i64 ab, .int .i64 ac, .int .i64 ax, .slice aA aes.length acap, .bool has, .bool waits, .int .i64 due, .int .i64 chg, .int .i64 rep] 79 := h.blk
  have HB := Lib.hid hB
  simp only at hc
  have s0 : w.cell? ⟨p, 0, none⟩ = some (.int .i64 ob) := hB.cell 0; have s1 : w.cell? ⟨p, 1, none⟩ = some (.int .i64 oc) := hB.cell 1; have s2 : w.cell? ⟨p, 2, none⟩ = some (.int .i64 ox) := hB.cell 2; have s3 : w.cell? ⟨p, 3, none⟩ = some (.slice oA oes.length ocap) := hB.cell 3; have s4 : w.cell? ⟨p, 4, none⟩ = some (.int .i64 ab) := hB.cell 4; have s5 : w.cell? ⟨p, 5, none⟩ = some (.int .i64 ac) := hB.cell 5; have s6 : w.cell? ⟨p, 6, none⟩ = some (.int .i64 ax) := hB.cell 6; have s7 : w.cell? ⟨p, 7, none⟩ = some (.slice aA aes.length acap) := hB.cell 7; have s8 : w.cell? ⟨p, 8, none⟩ = some (.bool has) := hB.cell 8; have s9 : w.cell? ⟨p, 9, none⟩ = some (.bool waits) := hB.cell 9; have s10 : w.cell? ⟨p, 10, none⟩ = some (.int .i64 due) := hB.cell 10; have s11 : w.cell? ⟨p, 11, none⟩ = some (.int .i64 chg) := hB.cell 11; have s12 : w.cell? ⟨p, 12, none⟩ = some (.int .i64 rep) := hB.cell 12; have f0 := hB.frozen 0; have f1 := hB.frozen 1; have f2 := hB.frozen 2; have f3 := hB.frozen 3; have f4 := hB.frozen 4; have f5 := hB.frozen 5; have f6 := hB.frozen 6; have f7 := hB.frozen 7; have f8 := hB.frozen 8; have f9 := hB.frozen 9; have f10 := hB.frozen 10; have f11 := hB.frozen 11; have f12 := hB.frozen 12
  clear h hB
  cases waits
  · have hp : Sch.pass ⟨⟨ob, oc, ox, oA, ocap, oes⟩, ⟨ab, ac, ax, aA, acap, aes⟩, has, false, due, chg, rep⟩ now = ⟨⟨ob, oc, ox, oA, ocap, oes⟩, ⟨ab, ac, ax, aA, acap, aes⟩, has, false, due, chg, rep⟩ := by simp [Sch.pass]
    rw [hp]
    go_enter Try.func46, Try.ntmps46
    go_wp2_with fail
    go_end0
    exact ⟨rfl, HS.out, Keeps.refl _ _⟩
  · by_cases hd : due ≤ now
    · have hp : Sch.pass ⟨⟨ob, oc, ox, oA, ocap, oes⟩, ⟨ab, ac, ax, aA, acap, aes⟩, has, true, due, chg, rep⟩ now = ⟨⟨due, ac, ax, aA, acap, aes⟩, Lst.zero, true, false, due, chg + 1, rep⟩ := by simp [Sch.pass, Sch.passed, hd]
      rw [hp]
      go_enter Try.func46, Try.ntmps46
      go_wp2_with fail
      go_end0
      refine ⟨rfl, ⟨((((((((((((HB.out.set 0 _).set 1 _).set 2 _).set 3 _).set 8 _).set 9 _).set 4 _).set 5 _).set 6 _).set 7 _).set 0 _).set 11 _), ?_, Lst.zero_ok _ _⟩, ?_⟩
      · exact Lst.ok.turn (l := ⟨due, ac, ax, aA, acap, aes⟩) (w := w) HS.out.admin (by exact (((((((((((((Keeps.refl (fun k => k = p) w).setCell (p := ⟨p, 0, none⟩) (fun _ => rfl) _).setCell (p := ⟨p, 1, none⟩) (fun _ => rfl) _).setCell (p := ⟨p, 2, none⟩) (fun _ => rfl) _).setCell (p := ⟨p, 3, none⟩) (fun _ => rfl) _).setCell (p := ⟨p, 8, none⟩) (fun _ => rfl) _).setCell (p := ⟨p, 9, none⟩) (fun _ => rfl) _).setCell (p := ⟨p, 4, none⟩) (fun _ => rfl) _).setCell (p := ⟨p, 5, none⟩) (fun _ => rfl) _).setCell (p := ⟨p, 6, none⟩) (fun _ => rfl) _).setCell (p := ⟨p, 7, none⟩) (fun _ => rfl) _).setCell (p := ⟨p, 0, none⟩) (fun _ => rfl) _).setCell (p := ⟨p, 11, none⟩) (fun _ => rfl) _))
      · exact (((((((((((((Keeps.refl (fun k => k = p) w).setCell (p := ⟨p, 0, none⟩) (fun _ => rfl) _).setCell (p := ⟨p, 1, none⟩) (fun _ => rfl) _).setCell (p := ⟨p, 2, none⟩) (fun _ => rfl) _).setCell (p := ⟨p, 3, none⟩) (fun _ => rfl) _).setCell (p := ⟨p, 8, none⟩) (fun _ => rfl) _).setCell (p := ⟨p, 9, none⟩) (fun _ => rfl) _).setCell (p := ⟨p, 4, none⟩) (fun _ => rfl) _).setCell (p := ⟨p, 5, none⟩) (fun _ => rfl) _).setCell (p := ⟨p, 6, none⟩) (fun _ => rfl) _).setCell (p := ⟨p, 7, none⟩) (fun _ => rfl) _).setCell (p := ⟨p, 0, none⟩) (fun _ => rfl) _).setCell (p := ⟨p, 11, none⟩) (fun _ => rfl) _)
    · have hd' : decide (due ≤ now) = false := by simpa using hd
      have hp : Sch.pass ⟨⟨ob, oc, ox, oA, ocap, oes⟩, ⟨ab, ac, ax, aA, acap, aes⟩, has, true, due, chg, rep⟩ now = ⟨⟨ob, oc, ox, oA, ocap, oes⟩, ⟨ab, ac, ax, aA, acap, aes⟩, has, true, due, chg, rep⟩ := by simp [Sch.pass, hd]
      rw [hp]
      go_enter Try.func46, Try.ntmps46
      go_wp2_with fail
      go_end0
      exact ⟨rfl, HS.out, Keeps.refl _ _⟩

end Go.Proofs.Ytpgmkekdgchkfaa
