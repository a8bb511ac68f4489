/- The document's pair: what it is told, and what passes. -/
import Derived.Test.YtpgmkekdgchkfaaNexts
namespace Go.Proofs.Ytpgmkekdgchkfaa
open Go.RowKit

def Par.cells (P : Par) : List Value := [.int .i64 P.oper.base, .int .i64 P.oper.cyc, .int .i64 P.oper.ext, .slice P.oper.A P.oper.es.length P.oper.cap, .int .i64 P.admin.base, .int .i64 P.admin.cyc, .int .i64 P.admin.ext, .slice P.admin.A P.admin.es.length P.admin.cap, .bool P.has, .bool P.waits, .int .i64 P.due]

structure ParAt (w : World) (q : Nat) (P : Par) : Prop where
  blk : Blk w q P.cells 74
  oper : P.oper.ok w q
  admin : P.admin.ok w q

theorem ParAt.same {w w' : World} {q : Nat} {P : Par} (h : ParAt w q P) (hk : Keeps Nothing w w') : ParAt w' q P := ⟨h.blk.keeps hk (fun h => h), h.oper.same hk, h.admin.same hk⟩

def Par.passed (P : Par) : Par := { oper := { P.admin with base := P.due }, admin := P.admin, has := true, waits := false, due := P.due }
def Par.pass (P : Par) (now : Int) : Par := if P.waits = true ∧ P.due ≤ now then P.passed else P
def Par.told (P : Par) (l : Lst) (due : Int) : Par := { oper := P.oper, admin := l, has := P.has, waits := true, due := due }

def PPassed (w : World) (q : Nat) (P : Par) (e : Ending) (w' : World) : Prop := e = .returned (.tuple #[]) ∧ ParAt w' q P ∧ Keeps (fun k => k = q) w w'

set_option maxRecDepth 100000 in
set_option maxHeartbeats 4000000 in
theorem ppass_ok {w : World} {q : Nat} {P : Par} (h : ParAt w q P) (now : Int) :
    Calls Try.prog 73 #[.pointer (some ⟨q, 0, none⟩), .int .i64 now] w (PPassed w q (P.pass now)) := by
  obtain ⟨⟨ob, oc, ox, oA, ocap, oes⟩, ⟨ab, ac, ax, aA, acap, aes⟩, has, waits, due⟩ := P
  have HS := Lib.hid h
  have hB : Blk w q [.int .i64 ob, .int .i64 oc, .int .i64 ox, .slice oA oes.length ocap, .int .i64 ab, .int .i64 ac, .int .i64 ax, .slice aA aes.length acap, .bool has, .bool waits, .int .i64 due] 74 := h.blk
  have HB := Lib.hid hB
  have s0 : w.cell? ⟨q, 0, none⟩ = some (.int .i64 ob) := hB.cell 0
  have s1 : w.cell? ⟨q, 1, none⟩ = some (.int .i64 oc) := hB.cell 1
  have s2 : w.cell? ⟨q, 2, none⟩ = some (.int .i64 ox) := hB.cell 2
  have s3 : w.cell? ⟨q, 3, none⟩ = some (.slice oA oes.length ocap) := hB.cell 3
  have s4 : w.cell? ⟨q, 4, none⟩ = some (.int .i64 ab) := hB.cell 4
  have s5 : w.cell? ⟨q, 5, none⟩ = some (.int .i64 ac) := hB.cell 5
  have s6 : w.cell? ⟨q, 6, none⟩ = some (.int .i64 ax) := hB.cell 6
  have s7 : w.cell? ⟨q, 7, none⟩ = some (.slice aA aes.length acap) := hB.cell 7
  have s8 : w.cell? ⟨q, 8, none⟩ = some (.bool has) := hB.cell 8
  have s9 : w.cell? ⟨q, 9, none⟩ = some (.bool waits) := hB.cell 9
  have s10 : w.cell? ⟨q, 10, none⟩ = some (.int .i64 due) := hB.cell 10
  have f0 := hB.frozen 0
  have f1 := hB.frozen 1
  have f2 := hB.frozen 2
  have f3 := hB.frozen 3
  have f4 := hB.frozen 4
  have f5 := hB.frozen 5
  have f6 := hB.frozen 6
  have f7 := hB.frozen 7
  have f8 := hB.frozen 8
  have f9 := hB.frozen 9
  have f10 := hB.frozen 10
  clear h hB
  cases waits
  · have hp : Par.pass ⟨⟨ob, oc, ox, oA, ocap, oes⟩, ⟨ab, ac, ax, aA, acap, aes⟩, has, false, due⟩ now = ⟨⟨ob, oc, ox, oA, ocap, oes⟩, ⟨ab, ac, ax, aA, acap, aes⟩, has, false, due⟩ := if_neg (fun x => by cases x.1)
    rw [hp]
    go_enter Try.func73, Try.ntmps73
    go_wp2_with fail
    go_end0
    exact ⟨rfl, HS.out, Keeps.refl _ _⟩
  · by_cases hd : due ≤ now
    · have hp : Par.pass ⟨⟨ob, oc, ox, oA, ocap, oes⟩, ⟨ab, ac, ax, aA, acap, aes⟩, has, true, due⟩ now = ⟨⟨due, ac, ax, aA, acap, aes⟩, ⟨ab, ac, ax, aA, acap, aes⟩, true, false, due⟩ := if_pos ⟨rfl, hd⟩
      rw [hp]
      go_enter Try.func73, Try.ntmps73
      go_wp2_with fail
      go_end0
      refine ⟨rfl, ⟨(((((((HB.out.set 0 _).set 1 _).set 2 _).set 3 _).set 8 _).set 9 _).set 0 _), ?_, ?_⟩, ?_⟩
      · exact Lst.ok.turn (l := ⟨due, ac, ax, aA, acap, aes⟩) (w := w) HS.out.admin (by exact ((((((((Keeps.refl (fun k => k = q) w).setCell (p := ⟨q, 0, none⟩) (fun _ => rfl) _).setCell (p := ⟨q, 1, none⟩) (fun _ => rfl) _).setCell (p := ⟨q, 2, none⟩) (fun _ => rfl) _).setCell (p := ⟨q, 3, none⟩) (fun _ => rfl) _).setCell (p := ⟨q, 8, none⟩) (fun _ => rfl) _).setCell (p := ⟨q, 9, none⟩) (fun _ => rfl) _).setCell (p := ⟨q, 0, none⟩) (fun _ => rfl) _))
      · exact Lst.ok.turn (l := ⟨ab, ac, ax, aA, acap, aes⟩) (w := w) HS.out.admin (by exact ((((((((Keeps.refl (fun k => k = q) w).setCell (p := ⟨q, 0, none⟩) (fun _ => rfl) _).setCell (p := ⟨q, 1, none⟩) (fun _ => rfl) _).setCell (p := ⟨q, 2, none⟩) (fun _ => rfl) _).setCell (p := ⟨q, 3, none⟩) (fun _ => rfl) _).setCell (p := ⟨q, 8, none⟩) (fun _ => rfl) _).setCell (p := ⟨q, 9, none⟩) (fun _ => rfl) _).setCell (p := ⟨q, 0, none⟩) (fun _ => rfl) _))
      · exact ((((((((Keeps.refl (fun k => k = q) w).setCell (p := ⟨q, 0, none⟩) (fun _ => rfl) _).setCell (p := ⟨q, 1, none⟩) (fun _ => rfl) _).setCell (p := ⟨q, 2, none⟩) (fun _ => rfl) _).setCell (p := ⟨q, 3, none⟩) (fun _ => rfl) _).setCell (p := ⟨q, 8, none⟩) (fun _ => rfl) _).setCell (p := ⟨q, 9, none⟩) (fun _ => rfl) _).setCell (p := ⟨q, 0, none⟩) (fun _ => rfl) _)
    · have hd' : decide (due ≤ now) = false := by simpa using hd
      have hp : Par.pass ⟨⟨ob, oc, ox, oA, ocap, oes⟩, ⟨ab, ac, ax, aA, acap, aes⟩, has, true, due⟩ now = ⟨⟨ob, oc, ox, oA, ocap, oes⟩, ⟨ab, ac, ax, aA, acap, aes⟩, has, true, due⟩ := if_neg (fun x => hd x.2)
      rw [hp]
      go_enter Try.func73, Try.ntmps73
      go_wp2_with fail
      go_end0
      exact ⟨rfl, HS.out, Keeps.refl _ _⟩

set_option maxRecDepth 100000 in
theorem rstart_ok {w : World} {base cyc ext : Int} {v : Value} (hb : 0 ≤ base ∧ base < 4611686018427387904) (hc : 1 ≤ cyc ∧ cyc ≤ 1000000000) (t : Int) (ht : t < 4611686018427387904) :
    Calls Try.prog 57 #[.agg #[.int .i64 base, .int .i64 cyc, .int .i64 ext, v], .int .i64 t] w (fun e w' => e = .returned (.int .i64 (rstart base cyc t)) ∧ Keeps Nothing w w') := by
  by_cases hlt : t ≤ base
  · have HV : Hid (rstart base cyc t = base) := if_pos hlt
    go_enter Try.func57, Try.ntmps57
    go_wp2_with fail
    go_ret
    exact ⟨by rw [HV.out]; rfl, (Keeps.refl _ _).alloc _⟩
  · obtain ⟨m0, m1⟩ := tmod_in (a := t - base) (c := cyc) (by omega) hc.1
    have he : (t - base).tmod cyc = (t - base) % cyc := Int.tmod_eq_emod_of_nonneg (by omega)
    have hq0 : cyc ≠ 0 := by omega
    have hw1 : IntKind.i64.wrap (t - base) = t - base := by rw [IntKind.wrap_i64]; omega
    have HV : Hid (rstart base cyc t = if (t - base) % cyc = 0 then t else t - (t - base) % cyc + cyc) := by
      show _ = _
      unfold rstart
      rw [if_neg hlt, he]
    rw [he] at m0 m1
    have hw2 : IntKind.i64.wrap ((t - base) % cyc) = (t - base) % cyc := by rw [IntKind.wrap_i64]; omega
    have HHE := Lib.hid he
    clear he
    by_cases hz : (t - base) % cyc = 0
    · have HV2 : Hid (rstart base cyc t = t) := HV.out.trans (if_pos hz)
      have hz2 : ((t - base) % cyc == 0) = true := by simpa using hz
      clear HV
      go_enter Try.func57, Try.ntmps57
      go_wp2_with fail
      go_ret
      exact ⟨by rw [HV2.out]; rfl, (Keeps.refl _ _).alloc _⟩
    · have HV2 : Hid (rstart base cyc t = t - (t - base) % cyc + cyc) := HV.out.trans (if_neg hz)
      have hz2 : ((t - base) % cyc == 0) = false := by simpa using hz
      have hw3 : IntKind.i64.wrap (t - (t - base) % cyc) = t - (t - base) % cyc := by rw [IntKind.wrap_i64]; omega
      have hw4 : IntKind.i64.wrap (t - (t - base) % cyc + cyc) = t - (t - base) % cyc + cyc := by rw [IntKind.wrap_i64]; omega
      clear HV
      go_enter Try.func57, Try.ntmps57
      go_wp2_with fail
      go_ret
      exact ⟨by rw [HV2.out]; rfl, (Keeps.refl _ _).alloc _⟩

end Go.Proofs.Ytpgmkekdgchkfaa
