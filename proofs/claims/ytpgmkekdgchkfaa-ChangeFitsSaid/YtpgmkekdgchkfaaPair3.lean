/- The document's pair: it is told a list. -/
import Derived.Test.YtpgmkekdgchkfaaPair
import Derived.Deep.RegionWith
namespace Go.Proofs.Ytpgmkekdgchkfaa
open Go.RowKit

theorem cell_set1 {w : World} {b p o o' : Nat} (v : Value) {u : Value} (h : p ≠ b) (hc : w.cell? ⟨p, o, none⟩ = some u) : (w.setCell ⟨b, o', none⟩ v).cell? ⟨p, o, none⟩ = some u :=
  ((Keeps.refl (fun k => k = b) w).setCell (p := ⟨b, o', none⟩) (fun _ => rfl) v |>.cell (World.block_lt_of_cell? _ _ hc) h).trans hc

set_option maxRecDepth 100000 in
set_option maxHeartbeats 8000000 in
theorem pset_ok {w : World} {q : Nat} {P : Par} (h : ParAt w q P) {base cyc ext : Int} {A : Option Addr} {c : Nat} {es : List Ent} (hr : EntsR w A c es) (hA : ∀ b o, A = some ⟨b, o, none⟩ → b ≠ q)
    (hb : 0 ≤ base ∧ base < 4611686018427387904) (hc : 1 ≤ cyc ∧ cyc ≤ 1000000000) (now : Int) (h1 : now < 4611686018427387904) :
    Calls Try.prog 58 #[.pointer (some ⟨q, 0, none⟩), .agg #[.int .i64 base, .int .i64 cyc, .int .i64 ext, .slice A es.length c], .int .i64 now] w (PPassed w q (((P.pass now).told ⟨base, cyc, ext, A, c, es⟩ (rstart base cyc now)).pass now)) := by
  have HS := Lib.hid h
  have HR := Lib.hid hr
  have HA := Lib.hid hA
  have hpl := h.blk.lt
  have hW : Hid (Blk (w.alloc (.cells #[.int .i64 base, .int .i64 cyc, .int .i64 ext, .slice A es.length c] 72)) w.heap.size [.int .i64 base, .int .i64 cyc, .int .i64 ext, .slice A es.length c] 72 ∧ Keeps Nothing w (w.alloc (.cells #[.int .i64 base, .int .i64 cyc, .int .i64 ext, .slice A es.length c] 72))) := ⟨Blk.new w _ 72, (Keeps.refl _ _).alloc _⟩
  clear h hr hA
  have C1 := fun v (hv : Keeps Nothing w v) => ppass_ok (HS.out.same hv) now
  have C57 := fun v => rstart_ok (w := v) (ext := ext) (v := .slice A es.length c) hb hc now h1
  go_enter Try.func58, Try.ntmps58
  go_upto_region 1 with fail
  generalize (w.alloc (.cells #[.int .i64 base, .int .i64 cyc, .int .i64 ext, .slice A es.length c] 72)) = w1 at *
  go_upto_region 2 with (go_at_call 73; refine (C1 _ hW.out.2).mono ?_; rintro e w2 ⟨rfl, hS2, k2⟩; clear C1)
  have HB2 := Lib.hid (hW.out.1.keeps k2 (fun h => by omega))
  have HK2 : Hid (Keeps (fun k => k = q) w w2) := (hW.out.2.mono (G := fun k => k = q) (fun _ h _ => h.elim)).trans k2 (fun _ h _ => h)
  have hSE : ∃ P1, P1 = P.pass now := ⟨_, rfl⟩
  obtain ⟨P1, hP1⟩ := hSE
  rw [← hP1] at hS2
  have HE1 := Lib.hid hP1
  have HS2 := Lib.hid hS2
  clear hP1 hS2 k2
  obtain ⟨⟨ob, oc, ox, oA, ocap, oes⟩, ⟨ab, ac, ax, aA, acap, aes⟩, has, waits, due⟩ := P1
  have hB2 := HB2.out
  have m0 : w2.cell? ⟨w.heap.size, 0, none⟩ = some (.int .i64 base) := hB2.cell 0; have m1 : w2.cell? ⟨w.heap.size, 1, none⟩ = some (.int .i64 cyc) := hB2.cell 1; have m2 : w2.cell? ⟨w.heap.size, 2, none⟩ = some (.int .i64 ext) := hB2.cell 2; have m3 : w2.cell? ⟨w.heap.size, 3, none⟩ = some (.slice A es.length c) := hB2.cell 3
  clear hB2
  have md0 : w2.drew.cell? ⟨w.heap.size, 0, none⟩ = some (.int .i64 base) := m0
  have md1 : w2.drew.cell? ⟨w.heap.size, 1, none⟩ = some (.int .i64 cyc) := m1
  have md2 : w2.drew.cell? ⟨w.heap.size, 2, none⟩ = some (.int .i64 ext) := m2
  have md3 : w2.drew.cell? ⟨w.heap.size, 3, none⟩ = some (.slice A es.length c) := m3
  have hne : w.heap.size ≠ q := by omega
  go_region_held3 (fun v => v.cell? ⟨w.heap.size, 0, none⟩ = some (.int .i64 base) ∧ v.cell? ⟨w.heap.size, 1, none⟩ = some (.int .i64 cyc) ∧ v.cell? ⟨w.heap.size, 2, none⟩ = some (.int .i64 ext) ∧ v.cell? ⟨w.heap.size, 3, none⟩ = some (.slice A es.length c)) (first | with_reducible exact ⟨md0, md1, md2, md3⟩ | with_reducible exact ⟨n0, n1, n2, n3⟩ | with_reducible exact ⟨cell_set1 _ hne (cell_set1 _ hne (cell_set1 _ hne (cell_set1 _ hne (n0)))), cell_set1 _ hne (cell_set1 _ hne (cell_set1 _ hne (cell_set1 _ hne (n1)))), cell_set1 _ hne (cell_set1 _ hne (cell_set1 _ hne (cell_set1 _ hne (n2)))), cell_set1 _ hne (cell_set1 _ hne (cell_set1 _ hne (cell_set1 _ hne (n3))))⟩ | with_reducible exact ⟨cell_set1 _ hne (cell_set1 _ hne (cell_set1 _ hne (cell_set1 _ hne (cell_set1 _ hne (n0))))), cell_set1 _ hne (cell_set1 _ hne (cell_set1 _ hne (cell_set1 _ hne (cell_set1 _ hne (n1))))), cell_set1 _ hne (cell_set1 _ hne (cell_set1 _ hne (cell_set1 _ hne (cell_set1 _ hne (n2))))), cell_set1 _ hne (cell_set1 _ hne (cell_set1 _ hne (cell_set1 _ hne (cell_set1 _ hne (n3)))))⟩ | with_reducible exact ⟨cell_set1 _ hne (cell_set1 _ hne (cell_set1 _ hne (cell_set1 _ hne (cell_set1 _ hne (cell_set1 _ hne (n0)))))), cell_set1 _ hne (cell_set1 _ hne (cell_set1 _ hne (cell_set1 _ hne (cell_set1 _ hne (cell_set1 _ hne (n1)))))), cell_set1 _ hne (cell_set1 _ hne (cell_set1 _ hne (cell_set1 _ hne (cell_set1 _ hne (cell_set1 _ hne (n2)))))), cell_set1 _ hne (cell_set1 _ hne (cell_set1 _ hne (cell_set1 _ hne (cell_set1 _ hne (cell_set1 _ hne (n3))))))⟩) (first | (go_at_call 57; refine (C57 _).mono ?_; rintro e w3 ⟨rfl, k3⟩; have hB3 := HB2.out.drew.keeps k3 (fun h => h); have n0 : w3.cell? ⟨w.heap.size, 0, none⟩ = some (.int .i64 base) := hB3.cell 0; have n1 : w3.cell? ⟨w.heap.size, 1, none⟩ = some (.int .i64 cyc) := hB3.cell 1; have n2 : w3.cell? ⟨w.heap.size, 2, none⟩ = some (.int .i64 ext) := hB3.cell 2; have n3 : w3.cell? ⟨w.heap.size, 3, none⟩ = some (.slice A es.length c) := hB3.cell 3; have hQ := HS2.out.blk.drew.keeps k3 (fun h => h); have s0 : w3.cell? ⟨q, 0, none⟩ = some (.int .i64 ob) := hQ.cell 0; have s1 : w3.cell? ⟨q, 1, none⟩ = some (.int .i64 oc) := hQ.cell 1; have s2 : w3.cell? ⟨q, 2, none⟩ = some (.int .i64 ox) := hQ.cell 2; have s3 : w3.cell? ⟨q, 3, none⟩ = some (.slice oA oes.length ocap) := hQ.cell 3; have s4 : w3.cell? ⟨q, 4, none⟩ = some (.int .i64 ab) := hQ.cell 4; have s5 : w3.cell? ⟨q, 5, none⟩ = some (.int .i64 ac) := hQ.cell 5; have s6 : w3.cell? ⟨q, 6, none⟩ = some (.int .i64 ax) := hQ.cell 6; have s7 : w3.cell? ⟨q, 7, none⟩ = some (.slice aA aes.length acap) := hQ.cell 7; have s8 : w3.cell? ⟨q, 8, none⟩ = some (.bool has) := hQ.cell 8; have s9 : w3.cell? ⟨q, 9, none⟩ = some (.bool waits) := hQ.cell 9; have s10 : w3.cell? ⟨q, 10, none⟩ = some (.int .i64 due) := hQ.cell 10; have f0 := hQ.frozen 0; have f1 := hQ.frozen 1; have f2 := hQ.frozen 2; have f3 := hQ.frozen 3; have f4 := hQ.frozen 4; have f5 := hQ.frozen 5; have f6 := hQ.frozen 6; have f7 := hQ.frozen 7; have f8 := hQ.frozen 8; have f9 := hQ.frozen 9; have f10 := hQ.frozen 10; clear hB3 C57))
  have HB7 := Lib.hid ((((((hQ.set 4 (.int .i64 base)).set 5 (.int .i64 cyc)).set 6 (.int .i64 ext)).set 7 (.slice A es.length c)).set 9 (.bool true)).set 10 (.int .i64 (rstart base cyc now)))
  have HK7 : Hid (Keeps (fun k => k = q) w3 _) := ((((((Keeps.refl (fun k => k = q) w3).setCell (p := ⟨q, 4, none⟩) (fun _ => rfl) (.int .i64 base)).setCell (p := ⟨q, 5, none⟩) (fun _ => rfl) (.int .i64 cyc)).setCell (p := ⟨q, 6, none⟩) (fun _ => rfl) (.int .i64 ext)).setCell (p := ⟨q, 7, none⟩) (fun _ => rfl) (.slice A es.length c)).setCell (p := ⟨q, 9, none⟩) (fun _ => rfl) (.bool true)).setCell (p := ⟨q, 10, none⟩) (fun _ => rfl) (.int .i64 (rstart base cyc now))
  have HK3 := Lib.hid (((Keeps.refl Nothing w2).drew).same k3)
  clear hQ s0 s1 s2 s3 s4 s5 s6 s7 s8 s9 s10 f0 f1 f2 f3 f4 f5 f6 f7 f8 f9 f10 m0 m1 m2 m3 md0 md1 md2 md3 n0 n1 n2 n3
  generalize (((((w3.setCell ⟨q, 4, none⟩ (.int .i64 base)).setCell ⟨q, 5, none⟩ (.int .i64 cyc)).setCell ⟨q, 6, none⟩ (.int .i64 ext)).setCell ⟨q, 7, none⟩ (.slice A es.length c)).setCell ⟨q, 9, none⟩ (.bool true)).setCell ⟨q, 10, none⟩ (.int .i64 (rstart base cyc now)) = w7 at *
  have hS7 : ParAt w7 q (Par.told ⟨⟨ob, oc, ox, oA, ocap, oes⟩, ⟨ab, ac, ax, aA, acap, aes⟩, has, waits, due⟩ ⟨base, cyc, ext, A, c, es⟩ (rstart base cyc now)) :=
    ⟨HB7.out, (HS2.out.oper.same HK3.out).turn HK7.out, Lst.ok.turn (w := w3) ⟨((HR.out.keeps HK2.out (fun b o hb => HA.out b o hb)).same HK3.out), HA.out⟩ HK7.out⟩
  have C6 := ppass_ok hS7 now
  go_wp2_with (go_at_call 73; refine C6.mono ?_; rintro e w8 ⟨rfl, hS8, hk8⟩; clear C6)
  go_end0
  exact ⟨rfl, (by rw [← HE1.out]; exact hS8), ((HK2.out.trans HK3.out (fun _ h _ => h.elim)).trans HK7.out (fun _ h _ => h)).trans hk8 (fun _ h _ => h)⟩

end Go.Proofs.Ytpgmkekdgchkfaa
