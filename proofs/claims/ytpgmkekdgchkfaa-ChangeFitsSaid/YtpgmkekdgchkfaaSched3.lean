/- The list in force; what comes. -/
import Derived.Test.YtpgmkekdgchkfaaSched2
namespace Go.Proofs.Ytpgmkekdgchkfaa
open Go.RowKit

theorem cell_set4 {w : World} {b p o : Nat} (v0 v1 v2 v3 : Value) {u : Value} (h : p ≠ b) (hc : w.cell? ⟨p, o, none⟩ = some u) : ((((w.setCell ⟨b, 0, none⟩ v0).setCell ⟨b, 1, none⟩ v1).setCell ⟨b, 2, none⟩ v2).setCell ⟨b, 3, none⟩ v3).cell? ⟨p, o, none⟩ = some u :=
  (((((((Keeps.refl (fun k => k = b) w).setCell (p := ⟨b, 0, none⟩) (fun _ => rfl) v0).setCell (p := ⟨b, 1, none⟩) (fun _ => rfl) v1).setCell (p := ⟨b, 2, none⟩) (fun _ => rfl) v2).setCell (p := ⟨b, 3, none⟩) (fun _ => rfl) v3)).cell (World.block_lt_of_cell? _ _ hc) h).trans hc

theorem results_cell72 {fn : Func} {p u : Tmp} (h : fn.results = #[.cell p 72, .tmp u]) (tmps : Array Value) (w : World) (g : Nat) (cs : List Value) (T : TypeId) (hp : tmps.getD p undef = .pointer (some ⟨g, 0, none⟩)) (hB : Blk w g cs T) (h4 : cs.length = 4) :
    (results fn tmps).run Try.prog w = .ok (.tuple #[.agg cs.toArray, tmps.getD u undef]) w := by
  rw [results_cell_tmp h, hp]
  have hi : (Try.prog.info? 72).map (·.size) = some 4 := by kernel_rfl
  have hl := run_loadVar_row (P := Try.prog) w g T 72 cs.toArray (0, 0) _ hB Try.underlying72 rfl (by rw [List.size_toArray, h4]; exact hi)
  simp [asAddr, hl]

def OperIs (w : World) (S : Sch) (e : Ending) (w' : World) : Prop :=
  ∃ g cap, e = .returned (.tuple #[.agg #[.int .i64 S.oper.base, .int .i64 S.oper.cyc, .int .i64 S.oper.ext, .slice (some ⟨g, 0, none⟩) S.oper.es.length cap], .bool S.has]) ∧ Keeps Nothing w w'

set_option maxRecDepth 100000 in
set_option maxHeartbeats 4000000 in
theorem oper_ok {w : World} {p : Nat} {S : Sch} (h : SchAt w p S) (h0 : 0 < S.oper.es.length) (hn : S.oper.es.length ≤ 64) :
    Calls Try.prog 47 #[.pointer (some ⟨p, 0, none⟩)] w (OperIs w S) := by
  obtain ⟨⟨ob, oc, ox, oA, ocap, oes⟩, ⟨ab, ac, ax, aA, acap, aes⟩, has, waits, due, chg, rep⟩ := S
  have hO := h.oper.1
  simp only at hO h0 hn
  have C := fun v (hv : Keeps Nothing w v) => clone_ok (base := ob) (cyc := oc) (ext := ox) (hO.same hv) h0 hn
  have hB : Blk w p [.int .i64 ob, .int .i64 oc, .int .i64 ox, .slice oA oes.length ocap, .int .i64 ab, .int .i64 ac, .int .i64 ax, .slice aA aes.length acap, .bool has, .bool waits, .int .i64 due, .int .i64 chg, .int .i64 rep] 79 := h.blk
  have hpl := hB.lt
  have HB0 := Lib.hid hB
  clear h hB hO
  go_enter Try.func47, Try.ntmps47
  go_upto_region 1 with fail
  have HK1 : Hid (Keeps Nothing w (w.alloc (.cells #[.int .i64 0, .int .i64 0, .int .i64 0, .slice none 0 0] 72))) := (Keeps.refl _ _).alloc _
  have HR1 : Hid (Blk (w.alloc (.cells #[.int .i64 0, .int .i64 0, .int .i64 0, .slice none 0 0] 72)) w.heap.size [.int .i64 0, .int .i64 0, .int .i64 0, .slice none 0 0] 72) := Blk.new w [.int .i64 0, .int .i64 0, .int .i64 0, .slice none 0 0] 72
  generalize (w.alloc (.cells #[.int .i64 0, .int .i64 0, .int .i64 0, .slice none 0 0] 72)) = w1 at *
  have hB1 := HB0.out.keeps HK1.out (fun h => h)
  have s0 : w1.cell? ⟨p, 0, none⟩ = some (.int .i64 ob) := hB1.cell 0
  have s1 : w1.cell? ⟨p, 1, none⟩ = some (.int .i64 oc) := hB1.cell 1
  have s2 : w1.cell? ⟨p, 2, none⟩ = some (.int .i64 ox) := hB1.cell 2
  have s3 : w1.cell? ⟨p, 3, none⟩ = some (.slice oA oes.length ocap) := hB1.cell 3
  have s8 : w1.cell? ⟨p, 8, none⟩ = some (.bool has) := hB1.cell 8
  have hpn : p ≠ w.heap.size := by omega
  clear hB1
  go_region_held3 (fun v => v.cell? ⟨p, 0, none⟩ = some (.int .i64 ob) ∧ v.cell? ⟨p, 1, none⟩ = some (.int .i64 oc) ∧ v.cell? ⟨p, 2, none⟩ = some (.int .i64 ox) ∧ v.cell? ⟨p, 3, none⟩ = some (.slice oA oes.length ocap) ∧ v.cell? ⟨p, 8, none⟩ = some (.bool has)) (first | exact ⟨s0, s1, s2, s3, s8⟩ | exact ⟨k0, k1, k2, k3, k8⟩ | exact ⟨cell_set4 _ _ _ _ hpn k0, cell_set4 _ _ _ _ hpn k1, cell_set4 _ _ _ _ hpn k2, cell_set4 _ _ _ _ hpn k3, cell_set4 _ _ _ _ hpn k8⟩) (first | (go_at_call 71; refine (C _ (HK1.out.drew)).mono ?_; rintro e w2 ⟨g, cap, rfl, hgs, hE, hk2⟩; have hB2 := HB0.out.keeps (HK1.out.drew.same hk2) (fun h => h); have hR2 := HR1.out.drew.keeps hk2 (fun h => h); have k0 : w2.cell? ⟨p, 0, none⟩ = some (.int .i64 ob) := hB2.cell 0; have k1 : w2.cell? ⟨p, 1, none⟩ = some (.int .i64 oc) := hB2.cell 1; have k2 : w2.cell? ⟨p, 2, none⟩ = some (.int .i64 ox) := hB2.cell 2; have k3 : w2.cell? ⟨p, 3, none⟩ = some (.slice oA oes.length ocap) := hB2.cell 3; have k8 : w2.cell? ⟨p, 8, none⟩ = some (.bool has) := hB2.cell 8; have y0 : w2.cell? ⟨w.heap.size, 0, none⟩ = some (.int .i64 0) := hR2.cell 0; have y1 : w2.cell? ⟨w.heap.size, 1, none⟩ = some (.int .i64 0) := hR2.cell 1; have y2 : w2.cell? ⟨w.heap.size, 2, none⟩ = some (.int .i64 0) := hR2.cell 2; have y3 : w2.cell? ⟨w.heap.size, 3, none⟩ = some (.slice none 0 0) := hR2.cell 3; have z0 := hR2.frozen 0; have z1 := hR2.frozen 1; have z2 := hR2.frozen 2; have z3 := hR2.frozen 3; have HR2 := Lib.hid hR2; clear hB2 hR2))
  all_goals go_wp2_with fail
  all_goals
    have hF := (((HR2.out.set 0 (.int .i64 ob)).set 1 (.int .i64 oc)).set 2 (.int .i64 ox)).set 3 (.slice (some ⟨g, 0, none⟩) oes.length cap)
    refine bodyPost_ret (results_cell72 rfl _ _ w.heap.size _ 72 rfl hF rfl) rfl ?_
    have hK : Keeps (fun k => k = w.heap.size) w2 _ := ((((Keeps.refl (fun k => k = w.heap.size) w2).setCell (p := ⟨w.heap.size, 0, none⟩) (fun _ => rfl) (.int .i64 ob)).setCell (p := ⟨w.heap.size, 1, none⟩) (fun _ => rfl) (.int .i64 oc)).setCell (p := ⟨w.heap.size, 2, none⟩) (fun _ => rfl) (.int .i64 ox)).setCell (p := ⟨w.heap.size, 3, none⟩) (fun _ => rfl) (.slice (some ⟨g, 0, none⟩) oes.length cap)
    exact ⟨g, cap, rfl, (HK1.out.drew.same hk2).up hK (fun k hk => by omega)⟩

end Go.Proofs.Ytpgmkekdgchkfaa
