/- EgressGates: the walk. -/
import Derived.Test.YtimgmobmagpmlaaPlay23
import Derived.Test.YtimgmobmagpmlaaYields
import Derived.Test.YtimgmobmagpmlaaActs
namespace Go.Proofs.Ytimgmobmagpmlaa
open Go.RowKit

set_option maxRecDepth 100000 in
set_option maxHeartbeats 4000000 in
theorem gates_ok {w : World} {A : Option Addr} {acts : List EAct} {c : Nat} (h : EActs w (fun k => k < w.heap.size) A acts c) (hl : acts.length ≤ 9223372036854775807) (speed : Int) :
    Calls Try.prog 4 #[.int .i64 speed, .slice A acts.length c] w (TrueKept w) := by
  have hmf : ∀ (fn : Fn) (first cap : Array Value) (w : World), (Instr.makeFunc fn first cap).run Try.prog w = .ok (.func fn first cap) w := fun _ _ _ _ => rfl
  have HA := Lib.hid h
  have HK0 := Lib.hid ((Keeps.refl Nothing w).alloc (.cells #[.int .i64 speed] 3))
  have HB0 := Lib.hid (Blk.new w [.int .i64 speed] 3)
  clear h
  go_enter Try.func4, Try.ntmps4
  go_upto_region 1 with fail
  generalize (w.alloc (.cells #[.int .i64 speed] 3)) = wa at *
  go_upto_region 3 with (go_at_call 8; refine (sends_ok _).mono ?_; rintro e w1 ⟨rfl, k1⟩)
  have HK1 := Lib.hid (HK0.out.same k1)
  have HB1 := Lib.hid (HB0.out.keeps k1 (fun x => x))
  clear k1
  by_cases hs : SmE acts
  · have C21 := smallE_yes (HA.out.same HK1.out) hl hs
    have hl60 := hs.1
    go_upto_region 5 with (go_at_call 21; refine C21.mono ?_; rintro e w2 ⟨rfl, k2⟩; clear C21)
    have HK2 := Lib.hid (HK1.out.same k2)
    have hB2 := HB1.out.keeps k2 (fun x => x)
    have f0 : w2.cell? ⟨w.heap.size, 0, none⟩ = some (.int .i64 speed) := hB2.cell 0
    have hlt := hB2.lt
    have C22 := play23 (w := w2) (F := Nothing) (N := fun k => k < w.heap.size) (nl := False) (ns := False) (y23 (tc := w.heap.size) (sp := speed))
      (fun v v' l hv hk => hv.keeps hk (by omega)) hB2 (fun k x => x.elim) (fun k hk => ⟨by omega, fun x => x⟩) (HA.out.same HK2.out) hl60 (fun x => x.elim) (fun x => x.elim)
    clear k2 hB2 hlt hs
    go_wp2_with (go_at_call 22; refine C22.mono ?_; rintro e w3 ⟨rfl, k3⟩; clear C22)
    go_ret
    exact ⟨rfl, HK2.out.same k3⟩
  · have C21 := smallE_no (HA.out.same HK1.out) hl hs
    clear hs
    go_wp2_with (go_at_call 21; refine C21.mono ?_; rintro e w2 ⟨rfl, k2⟩; clear C21)
    go_ret
    exact ⟨rfl, HK1.out.same k2⟩

end Go.Proofs.Ytimgmobmagpmlaa
