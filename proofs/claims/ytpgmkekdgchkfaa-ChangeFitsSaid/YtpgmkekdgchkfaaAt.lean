/- ChangeAt: the walk. -/
import Derived.Test.YtpgmkekdgchkfaaTurns
namespace Go.Proofs.Ytpgmkekdgchkfaa
open Go.RowKit

set_option maxRecDepth 100000 in
set_option maxHeartbeats 4000000 in
/-- What is not asked. -/
theorem chat_out (w : World) (b1 y1 x1 b2 y2 x2 now : Int) (A1 A2 : Option Addr) (c1 c2 : Nat) (es1 es2 : List Ent) (h1 : EntsR w A1 c1 es1) (h2 : EntsR w A2 c2 es2)
    (ho : ¬ Good b1 y1 x1 es1 ∨ ¬ Good b2 y2 x2 es2 ∨ now < 0 ∨ 2305843009213693952 < now ∨ 2305843009213693952 < b2) :
    Calls Try.prog 12 #[.agg #[.int .i64 b1, .int .i64 y1, .int .i64 x1, .slice A1 es1.length c1], .agg #[.int .i64 b2, .int .i64 y2, .int .i64 x2, .slice A2 es2.length c2], .int .i64 now] w (TrueKept w) := by
  have hW : Hid (Blk ((w.alloc (.cells #[.int .i64 b1, .int .i64 y1, .int .i64 x1, .slice A1 es1.length c1] 72)).alloc (.cells #[.int .i64 b2, .int .i64 y2, .int .i64 x2, .slice A2 es2.length c2] 72)) w.heap.size [.int .i64 b1, .int .i64 y1, .int .i64 x1, .slice A1 es1.length c1] 72 ∧ Blk ((w.alloc (.cells #[.int .i64 b1, .int .i64 y1, .int .i64 x1, .slice A1 es1.length c1] 72)).alloc (.cells #[.int .i64 b2, .int .i64 y2, .int .i64 x2, .slice A2 es2.length c2] 72)) (w.heap.size + 1) [.int .i64 b2, .int .i64 y2, .int .i64 x2, .slice A2 es2.length c2] 72 ∧ Keeps Nothing w ((w.alloc (.cells #[.int .i64 b1, .int .i64 y1, .int .i64 x1, .slice A1 es1.length c1] 72)).alloc (.cells #[.int .i64 b2, .int .i64 y2, .int .i64 x2, .slice A2 es2.length c2] 72))) := by
    refine ⟨(Blk.new w [.int .i64 b1, .int .i64 y1, .int .i64 x1, .slice A1 es1.length c1] 72).alloc _, ?_, ((Keeps.refl _ _).alloc _).alloc _⟩
    have := Blk.new (w.alloc (.cells #[.int .i64 b1, .int .i64 y1, .int .i64 x1, .slice A1 es1.length c1] 72)) [.int .i64 b2, .int .i64 y2, .int .i64 x2, .slice A2 es2.length c2] 72
    simpa using this
  have H1 := Lib.hid h1
  have H2 := Lib.hid h2
  have HO := Lib.hid ho
  clear h1 h2 ho
  go_enter Try.func12, Try.ntmps12
  go_upto_region 1 with fail
  generalize ((w.alloc (.cells #[.int .i64 b1, .int .i64 y1, .int .i64 x1, .slice A1 es1.length c1] 72)).alloc (.cells #[.int .i64 b2, .int .i64 y2, .int .i64 x2, .slice A2 es2.length c2] 72)) = w1 at *
  go_upto_region 3 with (go_at_call 34; refine (turns_ok _).mono ?_; rintro e w2 ⟨rfl, k2⟩)
  have HK := Lib.hid (hW.out.2.2.same k2)
  have hB1 := hW.out.1.keeps k2 (fun h => h)
  have hB2 := hW.out.2.1.keeps k2 (fun h => h)
  have m0 : w2.cell? ⟨w.heap.size, 0, none⟩ = some (.int .i64 b1) := hB1.cell 0; have m1 : w2.cell? ⟨w.heap.size, 1, none⟩ = some (.int .i64 y1) := hB1.cell 1; have m2 : w2.cell? ⟨w.heap.size, 2, none⟩ = some (.int .i64 x1) := hB1.cell 2; have m3 : w2.cell? ⟨w.heap.size, 3, none⟩ = some (.slice A1 es1.length c1) := hB1.cell 3
  have HB2 := Lib.hid hB2
  clear hB1 hB2 hW k2
  by_cases g1 : Good b1 y1 x1 es1
  · have K1 := check_good (H1.out.same HK.out) g1
    by_cases g2 : Good b2 y2 x2 es2
    · have K2 := fun v (hv : Keeps Nothing w2 v) => check_good ((H2.out.same HK.out).same hv) g2
      have ho : now < 0 ∨ 2305843009213693952 < now ∨ 2305843009213693952 < b2 := by
        rcases HO.out with h | h | h
        · exact absurd g1 h
        · exact absurd g2 h
        · exact h
      clear g1 g2 HO
      by_cases h3 : now < 0
      · go_wp2_with (first | (go_at_call 43; refine K1.mono ?_; rintro e w3 ⟨rfl, k3⟩; clear K1; have hB3 := HB2.out.keeps k3 (fun h => h); have n0 : w3.cell? ⟨w.heap.size + 1, 0, none⟩ = some (.int .i64 b2) := hB3.cell 0; have n1 : w3.cell? ⟨w.heap.size + 1, 1, none⟩ = some (.int .i64 y2) := hB3.cell 1; have n2 : w3.cell? ⟨w.heap.size + 1, 2, none⟩ = some (.int .i64 x2) := hB3.cell 2; have n3 : w3.cell? ⟨w.heap.size + 1, 3, none⟩ = some (.slice A2 es2.length c2) := hB3.cell 3) | (go_at_call 43; refine (K2 _ k3).mono ?_; rintro e w4 ⟨rfl, k4⟩; clear K2; have hB4 := hB3.keeps k4 (fun h => h); have o0 : w4.cell? ⟨w.heap.size + 1, 0, none⟩ = some (.int .i64 b2) := hB4.cell 0))
        go_ret
        exact ⟨rfl, (HK.out.same k3).same k4⟩
      · have q3 : decide (now < 0) = false := by simpa using h3
        by_cases h4 : 2305843009213693952 < now
        · go_wp2_with (first | (go_at_call 43; refine K1.mono ?_; rintro e w3 ⟨rfl, k3⟩; clear K1; have hB3 := HB2.out.keeps k3 (fun h => h); have n0 : w3.cell? ⟨w.heap.size + 1, 0, none⟩ = some (.int .i64 b2) := hB3.cell 0; have n1 : w3.cell? ⟨w.heap.size + 1, 1, none⟩ = some (.int .i64 y2) := hB3.cell 1; have n2 : w3.cell? ⟨w.heap.size + 1, 2, none⟩ = some (.int .i64 x2) := hB3.cell 2; have n3 : w3.cell? ⟨w.heap.size + 1, 3, none⟩ = some (.slice A2 es2.length c2) := hB3.cell 3) | (go_at_call 43; refine (K2 _ k3).mono ?_; rintro e w4 ⟨rfl, k4⟩; clear K2; have hB4 := hB3.keeps k4 (fun h => h); have o0 : w4.cell? ⟨w.heap.size + 1, 0, none⟩ = some (.int .i64 b2) := hB4.cell 0))
          go_ret
          exact ⟨rfl, (HK.out.same k3).same k4⟩
        · have q4 : decide ((2305843009213693952 : Int) < now) = false := by simpa using h4
          have h5 : 2305843009213693952 < b2 := by omega
          go_wp2_with (first | (go_at_call 43; refine K1.mono ?_; rintro e w3 ⟨rfl, k3⟩; clear K1; have hB3 := HB2.out.keeps k3 (fun h => h); have n0 : w3.cell? ⟨w.heap.size + 1, 0, none⟩ = some (.int .i64 b2) := hB3.cell 0; have n1 : w3.cell? ⟨w.heap.size + 1, 1, none⟩ = some (.int .i64 y2) := hB3.cell 1; have n2 : w3.cell? ⟨w.heap.size + 1, 2, none⟩ = some (.int .i64 x2) := hB3.cell 2; have n3 : w3.cell? ⟨w.heap.size + 1, 3, none⟩ = some (.slice A2 es2.length c2) := hB3.cell 3) | (go_at_call 43; refine (K2 _ k3).mono ?_; rintro e w4 ⟨rfl, k4⟩; clear K2; have hB4 := hB3.keeps k4 (fun h => h); have o0 : w4.cell? ⟨w.heap.size + 1, 0, none⟩ = some (.int .i64 b2) := hB4.cell 0))
          go_ret
          exact ⟨rfl, (HK.out.same k3).same k4⟩
    · have K2 := fun v (hv : Keeps Nothing w2 v) => check_bad ((H2.out.same HK.out).same hv) g2
      clear g1 g2 HO
      go_wp2_with (first | (go_at_call 43; refine K1.mono ?_; rintro e w3 ⟨rfl, k3⟩; clear K1; have hB3 := HB2.out.keeps k3 (fun h => h); have n0 : w3.cell? ⟨w.heap.size + 1, 0, none⟩ = some (.int .i64 b2) := hB3.cell 0; have n1 : w3.cell? ⟨w.heap.size + 1, 1, none⟩ = some (.int .i64 y2) := hB3.cell 1; have n2 : w3.cell? ⟨w.heap.size + 1, 2, none⟩ = some (.int .i64 x2) := hB3.cell 2; have n3 : w3.cell? ⟨w.heap.size + 1, 3, none⟩ = some (.slice A2 es2.length c2) := hB3.cell 3) | (go_at_call 43; refine (K2 _ k3).mono ?_; rintro e w4 ⟨rfl, k4⟩; clear K2))
      go_ret
      exact ⟨rfl, (HK.out.same k3).same k4⟩
  · have K1 := check_bad (H1.out.same HK.out) g1
    clear g1 HO
    go_wp2_with (go_at_call 43; refine K1.mono ?_; rintro e w3 ⟨rfl, k3⟩; clear K1)
    go_ret
    exact ⟨rfl, HK.out.same k3⟩

end Go.Proofs.Ytpgmkekdgchkfaa
