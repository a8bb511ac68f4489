/- What may not be is refused; the list in force; what comes. -/
import Derived.Test.YtpgmkekdgchkfaaSched2
namespace Go.Proofs.Ytpgmkekdgchkfaa
open Go.RowKit

set_option maxRecDepth 100000 in
set_option maxHeartbeats 4000000 in
/-- A list that may not be. -/
theorem check_bad {w : World} {base cyc ext : Int} {A : Option Addr} {c : Nat} {es : List Ent} (hr : EntsR w A c es) (hg : ¬ Good base cyc ext es) :
    Calls Try.prog 43 #[.agg #[.int .i64 base, .int .i64 cyc, .int .i64 ext, .slice A es.length c]] w (fun e w' => e = .returned (.int .i64 30) ∧ Keeps Nothing w w') := by
  have C := fun w' (hk : Keeps Nothing w w') (hl : es.length ≤ 64) (b : Bool) (hb : b = true ↔ ∃ e ∈ es, e.bad) => contains_ok (hr.same hk) hl b hb
  clear hr
  go_enter Try.func43, Try.ntmps43
  by_cases n0 : es.length = 0
  · have hn : es = [] := List.eq_nil_of_length_eq_zero n0
    subst hn
    clear C
    go_wp2_with fail
    go_ret
    exact ⟨rfl, (Keeps.refl _ _).alloc _⟩
  have hn2 : es ≠ [] := fun h => by rw [h] at n0; simp at n0
  have m0 : ((es.length : Int) == 0) = false := by simpa using hn2
  by_cases n1 : 64 < es.length
  · have n1' : (64 : Int) < es.length := by omega
    clear C
    go_wp2_with fail
    go_ret
    exact ⟨rfl, (Keeps.refl _ _).alloc _⟩
  have m1 : decide ((64 : Int) < es.length) = false := by simp; omega
  by_cases n2 : base < 0
  · clear C
    go_wp2_with fail
    go_ret
    exact ⟨rfl, (Keeps.refl _ _).alloc _⟩
  have m2 : decide (base < 0) = false := by simp; omega
  by_cases n3 : 4611686018427387904 ≤ base
  · clear C
    go_wp2_with fail
    go_ret
    exact ⟨rfl, (Keeps.refl _ _).alloc _⟩
  have m3 : decide ((4611686018427387904 : Int) ≤ base) = false := by simp; omega
  by_cases n4 : cyc < 1
  · clear C
    go_wp2_with fail
    go_ret
    exact ⟨rfl, (Keeps.refl _ _).alloc _⟩
  have m4 : decide (cyc < 1) = false := by simp; omega
  by_cases n5 : 1000000000 < cyc
  · clear C
    go_wp2_with fail
    go_ret
    exact ⟨rfl, (Keeps.refl _ _).alloc _⟩
  have m5 : decide ((1000000000 : Int) < cyc) = false := by simp; omega
  by_cases n6 : ext < 0
  · clear C
    go_wp2_with fail
    go_ret
    exact ⟨rfl, (Keeps.refl _ _).alloc _⟩
  have m6 : decide (ext < 0) = false := by simp; omega
  by_cases n7 : 1000000000 < ext
  · clear C
    go_wp2_with fail
    go_ret
    exact ⟨rfl, (Keeps.refl _ _).alloc _⟩
  have m7 : decide ((1000000000 : Int) < ext) = false := by simp; omega
  have hb : ∃ e ∈ es, e.bad := Classical.byContradiction fun hb => hg (good_of (by omega) (by omega) hb)
  go_wp2_with (go_at_call 69; refine (C _ ((Keeps.refl _ _).alloc _) (by omega) true ⟨fun _ => hb, fun _ => rfl⟩).mono ?_; rintro e w2 ⟨rfl, hk2⟩; clear C)
  go_ret
  exact ⟨rfl, ((Keeps.refl _ _).alloc _).same hk2⟩

set_option maxRecDepth 100000 in
theorem set_bad {w : World} {p : Nat} {base cyc ext : Int} {A : Option Addr} {c : Nat} {es : List Ent} (hr : EntsR w A c es) (hg : ¬ Good base cyc ext es) (now : Int) :
    Calls Try.prog 44 #[.pointer (some ⟨p, 0, none⟩), .agg #[.int .i64 base, .int .i64 cyc, .int .i64 ext, .slice A es.length c], .int .i64 now] w (fun e w' => e = .returned (.int .i64 30) ∧ Keeps Nothing w w') := by
  have C := fun v (hv : Keeps Nothing w v) => check_bad (hr.same hv) hg
  clear hr hg
  go_enter Try.func44, Try.ntmps44
  go_wp2_with (go_at_call 43; refine (C _ ((Keeps.refl _ _).alloc _)).mono ?_; rintro e w2 ⟨rfl, hk2⟩; clear C)
  go_ret
  exact ⟨rfl, ((Keeps.refl _ _).alloc _).same hk2⟩

set_option maxRecDepth 100000 in
theorem set_time {w : World} {p : Nat} {base cyc ext : Int} {A : Option Addr} {c : Nat} {es : List Ent} (hr : EntsR w A c es) (hg : Good base cyc ext es) (now : Int) (hn : now < 0) :
    Calls Try.prog 44 #[.pointer (some ⟨p, 0, none⟩), .agg #[.int .i64 base, .int .i64 cyc, .int .i64 ext, .slice A es.length c], .int .i64 now] w (fun e w' => e = .returned (.int .i64 31) ∧ Keeps Nothing w w') := by
  have C := fun v (hv : Keeps Nothing w v) => check_good (hr.same hv) hg
  clear hr hg
  go_enter Try.func44, Try.ntmps44
  go_wp2_with (go_at_call 43; refine (C _ ((Keeps.refl _ _).alloc _)).mono ?_; rintro e w2 ⟨rfl, hk2⟩; clear C)
  go_ret
  exact ⟨rfl, ((Keeps.refl _ _).alloc _).same hk2⟩

end Go.Proofs.Ytpgmkekdgchkfaa
