/- How long a port is busy. -/
import Derived.Test.YtmmeloklnkfjjaaCap2
namespace Go.Proofs.Ytmmeloklnkfjjaa
open Go.RowKit

def mxI (a b : Int) : Int := if a < b then b else a
def mnI (a b : Int) : Int := if b < a then b else a

def busy1 (port a b : Int) (f : Fr) : Int := if f.port = port ∧ mxI f.frm a < mnI f.till b then mnI f.till b - mxI f.frm a else 0
def busyS (port a b : Int) (l : List Fr) : Int := (l.map (busy1 port a b)).sum

theorem busy1_le (port a b : Int) (f : Fr) (ha : 0 ≤ a) (hb : b ≤ 9007199254740992) : 0 ≤ busy1 port a b f ∧ busy1 port a b f ≤ 9007199254740992 := by
  unfold busy1 mxI mnI
  split
  · split <;> split <;> omega
  · omega

theorem busyS_le (port a b : Int) (l : List Fr) (ha : 0 ≤ a) (hb : b ≤ 9007199254740992) : 0 ≤ busyS port a b l ∧ busyS port a b l ≤ l.length * 9007199254740992 := by
  induction l with
  | nil => simp [busyS]
  | cons f l ih =>
    have := busy1_le port a b f ha hb
    simp only [busyS, List.map_cons, List.sum_cons, List.length_cons] at ih ⊢
    omega

theorem busyS_snoc (port a b : Int) (l : List Fr) (f : Fr) : busyS port a b (l ++ [f]) = busyS port a b l + busy1 port a b f := by
  simp [busyS]

def BusyInv (w : World) (l : List Fr) (port a b : Int) (k : Nat) (v i : Value) (wr : World) : Prop :=
  ∃ (j : Nat), j + k = l.length ∧ i = .int .i64 (j : Nat) ∧ v = .int .i64 (busyS port a b (l.take j)) ∧ Keeps Nothing w wr

set_option maxRecDepth 100000 in
set_option maxHeartbeats 4000000 in
theorem busy_ok {w : World} {A : Option Addr} {c : Nat} {l : List Fr} (hr : FrsR w A c l) (hl : l.length ≤ 100) (port a b : Int) (ha : 0 ≤ a) (ha2 : a ≤ 9007199254740992) (hb0 : 0 ≤ b) (hb : b ≤ 9007199254740992) :
    Calls Try.prog 17 #[.slice A l.length c, .int .i64 port, .int .i64 a, .int .i64 b] w (fun e w' => e = .returned (.int .i64 (busyS port a b l)) ∧ Keeps Nothing w w') := by
  have HR := Lib.hid hr
  clear hr
  go_enter Try.func17, Try.ntmps17
  go_wp2_with fail
  go_loopg [9, 16] l.length (fun k v i wr => BusyInv w l port a b k v i wr)
  case atStart => exact ⟨0, by omega, rfl, rfl, Keeps.refl _ _⟩
  case round =>
    obtain ⟨j, hj, rfl, rfl, hk⟩ := hrel
    have HK := Lib.hid hk
    by_cases hlt : j < l.length
    · obtain ⟨fp, cls, frm, till, B, cap, bs, bl, o, hf, rfl, f0, f1, f2, f3, f4, hs⟩ := (HR.out.same hk).get hlt
      have HT := Lib.hid (busyS_snoc port a b (l.take j) ⟨fp, cls, frm, till, B, cap, bs⟩)
      have hts := take_snoc' hf
      rw [← hts] at HT
      obtain ⟨hs0, hs1⟩ := busyS_le port a b (l.take j) ha hb
      have hs2 : (l.take j).length ≤ 100 := by have := List.length_take_le j l; omega
      have hs3 : busyS port a b (l.take j) ≤ 900719925474099200 := by omega
      have h1le := Lib.hid (busy1_le port a b ⟨fp, cls, frm, till, B, cap, bs⟩ ha hb)
      clear hk hf hs hts hs1 hs2
      generalize busyS port a b (l.take j) = S at *
      go_upto_region 5 with fail
      go_quiet (fail)
      generalize hX : (if frm < a then a else frm) = X
      generalize hY : (if b < till then b else till) = Y
      have HX := Lib.hid hX
      have HY := Lib.hid hY
      clear hX hY
      have hk0 := Lib.hid ((HK.out.alloc (.cells #[.int .i64 fp, .int .i64 cls, .int .i64 frm, .int .i64 till, .slice B bs.length cap] 27)).drewN nq)
      have hXY : X < Y → Y - X ≤ 9007199254740992 ∧ -9223372036854775808 ≤ X ∧ X ≤ 9223372036854775807 := fun h => by
        have h1 := HX.out
        have h2 := HY.out
        split at h1 <;> split at h2 <;> omega
      have HXY := Lib.hid hXY
      clear hXY
      have hone : busy1 port a b ⟨fp, cls, frm, till, B, cap, bs⟩ = if fp = port ∧ X < Y then Y - X else 0 := by
        have h1 := HX.out
        have h2 := HY.out
        unfold busy1 mxI mnI
        simp only
        rw [h1, h2]
      have HOne := Lib.hid hone
      clear hone
      by_cases hp : fp = port
      · subst hp
        by_cases hq : X < Y
        · obtain ⟨x1, x2, x3⟩ := HXY.out hq
          go_wp2_with fail
          go_roundg (gk - 1)
          case measure => omega
          case rel =>
            refine ⟨j + 1, by omega, by go_num, ?_, hk0.out⟩
            have h1 := HT.out
            have h2 := HOne.out
            rw [if_pos (by simpa using hq)] at h2
            rw [h1, h2]
        · have hq' : decide (X < Y) = false := by simpa using hq
          go_wp2_with fail
          go_roundg (gk - 1)
          case measure => omega
          case rel =>
            refine ⟨j + 1, by omega, by go_num, ?_, hk0.out⟩
            have h1 := HT.out
            have h2 := HOne.out
            rw [if_neg (fun h => by omega)] at h2
            rw [h1, h2, Int.add_zero]
      · have hp' : (fp == port) = false := by simpa using hp
        have HP := Lib.hid hp
        clear hp
        go_wp2_with fail
        go_roundg (gk - 1)
        case measure => omega
        case rel =>
          refine ⟨j + 1, by omega, by go_num, ?_, hk0.out⟩
          have h1 := HT.out
          have h2 := HOne.out
          rw [if_neg (fun h => HP.out h.1)] at h2
          rw [h1, h2, Int.add_zero]
    · obtain rfl : j = l.length := by omega
      rw [List.take_length]
      clear hk
      go_wp2_with fail
      go_ret
      exact ⟨rfl, HK.out⟩

end Go.Proofs.Ytmmeloklnkfjjaa
