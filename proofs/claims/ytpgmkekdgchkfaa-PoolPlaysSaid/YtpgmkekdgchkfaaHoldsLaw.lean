/- PoolHolds: for all bytes and numbers the law returns true, and what was there is as it was. -/
import Derived.Test.YtpgmkekdgchkfaaKeep6
namespace Go.Proofs.Ytpgmkekdgchkfaa
open Go.RowKit

theorem take_slr {w : World} {p : Nat} {F : Nat → Prop} {ps : PSt} (hP : PoolAt w p F ps) (k : Nat) (b0 bs : Bytes) (v : Value) (hi : ps[k]? = some (b0, 0))
    (hb : ∀ j x, j < k → ps[j]? = some x → 0 < x.2) (hlen : bs.length ≤ 140737488355328) (hv : SlR w v (bcells bs)) :
    Calls Try.prog 16 #[.pointer (some ⟨p, 0, none⟩), v] w (Took w p F ps k bs) := by
  by_cases h0 : bs.length = 0
  · obtain rfl : bs = [] := List.eq_nil_of_length_eq_zero h0
    rcases hv with ⟨c, rfl, -⟩ | ⟨ad, c, rfl, -, -⟩
    · exact take_empty hP k b0 _ _ hi hb
    · exact take_empty hP k b0 _ _ hi hb
  · rcases hv with ⟨c, rfl, hn⟩ | ⟨ad, c, rfl, -, hr⟩
    · have := bcells_length bs
      rw [hn] at this
      simp at this
      omega
    · rw [bcells_length]
      exact take_free hP k b0 bs ad c hi hb (by omega) hlen hr

set_option maxRecDepth 100000 in
theorem holds_out (A : Option Addr) (n c : Nat) (m : Int) (w : World) (hn : n ≤ 9223372036854775807) (h : 200 < n ∨ m < 0 ∨ 200 < m) : Calls Try.prog 6 #[.slice A n c, .int .i64 m] w (TrueKept w) := by
  have hc : 200 < n ∨ n ≤ 200 ∧ m < 0 ∨ n ≤ 200 ∧ 0 ≤ m ∧ 200 < m := by omega
  rcases hc with h | ⟨h, h2⟩ | ⟨h, h2, h3⟩
  all_goals
    go_enter Try.func6, Try.ntmps6
    go_wp2_with (go_at_call 13; refine (keeps6 _).mono ?_; rintro e w1 ⟨rfl, hk1⟩)
    go_ret
    exact ⟨rfl, hk1⟩

theorem drop_any {w : World} {p : Nat} {F : Nat → Prop} {ps : PSt} (hP : PoolAt w p F ps) (i : Nat) (bs : Bytes) (h : Nat) (hi : ps[i]? = some (bs, h + 1)) (hb : h ≤ 1000000000) :
    Calls Try.prog 18 #[.pointer (some ⟨p, 0, none⟩), .int .i64 i] w (Did (.int .i64 0) (fun w' => PoolAt w' p F (ps.set i (if h = 0 then ([], 0) else (bs, h)))) w F) := by
  cases h with
  | zero => exact drop_last hP i bs hi
  | succ h => simpa using drop_more hP i bs h hi (by omega)

def UpInv (w : World) (p : Nat) (bs : Bytes) (m : Nat) (k : Nat) (i : Value) (wr : World) : Prop :=
  ∃ (j : Nat) (F : Nat → Prop), j + k = m ∧ i = .int .i64 j ∧ PoolAt wr p F [(bs, j + 1), ([], 0)] ∧ (∀ x, F x → w.heap.size ≤ x) ∧ Keeps Nothing w wr

def DownInv (w : World) (p : Nat) (bs : Bytes) (m : Nat) (k : Nat) (i : Value) (wr : World) : Prop :=
  ∃ (j : Nat) (F : Nat → Prop), j + k = m + 1 ∧ i = .int .i64 j ∧ PoolAt wr p F (if j = m + 1 then [([], 0), ([], 0)] else [(bs, m + 1 - j), ([], 0)]) ∧ (∀ x, F x → w.heap.size ≤ x) ∧ Keeps Nothing w wr

set_option maxRecDepth 100000 in
theorem holds_in (A : Option Addr) (c n : Nat) (bs : Bytes) (m : Nat) (w : World) (hn : n = bs.length) (h1 : n ≤ 200) (h2 : m ≤ 200) (hv : SlR w (.slice A n c) (bcells bs)) :
    Calls Try.prog 6 #[.slice A n c, .int .i64 m] w (TrueKept w) := by
  have hN := Lib.hid hn
  have HV := Lib.hid hv
  clear hn hv
  go_enter Try.func6, Try.ntmps6
  go_wp2_with (go_at_call 13; refine (keeps6 _).mono ?_; rintro e w1 ⟨rfl, hk1⟩)
  go_wp2_with (go_at_call 14; refine (new_any 2 _ 2 (by omega)).mono ?_; rintro e w2 ⟨p, F, rfl, hP, hF, hk⟩)
  have K2 := hk1.same hk
  have F2 : ∀ x, F x → w.heap.size ≤ x := fun x hx => by have := hF x hx; have := hk1.size; omega
  have C := take_slr hP 0 [] bs (.slice A n c) rfl (fun j _ h => absurd h (Nat.not_lt_zero j)) (by have := hN.out; omega) (HV.out.same K2)
  go_wp2_with (go_at_call 16; refine C.mono ?_; rintro e w3 ⟨rfl, F3, hP3, hF3, hk3⟩)
  have K3 := K2.up hk3 F2
  have F3' : ∀ x, F3 x → w.heap.size ≤ x := fun x hx => by have := K2.size; exact (hF3 x hx).elim (F2 x) (fun h => by omega)
  clear C hP hF hk hk1 hk3 hF3
  go_loopg [34] m (fun k i wr => UpInv w p bs m k i wr)
  case atStart => exact ⟨0, F3, by omega, rfl, hP3, F3', K3⟩
  case round =>
    obtain ⟨j, G, hj, rfl, hP, hG, hk⟩ := hrel
    by_cases hlt : j < m
    · go_wp2_with (go_at_call 17; refine (hold_some hP 0 bs (j + 1) rfl (by omega) (by omega)).mono ?_; rintro e w4 ⟨rfl, hP4, hk4⟩)
      go_roundg (gk - 1)
      case measure => omega
      case rel => exact ⟨j + 1, G, by omega, by go_num, hP4, hG, hk.up hk4 hG⟩
    · obtain rfl : j = m := by omega
      go_wp2_with fail
      go_loopg [43] (j + 1) (fun k i wr => DownInv w p bs j k i wr)
      case atStart => exact ⟨0, G, by omega, rfl, hP, hG, hk⟩
      case round =>
        obtain ⟨l, G2, hl, rfl, hPl, hG2, hk2⟩ := hrel
        by_cases hlt2 : l < j + 1
        · obtain ⟨z, hz⟩ : ∃ z, j + 1 = l + (z + 1) := ⟨j - l, by omega⟩
          have hP0 : PoolAt wr p G2 [(bs, z + 1), ([], 0)] := by
            rw [if_neg (by omega)] at hPl
            have e : j + 1 - l = z + 1 := by omega
            rwa [e] at hPl
          have H0 := Lib.hid hP0
          have hZ := Lib.hid hz
          have hL := Lib.hid hl
          have e1 : Hid (((holdsOf [(bs, z + 1), ([], 0)] : Nat) : Int) = (z : Int) + 1) := by show ((holdsOf [(bs, z + 1), ([], 0)] : Nat) : Int) = (z : Int) + 1; simp [holdsOf]
          have hjl : (((z : Int) + 1) != ((j : Int) + 1 - (l : Int))) = false := by simp; omega
          clear hPl hz hl
          go_wp2_with (go_at_call 19; refine (get_some hP0 0 bs (z + 1) rfl (by omega) (by have := hN.out; omega)).mono ?_; rintro e w6 ⟨v, rfl, hv, hk6⟩; have q1 : (convert 29 9 v).run Try.prog w6 = .ok (.string ⟨bs.toArray⟩) w6 := conv_str Try.underlying29 Try.underlying5 Try.underlying9 hv.slR; have q2 : (convert 29 9 (.slice A n c)).run Try.prog w6 = .ok (.string ⟨bs.toArray⟩) w6 := conv_str Try.underlying29 Try.underlying5 Try.underlying9 (HV.out.same (hk2.same hk6)))
          have hP6 := H0.out.same hk6
          have D := holds_any hP6 (by have := e1.out; have := hZ.out; omega)
          rw [e1.out] at D
          go_wp2_with (go_at_call 22; refine D.mono ?_; rintro e w7 ⟨rfl, hP7, hk7⟩)
          clear D
          go_wp2_with (go_at_call 18; refine (drop_any hP7 0 bs z rfl (by have := hZ.out; omega)).mono ?_; rintro e w8 ⟨rfl, hP8, hk8⟩)
          go_roundg (gk - 1)
          case measure => have := hL.out; omega
          case rel =>
            refine ⟨l + 1, G2, by have := hL.out; omega, by go_num, ?_, hG2, (((hk2.same hk6).same hk7).up hk8 hG2)⟩
            have hz := hZ.out
            by_cases h0 : z = 0
            · rw [if_pos (by omega)]
              simpa [h0] using hP8
            · rw [if_neg (by omega), show j + 1 - (l + 1) = z by omega]
              simpa [h0] using hP8
        · have hlj : l = j + 1 := by omega
          have hP0 : PoolAt wr p G2 [([], 0), ([], 0)] := by
            rwa [if_pos hlj] at hPl
          clear hPl hlj
          go_wp2_with (go_at_call 19; refine (get_missing hP0 0 rfl).mono ?_; rintro e w' ⟨rfl, rfl⟩)
          go_wp2_with (first | (go_at_call 21; refine (used_any hP0).mono ?_; rintro e w' ⟨rfl, rfl⟩) | (go_at_call 17; refine (hold_missing hP0 0 rfl).mono ?_; rintro e w' ⟨rfl, rfl⟩) | (go_at_call 20; refine (size_missing hP0 0 rfl).mono ?_; rintro e w' ⟨rfl, rfl⟩))
          go_ret
          exact ⟨rfl, hk2⟩

end Go.Proofs.Ytpgmkekdgchkfaa
