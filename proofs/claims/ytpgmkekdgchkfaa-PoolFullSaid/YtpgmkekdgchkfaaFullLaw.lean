/- PoolFull: for all numbers the law returns true, and what was there is as it was. -/
import Derived.Test.YtpgmkekdgchkfaaKeep6
namespace Go.Proofs.Ytpgmkekdgchkfaa
open Go.RowKit

set_option maxRecDepth 100000 in
theorem full_out (n f : Int) (w : World) (h : n < 1 ∨ 300 < n ∨ f < 0) : Calls Try.prog 5 #[.int .i64 n, .int .i64 f] w (TrueKept w) := by
  have hc : n < 1 ∨ 1 ≤ n ∧ 300 < n ∨ 1 ≤ n ∧ n ≤ 300 ∧ f < 0 := by omega
  rcases hc with h | ⟨h, h2⟩ | ⟨h, h2, h3⟩
  all_goals
    go_enter Try.func5, Try.ntmps5
    go_wp2_with (go_at_call 13; refine (keeps6 _).mono ?_; rintro e w1 ⟨rfl, hk1⟩)
    go_ret
    exact ⟨rfl, hk1⟩

def FullInv (w : World) (p n : Nat) (k : Nat) (i : Value) (wr : World) : Prop :=
  ∃ (j : Nat) (ps : PSt) (F : Nat → Prop), j + k = n ∧ i = .int .i64 j ∧ PoolAt wr p F ps ∧ ps.length = n ∧ (∀ (l : Nat) (x : Bytes × Nat), ps[l]? = some x → x.2 = if l < j then 1 else 0) ∧ (∀ x, F x → w.heap.size ≤ x) ∧ Keeps Nothing w wr

theorem used_all {ps : PSt} (h : ∀ (l : Nat) (x : Bytes × Nat), ps[l]? = some x → 0 < x.2) : usedOf ps = ps.length := by
  unfold usedOf
  rw [List.countP_eq_length]
  intro x hx
  obtain ⟨l, hl⟩ := List.getElem?_of_mem hx
  have := h l x hl
  simpa using this

set_option maxRecDepth 100000 in
theorem full_in (n f : Nat) (w : World) (h1 : 1 ≤ n) (h2 : n ≤ 300) (hf : f ≤ 9223372036854775807) : Calls Try.prog 5 #[.int .i64 n, .int .i64 f] w (TrueKept w) := by
  have kc := fun (w : World) (C : Array Value) (n c : Nat) => Lib.run_convert_bytes_const (P := Try.prog) w 29 5 C n c Try.underlying29 Try.underlying5
  have hE : (f : Int) % (n : Int) = ((f % n : Nat) : Int) := by omega
  have hI : f % n < n := Nat.mod_lt _ h1
  generalize f % n = m at *
  go_enter Try.func5, Try.ntmps5
  go_wp2_with (go_at_call 13; refine (keeps6 _).mono ?_; rintro e w1 ⟨rfl, hk1⟩)
  go_wp2_with (go_at_call 14; refine (new_any n _ n (by omega)).mono ?_; rintro e w2 ⟨p, F, rfl, hP, hF, hk⟩)
  have hP2 : PoolAt w2 p F (List.replicate n ([], 0)) := by
    have e : (min (max (n : Int) 0) 4096).toNat = n := by omega
    rwa [e] at hP
  have H2 := Lib.hid hP2
  have K2 := hk1.same hk
  have F2 : ∀ x, F x → w.heap.size ≤ x := fun x hx => by have := hF x hx; have := hk1.size; omega
  clear hP hP2 hF hk hk1
  go_loopg [28] n (fun k i wr => FullInv w p n k i wr)
  case atStart => exact ⟨0, _, F, by omega, rfl, H2.out, by simp, fun l x hx => by
    obtain ⟨hl, rfl⟩ := List.getElem?_eq_some_iff.1 hx
    simp, F2, K2⟩
  case round =>
    obtain ⟨j, ps, G, hj, rfl, hP, hl, hh, hG, hk⟩ := hrel
    have hh := Lib.hid hh
    have hl := Lib.hid hl
    by_cases hlt : j < n
    · have hx : ps[j]? = some (ps[j]'(by rw [hl.out]; exact hlt)) := List.getElem?_eq_getElem (by rw [hl.out]; exact hlt)
      have h0 := hh.out j _ hx
      generalize ps[j]'(by rw [hl.out]; exact hlt) = b0 at *
      obtain ⟨b0, z⟩ := b0
      simp only [Nat.lt_irrefl, if_false] at h0
      subst h0
      have hx := Lib.hid hx
      have hN : Hid (∀ i u, (bcells [UInt8.ofNat j])[i]? = some u → (wr.alloc (.cells #[.int .u8 ((j : Int) % 256)] 5)).cell? ((⟨wr.heap.size, 0, none⟩ : Addr).add i) = some u) := by
        have e : bcells [UInt8.ofNat j] = [.int .u8 ((j : Int) % 256)] := by simp [bcells]
        rw [e]
        exact news_mark wr [.int .u8 ((j : Int) % 256)] 5 (0, 0)
      have hB : ∀ (l : Nat) (x : Bytes × Nat), l < j → ps[l]? = some x → 0 < x.2 := fun l x hlj hlx => by
        have := hh.out l x hlx
        rw [if_pos hlj] at this
        omega
      have C := take_free (hP.alloc (.cells #[.int .u8 ((j : Int) % 256)] 5)) j b0 [UInt8.ofNat j] ⟨wr.heap.size, 0, none⟩ 1 hx.out hB (by simp) (by simp) hN.out
      clear hB
      go_wp2_with (go_at_call 16; refine C.mono ?_; rintro e w4 ⟨rfl, F4, hP4, hF4, hk4⟩)
      go_roundg (gk - 1)
      case measure => omega
      case rel =>
        refine ⟨j + 1, _, F4, by omega, by go_num, hP4, by rw [List.length_set]; exact hl.out, ?_, ?_, (hk.alloc _).up hk4 hG⟩
        · intro l x hlx
          by_cases e : j = l
          · subst e
            rw [List.getElem?_set_self (by rw [hl.out]; exact hlt)] at hlx
            simp at hlx
            subst hlx
            simp
          · rw [List.getElem?_set_ne e] at hlx
            have := hh.out l x hlx
            rw [this]
            by_cases h : l < j
            · rw [if_pos h, if_pos (by omega)]
            · rw [if_neg h, if_neg (by omega)]
        · intro x hx
          have := hk.size
          exact (hF4 x hx).elim (hG x) (fun h => by simp at h; omega)
    · have hu : Hid (usedOf ps = ps.length) := used_all (fun l x hlx => by
        have := hh.out l x hlx
        have hl2 := (List.getElem?_eq_some_iff.1 hlx).1
        rw [if_pos (by have := hl.out; omega)] at this
        omega)
      obtain ⟨⟨bm, z⟩, hxm⟩ : ∃ x, ps[m]? = some x := ⟨_, List.getElem?_eq_getElem (by have := hl.out; omega)⟩
      have hz := hh.out m _ hxm
      rw [if_pos (by omega)] at hz
      simp only at hz
      subst hz
      have hxm := Lib.hid hxm
      go_wp2_with (go_at_call 16; refine (take_full hP _ hu.out).mono ?_; rintro e w4 ⟨rfl, hk4⟩; have hP4 := hP.same hk4; clear hP)
      go_wp2_with (go_at_call 18; refine (drop_last hP4 m bm hxm.out).mono ?_; rintro e w5 ⟨rfl, hP5, hk5⟩)
      have hx5 : (ps.set m ([], 0))[m]? = some ([], 0) := List.getElem?_set_self (by have := hl.out; omega)
      have hA : ∀ (l : Nat) (x : Bytes × Nat), (ps.set m ([], 0))[l]? = some x → l ≠ m → 0 < x.2 := fun l x hlx hlm => by
        rw [List.getElem?_set_ne (Ne.symm hlm)] at hlx
        have := hh.out l x hlx
        have hl2 := (List.getElem?_eq_some_iff.1 hlx).1
        rw [if_pos (by have := hl.out; omega)] at this
        omega
      have C := take_free (hP5.alloc (.cells (bcells [120]).toArray 5 (1, 2))) m [] [120] ⟨w5.heap.size, 0, none⟩ 1 hx5 (fun l x hlm hlx => hA l x hlx (by omega)) (by decide) (by decide) (news_mark w5 (bcells [120]) 5 (1, 2))
      have hU : Hid (usedOf ((ps.set m ([], 0)).set m ([120], 1)) = n) := by
        rw [used_all, List.length_set, List.length_set]
        · exact hl.out
        · intro l x hlx
          by_cases e : m = l
          · subst e
            rw [List.getElem?_set_self (by rw [List.length_set]; have := hl.out; omega)] at hlx
            simp at hlx
            subst hlx
            simp
          · rw [List.getElem?_set_ne e] at hlx
            exact hA l x hlx (Ne.symm e)
      clear hA hx5
      go_wp2_with (go_at_call 16; refine C.mono ?_; rintro e w6 ⟨rfl, F6, hP6, hF6, hk6⟩; clear C)
      have D := used_any hP6
      rw [hU.out] at D
      go_wp2_with (go_at_call 21; refine D.mono ?_; rintro e w' ⟨rfl, rfl⟩)
      go_ret
      refine ⟨rfl, ((((hk.same hk4).up hk5 hG).alloc _).up hk6 hG)⟩

end Go.Proofs.Ytpgmkekdgchkfaa
