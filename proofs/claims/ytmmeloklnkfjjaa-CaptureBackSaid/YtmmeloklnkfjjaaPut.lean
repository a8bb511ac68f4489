/- A number as bytes: Put. -/
import Derived.Test.YtmmeloklnkfjjaaSeal
namespace Go.Proofs.Ytmmeloklnkfjjaa
open Go.RowKit

def beB (size n : Nat) : Bytes := (List.range size).map fun p => UInt8.ofNat (n / 256 ^ (size - 1 - p))

@[simp] theorem beB_length (size n : Nat) : (beB size n).length = size := by simp [beB]

theorem pow256 (k : Nat) : (2 : Nat) ^ (8 * k) = 256 ^ k := by rw [Nat.pow_mul]

theorem pow256I (k : Nat) : (2 : Int) ^ (8 * k) = ((256 ^ k : Nat) : Int) := by
  rw [← pow256]; simp

def putF (size n k p : Nat) : Int := if size - k ≤ p then ((n / 256 ^ (size - 1 - p) % 256 : Nat) : Int) else 0

theorem beB_cells (size n : Nat) : bcells (beB size n) = arrV .u8 size (putF size n size) := by
  unfold bcells beB arrV
  rw [List.map_map]
  apply List.map_congr_left
  intro p hp
  simp only [Function.comp, byte_val, putF]
  rw [if_pos (by omega)]
  rfl

theorem zeros_arr (n : Nat) : rep n [Value.int .u8 0] = arrV .u8 n (fun _ => 0) := by
  rw [rep_one]
  unfold arrV
  rw [List.map_const', List.length_range]

def PutRes (w : World) (bs : Bytes) (e : Ending) (w' : World) : Prop :=
  ∃ g, e = .returned (.tuple #[.slice (some ⟨g, 0, none⟩) bs.length bs.length, .int .i64 0]) ∧ w.heap.size ≤ g ∧ Blk w' g (bcells bs) 5 ∧ Keeps Nothing w w'

def PutInv (w : World) (g size n k : Nat) (i : Value) (wr : World) : Prop :=
  ∃ j : Nat, j + k = size ∧ i = .int .i64 (j : Nat) ∧ Blk wr g (arrV .u8 size (putF size n j)) 5 ∧ Keeps Nothing w wr

set_option maxRecDepth 100000 in
set_option maxHeartbeats 8000000 in
theorem put_ok {w : World} (n size : Nat) (h1 : 1 ≤ size) (h8 : size ≤ 8) (hn : n < 256 ^ size) :
    Calls Try.prog 20 #[.int .u64 (n : Nat), .int .i64 (size : Nat)] w (PutRes w (beB size n)) := by
  obtain ⟨i0, hi0, hz0, hz1, hz2⟩ := info_parts info5
  have a1 : decide ((size : Int) < 1) = false := by simp; omega
  have a2 : decide ((8 : Int) < (size : Int)) = false := by simp; omega
  have a3 : ((n : Int) / 2 ^ (8 * size) != 0) = false := by
    rw [pow256I, ← Int.natCast_ediv, Nat.div_eq_of_lt hn]; rfl
  have HN := Lib.hid hn
  clear hn
  have hfin : ∀ (h : decide ((size : Int) < 8) = true ∨ decide ((size : Int) < 8) = false), Calls Try.prog 20 #[.int .u64 (n : Nat), .int .i64 (size : Nat)] w (PutRes w (beB size n)) := by
    intro h
    rcases h with h | h
    all_goals
      go_enter Try.func20, Try.ntmps20
      go_wp2_with (refine wpList_mk rfl (.tmp 25) (.tmp 25) 25 rfl 5 i0 (.int .u8 0) [.int .u8 0] Try.underlying25 hi0 hz0 hz1 rfl .i64 .i64 size size size rfl rfl rfl rfl 1 hz2 (by omega) (by omega) ?_; intro w1 hb1 k1 hs1; have HB := Lib.hid hb1; have K1 := Lib.hid k1; clear hb1 k1)
      rw [zeros_arr] at HB
      go_loopg [29] size (fun k i wr => PutInv w w.heap.size size n k i wr)
      case atStart =>
        refine ⟨0, by omega, rfl, ?_, K1.out⟩
        have e : arrV .u8 size (putF size n 0) = arrV .u8 size (fun _ => 0) := by
          apply List.map_congr_left
          intro p hp
          simp at hp
          unfold putF
          rw [if_neg (by omega)]
        rw [e]
        exact HB.out
      case round =>
        obtain ⟨j, hj, rfl, hb, hk⟩ := hrel
        have HBr := Lib.hid hb
        have HKr := Lib.hid hk
        by_cases hlt : j < size
        · obtain ⟨p, hp⟩ : ∃ p, size = p + 1 + j := ⟨size - 1 - j, by omega⟩
          have he : (size : Int) - 1 - (j : Int) = (p : Int) := by omega
          have hps : p < size := by omega
          have c1 : wr.cell? ⟨w.heap.size, p, none⟩ = some (.int .u8 (putF size n j p)) := by
            have := hb.cell p
            rwa [arrV_get _ _ _ _ hps] at this
          have c2 : wr.frozen? ⟨w.heap.size, p, none⟩ = false := hb.frozen p
          have HP := Lib.hid hp
          clear hb hk hp
          have hv : (n : Int) / 2 ^ (8 * j) % 256 = putF size n (j + 1) p := by
            rw [pow256I, ← Int.natCast_ediv]
            have hp := HP.out
            unfold putF
            rw [if_pos (by omega), show size - 1 - p = j by omega]
            rfl
          have HV := Lib.hid hv
          clear hv
          go_wp2_with fail
          go_roundg (gk - 1)
          case measure => omega
          case rel =>
            refine ⟨j + 1, by omega, by go_num, ?_, HKr.out.setCell (p := ⟨w.heap.size, p, none⟩) (fun h => by simp at h) _⟩
            have h := HBr.out.set p (.int .u8 ((n : Int) / 2 ^ (8 * j) % 256))
            rw [arrV_set] at h
            have e : arrV .u8 size (putF size n (j + 1)) = arrV .u8 size (fun q => if q = p then (n : Int) / 2 ^ (8 * j) % 256 else putF size n j q) := by
              apply List.map_congr_left
              intro q hq
              by_cases hqp : q = p
              · subst hqp
                simp only [if_true]
                rw [HV.out]
              · simp only [if_neg hqp]
                have hp := HP.out
                unfold putF
                by_cases h1 : size - j ≤ q
                · rw [if_pos h1, if_pos (by omega)]
                · rw [if_neg h1, if_neg (by omega)]
            rw [e]
            exact h
        · obtain rfl : j = size := by omega
          have HB2 := Lib.hid hb
          clear hb hk
          go_wp2_with fail
          go_ret2
          refine ⟨w.heap.size, by rw [beB_length]; rfl, Nat.le_refl _, ?_, HKr.out⟩
          rw [beB_cells]
          exact HB2.out
  exact hfin (by cases decide ((size : Int) < 8) <;> simp)

end Go.Proofs.Ytmmeloklnkfjjaa
