/- Bytes without the sum behind them: Open. -/
import Derived.Test.YtmmeloklnkfjjaaSeal
import Derived.Deep.Slices
namespace Go.Proofs.Ytmmeloklnkfjjaa
open Go.RowKit

/-- A part of a slice can be read. -/
theorem SlR.drop {w : World} {ad : Addr} {n c : Nat} {xs : List Value} (h : SlR w (.slice (some ad) n c) xs) (k : Nat) (hk : k ≤ n) (c' : Nat) (hc : n - k ≤ c') : SlR w (.slice (some (ad.add k)) (n - k) c') (xs.drop k) := by
  rcases h with ⟨c0, h1, -⟩ | ⟨a, c0, h1, h2, h3⟩
  · cases h1
  · injection h1 with h1 h4 h5
    injection h1 with h1
    subst h1 h4
    refine .inr ⟨_, c', by rw [List.length_drop], by rw [List.length_drop]; exact hc, fun j u hj => ?_⟩
    rw [Go.Deep.add_add]
    rw [List.getElem?_drop] at hj
    exact h3 _ _ hj

theorem SlR.take {w : World} {ad : Addr} {n c : Nat} {xs : List Value} (h : SlR w (.slice (some ad) n c) xs) (k : Nat) (hk : k ≤ n) (c' : Nat) (hc : k ≤ c') : SlR w (.slice (some ad) k c') (xs.take k) := by
  rcases h with ⟨c0, h1, -⟩ | ⟨a, c0, h1, h2, h3⟩
  · cases h1
  · injection h1 with h1 h4 h5
    injection h1 with h1
    subst h1 h4
    have hl : (xs.take k).length = k := by rw [List.length_take]; omega
    refine .inr ⟨_, c', by rw [hl], by rw [hl]; exact hc, fun j u hj => ?_⟩
    rw [List.getElem?_take] at hj
    split at hj
    · exact h3 _ _ hj
    · cases hj

theorem run_sl {w : World} (ad : Addr) (n c lo hi : Nat) (h1 : lo ≤ hi) (h2 : hi ≤ c) (h3 : lo < c) :
    (Instr.sliceAt 25 (.slice (some ad) n c) (some (.int .i64 lo)) (some (.int .i64 hi)) none).run Try.prog w = .ok (.slice (some (ad.add lo)) (hi - lo) (c - lo)) w := by
  have hne : ¬ c = lo := by omega
  have hs : ∀ w, (sizeOf (Try.prog.elem 25)).run Try.prog w = .ok 1 w := fun w => by kernel_rfl
  rw [run_sliceAt_slice (h := Try.underlying25), run_slice_lh (ht := Try.underlying25) (h0 := by omega) (h1 := by omega) (h2 := by omega), hs]
  simp [sliced, hne, Result.andThen]

theorem run_sl1 {w : World} (ad : Addr) (n c lo : Nat) (h1 : lo ≤ n) (h3 : lo < c) :
    (Instr.sliceAt 25 (.slice (some ad) n c) (some (.int .i64 lo)) none none).run Try.prog w = .ok (.slice (some (ad.add lo)) (n - lo) (c - lo)) w := by
  have hne : ¬ c = lo := by omega
  have hs : ∀ w, (sizeOf (Try.prog.elem 25)).run Try.prog w = .ok 1 w := fun w => by kernel_rfl
  rw [run_sliceAt_slice (h := Try.underlying25), run_slice_l (ht := Try.underlying25) (h0 := by omega) (h1 := by omega), hs]
  simp [sliced, hne, Result.andThen]

def openB (bs : Bytes) : Nat := if bs.length < 4 then 2 else if le4 (sumN (bs.take (bs.length - 4))) = bs.drop (bs.length - 4) then 0 else 10

def OpenRes (w : World) (bs : Bytes) (e : Ending) (w' : World) : Prop :=
  Keeps Nothing w w' ∧ ((openB bs ≠ 0 ∧ e = .returned (.tuple #[.slice none 0 0, .int .i64 (openB bs : Nat)])) ∨
    (openB bs = 0 ∧ ∃ g, g < w'.heap.size ∧ e = .returned (.tuple #[.slice (some ⟨g, 0, none⟩) (bs.length - 4) (bs.length - 4), .int .i64 0]) ∧ SlR w' (.slice (some ⟨g, 0, none⟩) (bs.length - 4) (bs.length - 4)) (bcells (bs.take (bs.length - 4)))))

set_option maxRecDepth 100000 in
set_option maxHeartbeats 8000000 in
theorem open_ok {w : World} {A : Option Addr} {c : Nat} {bs : Bytes} (hs : SlR w (.slice A bs.length c) (bcells bs)) (hl : bs.length ≤ 1000000000) :
    Calls Try.prog 23 #[.slice A bs.length c] w (OpenRes w bs) := by
  by_cases h4 : (bs.length : Int) < 4
  · have ho : openB bs = 2 := by unfold openB; rw [if_pos (by omega)]
    go_enter Try.func23, Try.ntmps23
    go_wp2_with fail
    go_ret2
    exact ⟨Keeps.refl _ _, .inl ⟨by rw [ho]; decide, by rw [ho]; rfl⟩⟩
  · have h4' : decide ((bs.length : Int) < 4) = false := by simpa using h4
    obtain ⟨n, hn⟩ : ∃ n, bs.length = n + 4 := ⟨bs.length - 4, by omega⟩
    obtain ⟨ad, hA, hcap⟩ : ∃ ad, A = some ad ∧ bs.length ≤ c := by
      rcases hs with ⟨c0, h1, hx⟩ | ⟨a, c0, h1, h2, h3⟩
      · have : bs = [] := by simpa [bcells] using hx
        rw [this] at hn
        simp at hn
      · injection h1 with h1 h5 h6
        refine ⟨a, h1, ?_⟩
        rw [bcells_length] at h2
        omega
    subst hA
    have hopen : openB bs = if le4 (sumN (bs.take n)) = bs.drop n then 0 else 10 := by
      unfold openB
      rw [if_neg (by omega), hn, Nat.add_sub_cancel]
    have HO := Lib.hid hopen
    have HS := Lib.hid hs
    have ht : (bs.take n).length = n := by rw [List.length_take]; omega
    have C := seal_ok (w := w) (A := some ad) (c := c) (bs := bs.take n) (by
      have := hs.take n (by omega) c (by omega)
      rw [ht]
      unfold bcells at this ⊢
      rwa [← List.map_take] at this) (by omega)
    have hsl : (sealB (bs.take n)).length = n + 4 := by unfold sealB; rw [List.length_append, ht]; rfl
    rw [ht] at C
    unfold SealRes at C
    rw [hsl] at C
    have HSL := Lib.hid hsl
    clear hsl
    have HT := Lib.hid ht
    have HN := Lib.hid hn
    rw [hn] at hcap hl h4' ⊢
    have hnn : (n : Int) + 4 - 4 = (n : Int) := by omega
    clear hs hopen ht h4 hn
    go_enter Try.func23, Try.ntmps23
    go_upto_region 5 with (go_at_call 22; refine C.mono ?_; clear C; rintro e w1 ⟨g, cap, rfl, hg, ho, k1⟩)
    obtain ⟨hcg, hcm⟩ : n + 4 ≤ cap ∧ cap ≤ 9223372036854775807 := by
      rcases ho.blk with ⟨h, -⟩ | ⟨g', cap', cur, h, -, -, h1, h2, -⟩
      · cases h
      · injection h with h3 h4 h5
        rw [bcells_length, HSL.out] at h1
        unfold maxLen at h2
        omega
    have HG := Lib.hid ho
    have HK1 := Lib.hid k1
    clear ho k1
    have r1 : ∀ v, (Instr.sliceAt 25 (.slice (some ⟨g, 0, none⟩) (n + 4) cap) (some (.int .i64 n)) none none).run Try.prog v = .ok (.slice (some ⟨g, n, none⟩) 4 (cap - n)) v := fun v => by
      have := run_sl1 (w := v) ⟨g, 0, none⟩ (n + 4) cap n (by omega) (by omega)
      rwa [Nat.add_sub_cancel_left, Addr.add_lit, Nat.zero_add] at this
    have r2 : ∀ v, (Instr.sliceAt 25 (.slice (some ad) (n + 4) c) (some (.int .i64 n)) none none).run Try.prog v = .ok (.slice (some (ad.add n)) 4 (c - n)) v := fun v => by
      have := run_sl1 (w := v) ad (n + 4) c n (by omega) (by omega)
      rwa [Nat.add_sub_cancel_left] at this
    have hcv : ∀ v, Keeps Nothing w1 v → (convert 25 9 (.slice (some ⟨g, n, none⟩) 4 (cap - n))).run Try.prog v = .ok (.string ⟨(le4 (sumN (bs.take n))).toArray⟩) v := fun v hv => by
      have h := (HG.out.slR.same hv)
      have h2 := h.drop n (by omega) (cap - n) (by omega)
      rw [Nat.add_sub_cancel_left, Addr.add_lit, Nat.zero_add] at h2
      refine conv_str Try.underlying25 Try.underlying5 Try.underlying9 (bs := le4 (sumN (bs.take n))) ?_
      have e : (bcells (sealB (bs.take n))).drop n = bcells (le4 (sumN (bs.take n))) := by
        unfold sealB
        rw [bcells_app, List.drop_append_of_le_length (by rw [bcells_length, HT.out]; exact Nat.le_refl _), List.drop_of_length_le (by rw [bcells_length, HT.out]; exact Nat.le_refl _), List.nil_append]
      rwa [e] at h2
    have hcw : ∀ v, Keeps Nothing w1 v → (convert 25 9 (.slice (some (ad.add n)) 4 (c - n))).run Try.prog v = .ok (.string ⟨(bs.drop n).toArray⟩) v := fun v hv => by
      have h := (HS.out.same (HK1.out.same hv))
      rw [HN.out] at h
      have h2 := h.drop n (by omega) (c - n) (by omega)
      rw [Nat.add_sub_cancel_left] at h2
      refine conv_str Try.underlying25 Try.underlying5 Try.underlying9 (bs := bs.drop n) ?_
      unfold bcells at h2 ⊢
      rwa [← List.map_drop] at h2
    have c1 := fun m => hcv (w1.drewN m) ((Keeps.refl _ _).drewN m)
    have c2 := fun m => hcw (w1.drewN m) ((Keeps.refl _ _).drewN m)
    have HCV := Lib.hid hcv
    clear hcv hcw HCV
    go_quiet (fail)
    clear r1 r2 c1 c2
    have HK2 := Lib.hid (HK1.out.drewN nq)
    by_cases heq : le4 (sumN (bs.take n)) = bs.drop n
    · have ho : openB bs = 0 := by rw [HO.out, if_pos heq]
      have hb : (!(le4 (sumN (bs.take n)) == bs.drop n)) = false := by rw [heq]; simp
      have HOO := Lib.hid ho
      clear ho heq
      generalize (!(le4 (sumN (bs.take n)) == bs.drop n)) = bb at *
      subst hb
      go_wp2_with fail
      go_ret2
      refine ⟨HK2.out, .inr ⟨HOO.out, g, HG.out.toS.lt (g := g) rfl, ?_, ?_⟩⟩
      · rw [HN.out, Nat.add_sub_cancel]
        simp
      · rw [HN.out, Nat.add_sub_cancel]
        have h := (HG.out.slR.same ((Keeps.refl Nothing w1).drewN nq)).take n (by omega) n (Nat.le_refl _)
        have e : (bcells (sealB (bs.take n))).take n = bcells (bs.take n) := by
          unfold sealB
          rw [bcells_app, List.take_append_of_le_length (by rw [bcells_length, HT.out]; exact Nat.le_refl _), List.take_of_length_le (by rw [bcells_length, HT.out]; exact Nat.le_refl _)]
        rw [e] at h
        exact h
    · have ho : openB bs = 10 := by rw [HO.out, if_neg heq]
      have hb : (!(le4 (sumN (bs.take n)) == bs.drop n)) = true := by simpa using heq
      have HOO := Lib.hid ho
      clear ho heq
      generalize (!(le4 (sumN (bs.take n)) == bs.drop n)) = bb at *
      subst hb
      go_wp2_with fail
      go_ret2
      exact ⟨HK2.out, .inl ⟨by rw [HOO.out]; decide, by rw [HOO.out]; rfl⟩⟩

end Go.Proofs.Ytmmeloklnkfjjaa
