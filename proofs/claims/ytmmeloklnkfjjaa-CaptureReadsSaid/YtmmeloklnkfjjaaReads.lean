/- CaptureReads: what is read is written as it was; and the walk. -/
import Derived.Test.YtmmeloklnkfjjaaKeep
namespace Go.Proofs.Ytmmeloklnkfjjaa
open Go.RowKit

theorem take_add' (l : Bytes) (i j : Nat) : l.take (i + j) = l.take i ++ (l.drop i).take j := List.take_add

theorem beB_take (b : Bytes) (a k : Nat) (h : a + k ≤ b.length) : beB k (ofBE ((b.drop a).take k)) = (b.drop a).take k := by
  have hl : ((b.drop a).take k).length = k := by rw [List.length_take, List.length_drop]; omega
  have := beB_ofBE ((b.drop a).take k)
  rwa [hl] at this

def lenR (l : Bytes) : Nat := ofBE ((l.drop 18).take 2)
def keyR (l : Bytes) : Key := ⟨ofBE ((l.drop 16).take 1), ofBE ((l.drop 17).take 1), wrap64 (ofBE (l.take 8) : Nat), wrap64 (ofBE ((l.drop 8).take 8) : Nat), (l.drop 20).take (lenR l)⟩

theorem oneR_eq (b : Bytes) (a : Nat) : oneR b a = if b.length < a + 20 then none else if b.length < a + 20 + lenR (b.drop a) then none else some (keyR (b.drop a), a + 20 + lenR (b.drop a)) := by
  unfold oneR lenR keyR lenR
  simp only [List.drop_drop]

theorem pieces_of (l : Bytes) (n : Nat) : l.take 8 ++ (l.drop 8).take 8 ++ (l.drop 16).take 1 ++ (l.drop 17).take 1 ++ (l.drop 18).take 2 ++ (l.drop 20).take n = l.take (20 + n) := by
  have s1 : l.take 16 = l.take 8 ++ (l.drop 8).take 8 := take_add' l 8 8
  have s2 : l.take 17 = l.take 16 ++ (l.drop 16).take 1 := take_add' l 16 1
  have s3 : l.take 18 = l.take 17 ++ (l.drop 17).take 1 := take_add' l 17 1
  have s4 : l.take 20 = l.take 18 ++ (l.drop 18).take 2 := take_add' l 18 2
  rw [take_add' l 20 n, s4, s3, s2, s1]

theorem beB_sub (l : Bytes) (a k : Nat) (h : a + k ≤ l.length) : beB k (ofBE ((l.drop a).take k)) = (l.drop a).take k := beB_take l a k h

theorem keyR_enc (l : Bytes) (h20 : 20 + lenR l ≤ l.length) (h1 : 0 ≤ (keyR l).frm) (h2 : 0 ≤ (keyR l).till) : encK (keyR l) = l.take (20 + lenR l) := by
  have hbl : ((l.drop 20).take (lenR l)).length = lenR l := by rw [List.length_take, List.length_drop]; omega
  have q1 := ofBE_take_lt l 8
  have q2 := ofBE_take_lt (l.drop 8) 8
  have w1 : (keyR l).frm.toNat = ofBE (l.take 8) := by
    unfold keyR at h1 ⊢
    simp only at h1 ⊢
    generalize ofBE (l.take 8) = x at *
    unfold wrap64 at h1 ⊢
    omega
  have w2 : (keyR l).till.toNat = ofBE ((l.drop 8).take 8) := by
    unfold keyR at h2 ⊢
    simp only at h2 ⊢
    generalize ofBE ((l.drop 8).take 8) = x at *
    unfold wrap64 at h2 ⊢
    omega
  have w3 : (keyR l).port.toNat = ofBE ((l.drop 16).take 1) := Int.toNat_natCast _
  have w4 : (keyR l).cls.toNat = ofBE ((l.drop 17).take 1) := Int.toNat_natCast _
  have w5 : (keyR l).bs = (l.drop 20).take (lenR l) := rfl
  have w6 : lenR l = ofBE ((l.drop 18).take 2) := rfl
  have t0 : beB 8 (ofBE (l.take 8)) = l.take 8 := by
    have := beB_sub l 0 8 (by omega)
    rwa [List.drop_zero] at this
  unfold encK
  rw [w1, w2, w3, w4, w5, hbl, t0, beB_sub l 8 8 (by omega), beB_sub l 16 1 (by omega), beB_sub l 17 1 (by omega)]
  conv => lhs; arg 1; arg 2; rw [w6]
  rw [beB_sub l 18 2 (by omega)]
  exact pieces_of l (lenR l)

theorem oneR_back {b : Bytes} {a a' : Nat} {k : Key} (h : oneR b a = some (k, a')) (hk : k.Ok) : a' ≤ b.length ∧ a' = a + (encK k).length ∧ (b.drop a).take (encK k).length = encK k := by
  rw [oneR_eq] at h
  by_cases h20 : b.length < a + 20
  · rw [if_pos h20] at h
    cases h
  · rw [if_neg h20] at h
    by_cases hn : b.length < a + 20 + lenR (b.drop a)
    · rw [if_pos hn] at h
      cases h
    · rw [if_neg hn] at h
      injection h with h
      injection h with h1 h2
      have hl : (b.drop a).length = b.length - a := List.length_drop
      generalize b.drop a = l at *
      subst h1
      have he := keyR_enc l (by omega) hk.2.2.2.2.1 (by have := hk.2.2.2.2.1; have := hk.2.2.2.2.2.1; omega)
      have hle : (encK (keyR l)).length = 20 + lenR l := by rw [he, List.length_take]; omega
      exact ⟨by omega, by omega, by rw [hle, he]⟩

theorem manyR_back {b : Bytes} {a : Nat} (ha : a ≤ b.length) : ∀ (j : Nat) {ks : List Key} {a' : Nat}, manyR b j a = some (ks, a') → (∀ k ∈ ks, k.Ok) →
    a' ≤ b.length ∧ a' = a + ((ks.map encK).flatten).length ∧ (b.drop a).take ((ks.map encK).flatten).length = (ks.map encK).flatten ∧ ks.length = j
  | 0, ks, a', h, _ => by
    simp only [manyR, Option.some.injEq, Prod.mk.injEq] at h
    obtain ⟨rfl, rfl⟩ := h
    exact ⟨ha, rfl, rfl, rfl⟩
  | j + 1, ks, a', h, hok => by
    simp only [manyR] at h
    split at h
    · cases h
    · rename_i ks0 b0 h0
      split at h
      · cases h
      · rename_i k c hc
        simp only [Option.some.injEq, Prod.mk.injEq] at h
        obtain ⟨rfl, rfl⟩ := h
        obtain ⟨i1, i2, i3, i4⟩ := manyR_back ha j h0 (fun x hx => hok x (by simp [hx]))
        obtain ⟨o1, o2, o3⟩ := oneR_back hc (hok k (by simp))
        refine ⟨o1, ?_, ?_, by simp [i4]⟩
        · rw [o2, i2]
          simp
          omega
        · rw [List.map_append, List.flatten_append, List.length_append, take_add', i3, List.drop_drop, ← i2]
          simp only [List.map_cons, List.map_nil, List.flatten_singleton]
          rw [o3]

theorem write_read {b : Bytes} {lst : List Fr} (h : readF b = .inr (lst.map Fr.key)) : sealB (bodyB lst) = b ∧ ∀ f ∈ lst, f.Ok := by
  unfold readF at h
  split at h
  · cases h
  · rename_i hop
    have hop0 : openB b = 0 := by simpa using hop
    unfold openB at hop0
    split at hop0
    · cases hop0
    · rename_i h4
      split at hop0
      · rename_i hsum
        have hb : b = b.take (b.length - 4) ++ b.drop (b.length - 4) := (List.take_append_drop _ _).symm
        generalize b.take (b.length - 4) = x at *
        unfold readI at h
        split at h
        · cases h
        · rename_i hm
          have hm4 : x.take 4 = magicB := by simpa using hm
          split at h
          · cases h
          · rename_i h6
            split at h
            · cases h
            · rename_i ks a hmany
              split at h
              · cases h
              · rename_i ha
                have hax : a = x.length := by simpa using ha
                split at h
                · cases h
                · rename_i hck
                  simp only [Sum.inr.injEq] at h
                  have hok : ∀ k ∈ ks, k.Ok := by
                    have : checkK ks = 0 := by simpa using hck
                    unfold checkK at this
                    split at this
                    · assumption
                    · cases this
                  obtain ⟨m1, m2, m3, m4⟩ := manyR_back (by omega) _ hmany hok
                  have hx : bodyB lst = x := by
                    unfold bodyB
                    have e1 : (lst.map encF).flatten = (ks.map encK).flatten := by
                      rw [h, List.map_map]
                      rfl
                    have e2 : lst.length = ofBE ((x.drop 4).take 2) := by
                      rw [← m4, h, List.length_map]
                    rw [e1, e2, beB_take x 4 2 (by omega), ← m3, ← hm4]
                    have e3 : ((ks.map encK).flatten).length = x.length - 6 := by omega
                    rw [e3, ← take_add' x 4 2]
                    have e4 : (x.drop 6).take (x.length - 6) = x.drop 6 := by
                      rw [List.take_of_length_le (by rw [List.length_drop]; omega)]
                    rw [e4, List.take_append_drop]
                  refine ⟨?_, fun f hf => hok f.key (by rw [h]; exact List.mem_map_of_mem hf)⟩
                  unfold sealB
                  rw [hx, hsum]
                  exact hb.symm
      · cases hop0

set_option maxRecDepth 100000 in
set_option maxHeartbeats 16000000 in
theorem reads_ok {w : World} {A : Option Addr} {c : Nat} {bs : Bytes} (hs : SlR w (.slice A bs.length c) (bcells bs)) (hl : bs.length ≤ 9223372036854775807) :
    Calls Try.prog 4 #[.slice A bs.length c] w (TrueKept w) := by
  have HS := Lib.hid hs
  clear hs
  by_cases h3000 : (3000 : Int) < (bs.length : Int)
  · go_enter Try.func4, Try.ntmps4
    go_wp2_with (go_at_call 9; refine keeps_ok.mono ?_; rintro e w1 ⟨rfl, k1⟩)
    go_ret
    exact ⟨rfl, k1⟩
  · have h3' : decide ((3000 : Int) < (bs.length : Int)) = false := by simpa using h3000
    have R := fun (v : World) (hv : Keeps Nothing w v) => read_ok (HS.out.same hv) (by omega)
    go_enter Try.func4, Try.ntmps4
    go_upto_region 6 with (first | (go_at_call 9; refine keeps_ok.mono ?_; rintro e w1 ⟨rfl, k1⟩) | (go_at_call 13; refine (R _ k1).mono ?_; clear R; rintro e w2 ⟨k2, (⟨n, hn1, hn2, rfl⟩ | ⟨lst, A2, c2, hrd, rfl, hfr, hfit, hl2⟩)⟩))
    · have hb : (((n : Nat) : Int) != 0) = true := by simpa using hn2
      clear hn1 hn2
      go_wp2_with fail
      go_ret
      exact ⟨rfl, k1.same k2⟩
    · obtain ⟨hwr, hok⟩ := write_read hrd
      have hbl : (bodyB lst).length ≤ 100000000 := by
        have := congrArg List.length hwr
        unfold sealB at this
        rw [List.length_append] at this
        omega
      have W := write_ok hfr (by omega) (checkR_good (by omega) hok) hfit hbl
      unfold WriteRes at W
      rw [hwr] at W
      have K2 := Lib.hid (k1.same k2)
      clear hrd hfr hfit hwr hok hbl k1 k2
      go_upto_region 9 with (go_at_call 11; refine W.mono ?_; clear W; rintro e w3 ⟨g, cap, rfl, hg, ho, k3⟩)
      have K3 := Lib.hid (K2.out.same k3)
      have c1 := conv_str (P := Try.prog) (src := 25) (e := 5) (dst := 9) Try.underlying25 Try.underlying5 Try.underlying9 ho.slR
      have c2 := conv_str (P := Try.prog) (src := 25) (e := 5) (dst := 9) Try.underlying25 Try.underlying5 Try.underlying9 (HS.out.same K3.out)
      clear ho k3
      go_wp2_with fail
      go_ret
      exact ⟨by simp, K3.out⟩

end Go.Proofs.Ytmmeloklnkfjjaa
