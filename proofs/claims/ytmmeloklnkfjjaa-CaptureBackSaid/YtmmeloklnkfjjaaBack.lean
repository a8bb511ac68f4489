/- There and back, in plain lists: what is written is read as it was; what is read is written as it was. -/
import Derived.Test.YtmmeloklnkfjjaaRead
namespace Go.Proofs.Ytmmeloklnkfjjaa
open Go.RowKit

theorem beB_succ (k n : Nat) : beB (k + 1) n = beB k (n / 256) ++ [UInt8.ofNat n] := by
  unfold beB
  rw [List.range_succ, List.map_append]
  congr 1
  · apply List.map_congr_left
    intro p hp
    rw [List.mem_range] at hp
    congr 1
    rw [Nat.div_div_eq_div_mul]
    congr 1
    have : k + 1 - 1 - p = (k - 1 - p) + 1 := by omega
    rw [this, Nat.pow_succ, Nat.mul_comm]
  · simp

theorem ofBE_beB : ∀ (k n : Nat), n < 256 ^ k → ofBE (beB k n) = n
  | 0, n, h => by
    have : n = 0 := by simpa using h
    subst this
    rfl
  | k + 1, n, h => by
    rw [beB_succ, ofBE_snoc, ofBE_beB k (n / 256) (by rw [Nat.pow_succ] at h; omega)]
    simp
    omega

theorem beB_ofBE (l : Bytes) : beB l.length (ofBE l) = l := by
  generalize hn : l.length = n
  induction n generalizing l with
  | zero =>
    have : l = [] := List.eq_nil_of_length_eq_zero hn
    subst this
    rfl
  | succ n ih =>
    obtain ⟨k, x, rfl⟩ := snoc_cases l (fun h => by rw [h] at hn; simp at hn)
    have hx := x.toNat_lt
    rw [beB_succ, ofBE_snoc]
    have e1 : (ofBE k * 256 + x.toNat) / 256 = ofBE k := by omega
    rw [e1, ih k (by simpa using hn)]
    congr 2
    apply UInt8.toNat_inj.1
    simp

def encK (k : Key) : Bytes := beB 8 k.frm.toNat ++ beB 8 k.till.toNat ++ beB 1 k.port.toNat ++ beB 1 k.cls.toNat ++ beB 2 k.bs.length ++ k.bs

theorem encF_key (f : Fr) : encF f = encK f.key := rfl

theorem encK_len (k : Key) : (encK k).length = 20 + k.bs.length := by
  simp [encK]
  omega

theorem drop_pre (pre x : Bytes) (k : Nat) : (pre ++ x).drop (pre.length + k) = x.drop k := by
  rw [List.drop_append, List.drop_of_length_le (by omega), List.nil_append]
  congr 1
  omega

theorem drop_at (a x : Bytes) (m : Nat) (h : a.length = m) : (a ++ x).drop m = x := by
  rw [List.drop_append_of_le_length (by omega), List.drop_of_length_le (by omega), List.nil_append]

theorem take_at (a x : Bytes) (m : Nat) (h : a.length = m) : (a ++ x).take m = a := by
  rw [List.take_append_of_le_length (by omega), List.take_of_length_le (by omega)]

/-- Six pieces behind each other, wherever they stand. -/
theorem oneR_pieces (pre a b c d e f post : Bytes) (ha : a.length = 8) (hb : b.length = 8) (hc : c.length = 1) (hd : d.length = 1) (he : e.length = 2) (hf : ofBE e = f.length) :
    oneR (pre ++ (a ++ (b ++ (c ++ (d ++ (e ++ (f ++ post))))))) pre.length = some (⟨ofBE c, ofBE d, wrap64 (ofBE a : Nat), wrap64 (ofBE b : Nat), f⟩, pre.length + 20 + f.length) := by
  have hl : (pre ++ (a ++ (b ++ (c ++ (d ++ (e ++ (f ++ post))))))).length = pre.length + 20 + f.length + post.length := by
    simp only [List.length_append, ha, hb, hc, hd, he]; omega
  obtain ⟨x, hx⟩ : ∃ x, x = a ++ (b ++ (c ++ (d ++ (e ++ (f ++ post))))) := ⟨_, rfl⟩
  have e0 : (pre ++ x).drop pre.length = x := drop_at _ _ _ rfl
  have d1 : x.take 8 = a := by rw [hx]; exact take_at _ _ _ ha
  have s1 : x.drop 8 = b ++ (c ++ (d ++ (e ++ (f ++ post)))) := by rw [hx]; exact drop_at _ _ _ ha
  have s2 : x.drop 16 = c ++ (d ++ (e ++ (f ++ post))) := by
    have : x.drop 16 = (x.drop 8).drop 8 := by rw [List.drop_drop]
    rw [this, s1]; exact drop_at _ _ _ hb
  have s3 : x.drop 17 = d ++ (e ++ (f ++ post)) := by
    have : x.drop 17 = (x.drop 16).drop 1 := by rw [List.drop_drop]
    rw [this, s2]; exact drop_at _ _ _ hc
  have s4 : x.drop 18 = e ++ (f ++ post) := by
    have : x.drop 18 = (x.drop 17).drop 1 := by rw [List.drop_drop]
    rw [this, s3]; exact drop_at _ _ _ hd
  have s5 : x.drop 20 = f ++ post := by
    have : x.drop 20 = (x.drop 18).drop 2 := by rw [List.drop_drop]
    rw [this, s4]; exact drop_at _ _ _ he
  rw [← hx] at hl ⊢
  have hn : ofBE (((pre ++ x).drop (pre.length + 18)).take 2) = f.length := by
    rw [drop_pre, s4, take_at _ _ _ he, hf]
  unfold oneR
  rw [if_neg (by omega)]
  simp only
  rw [hn, if_neg (by omega), drop_pre, drop_pre, drop_pre, drop_pre, e0, d1, s1, s2, s3, s5, take_at _ _ _ hb, take_at _ _ _ hc, take_at _ _ _ hd, take_at _ _ _ rfl]

/-- One frame's bytes, wherever they stand. -/
theorem oneR_enc (pre post : Bytes) (k : Key) (hk : k.Ok) (h1 : k.frm ≤ 9223372036854775807) (h2 : k.till ≤ 9223372036854775807) :
    oneR (pre ++ (encK k ++ post)) pre.length = some (k, pre.length + (encK k).length) := by
  obtain ⟨p0, p1, c0, c1, f0, t0, b0⟩ := hk
  have hlen := encK_len k
  have h := oneR_pieces pre (beB 8 k.frm.toNat) (beB 8 k.till.toNat) (beB 1 k.port.toNat) (beB 1 k.cls.toNat) (beB 2 k.bs.length) k.bs post (beB_length _ _) (beB_length _ _) (beB_length _ _) (beB_length _ _) (beB_length _ _) (ofBE_beB 2 _ (by omega))
  rw [ofBE_beB 8 _ (by omega), ofBE_beB 8 _ (by omega), ofBE_beB 1 _ (by omega), ofBE_beB 1 _ (by omega)] at h
  have w1 : wrap64 ((k.frm.toNat : Nat) : Int) = k.frm := by unfold wrap64; omega
  have w2 : wrap64 ((k.till.toNat : Nat) : Int) = k.till := by unfold wrap64; omega
  rw [w1, w2, Int.toNat_of_nonneg p0, Int.toNat_of_nonneg c0] at h
  have e : encK k ++ post = beB 8 k.frm.toNat ++ (beB 8 k.till.toNat ++ (beB 1 k.port.toNat ++ (beB 1 k.cls.toNat ++ (beB 2 k.bs.length ++ (k.bs ++ post))))) := by
    simp only [encK, List.append_assoc]
  rw [e, h, hlen]
  simp only [Option.some.injEq, Prod.mk.injEq]
  exact ⟨trivial, by omega⟩

theorem manyR_enc (post : Bytes) (ks : List Key) (hok : ∀ k ∈ ks, k.Ok ∧ k.frm ≤ 9223372036854775807 ∧ k.till ≤ 9223372036854775807) (pre : Bytes) : ∀ j, j ≤ ks.length →
    manyR (pre ++ ((ks.map encK).flatten ++ post)) j pre.length = some (ks.take j, pre.length + ((ks.take j).map encK).flatten.length)
  | 0, _ => by simp [manyR]
  | j + 1, h => by
    obtain ⟨k, hk⟩ : ∃ k, ks[j]? = some k := ⟨_, List.getElem?_eq_getElem (by omega)⟩
    obtain ⟨o1, o2, o3⟩ := hok k (List.mem_of_getElem? hk)
    have ih := manyR_enc post ks hok pre j (by omega)
    have hsplit : pre ++ ((ks.map encK).flatten ++ post) = (pre ++ ((ks.take j).map encK).flatten) ++ (encK k ++ (((ks.drop (j + 1)).map encK).flatten ++ post)) := by
      have : ks = ks.take j ++ k :: ks.drop (j + 1) := by
        have h1 := List.take_append_drop j ks
        rw [List.drop_eq_getElem_cons (by omega)] at h1
        have : ks[j]'(by omega) = k := (List.getElem?_eq_some_iff.1 hk).2
        rw [this] at h1
        exact h1.symm
      conv => lhs; rw [this]
      simp
    have hone := oneR_enc (pre ++ ((ks.take j).map encK).flatten) (((ks.drop (j + 1)).map encK).flatten ++ post) k o1 o2 o3
    rw [← hsplit, List.length_append] at hone
    simp only [manyR, ih, hone]
    rw [take_snoc' hk]
    simp
    omega

theorem read_write {l : List Fr} (hl : l.length ≤ 65535) (hok : ∀ f ∈ l, f.Ok) (hfit : ∀ f ∈ l, f.Fit) : readF (sealB (bodyB l)) = .inr (l.map Fr.key) := by
  have hkeys : ∀ k ∈ l.map Fr.key, k.Ok ∧ k.frm ≤ 9223372036854775807 ∧ k.till ≤ 9223372036854775807 := fun k hk => by
    obtain ⟨f, hf, rfl⟩ := List.mem_map.1 hk
    exact ⟨hok f hf, hfit f hf⟩
  have hb : bodyB l = (magicB ++ beB 2 l.length) ++ (((l.map Fr.key).map encK).flatten ++ []) := by
    unfold bodyB
    rw [List.append_nil, List.map_map]
    rfl
  have hlen : (sealB (bodyB l)).length = (bodyB l).length + 4 := by unfold sealB; rw [List.length_append]; rfl
  have htake : (sealB (bodyB l)).take ((sealB (bodyB l)).length - 4) = bodyB l := by
    rw [hlen, Nat.add_sub_cancel]
    unfold sealB
    rw [List.take_append_of_le_length (Nat.le_refl _), List.take_of_length_le (Nat.le_refl _)]
  have hdrop : (sealB (bodyB l)).drop ((sealB (bodyB l)).length - 4) = le4 (sumN (bodyB l)) := by
    rw [hlen, Nat.add_sub_cancel]
    unfold sealB
    rw [List.drop_append_of_le_length (Nat.le_refl _), List.drop_of_length_le (Nat.le_refl _), List.nil_append]
  have hopen : openB (sealB (bodyB l)) = 0 := by
    unfold openB
    rw [if_neg (by rw [hlen]; omega), htake, hdrop, if_pos rfl]
  have hpl : (magicB ++ beB 2 l.length).length = 6 := by simp [magicB]
  have hm := manyR_enc [] (l.map Fr.key) hkeys (magicB ++ beB 2 l.length) l.length (by simp)
  rw [← hb, hpl] at hm
  have htl : (l.map Fr.key).take l.length = l.map Fr.key := by rw [List.take_of_length_le (by simp)]
  rw [htl] at hm
  have h4 : (bodyB l).take 4 = magicB := by
    rw [hb, List.append_assoc, List.take_append_of_le_length (by simp [magicB])]
    rfl
  have h6 : ofBE (((bodyB l).drop 4).take 2) = l.length := by
    rw [hb, List.append_assoc, List.drop_append_of_le_length (by simp [magicB]), show magicB.drop 4 = [] from rfl, List.nil_append, List.take_append_of_le_length (by simp), List.take_of_length_le (by simp), ofBE_beB 2 _ (by omega)]
  have hbl : (bodyB l).length = 6 + (((l.map Fr.key).map encK).flatten).length := by
    rw [hb, List.length_append, hpl, List.append_nil]
  unfold readF
  rw [if_neg (by simp [hopen]), htake]
  unfold readI
  rw [if_neg (by simp [h4]), if_neg (by omega), h6, hm]
  simp only
  rw [if_neg (by rw [hbl]; simp)]
  have hck : checkK (l.map Fr.key) = 0 := by
    unfold checkK
    rw [if_pos (fun k hk => (hkeys k hk).1)]
  rw [if_neg (by simp [hck])]

end Go.Proofs.Ytmmeloklnkfjjaa
