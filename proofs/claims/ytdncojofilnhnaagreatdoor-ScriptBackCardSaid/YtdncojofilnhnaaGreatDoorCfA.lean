/- script.config: plain parts of the walk. -/
import Derived.Test.YtdncojofilnhnaaGreatDoorLineW
namespace Go.Proofs.YtdncojofilnhnaaGreatDoor
open Go.RowKit Go.Lib

def cfZ : Cf := ⟨0, mac0, [], 0, List.replicate 8 0, 0⟩
def cf0 : List Value := cfC cfZ (.slice none 0 0)

/-- The ports' cells, one behind the other. -/
def ptsC (ps : List Pt) : List Value := ps.flatMap ptC

theorem ptsC_len (ps : List Pt) : (ptsC ps).length = ps.length * 2 := by
  induction ps with
  | nil => rfl
  | cons p ps ih => unfold ptsC at *; rw [List.flatMap_cons, List.length_append, ih]; simp [ptC]; omega

theorem ptsC_snoc (ps : List Pt) (p : Pt) : ptsC (ps ++ [p]) = ptsC ps ++ ptC p := by simp [ptsC]

theorem ptsC_at : ∀ (ps : List Pt) (i : Nat) (p : Pt) (j : Nat) (u : Value), ps[i]? = some p → (ptC p)[j]? = some u → (ptsC ps)[i * 2 + j]? = some u
  | [], i, p, j, u, h, _ => by simp at h
  | q :: ps, 0, p, j, u, h, hj => by
    simp at h
    subst h
    have hl : j < (ptC q).length := (List.getElem?_eq_some_iff.1 hj).1
    show (ptC q ++ ptsC ps)[0 * 2 + j]? = _
    rw [Nat.zero_mul, Nat.zero_add, List.getElem?_append_left hl]
    exact hj
  | q :: ps, i + 1, p, j, u, h, hj => by
    have := ptsC_at ps i p j u (by simpa using h) hj
    show (ptC q ++ ptsC ps)[(i + 1) * 2 + j]? = _
    rw [List.getElem?_append_right (by simp [ptC]; omega)]
    rw [show (i + 1) * 2 + j - (ptC q).length = i * 2 + j by simp [ptC]; omega]
    exact this

theorem own_recs {w : World} {F : Nat → Prop} {T : Nat} {v : Value} {ps : List Pt} (h : OwnS w F T 2 v ps.length (ptsC ps)) : RecsR w v 2 (ps.map ptC) := by
  rcases h.1.2 with ⟨hv, hn⟩ | ⟨g, cap, cur, hv, hg, hh, hc, hm, hs, ht⟩
  · have : ps = [] := List.eq_nil_of_length_eq_zero hn
    subst this
    exact .inl ⟨rfl, _, _, hv⟩
  · refine .inr ⟨g, 0, cap, by rw [List.length_map]; exact hv, by rw [List.length_map]; exact hc, fun i cs hi => ?_⟩
    rw [List.getElem?_map, Option.map_eq_some_iff] at hi
    obtain ⟨p, hp, rfl⟩ := hi
    refine ⟨rfl, fun j u hj => ?_⟩
    have := h.1.cells (g := g) (by simp [hv, Value.ownBlock]) (i * 2 + j) u (ptsC_at ps i p j u hp hj)
    rw [Addr.add_lit] at this
    simpa using this

/-- What config comes to. -/
def ConfIs (w' : World) (B : Nat) (l : Str) (ev : Ending) : Prop := match configP l with
  | .ok c => (MacIs c.mac ∧ c.bounds = List.replicate 8 (c.bounds.headD 0) ∧ c.ports.length ≤ 8 ∧ (0 ≤ c.bounds.headD 0 ∧ c.bounds.headD 0 ≤ 1073741824) ∧ (0 ≤ c.start ∧ c.start ≤ 9223372036854775807)) ∧
      ∃ A n cp, ev = .returned (.tuple #[.agg (cfC c (.slice A n cp)).toArray, .nilIface]) ∧ OwnS w' (fun k => B ≤ k) 70 2 (.slice A n cp) c.ports.length (ptsC c.ports)
  | .error e => ∃ v, ErrE w' v e ∧ ev = .returned (.tuple #[.agg cf0.toArray, v])

/-- The numbers, one by one. -/
def numsGo (ws : List Str) : List Nat → List Int → Option (List Int)
  | [], acc => some acc
  | k :: ks, acc => match numP (ws.getD k []) with
    | none => none
    | some a => if k ≠ 5 ∧ 1073741824 < a then none else numsGo ws ks (acc ++ [a])

theorem nums_go (ws : List Str) : numsGo ws [1, 3, 4, 5] [] = (numsP ws).map (fun t => [t.1, t.2.1, t.2.2.1, t.2.2.2]) := by
  unfold numsP
  simp only [numsGo]
  cases numP (ws.getD 1 []) with
  | none => rfl
  | some a =>
    by_cases ha : 1073741824 < a
    · simp [ha]
    · simp only [ha, and_false, if_false]
      cases numP (ws.getD 3 []) with
      | none => rfl
      | some b =>
        by_cases hb : 1073741824 < b
        · simp [hb]
        · simp only [hb, and_false, if_false]
          cases numP (ws.getD 4 []) with
          | none => rfl
          | some d =>
            by_cases hd : 1073741824 < d
            · simp [hd]
            · simp only [hd, and_false, if_false]
              cases numP (ws.getD 5 []) with
              | none => rfl
              | some e => simp

theorem rep_cons (d : Value) (X : List Value) : ∀ i, List.replicate i d ++ d :: X = d :: (List.replicate i d ++ X)
  | 0 => rfl
  | i + 1 => by rw [List.replicate_succ, List.cons_append, rep_cons d X i]; rfl

theorem set_rep (pre post : List Value) (d z : Value) (i k : Nat) : (pre ++ (List.replicate i d ++ (List.replicate (k + 1) z ++ post))).set (pre.length + i) d = pre ++ (List.replicate (i + 1) d ++ (List.replicate k z ++ post)) := by
  rw [List.set_append_right _ _ (by omega), show pre.length + i - pre.length = i by omega]
  congr 1
  rw [List.set_append_right _ _ (by simp)]
  simp only [List.length_replicate, Nat.sub_self, List.replicate_succ, List.cons_append, List.set_cons_zero]
  rw [rep_cons]


theorem suffix_e (s : Str) : (Lib.trimSuffix s [101], Lib.hasSuffix s [101]) = cutE s := by
  have h : (Lib.hasSuffix s [101] = true) ↔ s.getLast? = some 101 := by
    unfold Lib.hasSuffix
    rw [List.isSuffixOf_iff_suffix, List.getLast?_eq_some_iff]
    constructor
    · rintro ⟨t, rfl⟩; exact ⟨t, rfl⟩
    · rintro ⟨t, rfl⟩; exact ⟨t, rfl⟩
  unfold cutE Lib.trimSuffix
  by_cases hl : s.getLast? = some 101
  · have h1 := h.2 hl
    rw [if_pos hl, h1]
    simp [List.dropLast_eq_take]
  · have h1 : Lib.hasSuffix s [101] = false := by
      cases hh : Lib.hasSuffix s [101] with
      | true => exact absurd (h.1 hh) hl
      | false => rfl
    rw [if_neg hl, h1]
    rfl

theorem cutE_ok (s : Str) (hl : s.length ≤ 9223372036854775807) (w : World) :
    Calls Tryz.prog 83 #[strV s, strV [101]] w fun ev w' => ev = .returned (.tuple #[strV (cutE s).1, .bool (cutE s).2]) ∧ w' = w := by
  refine (Tryz.strings_CutSuffix ⟨s.toArray⟩ ⟨[101].toArray⟩ w (by rw [str_size]; exact hl)).mono ?_
  rintro ev w' ⟨rfl, rfl⟩
  refine ⟨?_, rfl⟩
  rw [← suffix_e]

theorem cutE_len (s : Str) : (cutE s).1.length ≤ s.length := by
  unfold cutE
  split <;> simp

end Go.Proofs.YtdncojofilnhnaaGreatDoor
