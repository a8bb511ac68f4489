/- Frames of several captures, by their times: Merge. -/
import Derived.Test.YtmmeloklnkfjjaaStab
import Derived.Test.YtmmeloklnkfjjaaConcat
namespace Go.Proofs.Ytmmeloklnkfjjaa
open Go.RowKit

def noFr : Fr := ⟨0, 0, 0, 0, none, 0, []⟩
def conOf (l : List Fr) : Con := fun i => l[i]?.getD noFr

theorem map_conOf (l : List Fr) : (List.range l.length).map (conOf l) = l := by
  apply List.ext_getElem?
  intro i
  by_cases h : i < l.length
  · simp [h, conOf]
  · rw [List.getElem?_eq_none (by simpa using h), List.getElem?_eq_none (by simpa using h)]

/-- Sorted, as a list. -/
def SrtL (l : List Fr) : Prop := ∀ (i j : Nat) (f g : Fr), i < j → l[i]? = some f → l[j]? = some g → ¬ Lt g f

theorem srtL_iff (n : Nat) (c : Con) : SrtL ((List.range n).map c) ↔ Srt 0 n c := by
  constructor
  · intro h i j _ hij hj
    have hi : i < n := by omega
    exact h i j (c i) (c j) hij (by simp [hi]) (by simp [hj])
  · intro h i j f g hij hi hj
    have h1 := (List.getElem?_eq_some_iff.1 hi).1
    have h2 := (List.getElem?_eq_some_iff.1 hj).1
    simp at h1 h2
    simp [h1] at hi
    simp [h2] at hj
    subst hi hj
    exact h i j (by omega) hij h2

def MergeRes (w : World) (l : List Fr) (e : Ending) (w' : World) : Prop :=
  ∃ (m : List Fr) (A : Option Addr) (c : Nat), e = .returned (.slice A m.length c) ∧ m.length = l.length ∧ (∀ p : Fr → Bool, m.countP p = l.countP p) ∧ SrtL m ∧ (SrtL l → m = l) ∧ FrsR w' A c m ∧ Keeps Nothing w w'

set_option maxRecDepth 100000 in
/-- Nothing at all is sorted. -/
theorem sort_nil {w : World} : Calls Try.prog 30 #[.slice none 0 0, .func (.func 31) #[] #[]] w (fun e w' => e = .returned (.tuple #[]) ∧ w = w') := by
  have I : ∀ w : World, Calls Try.prog 40 #[.slice none 0 0, .int .i64 0, .int .i64 0, .func (.func 31) #[] #[]] w (fun e w' => e = .returned (.tuple #[]) ∧ w = w') := fun w => by
    go_enter Try.func40, Try.ntmps40
    go_wp2_with fail
    refine wp_loop_rounds 1 ?_
    rw [rounds_succ]
    go_wp2_with fail
    go_end0
    exact ⟨rfl, rfl⟩
  have S : ∀ w : World, Calls Try.prog 35 #[.slice none 0 0, .int .i64 0, .func (.func 31) #[] #[]] w (fun e w' => e = .returned (.tuple #[]) ∧ w = w') := fun w => by
    go_enter Try.func35, Try.ntmps35
    go_wp2_with fail
    refine wp_loop_rounds 1 ?_
    rw [rounds_succ]
    go_wp2_with (go_at_call 40; refine (I _).mono ?_; rintro e w' ⟨rfl, rfl⟩)
    refine wp_loop_rounds 1 ?_
    rw [rounds_succ]
    go_wp2_with fail
    go_end0
    exact ⟨rfl, rfl⟩
  go_enter Try.func30, Try.ntmps30
  go_wp2_with (go_at_call 35; refine (S _).mono ?_; rintro e w' ⟨rfl, rfl⟩)
  go_end0
  exact ⟨rfl, rfl⟩

set_option maxRecDepth 100000 in
set_option maxHeartbeats 4000000 in
theorem merge_ok {w : World} {g : Nat} {ps : List Pt} (hc : ∀ (j : Nat) (p : Pt), ps[j]? = some p → w.cell? ⟨g, j, none⟩ = some (.slice p.A p.l.length p.c) ∧ FrsR w p.A p.c p.l) (hl : ps.length ≤ 1000) (hb : (catF ps).length ≤ 1000000) :
    Calls Try.prog 15 #[.slice (some ⟨g, 0, none⟩) ps.length ps.length] w (MergeRes w (catF ps)) := by
  have C := concat_ok hc hl hb
  have hrd : ∀ f ∈ catF ps, f.Rd w := fun f hf => by
    unfold catF at hf
    rw [List.mem_flatten] at hf
    obtain ⟨_, hl, hf⟩ := hf
    rw [List.mem_map] at hl
    obtain ⟨p, hp, rfl⟩ := hl
    obtain ⟨j, hj⟩ := List.getElem?_of_mem hp
    exact (hc j p hj).2.2 f hf
  have HRd := Lib.hid hrd
  clear hc hrd
  generalize catF ps = l at *
  go_enter Try.func15, Try.ntmps15
  go_upto_region 2 with (go_at_call 29; refine C.mono ?_; clear C; rintro e w1 ⟨v, rfl, ho, k1⟩)
  rcases ho.1.2 with ⟨hv, hn⟩ | ⟨g1, cap, cur, hv, -, hh, hcap, hcm, hsz, ht⟩
  · subst hv
    have hl0 : l = [] := List.eq_nil_of_length_eq_zero hn
    subst hl0
    clear ho HRd
    go_wp2_with (go_at_call 30; refine sort_nil.mono ?_; rintro e w' ⟨rfl, rfl⟩)
    go_ret
    exact ⟨[], none, 0, rfl, rfl, fun _ => rfl, fun i j f g _ hi => by simp at hi, fun _ => rfl, ⟨.inl rfl, fun f hf => by simp at hf⟩, k1⟩
  · subst hv
    have hg1 : w.heap.size ≤ g1 := ho.2 g1 rfl
    have hrow : RowC w1 g1 l.length (conOf l) := by
      refine ⟨cur.toList.drop (l.length * 5), ?_⟩
      rw [map_conOf, ← ht, List.take_append_drop]
      simpa [Blk] using hh
    have C2 := sort_ok (cap := cap) hrow (by omega)
    have K1 := Lib.hid k1
    clear ho hh hsz ht hrow k1
    go_wp2_with (go_at_call 30; refine C2.mono ?_; clear C2; rintro e w2 ⟨d2, rfl, hr2, hs2, ho2, hi2, hk2⟩; have HR2 := Lib.hid hr2; have HS2 := Lib.hid hs2; have HO2 := Lib.hid ho2; have HI2 := Lib.hid hi2; have HK2 := Lib.hid (K1.out.up hk2 (fun x hx => by omega)); clear hr2 hs2 ho2 hi2 hk2)
    go_ret
    have hlen : ((List.range l.length).map d2).length = l.length := by simp
    refine ⟨(List.range l.length).map d2, some ⟨g1, 0, none⟩, cap, by rw [hlen]; rfl, hlen, fun p => ?_, (srtL_iff _ _).2 HO2.out, fun hs => ?_, ⟨.inr ⟨g1, 0, rfl, by rw [hlen]; exact hcap, fun j f hj i u hi => ?_⟩, fun f hf => ?_⟩, HK2.out⟩
    · rw [cnt_list, HS2.out.cnt p _ (Nat.le_refl _), ← cnt_list, map_conOf]
    · have := HI2.out ((srtL_iff l.length (conOf l)).1 (by rw [map_conOf]; exact hs))
      rw [this, map_conOf]
    · obtain ⟨sp, hb⟩ := HR2.out
      have := fcells_get _ j f hj i u hi
      rw [hb.cell, Nat.zero_add, List.getElem?_append_left (List.getElem?_eq_some_iff.1 this).1]
      exact this
    · rw [List.mem_map] at hf
      obtain ⟨i, hi, rfl⟩ := hf
      rw [List.mem_range] at hi
      obtain ⟨k, -, hk, e⟩ := HS2.out.mem i (by omega) hi
      rw [e]
      have : conOf l k ∈ l := by
        unfold conOf
        rw [List.getElem?_eq_getElem hk]
        exact List.getElem_mem hk
      exact SlR.same (HRd.out _ this) HK2.out

end Go.Proofs.Ytmmeloklnkfjjaa
