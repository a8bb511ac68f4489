/- The pool's functions, the last: Take, New. -/
import Derived.Test.YtpgmkekdgchkfaaPool2
namespace Go.Proofs.Ytpgmkekdgchkfaa
open Go.RowKit

theorem take_full {w : World} {p : Nat} {F : Nat → Prop} {ps : PSt} (hP : PoolAt w p F ps) (v : Value) (hu : usedOf ps = ps.length) :
    Calls Try.prog 16 #[.pointer (some ⟨p, 0, none⟩), v] w fun e w' => e = .returned (.tuple #[.int .i64 0, .int .i64 20]) ∧ Keeps Nothing w w' := by
  obtain ⟨q, cs, hP⟩ := hP
  have hc0 := hP.head.cell 0
  have hc1 := hP.head.cell 1
  have hm := hP.many
  clear hP
  rw [hu] at hc1
  clear hu
  go_enter Try.func16, Try.ntmps16
  go_wp2
  go_quiet (fail)
  go_wp2
  go_ret2
  exact ⟨rfl, (Keeps.refl _ _).drewN _⟩

theorem PoolIn.take {w : World} {p q : Nat} {cs : List Value} {F : Nat → Prop} {ps : PSt} (h : PoolIn w p q cs F ps) {i : Nat} {b0 bs : Bytes} {u : Int} (hi : ps[i]? = some (b0, 0)) (hu : ((usedOf (ps.set i (bs, 1)) : Nat) : Int) = u)
    {w1 : World} {v : Value} (hk : Keeps Nothing w w1) (ho : OwnF w1 (fun k => w.heap.size ≤ k) 5 v (bcells bs)) :
    PoolIn (((w1.setCell ⟨q, i * 2, none⟩ v).setCell ⟨q, i * 2 + 1, none⟩ (.int .i64 1)).setCell ⟨p, 1, none⟩ (.int .i64 u)) p q ((cs.set (i * 2) v).set (i * 2 + 1) (.int .i64 1)) (fun k => F k ∨ w.heap.size ≤ k ∧ k < w1.heap.size) (ps.set i (bs, 1)) := by
  have hil : i < ps.length := (List.getElem?_eq_some_iff.1 hi).1
  have hne := h.ne
  have head := h.head.keeps hk (fun h => h)
  have row := h.row.keeps hk (fun h => h)
  have hr := (row.set (i * 2) v).set (i * 2 + 1) (.int .i64 1)
  refine ⟨.inl h.fp, .inl h.fq, ?_, by simpa using h.many, ?_, hr.set_ne _ _ (Ne.symm hne), by simpa using h.size, ?_, ?_⟩
  · intro k hk'
    have := hk.size
    simp only [World.size_setCell]
    rcases hk' with hk' | hk'
    · have := h.lt k hk'; omega
    · exact hk'.2
  · rw [List.length_set, hu]
    have := (((head.set_ne ⟨q, i * 2, none⟩ v hne).set_ne ⟨q, i * 2 + 1, none⟩ (.int .i64 1) hne).set 1 (.int .i64 u))
    simpa using this
  · intro j bs' h' hj
    by_cases e : i = j
    · subst e
      rw [List.getElem?_set_self hil] at hj
      obtain ⟨rfl, rfl⟩ : bs = bs' ∧ 1 = h' := by simpa using hj
      rw [List.getElem?_set_self (by simp [h.size]; omega)]
      rfl
    · rw [List.getElem?_set_ne e] at hj
      rw [List.getElem?_set_ne (by omega), List.getElem?_set_ne (by omega)]
      exact h.holds j bs' h' hj
  · intro j bs' h' hj
    have up : ∀ {G : Nat → Prop} {v2 : Value} {xs : List Value}, OwnF w1 G 5 v2 xs → OwnF (((w1.setCell ⟨q, i * 2, none⟩ v).setCell ⟨q, i * 2 + 1, none⟩ (.int .i64 1)).setCell ⟨p, 1, none⟩ (.int .i64 u)) G 5 v2 xs := fun h2 =>
      ((h2.set_ne row (by decide) _ _).set_ne (row.set _ _) (by decide) _ _).set_ne (T' := 91) ((head.set_ne ⟨q, i * 2, none⟩ v hne).set_ne ⟨q, i * 2 + 1, none⟩ (.int .i64 1) hne) (by decide) _ _
    by_cases e : i = j
    · subst e
      rw [List.getElem?_set_self hil] at hj
      obtain ⟨rfl, rfl⟩ : bs = bs' ∧ 1 = h' := by simpa using hj
      refine ⟨v, by rw [List.getElem?_set_ne (by omega), List.getElem?_set_self (by rw [h.size]; omega)], up ?_⟩
      exact ⟨ho.1, fun g hg => .inr ⟨ho.2 g hg, (ho.1.lt g hg).2⟩⟩
    · rw [List.getElem?_set_ne e] at hj
      obtain ⟨v2, hv, ho2⟩ := h.bytes j bs' h' hj
      exact ⟨v2, by rw [List.getElem?_set_ne (by omega), List.getElem?_set_ne (by omega)]; exact hv, up ((ho2.keeps hk (fun _ _ h => h)).mono (fun k hk => .inl hk))⟩

theorem usedOf_take : ∀ (ps : PSt) (i : Nat) (b0 bs : Bytes), ps[i]? = some (b0, 0) → usedOf (ps.set i (bs, 1)) = usedOf ps + 1
  | [], i, b0, bs, hi => by simp at hi
  | x :: ps, 0, b0, bs, hi => by
    simp at hi; subst hi
    simp [usedOf, List.countP_cons]
  | x :: ps, i + 1, b0, bs, hi => by
    simp at hi
    have := usedOf_take ps i b0 bs hi
    simp only [usedOf, List.set_cons_succ, List.countP_cons] at this ⊢
    omega

theorem usedOf_lt : ∀ (ps : PSt) (i : Nat) (b0 : Bytes), ps[i]? = some (b0, 0) → usedOf ps < ps.length := by
  intro ps i b0 hi
  have h1 := usedOf_take ps i b0 b0 hi
  have h2 := usedOf_le (ps.set i (b0, 1))
  rw [List.length_set] at h2
  omega

def TakeInv (k : Nat) (n : Nat) (i : Value) (w wr : World) : Prop := ∃ j m : Nat, j + n = k ∧ i = .int .i64 j ∧ wr = w.drewN m

def Took (w : World) (p : Nat) (F : Nat → Prop) (ps : PSt) (k : Nat) (bs : Bytes) (e : Ending) (w' : World) : Prop :=
  e = .returned (.tuple #[.int .i64 k, .int .i64 0]) ∧ ∃ F', PoolAt w' p F' (ps.set k (bs, 1)) ∧ (∀ x, F' x → F x ∨ w.heap.size ≤ x) ∧ Keeps F w w'

set_option maxRecDepth 100000 in
theorem take_free {w : World} {p : Nat} {F : Nat → Prop} {ps : PSt} (hP : PoolAt w p F ps) (k : Nat) (b0 bs : Bytes) (ad : Addr) (c : Nat) (hi : ps[k]? = some (b0, 0))
    (hb : ∀ j x, j < k → ps[j]? = some x → 0 < x.2) (hne : 0 < bs.length) (hlen : bs.length ≤ 140737488355328)
    (hr : ∀ j u, (bcells bs)[j]? = some u → w.cell? (ad.add j) = some u) :
    Calls Try.prog 16 #[.pointer (some ⟨p, 0, none⟩), .slice (some ad) bs.length c] w (Took w p F ps k bs) := by
  obtain ⟨i0, hi0, hz0, hz1, hz2⟩ := info_parts Try.info5
  obtain ⟨q, cs, hP⟩ := hP
  have hil : k < ps.length := (List.getElem?_eq_some_iff.1 hi).1
  have hm := hP.many
  have hul := usedOf_lt _ _ _ hi
  have hc0 := hP.head.cell 0
  have hc1 := hP.head.cell 1
  have HP := Lib.hid hP
  have hu := Lib.hid (usedOf_take ps k b0 bs hi)
  have hB := Lib.hid hb
  have hR := Lib.hid hr
  have hne' : ((usedOf ps : Int) == (ps.length : Int)) = false := by simp; omega
  clear hP hr hb
  go_enter Try.func16, Try.ntmps16
  go_wp2
  go_quiet (fail)
  go_wp2
  go_loopg [22] k (fun n i wr => TakeInv k n i w wr)
  case atStart => exact ⟨0, _, by omega, rfl, rfl⟩
  case round =>
    obtain ⟨j, m, hj, rfl, rfl⟩ := hrel
    by_cases hlt : j < k
    · have hx : ps[j]? = some (ps[j].1, ps[j].2) := List.getElem?_eq_getElem (by omega)
      have hh := HP.out.holds j _ _ hx
      have hpos := hB.out j _ hlt hx
      generalize ps[j].2 = x at *
      have cx := (HP.out.row.cell _).trans hh
      have hx0 : ((x : Int) == 0) = false := by have hp : 0 < x := hpos; simp; omega
      clear hx hh hpos
      go_wp2
      go_roundg (gk - 1)
      case measure => omega
      case rel => exact ⟨j + 1, m, by omega, by go_num, rfl⟩
    · obtain rfl : j = k := by omega
      have hh := HP.out.holds j _ _ hi
      have cx := (HP.out.row.cell _).trans hh
      have hnews : Hid (∀ i u, (bcells bs)[i]? = some u → (w.drewN m).drew.cell? (ad.add i) = some u) := hR.out
      have h1 := Lib.hid (bcells_one bs)
      have hbl : Hid ((bcells bs).length = bs.length * 1) := by rw [Nat.mul_one]; exact bcells_length bs
      have hH : (w.drewN m).drew.heap.size = w.heap.size := rfl
      have hfq := HP.out.row.frozen (j * 2)
      have hfq1 := HP.out.row.frozen (j * 2 + 1)
      have hfp := HP.out.head.frozen 1
      have hq0 := (HP.out.row.cell (j * 2))
      have hq1 := (HP.out.row.cell (j * 2 + 1))
      have hqs := HP.out.size
      have hpq : p ≠ q := HP.out.ne
      have hqp : q ≠ p := Ne.symm hpq
      have H0 : Blk (w.drewN m).drew p _ 91 := HP.out.head
      have R0 : Blk (w.drewN m).drew q cs 93 := HP.out.row
      obtain ⟨vq, hvq, -⟩ := HP.out.bytes j _ _ hi
      rw [hvq] at hq0
      rw [HP.out.holds j _ _ hi] at hq1
      clear hvq hqs hh
      go_wp2
      go_region_law (refine step_append_lies _ rfl (.const (.slice none 0 0)) (.tmp 39) 29 rfl 0 5 i0 (.int .u8 0) 1 1 Try.underlying29 hi0 hz0 hz1 hz2 rfl (by decide) (.slice none 0 0) 0 [] rfl (World.ownsRow_nil _ _ _ _) ad bs.length c (bcells bs) (by simp [Act.eval, Act.put]) hbl.out hnews.out h1.out hne (by unfold maxLen; omega) (by omega) (Nat.zero_le _) w.heap.size hH ?_; intro g cap w1 hown hgrow hat hlt2; (have H1 := H0.grown hgrow (by simp [Value.ownBlock]); have R1 := R0.grown hgrow (by simp [Value.ownBlock]); have d0 := H1.cell 0; have d1 := H1.cell 1; have d2 := H1.frozen 1; have d3 := (R1.cell (j * 2)).trans (R0.cell (j * 2) ▸ hq0); have d4 := (R1.cell (j * 2 + 1)).trans (R0.cell (j * 2 + 1) ▸ hq1); have d5 := R1.frozen (j * 2); have d6 := R1.frozen (j * 2 + 1)))
      all_goals go_wp2
      all_goals go_ret2
      all_goals
        have hk : Keeps Nothing w w1 := (((Keeps.refl Nothing w).drewN m).drew).grown hgrow (fun k hk => by simp [Value.ownBlock] at hk)
        have hown2 := hown
        rw [Nat.zero_add, List.nil_append] at hown2
        have hg2 : g = w.heap.size := by simpa [Value.ownBlock] using hat
        have ho : OwnF w1 (fun k => w.heap.size ≤ k) 5 (.slice (some ⟨g, 0, none⟩) bs.length cap) (bcells bs) := by
          have := ownF_of_row hown2
          exact ⟨this.1, fun x hx => by simp [Value.ownBlock] at hx; omega⟩
        refine ⟨rfl, _, ⟨q, _, HP.out.take hi (u := (usedOf ps : Int) + 1) (by rw [hu.out]; omega) hk ho⟩, fun x hx => hx.imp id And.left, ?_⟩
        exact (((hk.mono (fun _ h => h.elim)).setCell (fun _ => HP.out.fq) _).setCell (fun _ => HP.out.fq) _).setCell (fun _ => HP.out.fp) _

set_option maxRecDepth 100000 in
theorem take_empty {w : World} {p : Nat} {F : Nat → Prop} {ps : PSt} (hP : PoolAt w p F ps) (k : Nat) (b0 : Bytes) (A : Option Addr) (c : Nat) (hi : ps[k]? = some (b0, 0))
    (hb : ∀ j x, j < k → ps[j]? = some x → 0 < x.2) :
    Calls Try.prog 16 #[.pointer (some ⟨p, 0, none⟩), .slice A 0 c] w (Took w p F ps k []) := by
  obtain ⟨q, cs, hP⟩ := hP
  have hil : k < ps.length := (List.getElem?_eq_some_iff.1 hi).1
  have hm := hP.many
  have hul := usedOf_lt _ _ _ hi
  have hc0 := hP.head.cell 0
  have hc1 := hP.head.cell 1
  have HP := Lib.hid hP
  have hu := Lib.hid (usedOf_take ps k b0 [] hi)
  have hB := Lib.hid hb
  have hne' : ((usedOf ps : Int) == (ps.length : Int)) = false := by simp; omega
  clear hP hb
  go_enter Try.func16, Try.ntmps16
  go_wp2
  go_quiet (fail)
  go_wp2
  go_loopg [22] k (fun n i wr => TakeInv k n i w wr)
  case atStart => exact ⟨0, _, by omega, rfl, rfl⟩
  case round =>
    obtain ⟨j, m, hj, rfl, rfl⟩ := hrel
    by_cases hlt : j < k
    · have hx : ps[j]? = some (ps[j].1, ps[j].2) := List.getElem?_eq_getElem (by omega)
      have hh := HP.out.holds j _ _ hx
      have hpos := hB.out j _ hlt hx
      generalize ps[j].2 = x at *
      have cx := (HP.out.row.cell _).trans hh
      have hx0 : ((x : Int) == 0) = false := by have hp : 0 < x := hpos; simp; omega
      clear hx hh hpos
      go_wp2
      go_roundg (gk - 1)
      case measure => omega
      case rel => exact ⟨j + 1, m, by omega, by go_num, rfl⟩
    · obtain rfl : j = k := by omega
      have hh := HP.out.holds j _ _ hi
      have cx := (HP.out.row.cell _).trans hh
      have hfq := HP.out.row.frozen (j * 2)
      have hfq1 := HP.out.row.frozen (j * 2 + 1)
      have hfp := HP.out.head.frozen 1
      have hq0 := (HP.out.row.cell (j * 2))
      have hq1 := (HP.out.row.cell (j * 2 + 1))
      have hpq : p ≠ q := HP.out.ne
      have hqp : q ≠ p := Ne.symm hpq
      obtain ⟨vq, hvq, -⟩ := HP.out.bytes j _ _ hi
      rw [hvq] at hq0
      rw [HP.out.holds j _ _ hi] at hq1
      clear hvq hh
      cases A
      all_goals
        go_wp2
        go_region
      all_goals go_wp2
      all_goals go_ret2
      all_goals
        refine ⟨rfl, _, ⟨q, _, HP.out.take hi (u := (usedOf ps : Int) + 1) (by rw [hu.out]; omega) (w1 := w.drewN (m + 1)) ((Keeps.refl Nothing w).drewN (m + 1)) (OwnF.nil _ _ _)⟩, fun x hx => Or.imp id And.left hx, ?_⟩
        exact (((((Keeps.refl F w).drewN (m + 1))).setCell (fun _ => HP.out.fq) _).setCell (fun _ => HP.out.fq) _).setCell (fun _ => HP.out.fp) _

theorem pool_made {w w1 w2 : World} (m : Nat) (hm : m ≤ 4096) (hb : Blk w1 w.heap.size (rep m [.slice none 0 0, .int .i64 0]) 93) (hk : Keeps Nothing w w1)
    (hs : w1.heap.size = w.heap.size + 1) (h2 : Blk w2 (w.heap.size + 1) [.slice (some ⟨w.heap.size, 0, none⟩) m m, .int .i64 0] 91) (hk2 : Keeps Nothing w1 w2) (hs2 : w2.heap.size = w.heap.size + 2) :
    PoolAt w2 (w.heap.size + 1) (fun k => w.heap.size ≤ k ∧ k ≤ w.heap.size + 1) (List.replicate m ([], 0)) := by
  have hu : usedOf (List.replicate m ([], 0)) = 0 := by
    unfold usedOf
    rw [List.countP_eq_zero]
    intro x hx
    rw [List.eq_of_mem_replicate hx]
    simp
  refine ⟨w.heap.size, rep m [.slice none 0 0, .int .i64 0], by omega, by omega, fun k hk => by omega, by simpa using hm, ?_, hb.keeps hk2 (fun h => h), by simp [rep_length], ?_, ?_⟩
  · rw [hu, List.length_replicate]
    exact h2
  · intro i bs h hi
    obtain ⟨hlt, e⟩ := List.getElem?_eq_some_iff.1 hi
    simp at e hlt
    have := rep_get m [.slice none 0 0, .int .i64 0] i 1 hlt (by simp)
    simp at this
    rw [this, ← e.2]
    rfl
  · intro i bs h hi
    obtain ⟨hlt, e⟩ := List.getElem?_eq_some_iff.1 hi
    simp at e hlt
    have := rep_get m [.slice none 0 0, .int .i64 0] i 0 hlt (by simp)
    simp at this
    obtain ⟨rfl, rfl⟩ := e
    exact ⟨_, this, OwnF.nil _ _ _⟩

def Made (n : Int) (w : World) (e : Ending) (w' : World) : Prop :=
  ∃ p F, e = .returned (.pointer (some ⟨p, 0, none⟩)) ∧ PoolAt w' p F (List.replicate (min (max n 0) 4096).toNat ([], 0)) ∧ (∀ x, F x → w.heap.size ≤ x) ∧ Keeps Nothing w w'

set_option maxRecDepth 100000 in
theorem new_any (n : Int) (w : World) (m : Nat) (hn : n ≤ 0 ∧ m = 0 ∨ 0 < n ∧ n ≤ 4096 ∧ n = m ∨ 4096 < n ∧ m = 4096) :
    Calls Try.prog 14 #[.int .i64 n] w (Made n w) := by
  obtain ⟨i0, hi0, hz0, hz1, hz2⟩ := info_parts Try.info93
  have hm : m ≤ 4096 := by omega
  have hN := Lib.hid (show (min (max n 0) 4096).toNat = m by omega)
  have hE := Lib.hid hn
  have hc : n < 0 ∨ n = 0 ∨ 0 < n ∧ n ≤ 4096 ∨ 4096 < n := by omega
  clear hn
  rcases hc with h1 | rfl | ⟨h1, h2⟩ | h1
  all_goals
    go_enter Try.func14, Try.ntmps14
    go_wp2_with (at_make; refine wpList_mk rfl (.tmp 5) (.tmp 5) 89 rfl 93 i0 (.agg #[.slice none 0 0, .int .i64 0]) [.slice none 0 0, .int .i64 0] Try.underlying89 hi0 hz0 hz1 rfl .i64 .i64 _ _ m rfl rfl (by have := hE.out; omega) (by have := hE.out; omega) 32 hz2 (by omega) (by omega) ?_)
    intro w1 hb hk hs
    go_wp2
    go_ret
    refine ⟨_, (fun k => w.heap.size ≤ k ∧ k ≤ w.heap.size + 1), rfl, ?_, fun x hx => hx.1, hk.alloc _⟩
    rw [hN.out]
    exact pool_made _ hm hb hk hs (hs ▸ Blk.new w1 _ _) ((Keeps.refl _ _).alloc _) (by simp [hs])

end Go.Proofs.Ytpgmkekdgchkfaa
