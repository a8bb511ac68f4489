/- A law's own rows beside the port's: slices that begin anywhere in a block of their own. -/
import Derived.Test.YtpgmkekdgchkfaaSame
import Derived.ArgAppend
import Derived.Deep.RegionLaw
namespace Go.Proofs.Ytpgmkekdgchkfaa
open Go.RowKit

/-- A slice of numbers of its own in the blocks of F, wherever it begins. -/
def OwnQ (w : World) (F : Nat → Prop) (v : Value) (xs : List Int) : Prop :=
  (v = .slice none 0 0 ∧ xs = []) ∨ ∃ g off cap cur, v = .slice (some ⟨g, off, none⟩) xs.length cap ∧ F g ∧ Blk w g cur 3 ∧ xs.length ≤ cap ∧ cap ≤ maxLen ∧ off + cap ≤ cur.length ∧ ∀ (j : Nat) (x : Int), xs[j]? = some x → cur[off + j]? = some (.int .i64 x)

theorem OwnQ.nil (w : World) (F : Nat → Prop) : OwnQ w F (.slice none 0 0) [] := .inl ⟨rfl, rfl⟩

theorem OwnQ.mono {w : World} {F G : Nat → Prop} {v : Value} {xs : List Int} (h : OwnQ w F v xs) (hG : ∀ k, F k → G k) : OwnQ w G v xs := by
  rcases h with h | ⟨g, off, cap, cur, h1, h2, h3⟩
  · exact .inl h
  · exact .inr ⟨g, off, cap, cur, h1, hG _ h2, h3⟩

theorem OwnQ.keeps {w w' : World} {F G : Nat → Prop} {v : Value} {xs : List Int} (h : OwnQ w F v xs) (hk : Keeps G w w') (hn : ∀ k, F k → ¬ G k) : OwnQ w' F v xs := by
  rcases h with h | ⟨g, off, cap, cur, h1, h2, h3, h4⟩
  · exact .inl h
  · exact .inr ⟨g, off, cap, cur, h1, h2, h3.keeps hk (hn _ h2), h4⟩

theorem OwnQ.len {w : World} {F : Nat → Prop} {v : Value} {xs : List Int} (h : OwnQ w F v xs) : ∃ A c, v = .slice A xs.length c := by
  rcases h with ⟨rfl, rfl⟩ | ⟨g, off, cap, cur, h1, -⟩
  · exact ⟨none, 0, rfl⟩
  · exact ⟨_, _, h1⟩

theorem OwnQ.slI {w : World} {F : Nat → Prop} {v : Value} {xs : List Int} (h : OwnQ w F v xs) : SlI w v xs := by
  rcases h with ⟨rfl, rfl⟩ | ⟨g, off, cap, cur, h1, h2, h3, h4, h5, h6, h7⟩
  · exact ⟨none, 0, rfl, .inl rfl⟩
  · exact ⟨_, _, h1, .inr ⟨g, off, rfl, h4, fun j x hj => (h3.cell _).trans (h7 j x hj)⟩⟩

/-- The first goes, the rest stays. -/
theorem OwnQ.tail {w : World} {F : Nat → Prop} {v : Value} {x : Int} {xs : List Int} (h : OwnQ w F v (x :: xs)) :
    ∃ g off cap, v = .slice (some ⟨g, off, none⟩) (xs.length + 1) cap ∧ xs.length + 1 ≤ cap ∧ w.cell? ⟨g, off, none⟩ = some (.int .i64 x) ∧ OwnQ w F (sliced (some ⟨g, off, none⟩) 1 (xs.length + 1) cap 1) xs := by
  rcases h with ⟨rfl, h⟩ | ⟨g, off, cap, cur, h1, h2, h3, h4, h5, h6, h7⟩
  · cases h
  · simp at h4
    refine ⟨g, off, cap, h1, h4, (h3.cell _).trans (h7 0 x rfl), ?_⟩
    by_cases hc : cap = 1
    · subst hc
      have : xs = [] := List.eq_nil_of_length_eq_zero (by omega)
      subst this
      exact .inr ⟨g, off, 0, cur, rfl, h2, h3, by simp, by unfold maxLen; omega, by omega, fun j x h => by simp at h⟩
    · refine .inr ⟨g, off + 1, cap - 1, cur, ?_, h2, h3, by omega, by omega, by omega, fun j y hj => ?_⟩
      · simp [sliced, hc, Addr.add_lit]
      · have := h7 (j + 1) y (by simpa using hj)
        rw [← this]
        congr 1
        omega

theorem OwnQ.ofRow {w : World} {B : Nat} {v : Value} {n : Nat} {xs : List Int} (h : w.ownsRow B 3 1 v n (icells xs)) (hB : 0 < n) : OwnQ w (fun k => B ≤ k) v xs := by
  have hl : n = xs.length := by have := h.1; simp at this; omega
  rcases h.2 with ⟨_, hn⟩ | ⟨g, cap, cur, hv, hg, hh, hc, hm, hs, ht⟩
  · omega
  · refine .inr ⟨g, 0, cap, cur.toList, by rw [hv, hl], hg, by simpa [Blk] using hh, by omega, hm, by simp at hs ⊢; omega, fun j x hj => ?_⟩
    have hj' := (List.getElem?_eq_some_iff.1 hj).1
    have : (icells xs)[j]? = some (.int .i64 x) := by simp [icells, hj]
    rw [← ht, List.getElem?_take] at this
    rw [Nat.zero_add]
    split at this
    · exact this
    · cases this

theorem run_appQ {w : World} {F : Nat → Prop} {v : Value} {xs : List Int} (h : OwnQ w F v xs) (ad : Addr) (c : Nat) (x : Int) (hx : w.cell? ad = some (.int .i64 x)) (hn : xs.length ≤ 100000) :
    ∃ g off cap w', (Builtin.append_ #[47, 47] 47 #[v, .slice (some ad) 1 c]).run Try.prog w = .ok (.slice (some ⟨g, off, none⟩) (xs.length + 1) cap) w' ∧ OwnQ w' (fun k => F k ∨ w.heap.size ≤ k) (.slice (some ⟨g, off, none⟩) (xs.length + 1) cap) (xs ++ [x]) ∧ Keeps (fun k => v.ownBlock = some k) w w' := by
  obtain ⟨i, hi, hz0, hz1, hz2⟩ := info_parts Try.info3
  have hnews : ∀ j u, [Value.int .i64 x][j]? = some u → w.cell? (ad.add j) = some u := fun j u hj => by
    cases j with
    | zero => simp at hj; subst hj; exact hx
    | succ j => simp at hj
  have grown : ∀ v' w', w'.ownsRow w.heap.size 3 1 v' (xs.length + 1) (icells xs ++ [.int .i64 x]) → ∃ g cap, v' = .slice (some ⟨g, 0, none⟩) (xs.length + 1) cap ∧ OwnQ w' (fun k => F k ∨ w.heap.size ≤ k) v' (xs ++ [x]) := fun v' w' ho => by
    have hq := OwnQ.ofRow (xs := xs ++ [x]) (by simpa [icells] using ho) (by omega)
    rcases ho.2 with ⟨_, hn⟩ | ⟨g, cap, cur, hv, -⟩
    · omega
    · exact ⟨g, cap, hv, hq.mono (fun k hk => .inr hk)⟩
  rcases h with ⟨rfl, rfl⟩ | ⟨g, off, cap, cur, rfl, h2, h3, h4, h5, h6, h7⟩
  · obtain ⟨v', w', hrun, r1, r2, _⟩ := run_append_own (P := Try.prog) w w.heap.size 47 47 3 i _ 1 8 Try.underlying47 hi hz0 hz1 hz2 rfl (by omega) (.slice none 0 0) 0 [] (World.ownsRow_nil w _ 3 1) ad 1 c [.int .i64 x] rfl hnews (by simp [Value.oneCell']) (by unfold maxLen; omega) (by omega) (Nat.le_refl _)
    obtain ⟨g, cap, rfl, hq⟩ := grown v' w' r1
    exact ⟨g, 0, cap, w', hrun, hq, keeps_grown r2⟩
  · by_cases hr : xs.length + 1 ≤ cap
    · have hb : off + xs.length < cur.length := by omega
      have hrun := run_append_room_cells (P := Try.prog) w 47 47 3 i Try.underlying47 hi g off xs.length cap ad 1 c [.int .i64 x] (by rw [hz1]; rfl) hnews (by simp [Value.oneCell']) hr (fun j hj => by
        simp at hj; subst hj; rw [hz1, h3.cell]; simp [hb]) (fun j hj => h3.frozen _)
      rw [hz1, Nat.mul_one] at hrun
      refine ⟨g, off, cap, _, hrun, .inr ⟨g, off, cap, cur.set (off + xs.length) (.int .i64 x), by simp, .inl h2, h3.set _ _, by simpa using hr, h5, by simpa using h6, fun j y hj => ?_⟩, ?_⟩
      · by_cases hjl : j < xs.length
        · rw [List.getElem?_append_left hjl] at hj
          rw [List.getElem?_set_ne (by omega)]
          exact h7 j y hj
        · have h1 := (List.getElem?_eq_some_iff.1 hj).1
          simp at h1
          obtain rfl : j = xs.length := by omega
          simp at hj
          subst hj
          rw [List.getElem?_set_self hb]
      · exact (Keeps.refl (fun k => (Value.slice (some ⟨g, off, none⟩) xs.length cap).ownBlock = some k) w).setCell (p := ⟨g, off + xs.length, none⟩) (fun _ => rfl) (.int .i64 x)
    · obtain ⟨v', w', hrun, r1, r2⟩ := run_append_arg_grows (P := Try.prog) w 47 47 3 i _ 1 8 Try.underlying47 hi hz0 hz1 hz2 rfl (by omega) ⟨g, off, none⟩ xs.length cap (icells xs) (by simp) (fun j u hj => by
        rw [Addr.add_lit, h3.cell]
        simp [icells] at hj
        obtain ⟨y, hy, rfl⟩ := hj
        exact h7 j y hy) ad 1 c [.int .i64 x] rfl hnews (by omega) (by unfold maxLen; omega) (by omega)
      obtain ⟨g', cap', rfl, hq⟩ := grown v' w' r1
      exact ⟨g', 0, cap', w', hrun, hq, (keeps_grown r2).mono (fun k hk _ => by cases hk)⟩

/-- 'append(s, x)' on such a slice, as one step of a region that draws its order. -/
theorem step_appQ {ops : Array Oper} {o : Oper} {a : Act} {w : World} {K : Act → World → Prop} {Q : Exit → Act → World → Prop} {E : Prop} (hg : o.guard = none) (s y : Operand)
    (hop : o.op = Op.call { callee := Callee.builtin Builtin.append, args := #[s, y], argTypes := #[47, 47] }) (hty : o.type = 47) (F : Nat → Prop) (v : Value) (xs : List Int) (hs : a.eval s = v) (h : OwnQ w F v xs)
    (ad : Addr) (c : Nat) (x : Int) (hy : a.eval y = .slice (some ad) 1 c) (hx : w.cell? ad = some (.int .i64 x)) (hn : xs.length ≤ 100000)
    (hK : ∀ g off cap w', OwnQ w' (fun k => F k ∨ w.heap.size ≤ k) (.slice (some ⟨g, off, none⟩) (xs.length + 1) cap) (xs ++ [x]) → Keeps (fun k => v.ownBlock = some k) w w' → K (a.put o.dst (.slice (some ⟨g, off, none⟩) (xs.length + 1) cap)) w') :
    if Region.wanted o (yielded ops a.tmps) = true then Oper.wp Try.prog o a w K Q else E := by
  have hw : Region.wanted o (yielded ops a.tmps) = true := by simp [Region.wanted, hg]
  rw [if_pos hw]
  obtain ⟨g, off, cap, w', hrun, ho, hk⟩ := run_appQ h ad c x hx hn
  unfold Oper.wp
  simp [execOp, hop, resolve, invoke, builtin, hs, hy, hty, hrun, Result.andThen]
  exact hK g off cap w' ho hk

end Go.Proofs.Ytpgmkekdgchkfaa
