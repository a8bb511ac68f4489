/- Code, Where, Check and what they use: the walks. -/
import Derived.Test.YtdncojofilnhnaaGreatDoorErrO
import Derived.Test.YtdncojofilnhnaaGreatDoorMacW
namespace Go.Proofs.YtdncojofilnhnaaGreatDoor
open Go.RowKit Go.Lib

/-- What is wrong, as a value. -/
def WrErr (w : World) (v : Value) : Option (Int × Int) → Prop
  | none => v = .nilIface
  | some (n, k) => ∃ b, 10 ≤ b ∧ v = .iface 42 (.pointer (some ⟨b, 0, none⟩)) ∧ Blk w b [.int .i64 n, .iface 33 (.int .i64 k)] 48

theorem WrErr.same {w w' : World} {v : Value} {o : Option (Int × Int)} (h : WrErr w v o) (hk : Keeps Nothing w w') : WrErr w' v o := by
  cases o with
  | none => exact h
  | some x => obtain ⟨n, k⟩ := x; obtain ⟨b, h0, h1, h2⟩ := h; exact ⟨b, h0, h1, h2.keeps hk (fun h => h)⟩

theorem WrErr.chain {w : World} {v : Value} {n k : Int} (h : WrErr w v (some (n, k))) : ∃ b, v = valOf [(false, b, n)] (.num k) ∧ ChainAt w [(false, b, n)] (.num k) := by
  obtain ⟨b, h0, h1, h2⟩ := h
  exact ⟨b, h1, h2, trivial⟩

/-! ## Code, Where -/
def codeOf : Er → Int
  | .num k => k
  | .str _ => 4

def whereOf (l : List (Bool × Nat × Int)) : Int := match firstOf false l with
  | some (_, n) => n
  | none => -1

theorem firstOf_blk {w : World} : ∀ {l : List (Bool × Nat × Int)} {e : Er} {f : Bool} {b : Nat} {n : Int}, ChainAt w l e → firstOf f l = some (b, n) → ∃ v, Blk w b [.int .i64 n, v] (tyOf f)
  | [], _, _, _, _, _, h => by simp [firstOf] at h
  | (g, b', n') :: l, e, f, b, n, hc, h => by
    unfold firstOf at h
    by_cases hg : g = f
    · rw [if_pos hg] at h
      injection h with h
      injection h with h1 h2
      subst h1 h2 hg
      exact ⟨_, hc.1⟩
    · rw [if_neg hg] at h
      exact firstOf_blk hc.2 h

set_option maxHeartbeats 4000000 in
theorem code_ok {w : World} (hg : Gl w) {l : List (Bool × Nat × Int)} {e : Er} (hc : ChainAt w l e) :
    Calls Tryz.prog 15 #[valOf l e] w fun ev w' => ev = .returned (.int .i64 (codeOf e)) ∧ Keeps Nothing w w' := by
  obtain ⟨nt, nv, he⟩ := valOf_eq l e
  have k1 : Keeps Nothing w (w.alloc (.cells #[.int .i64 0] 33)) := (Keeps.refl _ _).alloc _
  have K1 := Lib.hid k1
  have HCALL := Lib.hid (as_91 (hg.same k1) (hc.same k1) (Blk.new w [.int .i64 0] 33))
  rw [he] at HCALL ⊢
  clear hc hg k1 he
  go_enter Tryz.func15, Tryz.ntmps15
  go_wp2_with (go_at_call 20; refine HCALL.out.mono ?_)
  rintro ev w' ⟨k, hm⟩
  have K2 := Lib.hid (K1.out.trans k (fun x hx hl => absurd hl (by rw [hx]; exact Nat.lt_irrefl _)))
  clear k
  cases e with
  | num x =>
    obtain ⟨rfl, hb⟩ := hm
    have hc := hb.cell 0
    clear hb
    go_wp2
    go_ret
    exact ⟨rfl, K2.out⟩
  | str x =>
    obtain ⟨rfl, hb⟩ := hm
    clear hb
    go_wp2
    go_ret
    exact ⟨rfl, K2.out⟩

theorem code_nil (w : World) : Calls Tryz.prog 15 #[.nilIface] w fun ev w' => ev = .returned (.int .i64 0) ∧ Keeps Nothing w w' := by
  have K1 := Lib.hid ((Keeps.refl Nothing w).alloc (.cells #[.int .i64 0] 33))
  go_enter Tryz.func15, Tryz.ntmps15
  go_wp2
  go_ret
  exact ⟨rfl, by first | exact K1.out | exact Keeps.refl _ _⟩

set_option maxHeartbeats 4000000 in
theorem where_ok {w : World} (hg : Gl w) {l : List (Bool × Nat × Int)} {e : Er} (hc : ChainAt w l e) :
    Calls Tryz.prog 16 #[valOf l e] w fun ev w' => ev = .returned (.int .i64 (whereOf l)) ∧ Keeps Nothing w w' := by
  obtain ⟨nt, nv, he⟩ := valOf_eq l e
  have k1 : Keeps Nothing w (w.alloc (.cells #[.pointer none] 42)) := (Keeps.refl _ _).alloc _
  have K1 := Lib.hid k1
  have hc1 := hc.same k1
  have HCALL := Lib.hid (as_46 (hg.same k1) hc1 (Blk.new w [.pointer none] 42))
  have HC1 := Lib.hid hc1
  have HLT : ∀ b, b < w.heap.size → b ≠ w.heap.size := fun b h => Nat.ne_of_lt h
  rw [he] at HCALL ⊢
  have HCW := Lib.hid hc
  clear hc hc1 hg k1 he
  go_enter Tryz.func16, Tryz.ntmps16
  go_wp2_with (go_at_call 20; refine HCALL.out.mono ?_)
  rintro ev w' ⟨k, hm⟩
  have K2 := Lib.hid (K1.out.trans k (fun x hx hl => absurd hl (by rw [hx]; exact Nat.lt_irrefl _)))
  cases hf : firstOf false l with
  | none =>
    rw [hf] at hm
    obtain ⟨rfl, hb⟩ := hm
    have e1 : whereOf l = -1 := by unfold whereOf; rw [hf]
    have E1 := Lib.hid e1
    clear hb k hf e1
    go_wp2
    go_ret
    exact ⟨by rw [E1.out]; rfl, K2.out⟩
  | some x =>
    obtain ⟨b, n⟩ := x
    rw [hf] at hm
    obtain ⟨rfl, hb⟩ := hm
    obtain ⟨v, hx⟩ := firstOf_blk HCW.out hf
    have e1 : whereOf l = n := by unfold whereOf; rw [hf]
    have E1 := Lib.hid e1
    have hc := hb.cell 0
    have hx' := (Blk.keeps hx K2.out (fun h => h)).cell 0
    clear hb k hf hx e1
    go_wp2
    go_ret
    exact ⟨by rw [E1.out]; rfl, K2.out⟩

/-! ## Check -/
theorem wrong_ok (n k : Int) {w : World} (hw : 10 ≤ w.heap.size) : Calls Tryz.prog 42 #[.int .i64 n, .int .i64 k] w fun ev w' => ∃ v, ev = .returned v ∧ WrErr w' v (some (n, k)) ∧ Keeps Nothing w w' := by
  have HW := Lib.hid hw
  clear hw
  go_enter Tryz.func42, Tryz.ntmps42
  go_wp2
  go_ret
  exact ⟨_, rfl, ⟨w.heap.size, HW.out, rfl, Blk.new w [.int .i64 n, .iface 33 (.int .i64 k)] 48⟩, (Keeps.refl _ _).alloc _⟩

theorem shape_ok (k : Int) (w : World) : Calls Tryz.prog 38 #[.int .i64 k] w fun ev w' => ev = .returned (.tuple #[.int .i64 (leastOf k), .int .i64 (moreOf k), .bool (addrOf k)]) ∧ w' = w := by
  by_cases h0 : k = 0 ∨ k = 1 ∨ k = 2 ∨ k = 3 ∨ k = 4 ∨ k = 5 ∨ k = 6 ∨ k = 7 ∨ k = 8
  · rcases h0 with rfl | rfl | rfl | rfl | rfl | rfl | rfl | rfl | rfl
    all_goals
      go_enter Tryz.func38, Tryz.ntmps38
      go_wp2
      (try simp only [Exit.inBlock, Exit.then])
      refine bodyPost_ret (results_tmp3 rfl _ _ _) rfl ?_
      exact ⟨rfl, rfl⟩
  · have e1 : leastOf k = 4 := by
      unfold leastOf
      rw [if_neg (by omega), if_neg (by omega), if_neg (by omega), if_neg (by omega), if_neg (by omega), if_neg (by omega), if_neg (by omega)]
    have e2 : moreOf k = 0 := by
      unfold moreOf
      rw [if_neg (by omega), if_neg (by omega)]
    have e3 : addrOf k = false := by unfold addrOf; simp; omega
    rw [e1, e2, e3]
    simp only [not_or] at h0
    obtain ⟨z0, z1, z2, z3, z4, z5, z6, z7, z8⟩ := h0
    clear e1 e2 e3
    go_enter Tryz.func38, Tryz.ntmps38
    go_wp2
    (try simp only [Exit.inBlock, Exit.then])
    refine bodyPost_ret (results_tmp3 rfl _ _ _) rfl ?_
    exact ⟨rfl, rfl⟩

def cmdCells (c : Cm) (v : Value) : List Value := .int .i64 c.kind :: (c.mac.map (Value.int .u8) ++ [v])
def cmdV (c : Cm) (v : Value) : Value := .agg (cmdCells c v).toArray

theorem least_range (k : Int) : 2 ≤ leastOf k ∧ leastOf k ≤ 5 := by
  unfold leastOf
  repeat' split
  all_goals omega

theorem more_range (k : Int) : moreOf k = 0 ∨ moreOf k = 2 ∨ moreOf k = 3 := by
  unfold moreOf
  repeat' split
  all_goals omega

set_option maxHeartbeats 8000000 in
/-- '==' of two addresses. -/
theorem eq_mac (a0 a1 a2 a3 a4 a5 b0 b1 b2 b3 b4 b5 : Int) (w : World) : (Op.equalIn 10000 23 (.agg #[.int .u8 a0, .int .u8 a1, .int .u8 a2, .int .u8 a3, .int .u8 a4, .int .u8 a5]) (.agg #[.int .u8 b0, .int .u8 b1, .int .u8 b2, .int .u8 b3, .int .u8 b4, .int .u8 b5])).run Tryz.prog w = .ok (decide ([a0, a1, a2, a3, a4, a5] = [b0, b1, b2, b3, b4, b5])) w := by
  have u5 := Tryz.underlying5
  have a5' := Tryz.isAgg5
  have z5 := Tryz.sizeOf5
  rw [show (10000 : Nat) = 9999 + 1 from rfl, Op.equalIn]
  simp only [Sem.run_bind, run_underlying Tryz.underlying23, Result.andThen_ok]
  simp only [Std.Legacy.Range.forIn_eq_forIn_range', Std.Legacy.Range.size, Nat.sub_zero, Nat.add_sub_cancel, Nat.div_one, List.range'_succ, List.range'_zero, List.forIn_cons, List.forIn_nil]
  go_simp
  by_cases h0 : a0 = b0
  · by_cases h1 : a1 = b1
    · by_cases h2 : a2 = b2
      · by_cases h3 : a3 = b3
        · by_cases h4 : a4 = b4
          · by_cases h5 : a5 = b5 <;> simp [h0, h1, h2, h3, h4, h5]
          · simp [h0, h1, h2, h3, h4]
        · simp [h0, h1, h2, h3]
      · simp [h0, h1, h2]
    · simp [h0, h1]
  · simp [h0]

set_option maxRecDepth 100000 in
set_option maxHeartbeats 8000000 in
theorem check_ok (c : Cm) (hm : MacIs c.mac) (hk : -9223372036854775808 ≤ c.kind ∧ c.kind ≤ 9223372036854775807) (hl : c.args.length ≤ 140737488355328) (A : Option Addr) (cp : Nat) {w : World} (hg : 10 ≤ w.heap.size) :
    Calls Tryz.prog 14 #[cmdV c (.slice A c.args.length cp)] w fun ev w' => ∃ v, ev = .returned v ∧ WrErr w' v (checkP c) ∧ Keeps Nothing w w' := by
  obtain ⟨kind, mac, args⟩ := c
  obtain ⟨hm1, hm2⟩ := hm
  unfold checkP cmdV cmdCells
  simp only at hm1 hm2 hk hl ⊢
  obtain ⟨n, hn⟩ : ∃ n, n = args.length := ⟨_, rfl⟩
  rw [← hn] at hl ⊢
  clear hn
  match mac, hm1 with
  | [q0, q1, q2, q3, q4, q5], _ =>
    have hsh := shape_ok kind
    have hlr := least_range kind
    have hmr := more_range kind
    have K1 : Hid (Keeps Nothing w (w.alloc (.cells #[.int .i64 kind, .int .u8 q0, .int .u8 q1, .int .u8 q2, .int .u8 q3, .int .u8 q4, .int .u8 q5, .slice A n cp] 26))) := (Keeps.refl _ _).alloc _
    have HB : Hid (Blk (w.alloc (.cells #[.int .i64 kind, .int .u8 q0, .int .u8 q1, .int .u8 q2, .int .u8 q3, .int .u8 q4, .int .u8 q5, .slice A n cp] 26)) w.heap.size [.int .i64 kind, .int .u8 q0, .int .u8 q1, .int .u8 q2, .int .u8 q3, .int .u8 q4, .int .u8 q5, .slice A n cp] 26) := Blk.new w _ 26
    have hbig : 10 ≤ (w.alloc (.cells #[.int .i64 kind, .int .u8 q0, .int .u8 q1, .int .u8 q2, .int .u8 q3, .int .u8 q4, .int .u8 q5, .slice A n cp] 26)).heap.size := by simp; omega
    have hwr := fun a b => wrong_ok a b hbig
    clear hbig
    obtain ⟨hk0, hk1⟩ := hk
    show Calls Tryz.prog 14 #[.agg #[.int .i64 kind, .int .u8 q0, .int .u8 q1, .int .u8 q2, .int .u8 q3, .int .u8 q4, .int .u8 q5, .slice A n cp]] w _
    by_cases hbad : kind < 0 ∨ 10 ≤ kind
    · rw [if_pos hbad]
      rcases hbad with hbad | hbad
      · go_enter Tryz.func14, Tryz.ntmps14
        go_wp2_with (go_at_call 42; refine (hwr _ _).mono ?_; rintro e w2 ⟨v, rfl, ⟨b, hb0, rfl, hbk⟩, k2⟩)
        go_ret
        exact ⟨_, rfl, ⟨b, hb0, rfl, hbk⟩, K1.out.same k2⟩
      · have hb2 : ¬ kind < 0 := by omega
        go_enter Tryz.func14, Tryz.ntmps14
        go_wp2_with (go_at_call 42; refine (hwr _ _).mono ?_; rintro e w2 ⟨v, rfl, ⟨b, hb0, rfl, hbk⟩, k2⟩)
        go_ret
        exact ⟨_, rfl, ⟨b, hb0, rfl, hbk⟩, K1.out.same k2⟩
    · rw [if_neg hbad]
      have hb1 : ¬ kind < 0 := by omega
      have hb2 : kind < 10 := by omega
      clear hbad
      generalize leastOf kind = L at *
      generalize moreOf kind = M at *
      generalize addrOf kind = AD at *
      obtain ⟨hl2, hl5⟩ := hlr
      by_cases c1 : (n : Int) < L
      · rw [if_pos c1]
        go_enter Tryz.func14, Tryz.ntmps14
        go_wp2_with (first | (go_at_call 42; refine (hwr _ _).mono ?_; rintro e w2 ⟨v, rfl, ⟨b, hb0, rfl, hbk⟩, k2⟩) | (go_at_call 38; refine (hsh _).mono ?_; rintro e w2 ⟨rfl, rfl⟩))
        go_ret
        exact ⟨_, rfl, ⟨b, hb0, rfl, hbk⟩, K1.out.same k2⟩
      · rw [if_neg c1]
        by_cases c2 : 200 < (n : Int)
        · rw [if_pos c2]
          go_enter Tryz.func14, Tryz.ntmps14
          go_wp2_with (first | (go_at_call 42; refine (hwr _ _).mono ?_; rintro e w2 ⟨v, rfl, ⟨b, hb0, rfl, hbk⟩, k2⟩) | (go_at_call 38; refine (hsh _).mono ?_; rintro e w2 ⟨rfl, rfl⟩))
          go_ret
          exact ⟨_, rfl, ⟨b, hb0, rfl, hbk⟩, K1.out.same k2⟩
        · rw [if_neg c2]
          by_cases c3 : M = 0 ∧ L < (n : Int)
          · rw [if_pos (.inl c3)]
            obtain ⟨rfl, c3⟩ := c3
            go_enter Tryz.func14, Tryz.ntmps14
            go_wp2_with (first | (go_at_call 42; refine (hwr _ _).mono ?_; rintro e w2 ⟨v, rfl, ⟨b, hb0, rfl, hbk⟩, k2⟩) | (go_at_call 38; refine (hsh _).mono ?_; rintro e w2 ⟨rfl, rfl⟩))
            go_ret
            exact ⟨_, rfl, ⟨b, hb0, rfl, hbk⟩, K1.out.same k2⟩
          · by_cases c4 : 0 < M ∧ ((n : Int) - L) % M ≠ 0
            · rw [if_pos (.inr c4)]
              obtain ⟨c4, c5⟩ := c4
              have ht : ((n : Int) - L).tmod M = ((n : Int) - L) % M := Int.tmod_eq_emod_of_nonneg (by omega)
              have hr0 : 0 ≤ ((n : Int) - L) % M := Int.emod_nonneg _ (by omega)
              have hr1 : ((n : Int) - L) % M < M := Int.emod_lt_of_pos _ c4
              generalize ((n : Int) - L) % M = r at *
              have hw1 : IntKind.i64.wrap (((n : Int) - L).tmod M) = r := by rw [ht, IntKind.wrap_i64]; omega
              go_enter Tryz.func14, Tryz.ntmps14
              go_wp2_with (first | (go_at_call 42; refine (hwr _ _).mono ?_; rintro e w2 ⟨v, rfl, ⟨b, hb0, rfl, hbk⟩, k2⟩) | (go_at_call 38; refine (hsh _).mono ?_; rintro e w2 ⟨rfl, rfl⟩))
              go_ret
              exact ⟨_, rfl, ⟨b, hb0, rfl, hbk⟩, K1.out.same k2⟩
            · rw [if_neg (fun h => h.elim c3 c4)]
              have hrem : (M = 0 ∧ (n : Int) ≤ L) ∨ (0 < M ∧ IntKind.i64.wrap (((n : Int) - L).tmod M) = 0) := by
                rcases hmr with h | h
                · exact .inl ⟨h, by omega⟩
                · have hM : 0 < M := by omega
                  have hz : ((n : Int) - L) % M = 0 := by omega
                  exact .inr ⟨hM, by rw [Int.tmod_eq_emod_of_nonneg (by omega), hz]; rfl⟩
              cases AD with
              | true =>
                rw [if_neg (by simp)]
                rcases hrem with ⟨rfl, h1⟩ | ⟨h0, h1⟩
                · go_enter Tryz.func14, Tryz.ntmps14
                  go_wp2_with (go_at_call 38; refine (hsh _).mono ?_; rintro e w2 ⟨rfl, rfl⟩)
                  go_ret
                  exact ⟨_, rfl, rfl, K1.out⟩
                · go_enter Tryz.func14, Tryz.ntmps14
                  go_wp2_with (go_at_call 38; refine (hsh _).mono ?_; rintro e w2 ⟨rfl, rfl⟩)
                  go_ret
                  exact ⟨_, rfl, rfl, K1.out⟩
              | false =>
                have hq := eq_mac q0 q1 q2 q3 q4 q5 0 0 0 0 0 0
                by_cases hz : [q0, q1, q2, q3, q4, q5] = mac0
                · rw [if_neg (fun x => x.2 hz)]
                  rw [decide_eq_true (show [q0, q1, q2, q3, q4, q5] = [0, 0, 0, 0, 0, 0] from hz)] at hq
                  clear hz
                  rcases hrem with ⟨rfl, h1⟩ | ⟨h0, h1⟩
                  all_goals
                    go_enter Tryz.func14, Tryz.ntmps14
                    go_wp2_with (go_at_call 38; refine (hsh _).mono ?_; rintro e w2 ⟨rfl, rfl⟩)
                    go_ret
                    exact ⟨_, rfl, rfl, K1.out⟩
                · rw [if_pos ⟨rfl, hz⟩]
                  rw [decide_eq_false (show ¬ [q0, q1, q2, q3, q4, q5] = [0, 0, 0, 0, 0, 0] from hz)] at hq
                  clear hz
                  rcases hrem with ⟨rfl, h1⟩ | ⟨h0, h1⟩
                  all_goals
                    go_enter Tryz.func14, Tryz.ntmps14
                    go_wp2_with (first | (go_at_call 42; refine (hwr _ _).mono ?_; rintro e w2 ⟨v, rfl, ⟨b, hb0, rfl, hbk⟩, k2⟩) | (go_at_call 38; refine (hsh _).mono ?_; rintro e w2 ⟨rfl, rfl⟩))
                    go_ret
                    exact ⟨_, rfl, ⟨b, hb0, rfl, hbk⟩, K1.out.same k2⟩

end Go.Proofs.YtdncojofilnhnaaGreatDoor
