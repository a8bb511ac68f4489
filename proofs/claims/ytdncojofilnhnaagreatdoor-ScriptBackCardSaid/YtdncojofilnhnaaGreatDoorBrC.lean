/- bridge.Check: the walk. -/
import Derived.Test.YtdncojofilnhnaaGreatDoorBrA
import Derived.WalkSmall
import Derived.Test.YtdncojofilnhnaaGreatDoorArg
namespace Go.Proofs.YtdncojofilnhnaaGreatDoor
open Go.RowKit Go.Lib

theorem RecsR.kept {F : Nat → Prop} {w w' : World} {v : Value} {sz : Nat} {l : List (List Value)} (h : RecsR w v sz l) (hk : Keeps F w w') (hF : ∀ g, v.ownBlock = some g → ¬ F g) : RecsR w' v sz l := by
  rcases h with h | ⟨b, o, c, rfl, hc, hr⟩
  · exact .inl h
  · refine .inr ⟨b, o, c, rfl, hc, fun i cs hi => ⟨(hr i cs hi).1, fun j u hj => ?_⟩⟩
    have hu := (hr i cs hi).2 j u hj
    rw [hk.cell (World.block_lt_of_cell? w _ hu) (hF b rfl)]
    exact hu

theorem RecsR.still {w w' : World} {v : Value} {sz : Nat} {l : List (List Value)} (h : RecsR w v sz l) (hk : Keeps Nothing w w') : RecsR w' v sz l := h.kept hk (fun _ _ h => h)

theorem RecsR.form {w : World} {v : Value} {sz : Nat} {l : List (List Value)} (h : RecsR w v sz l) : ∃ A c, v = .slice A l.length c := by
  rcases h with ⟨rfl, A, c, rfl⟩ | ⟨b, o, c, rfl, -⟩
  · exact ⟨_, _, rfl⟩
  · exact ⟨_, _, rfl⟩

theorem RecsR.at {w : World} {A : Option Addr} {n c sz : Nat} {l : List (List Value)} (h : RecsR w (.slice A n c) sz l) {i : Nat} {cs : List Value} (hi : l[i]? = some cs) :
    ∃ b o, A = some ⟨b, o, none⟩ ∧ n ≤ c ∧ cs.length = sz ∧ ∀ j u, cs[j]? = some u → w.cell? ⟨b, o + i * sz + j, none⟩ = some u := by
  rcases h with ⟨rfl, -⟩ | ⟨b, o, c', hv, hc, hr⟩
  · simp at hi
  · injection hv with h1 h2 h3
    subst h1 h2 h3
    exact ⟨b, o, rfl, hc, hr i cs hi⟩

def ptC (p : Pt) : List Value := [.int .i64 p.speed, .bool p.edge]

set_option maxRecDepth 100000 in
set_option maxHeartbeats 4000000 in
theorem port_ok (s : Int) (e : Bool) (w : World) :
    Calls Tryz.prog 63 #[.agg #[.int .i64 s, .bool e]] w fun ev w' => ev = .returned (.bool (!speedOk s)) ∧ Keeps Nothing w w' := by
  have HS := fun w => Lib.hid (speed_ok s w)
  generalize speedOk s = b at *
  have K1 := Lib.hid ((Keeps.refl Nothing w).alloc (.cells #[.int .i64 s, .bool e] 70))
  go_enter Tryz.func63, Tryz.ntmps63
  go_wp2_with (go_at_call 64; refine ((HS _).out).mono ?_; rintro ev w1 ⟨rfl, rfl⟩)
  go_ret
  exact ⟨rfl, K1.out⟩

theorem all_take {ps : List Pt} {k : Nat} {p : Pt} (h : ps[k]? = some p) : (ps.take (k + 1)).all (fun p => speedOk p.speed) = ((ps.take k).all (fun p => speedOk p.speed) && speedOk p.speed) := by
  rw [List.take_add_one, h]; simp

theorem all_false {ps : List Pt} {k : Nat} {p : Pt} (h : ps[k]? = some p) (hp : speedOk p.speed = false) : ps.all (fun p => speedOk p.speed) = false := by
  rw [Bool.eq_false_iff]
  intro ha
  rw [List.all_eq_true] at ha
  have := ha p (List.mem_of_getElem? h)
  rw [hp] at this
  simp at this

set_option maxRecDepth 100000 in
set_option maxHeartbeats 8000000 in
theorem index_func (ps : List Pt) (hn : ps.length ≤ 140737488355328) (v : Value) (w : World) (hR : RecsR w v 2 (ps.map ptC)) :
    Calls Tryz.prog 87 #[v, .func (.func 63) #[] #[]] w fun ev w' => (∃ r : Int, ev = .returned (.int .i64 r) ∧ ((decide (0 ≤ r)) = !(ps.all fun p => speedOk p.speed))) ∧ Keeps Nothing w w' := by
  have HR := Lib.hid hR
  obtain ⟨A, c, rfl⟩ := hR.form
  rw [List.length_map] at HR ⊢
  clear hR
  go_enter Tryz.func87, Tryz.ntmps87
  go_wp2
  go_loopw [8] (fun vi wr => ∃ k : Nat, vi = .int .i64 k ∧ k ≤ ps.length ∧ Hid (Keeps Nothing w wr) ∧ Hid ((ps.take k).all (fun p => speedOk p.speed) = true)) (fun vi _ => ps.length - (RowKit.intOf vi).toNat)
  case atStart => exact ⟨0, rfl, Nat.zero_le _, Lib.hid (Keeps.refl _ _), Lib.hid (by simp)⟩
  case round =>
    obtain ⟨k, rfl, hk, HK, HA⟩ := hrel
    by_cases hkn : k < ps.length
    · obtain ⟨p, hp⟩ : ∃ p, ps[k]? = some p := ⟨_, List.getElem?_eq_getElem hkn⟩
      obtain ⟨B, o, rfl, hcc, -, hr⟩ := (HR.out.still HK.out).at (i := k) (cs := ptC p) (by rw [List.getElem?_map, hp]; rfl)
      have c0 := hr 0 _ rfl
      have c1 := hr 1 _ rfl
      rw [Nat.add_zero] at c0
      clear hr hcc
      have HP := Lib.hid hp
      clear hp
      have HC := fun w => Lib.hid (port_ok p.speed p.edge w)
      cases hs : speedOk p.speed with
      | false =>
        rw [hs] at HC
        have HF := Lib.hid (all_false HP.out hs)
        clear hs
        go_wp2_with (go_at_call 63; refine ((HC _).out).mono ?_; rintro ev w1 ⟨rfl, k1⟩; have K1 := Lib.hid (HK.out.same k1); clear k1)
        trace_state
        go_ret
        refine ⟨⟨k, rfl, ?_⟩, K1.out⟩
        rw [HF.out]; simp
      | true =>
        rw [hs] at HC
        have HT := Lib.hid (all_take HP.out)
        have HS := Lib.hid hs
        clear hs
        go_wp2_with (go_at_call 63; refine ((HC _).out).mono ?_; rintro ev w1 ⟨rfl, k1⟩; have K1 := Lib.hid (HK.out.same k1); clear k1)
        trace_state
        refine ⟨⟨k + 1, by go_num, by omega, K1, Lib.hid (by rw [HT.out, HA.out, HS.out]; rfl)⟩, by simp [RowKit.intOf]; omega⟩
    · have hk2 : k = ps.length := by omega
      subst hk2
      rw [List.take_length] at HA
      go_wp2
      go_ret
      refine ⟨⟨-1, rfl, ?_⟩, HK.out⟩
      rw [HA.out]; simp
end Go.Proofs.YtdncojofilnhnaaGreatDoor
