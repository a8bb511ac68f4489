/- The first two frames of one port that are on its wire at once: Overlap. -/
import Derived.Test.YtmmeloklnkfjjaaCap2
import Derived.Test.YtmmeloklnkfjjaaMaps
namespace Go.Proofs.Ytmmeloklnkfjjaa
open Go.RowKit

def mlook (k : Int) (M : MapL) : Option Value := (mfind k M 0).map (·.2)

theorem mget_mlook (z : Value) (k : Int) (M : MapL) : mget z k M = (mlook k M).getD z := by
  unfold mget mlook
  cases mfind k M 0 <;> rfl

theorem opt_ext {o o' : Option Value} (h : ∀ z, o.getD z = o'.getD z) : o = o' := by
  cases o with
  | none =>
    cases o' with
    | none => rfl
    | some v =>
      have h1 := h (.bool true)
      have h2 := h (.bool false)
      simp at h1 h2
      rw [← h1] at h2
      cases h2
  | some v =>
    cases o' with
    | none =>
      have h1 := h (.bool true)
      have h2 := h (.bool false)
      simp at h1 h2
      rw [h1] at h2
      cases h2
    | some u =>
      have := h v
      simp at this
      rw [this]

theorem mlook_mput_same (k : Int) (v : Value) (M : MapL) : mlook k (mput k v M) = some v :=
  opt_ext fun z => by rw [← mget_mlook, mget_mput_same]; rfl

theorem mlook_mput_other {k k' : Int} (hne : k' ≠ k) (v : Value) (M : MapL) : mlook k' (mput k v M) = mlook k' M :=
  opt_ext fun z => by rw [← mget_mlook, ← mget_mlook, mget_mput_other z hne]

/-- 'v, ok := m[k]'. -/
theorem run_mget2 {P : Program} {w : World} {T K E b : Nat} {z : Value} {M : MapL} (hT : P.underlying T = some (.map K E)) (hK : P.underlying K = some (.int .i64)) (hz : (zeroValue E).run P w = .ok z w)
    (h : IMap w b M) (k : Int) : (Instr.lookup T (.map (some b)) (.int .i64 k) true).run P w = .ok (.tuple #[(mlook k M).getD z, .bool (mlook k M).isSome]) w := by
  obtain ⟨es, c, hb, he, -⟩ := h
  have hk : MapKept.IsKey (.int .i64) (.int .i64 k) := rfl
  have hf := findNow_mfind k es.toList M 0 he
  unfold mlook
  cases hm : mfind k M 0 with
  | none =>
    rw [hm] at hf
    simp [Instr.lookup, run_underlying hT, MapKept.run_getObj_map hb, MapKept.run_checkKey hK hk, MapKept.run_findKey hK hf, hz, Result.andThen]
  | some x =>
    rw [hm] at hf
    simp [Instr.lookup, run_underlying hT, MapKept.run_getObj_map hb, MapKept.run_checkKey hK hk, MapKept.run_findKey hK hf, Result.andThen]

def lastV (i : Nat) (till : Int) : Value := .agg #[.int .i64 (i : Nat), .int .i64 till]

/-- Of the frames ahead of j the map tells, by port, the one that ends last. -/
structure Last (l : List Fr) (j : Nat) (M : MapL) : Prop where
  none : ∀ p, mlook p M = none → ∀ i f, i < j → l[i]? = some f → f.port ≠ p
  some : ∀ p v, mlook p M = some v → ∃ (i : Nat) (f : Fr), v = lastV i f.till ∧ i < j ∧ l[i]? = some f ∧ f.port = p ∧ ∀ (i' : Nat) (f' : Fr), i' < j → l[i']? = some f' → f'.port = p → f'.till ≤ f.till

def Apart (l : List Fr) (j : Nat) : Prop := ∀ i k f g, i < k → k < j → l[i]? = some f → l[k]? = some g → f.port = g.port → f.till ≤ g.frm

def OvRes (w : World) (l : List Fr) (e : Ending) (w' : World) : Prop :=
  ((e = .returned (.tuple #[.int .i64 0, .int .i64 0, .bool false]) ∧ Apart l l.length) ∨
    ∃ (i k : Nat) (f g : Fr), e = .returned (.tuple #[.int .i64 i, .int .i64 k, .bool true]) ∧ i < k ∧ l[i]? = some f ∧ l[k]? = some g ∧ f.port = g.port ∧ g.frm < f.till) ∧ Keeps Nothing w w'

theorem Last.start (l : List Fr) : Last l 0 [] := ⟨fun p _ i f h => by omega, fun p v h => by simp [mlook, mfind] at h⟩

theorem Last.keep {l : List Fr} {j : Nat} {M : MapL} (h : Last l j M) {f : Fr} (hf : l[j]? = .some f) {i : Nat} {t : Int} (hm : mlook f.port M = .some (lastV i t)) (ht : f.till ≤ t) : Last l (j + 1) M := by
  refine ⟨fun p hp i' f' hi hf' => ?_, fun p v hv => ?_⟩
  · by_cases e : i' = j
    · subst e
      rw [hf] at hf'
      injection hf' with hf'
      subst hf'
      intro e
      rw [e, hp] at hm
      cases hm
    · exact h.none p hp i' f' (by omega) hf'
  · obtain ⟨a, g, h1, h2, h3, h4, h5⟩ := h.some p v hv
    refine ⟨a, g, h1, by omega, h3, h4, fun i' f' hi hf' hp => ?_⟩
    by_cases e : i' = j
    · subst e
      rw [hf] at hf'
      injection hf' with hf'
      subst hf'
      rw [hp, hv, h1] at hm
      simp [lastV] at hm
      omega
    · exact h5 i' f' (by omega) hf' hp

theorem Last.put {l : List Fr} {j : Nat} {M : MapL} (h : Last l j M) {f : Fr} (hf : l[j]? = .some f) (ht : ∀ i t, mlook f.port M = .some (lastV i t) → t ≤ f.till) : Last l (j + 1) (mput f.port (lastV j f.till) M) := by
  refine ⟨fun p hp i' f' hi hf' => ?_, fun p v hv => ?_⟩
  · by_cases e : p = f.port
    · subst e
      rw [mlook_mput_same] at hp
      cases hp
    · rw [mlook_mput_other e] at hp
      by_cases e2 : i' = j
      · subst e2
        rw [hf] at hf'
        injection hf' with hf'
        subst hf'
        exact fun e3 => e e3.symm
      · exact h.none p hp i' f' (by omega) hf'
  · by_cases e : p = f.port
    · subst e
      rw [mlook_mput_same] at hv
      injection hv with hv
      subst hv
      refine ⟨j, f, rfl, by omega, hf, rfl, fun i' f' hi hf' hp => ?_⟩
      by_cases e2 : i' = j
      · subst e2
        rw [hf] at hf'
        injection hf' with hf'
        subst hf'
        omega
      · cases hm : mlook f.port M with
        | none => exact absurd hp (h.none _ hm i' f' (by omega) hf')
        | some v =>
          obtain ⟨a, g, h1, h2, h3, h4, h5⟩ := h.some _ _ hm
          have := h5 i' f' (by omega) hf' hp
          have := ht a g.till (by rw [hm, h1])
          omega
    · rw [mlook_mput_other e] at hv
      obtain ⟨a, g, h1, h2, h3, h4, h5⟩ := h.some p v hv
      refine ⟨a, g, h1, by omega, h3, h4, fun i' f' hi hf' hp => ?_⟩
      by_cases e2 : i' = j
      · subst e2
        rw [hf] at hf'
        injection hf' with hf'
        subst hf'
        exact absurd hp.symm e
      · exact h5 i' f' (by omega) hf' hp

theorem Apart.next {l : List Fr} {j : Nat} {M : MapL} (h : Apart l j) (hL : Last l j M) {g : Fr} (hg : l[j]? = some g) (ht : ∀ i t, mlook g.port M = some (lastV i t) → t ≤ g.frm) : Apart l (j + 1) := by
  intro i k f g' hik hk hf hg' hp
  by_cases e : k = j
  · subst e
    rw [hg] at hg'
    injection hg' with hg'
    subst hg'
    cases hm : mlook g.port M with
    | none => exact absurd hp (hL.none _ hm i f hik hf)
    | some v =>
      obtain ⟨a, q, h1, h2, h3, h4, h5⟩ := hL.some _ _ hm
      have := h5 i f hik hf hp
      have := ht a q.till (by rw [hm, h1])
      omega
  · exact h i k f g' hik (by omega) hf hg' hp

def OvInv (w : World) (l : List Fr) (mb : Nat) (k : Nat) (i : Value) (wr : World) : Prop :=
  ∃ (j : Nat) (M : MapL), j + k = l.length ∧ i = .int .i64 (j : Nat) ∧ Last l j M ∧ Apart l j ∧ IMap wr mb M ∧ Keeps Nothing w wr

theorem zero65 (w : World) : (zeroValue 65).run Try.prog w = .ok (.agg #[.int .i64 0, .int .i64 0]) w := by kernel_rfl

set_option maxRecDepth 100000 in
set_option maxHeartbeats 8000000 in
theorem overlap_ok {w : World} {A : Option Addr} {c : Nat} {l : List Fr} (hr : FrsR w A c l) (hl : l.length ≤ 9223372036854775807) :
    Calls Try.prog 18 #[.slice A l.length c] w (OvRes w l) := by
  have HR := Lib.hid hr
  clear hr
  have hmm := @run_makeMap Try.prog
  go_enter Try.func18, Try.ntmps18
  go_wp2_with fail
  go_loopg [13] l.length (fun k i wr => OvInv w l w.heap.size k i wr)
  case atStart => exact ⟨0, [], by omega, rfl, Last.start l, fun i k f g h1 h2 => by omega, IMap.made w, (Keeps.refl _ _).alloc _⟩
  case round =>
    obtain ⟨j, M, hj, rfl, hL, hA, hM, hk⟩ := hrel
    have HK := Lib.hid hk
    have HL := Lib.hid hL
    have HA := Lib.hid hA
    have HM := Lib.hid hM
    by_cases hlt : j < l.length
    · obtain ⟨port, cls, frm, till, B, cap, bs, b, o, hf, rfl, f0, f1, f2, f3, f4, hs⟩ := (HR.out.same hk).get hlt
      have HF := Lib.hid hf
      have hM2 := hM.keeps ((Keeps.refl Nothing wr).alloc (.cells #[.int .i64 port, .int .i64 cls, .int .i64 frm, .int .i64 till, .slice B bs.length cap] 27)) (fun h => h)
      have hq := run_mget2 (P := Try.prog) (T := 63) Try.underlying63 Try.underlying3 (zero65 _) hM2 port
      have hM3 : ∀ o, IMap ((wr.alloc (.cells #[.int .i64 port, .int .i64 cls, .int .i64 frm, .int .i64 till, .slice B bs.length cap] 27)).alloc o) w.heap.size M := fun o => hM2.keeps ((Keeps.refl Nothing _).alloc o) (fun h => h)
      have HM3 := Lib.hid hM3
      clear hL hA hM hk hf hs hM2 hM3
      cases hm : mlook port M with
      | none =>
        rw [hm] at hq
        simp only [Option.getD_none, Option.isSome_none] at hq
        have HMK := Lib.hid hm
        clear hm
        go_wp2_with (at_mapUpdate; refine wpList_imput rfl _ _ _ 63 rfl 3 65 w.heap.size M Try.underlying63 Try.underlying3 rfl port (lastV j till) rfl rfl (HM3.out _) ?_; intro w4 hM4 hk4 hs4)
        have HM4 := Lib.hid hM4
        have HK4 := Lib.hid (((HK.out.alloc (.cells #[.int .i64 port, .int .i64 cls, .int .i64 frm, .int .i64 till, .slice B bs.length cap] 27)).alloc (.cells #[.int .i64 0, .int .i64 0] 65)).up hk4 (fun x hx => by omega))
        clear hM4 hk4 hq
        go_wp2_with fail
        go_roundg (gk - 1)
        case measure => omega
        case rel =>
          refine ⟨j + 1, mput port (lastV j till) M, by omega, by go_num, HL.out.put HF.out (fun i t h => ?_), HA.out.next HL.out HF.out (fun i t h => ?_), HM4.out, HK4.out⟩
          · simp only [HMK.out] at h
            cases h
          · simp only [HMK.out] at h
            cases h
      | some v =>
        obtain ⟨i0, g0, hv, hi0, hg0, hp0, hmax⟩ := HL.out.some _ _ hm
        subst hv
        obtain ⟨gp, gc, gf, t0, gA, gcap, gbs⟩ := g0
        simp only at hp0 hmax hm
        subst hp0
        have HMK := Lib.hid hm
        have HG0 := Lib.hid hg0
        rw [hm] at hq
        simp only [Option.getD_some, Option.isSome_some, lastV] at hq
        clear hm hg0 hmax
        by_cases h1 : frm < t0
        · go_wp2_with fail
          go_ret3
          refine ⟨.inr ⟨i0, j, _, _, rfl, hi0, HG0.out, HF.out, rfl, h1⟩, (HK.out.alloc _).alloc _⟩
        · have h1' : decide (frm < t0) = false := by simpa using h1
          by_cases h2 : t0 ≤ till
          · go_wp2_with (at_mapUpdate; refine wpList_imput rfl _ _ _ 63 rfl 3 65 w.heap.size M Try.underlying63 Try.underlying3 rfl gp (lastV j till) rfl rfl (HM3.out _) ?_; intro w4 hM4 hk4 hs4)
            have HM4 := Lib.hid hM4
            have HK4 := Lib.hid (((HK.out.alloc (.cells #[.int .i64 gp, .int .i64 cls, .int .i64 frm, .int .i64 till, .slice B bs.length cap] 27)).alloc (.cells #[.int .i64 i0, .int .i64 t0] 65)).up hk4 (fun x hx => by omega))
            clear hM4 hk4 hq
            go_wp2_with fail
            go_roundg (gk - 1)
            case measure => omega
            case rel =>
              refine ⟨j + 1, mput gp (lastV j till) M, by omega, by go_num, HL.out.put HF.out (fun i t h => ?_), HA.out.next HL.out HF.out (fun i t h => ?_), HM4.out, HK4.out⟩
              · simp only [HMK.out, lastV] at h
                simp at h
                simp only
                omega
              · simp only [HMK.out, lastV] at h
                simp at h
                simp only
                omega
          · have h2' : decide (t0 ≤ till) = false := by simpa using h2
            go_wp2_with fail
            go_roundg (gk - 1)
            case measure => omega
            case rel =>
              refine ⟨j + 1, M, by omega, by go_num, HL.out.keep HF.out HMK.out (by simp only; omega), HA.out.next HL.out HF.out (fun i t h => ?_), HM3.out _, (HK.out.alloc _).alloc _⟩
              simp only [HMK.out, lastV] at h
              simp at h
              simp only
              omega
    · obtain rfl : j = l.length := by omega
      clear hL hA hM hk
      go_wp2_with fail
      go_ret3
      exact ⟨.inl ⟨rfl, HA.out⟩, HK.out⟩

end Go.Proofs.Ytmmeloklnkfjjaa
