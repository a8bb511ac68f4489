/- May a list be: Check, and what it calls. -/
import Derived.Test.YtpgmkekdgchkfaaGate
namespace Go.Proofs.Ytpgmkekdgchkfaa
open Go.RowKit

def Ent.bad (e : Ent) : Prop := e.opn < 0 ∨ 255 < e.opn ∨ e.nanos < 1 ∨ 1000000000 < e.nanos

set_option maxRecDepth 100000 in
theorem bad_ok {w : World} (opn nanos : Int) (b : Bool) (hb : b = true ↔ (⟨opn, nanos⟩ : Ent).bad) : Calls Try.prog 68 #[.agg #[.int .i64 opn, .int .i64 nanos]] w (fun e w' => e = .returned (.bool b) ∧ Keeps Nothing w w') := by
  simp only [Ent.bad] at hb
  go_enter Try.func68, Try.ntmps68
  by_cases h1 : opn < 0
  · have : b = true := hb.2 (.inl h1)
    subst this
    clear hb
    go_wp2_with fail
    go_ret
    exact ⟨rfl, (Keeps.refl _ _).alloc _⟩
  · have h1' : decide (opn < 0) = false := by simpa using h1
    by_cases h2 : 255 < opn
    · have : b = true := hb.2 (.inr (.inl h2))
      subst this
      clear hb
      go_wp2_with fail
      go_ret
      exact ⟨rfl, (Keeps.refl _ _).alloc _⟩
    · have h2' : decide (255 < opn) = false := by simpa using h2
      by_cases h3 : nanos < 1
      · have : b = true := hb.2 (.inr (.inr (.inl h3)))
        subst this
        clear hb
        go_wp2_with fail
        go_ret
        exact ⟨rfl, (Keeps.refl _ _).alloc _⟩
      · have h3' : decide (nanos < 1) = false := by simpa using h3
        by_cases h4 : 1000000000 < nanos
        · have : b = true := hb.2 (.inr (.inr (.inr h4)))
          subst this
          clear hb
          go_wp2_with fail
          go_ret
          exact ⟨rfl, (Keeps.refl _ _).alloc _⟩
        · have h4' : decide (1000000000 < nanos) = false := by simpa using h4
          have : b = false := by
            cases b
            · rfl
            · have := hb.1 rfl; omega
          subst this
          clear hb
          go_wp2_with fail
          go_ret
          exact ⟨rfl, (Keeps.refl _ _).alloc _⟩

def IxInv (w : World) (es : List Ent) (k : Nat) (i : Value) (wr : World) : Prop :=
  ∃ j : Nat, j + k = es.length ∧ i = .int .i64 (j : Nat) ∧ (∀ (l : Nat) (e : Ent), l < j → es[l]? = some e → ¬ e.bad) ∧ Keeps Nothing w wr

set_option maxRecDepth 100000 in
set_option maxHeartbeats 2000000 in
theorem index_ok {w : World} {A : Option Addr} {c : Nat} {es : List Ent} (hr : EntsR w A c es) (hn : es.length ≤ 64) :
    Calls Try.prog 77 #[.slice A es.length c, .func (.func 68) #[] #[]] w (fun e w' => ∃ r : Int, e = .returned (.int .i64 r) ∧ -1 ≤ r ∧ r ≤ 64 ∧ (0 ≤ r ↔ ∃ e ∈ es, e.bad) ∧ Keeps Nothing w w') := by
  have HR := Lib.hid hr
  clear hr
  go_enter Try.func77, Try.ntmps77
  go_wp2_with fail
  go_loopg [8] es.length (fun k i wr => IxInv w es k i wr)
  case atStart => exact ⟨0, by omega, rfl, fun l e h => by omega, Keeps.refl _ _⟩
  case round =>
    obtain ⟨j, hj, rfl, hno, hk⟩ := hrel
    have HN := Lib.hid hno
    have HK := Lib.hid hk
    clear hno hk
    by_cases hlt : j < es.length
    · obtain ⟨e, hej⟩ : ∃ e, es[j]? = some e := ⟨_, List.getElem?_eq_getElem hlt⟩
      obtain ⟨b, o, hA, c1, c2⟩ : ∃ b o, A = some ⟨b, o, none⟩ ∧ (w.cell? ⟨b, o + j * 2, none⟩ = some (.int .i64 e.opn) ∧ w.cell? ⟨b, o + j * 2 + 1, none⟩ = some (.int .i64 e.nanos)) := by
        rcases HR.out with h | ⟨b, o, h1, h2, h3⟩
        · rw [h] at hlt; simp at hlt
        · exact ⟨b, o, h1, h3 j e hej⟩
      subst hA
      have f1 := (HK.out.cell (World.block_lt_of_cell? _ _ c1) (fun h => h)).trans c1
      have f2 := (HK.out.cell (World.block_lt_of_cell? _ _ c2) (fun h => h)).trans c2
      have HJ := Lib.hid hej
      obtain ⟨opn, nanos⟩ := e
      simp only at f1 f2
      clear c1 c2 hej
      by_cases hb : (⟨opn, nanos⟩ : Ent).bad
      · have HBad := Lib.hid hb
        clear hb
        go_wp2_with (go_at_call 68; refine (bad_ok opn nanos true ⟨fun _ => HBad.out, fun _ => rfl⟩).mono ?_; rintro e w2 ⟨rfl, hk2⟩)
        go_ret
        exact ⟨_, rfl, by omega, by omega, ⟨fun _ => ⟨_, List.mem_of_getElem? HJ.out, HBad.out⟩, fun _ => by omega⟩, HK.out.same hk2⟩
      · have HBad := Lib.hid hb
        clear hb
        go_wp2_with (go_at_call 68; refine (bad_ok opn nanos false ⟨(fun h => by cases h), fun h => absurd h HBad.out⟩).mono ?_; rintro e w2 ⟨rfl, hk2⟩)
        go_roundg (gk - 1)
        case measure => omega
        case rel =>
          refine ⟨j + 1, by omega, by go_num, fun l e hl he => ?_, HK.out.same hk2⟩
          by_cases e1 : l = j
          · subst e1
            rw [HJ.out] at he
            injection he with he
            subst he
            exact HBad.out
          · exact HN.out l e (by omega) he
    · go_wp2_with fail
      go_ret
      refine ⟨-1, rfl, by omega, by omega, ⟨fun h => by omega, ?_⟩, HK.out⟩
      rintro ⟨e, he, hb⟩
      obtain ⟨l, hl⟩ := List.getElem?_of_mem he
      exact absurd hb (HN.out l e (by have := (List.getElem?_eq_some_iff.1 hl).1; omega) hl)

set_option maxRecDepth 100000 in
theorem contains_ok {w : World} {A : Option Addr} {c : Nat} {es : List Ent} (hr : EntsR w A c es) (hn : es.length ≤ 64) (b : Bool) (hb : b = true ↔ ∃ e ∈ es, e.bad) :
    Calls Try.prog 69 #[.slice A es.length c, .func (.func 68) #[] #[]] w (fun e w' => e = .returned (.bool b) ∧ Keeps Nothing w w') := by
  have C := index_ok hr hn
  go_enter Try.func69, Try.ntmps69
  go_wp2_with (go_at_call 77; refine C.mono ?_; rintro e w2 ⟨r, rfl, h1, h2, h3, hk2⟩)
  go_ret
  refine ⟨?_, hk2⟩
  rw [← h3] at hb
  cases b
  · simp at hb ⊢; exact hb
  · simp at hb ⊢; exact hb

theorem good_of {base cyc ext : Int} {es : List Ent} (h1 : ¬ (es.length = 0 ∨ 64 < es.length)) (h2 : ¬ (base < 0 ∨ 4611686018427387904 ≤ base ∨ cyc < 1 ∨ 1000000000 < cyc ∨ ext < 0 ∨ 1000000000 < ext)) (h3 : ¬ ∃ e ∈ es, e.bad) : Good base cyc ext es :=
  ⟨by omega, by omega, by omega, by omega, by omega, by omega, by omega, by omega, fun e he => by
    have : ¬ e.bad := fun hb => h3 ⟨e, he, hb⟩
    unfold Ent.bad at this
    omega⟩

set_option maxRecDepth 100000 in
set_option maxHeartbeats 2000000 in
/-- A list that may be. -/
theorem check_good {w : World} {base cyc ext : Int} {A : Option Addr} {c : Nat} {es : List Ent} (hr : EntsR w A c es) (hg : Good base cyc ext es) :
    Calls Try.prog 43 #[.agg #[.int .i64 base, .int .i64 cyc, .int .i64 ext, .slice A es.length c]] w (fun e w' => e = .returned (.int .i64 0) ∧ Keeps Nothing w w') := by
  obtain ⟨g0, g1, gb0, gb1, gc0, gc1, gx0, gx1, ge⟩ := hg
  have C := fun w' (hk : Keeps Nothing w w') => contains_ok (hr.same hk) g1 false ⟨fun h => (by cases h), fun ⟨e, he, hb⟩ => (by have := ge e he; unfold Ent.bad at hb; omega)⟩
  clear hr ge
  have hl : (es.length : Int) ≤ 64 := by omega
  have hp : (0 : Int) < es.length := by omega
  have hn2 : es ≠ [] := fun h => by rw [h] at g0; simp at g0
  have hn1 : ((es.length : Int) == 0) = false := by simpa using hn2
  have q1 : decide ((64 : Int) < es.length) = false := by simp; omega
  have q2 : decide (base < 0) = false := by simp; omega
  have q3 : decide ((4611686018427387904 : Int) ≤ base) = false := by simp; omega
  have q4 : decide (cyc < 1) = false := by simp; omega
  have q5 : decide ((1000000000 : Int) < cyc) = false := by simp; omega
  have q6 : decide (ext < 0) = false := by simp; omega
  have q7 : decide ((1000000000 : Int) < ext) = false := by simp; omega
  go_enter Try.func43, Try.ntmps43
  go_wp2_with (go_at_call 69; refine (C _ ((Keeps.refl _ _).alloc _)).mono ?_; rintro e w2 ⟨rfl, hk2⟩; clear C)
  go_ret
  exact ⟨rfl, ((Keeps.refl _ _).alloc _).same hk2⟩

end Go.Proofs.Ytpgmkekdgchkfaa
