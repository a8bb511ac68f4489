/- What both have in common as lists are told; few acts. -/
import Derived.Test.YtpgmkekdgchkfaaPair2
import Derived.Test.YtpgmkekdgchkfaaPair3
import Derived.Test.YtpgmkekdgchkfaaBad
import Derived.Test.YtpgmkekdgchkfaaTurns
namespace Go.Proofs.Ytpgmkekdgchkfaa
open Go.RowKit

theorem Alike.pass {S : Sch} {P : Par} (h : Alike S P) (now : Int) : Alike (S.pass now) (P.pass now) := by
  unfold Sch.pass Par.pass
  by_cases hw : P.waits = true
  · have hd := h.due hw
    have ha := h.admin hw
    rw [h.waits, hd]
    by_cases hn : P.due ≤ now
    · rw [if_pos ⟨hw, hn⟩, if_pos ⟨hw, hn⟩]
      exact ⟨rfl, rfl, (fun x => by cases x), (fun x => by cases x), fun _ => ⟨hd, ha.cyc, ha.ext, ha.es⟩⟩
    · rw [if_neg (fun x => hn x.2), if_neg (fun x => hn x.2)]
      exact h
  · rw [if_neg (fun x => hw (by rw [← h.waits]; exact x.1)), if_neg (fun x => hw x.1)]
    exact h

theorem SchGood.pass {S : Sch} (h : SchGood S) (now : Int) : SchGood (S.pass now) := by
  unfold Sch.pass
  split
  · rename_i hw
    have g := h.admin hw.1
    exact ⟨fun _ => g, fun x => by cases x⟩
  · exact h

theorem Alike.told {S : Sch} {P : Par} (h : Alike S P) {a b : Lst} (hl : a.like b) (D : Int) : Alike (S.told a D) (P.told b D) :=
  ⟨h.has, rfl, fun _ => rfl, fun _ => hl, h.oper⟩

theorem SchGood.told {S : Sch} (h : SchGood S) {a : Lst} {D : Int} (hg : Good D a.cyc a.ext a.es) : SchGood (S.told a D) := ⟨h.oper, fun _ => hg⟩

def Sch.cnt (S : Sch) : Int := S.chg + (if S.waits = true then 1 else 0)

theorem Sch.cnt_pass (S : Sch) (now : Int) : (S.pass now).cnt = S.cnt := by
  unfold Sch.pass
  split
  · rename_i hw
    unfold Sch.cnt Sch.passed
    rw [if_pos hw.1]
    simp
  · rfl

theorem Sch.cnt_told (S : Sch) (l : Lst) (D : Int) : (S.told l D).cnt ≤ S.cnt + 1 := by
  unfold Sch.cnt Sch.told
  simp only [if_true]
  split <;> omega

theorem Sch.rep_told (S : Sch) {P : Par} (h : Alike S P) (now : Int) (l : Lst) (D : Int) : (((S.pass now).told l D).pass now).rep = if P.waits = true ∧ now < P.due then S.rep + 1 else S.rep := by
  rw [(Sch.pass_chg _ now).2.2]
  show (if (S.pass now).waits = true then (S.pass now).rep + 1 else (S.pass now).rep) = _
  by_cases hc : P.waits = true ∧ P.due ≤ now
  · have e : S.pass now = S.passed := if_pos ⟨by rw [h.waits]; exact hc.1, by rw [h.due hc.1]; exact hc.2⟩
    have e2 : ¬ S.passed.waits = true := fun x => by cases x
    rw [e, if_neg e2, if_neg (fun x => by have := x.2; have := hc.2; omega)]
    rfl
  · have e : S.pass now = S := if_neg (fun x => by
      have hw : P.waits = true := by rw [← h.waits]; exact x.1
      exact hc ⟨hw, by rw [← h.due hw]; exact x.2⟩)
    rw [e, h.waits]
    by_cases hw : P.waits = true
    · rw [if_pos hw, if_pos ⟨hw, by have : ¬ P.due ≤ now := fun y => hc ⟨hw, y⟩; omega⟩]
    · rw [if_neg hw, if_neg (fun x => hw x.1)]

structure KAct where
  later : Int
  base : Int
  cyc : Int
  ext : Int
  A : Option Addr
  cap : Nat
  es : List Ent

def KAct.cells (a : KAct) : List Value := [.int .i64 a.later, .int .i64 a.base, .int .i64 a.cyc, .int .i64 a.ext, .slice a.A a.es.length a.cap]

def KActs (w : World) (A : Option Addr) (acts : List KAct) (c : Nat) : Prop :=
  acts = [] ∨ ∃ b o, A = some ⟨b, o, none⟩ ∧ acts.length ≤ c ∧ ∀ (j : Nat) (a : KAct), acts[j]? = some a → (∀ i u, a.cells[i]? = some u → w.cell? ⟨b, o + j * 5 + i, none⟩ = some u) ∧ EntsR w a.A a.cap a.es

theorem KActs.at_ {w wr : World} {A : Option Addr} {acts : List KAct} {c j : Nat} (h : KActs w A acts c) (hk : Keeps Nothing w wr) (hj : j < acts.length) :
    ∃ b o later base cyc ext A2 cap es, A = some ⟨b, o, none⟩ ∧ acts[j]? = some ⟨later, base, cyc, ext, A2, cap, es⟩ ∧ wr.cell? ⟨b, o + j * 5, none⟩ = some (.int .i64 later) ∧ wr.cell? ⟨b, o + j * 5 + 1, none⟩ = some (.int .i64 base) ∧ wr.cell? ⟨b, o + j * 5 + 2, none⟩ = some (.int .i64 cyc) ∧ wr.cell? ⟨b, o + j * 5 + 3, none⟩ = some (.int .i64 ext) ∧ wr.cell? ⟨b, o + j * 5 + 4, none⟩ = some (.slice A2 es.length cap) ∧ EntsR w A2 cap es := by
  rcases h with h | ⟨b, o, h1, h2, h3⟩
  · rw [h] at hj; simp at hj
  · obtain ⟨a, ha⟩ : ∃ a, acts[j]? = some a := ⟨_, List.getElem?_eq_getElem hj⟩
    obtain ⟨hc, he⟩ := h3 j a ha
    obtain ⟨later, base, cyc, ext, A2, cap, es⟩ := a
    have up : ∀ i u, KAct.cells ⟨later, base, cyc, ext, A2, cap, es⟩ = KAct.cells ⟨later, base, cyc, ext, A2, cap, es⟩ → (KAct.cells ⟨later, base, cyc, ext, A2, cap, es⟩)[i]? = some u → wr.cell? ⟨b, o + j * 5 + i, none⟩ = some u := fun i u _ hu => by
      have := hc i u hu
      exact (hk.cell (World.block_lt_of_cell? _ _ this) (fun h => h)).trans this
    exact ⟨b, o, later, base, cyc, ext, A2, cap, es, h1, ha, up 0 _ rfl rfl, up 1 _ rfl rfl, up 2 _ rfl rfl, up 3 _ rfl rfl, up 4 _ rfl rfl, he⟩

def Sm (acts : List KAct) : Prop := acts.length ≤ 30 ∧ ∀ (l : Nat) (a : KAct), acts[l]? = some a → a.es.length ≤ 70

def SmallIs (w : World) (acts : List KAct) (e : Ending) (w' : World) : Prop := ∃ b, e = .returned (.bool b) ∧ (b = true ↔ Sm acts) ∧ Keeps Nothing w w'

def SmInv (w : World) (acts : List KAct) (k : Nat) (i : Value) (wr : World) : Prop := ∃ j : Nat, j + k = acts.length ∧ i = .int .i64 (j : Nat) ∧ (∀ (l : Nat) (a : KAct), l < j → acts[l]? = some a → a.es.length ≤ 70) ∧ Keeps Nothing w wr

set_option maxRecDepth 100000 in
set_option maxHeartbeats 2000000 in
theorem small_ok {w : World} {A : Option Addr} {acts : List KAct} {c : Nat} (h : KActs w A acts c) (hl : acts.length ≤ 9223372036854775807) :
    Calls Try.prog 35 #[.slice A acts.length c] w (SmallIs w acts) := by
  have HA := Lib.hid h
  clear h
  go_enter Try.func35, Try.ntmps35
  go_wp2_with fail
  go_loopg [7] acts.length (fun k i wr => SmInv w acts k i wr)
  case atStart => exact ⟨0, by omega, rfl, fun l a h => by omega, Keeps.refl _ _⟩
  case round =>
    obtain ⟨j, hj, rfl, hsm, hk⟩ := hrel
    have HK := Lib.hid hk
    have HM := Lib.hid hsm
    clear hk hsm
    by_cases hlt : j < acts.length
    · obtain ⟨b, o, later, base, cyc, ext, A2, cap, es, rfl, hact, a0, a1, a2, a3, a4, -⟩ := HA.out.at_ HK.out hlt
      have HC := Lib.hid hact
      clear hact
      by_cases hbig : (70 : Int) < es.length
      · go_wp2_with fail
        go_ret
        exact ⟨false, rfl, ⟨(fun x => by cases x), fun x => by have h1 : es.length ≤ 70 := x.2 j _ HC.out; omega⟩, HK.out.alloc _⟩
      · have hbig' : decide ((70 : Int) < es.length) = false := by simpa using hbig
        go_wp2_with fail
        go_roundg (gk - 1)
        case measure => omega
        case rel =>
          refine ⟨j + 1, by omega, by go_num, fun l a h1 h2 => ?_, HK.out.alloc _⟩
          by_cases e1 : l = j
          · subst e1
            rw [HC.out] at h2
            injection h2 with h2
            subst h2
            show es.length ≤ 70
            omega
          · exact HM.out l a (by omega) h2
    · by_cases hs : (acts.length : Int) ≤ 30
      · go_wp2_with fail
        go_ret
        exact ⟨true, by simp [hs], ⟨fun _ => ⟨by omega, fun l a h => HM.out l a (by have := (List.getElem?_eq_some_iff.1 h).1; omega) h⟩, fun _ => rfl⟩, HK.out⟩
      · go_wp2_with fail
        go_ret
        exact ⟨false, by simp; try omega, ⟨(fun x => by cases x), fun x => by have := x.1; omega⟩, HK.out⟩

theorem small_yes {w : World} {A : Option Addr} {acts : List KAct} {c : Nat} (h : KActs w A acts c) (hl : acts.length ≤ 9223372036854775807) (hs : Sm acts) :
    Calls Try.prog 35 #[.slice A acts.length c] w (fun e w' => e = .returned (.bool true) ∧ Keeps Nothing w w') :=
  (small_ok h hl).mono fun e w' ⟨b, he, hb, hk⟩ => by
    have : b = true := hb.2 hs
    subst this
    exact ⟨he, hk⟩

theorem small_no {w : World} {A : Option Addr} {acts : List KAct} {c : Nat} (h : KActs w A acts c) (hl : acts.length ≤ 9223372036854775807) (hs : ¬ Sm acts) :
    Calls Try.prog 35 #[.slice A acts.length c] w (fun e w' => e = .returned (.bool false) ∧ Keeps Nothing w w') :=
  (small_ok h hl).mono fun e w' ⟨b, he, hb, hk⟩ => by
    cases b
    · exact ⟨he, hk⟩
    · exact absurd (hb.1 rfl) hs

theorem KActs.same {w w' : World} {A : Option Addr} {acts : List KAct} {c : Nat} (h : KActs w A acts c) (hk : Keeps Nothing w w') : KActs w' A acts c := by
  rcases h with h | ⟨b, o, h1, h2, h3⟩
  · exact .inl h
  · refine .inr ⟨b, o, h1, h2, fun j a ha => ?_⟩
    obtain ⟨hc, he⟩ := h3 j a ha
    exact ⟨fun i u hu => by have := hc i u hu; exact (hk.cell (World.block_lt_of_cell? _ _ this) (fun h => h)).trans this, he.same hk⟩

end Go.Proofs.Ytpgmkekdgchkfaa
