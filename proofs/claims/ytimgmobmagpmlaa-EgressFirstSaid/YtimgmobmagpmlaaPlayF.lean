/- Play's acts: what is known of a port behind each. -/
import Derived.Test.YtimgmobmagpmlaaPlayE
namespace Go.Proofs.Ytimgmobmagpmlaa
open Go.RowKit

section
variable {w0 w w' : World} {F N : Nat → Prop} {L : Loc} {G : Geo} {yv : Value} {E : Eg} {P : Par} {n last : Int} {r j : Nat} {I : World → Int → Prop} {nl ns : Prop} {sp : Int}

theorem PlE.next (hp : PlE E n last r j nl ns sp) : PlE E n last r (j + 1) nl ns sp :=
  { hp with
    rep1 := by have := hp.rep1; omega
    cnt1 := by have := hp.cnt1; omega
    lost := fun x hx => by have := hp.lost x hx; omega }

theorem comes_same (E : Eg) (cls : Int) (bs : Bytes) : (E.comes cls bs).S = E.S ∧ (E.comes cls bs).shaped = E.shaped ∧ (E.comes cls bs).speed = E.speed ∧ (E.comes cls bs).busy = E.busy ∧ (E.comes cls bs).till = E.till ∧ (E.comes cls bs).cnt = E.cnt := by
  unfold Eg.comes
  cases freeP E.ps with
  | none => exact ⟨rfl, rfl, rfl, rfl, rfl, rfl⟩
  | some k =>
    simp only
    unfold Eg.pushed
    split
    · exact ⟨rfl, rfl, rfl, rfl, rfl, rfl⟩
    · split
      · exact ⟨rfl, rfl, rfl, rfl, rfl, rfl⟩
      · split <;> exact ⟨rfl, rfl, rfl, rfl, rfl, rfl⟩

theorem comes_lost {E : Eg} (h8 : E.rs.length = 8) {m : Nat} (h : ∀ y ∈ E.rs, y.lost ≤ m) (cls : Int) (bs : Bytes) : ∀ y ∈ (E.comes cls bs).rs, y.lost ≤ m + 1 := by
  unfold Eg.comes
  cases freeP E.ps with
  | none => intro y hy; have := h y hy; omega
  | some k =>
    simp only
    unfold Eg.pushed
    split
    · intro y hy; have := h y hy; omega
    · split
      · intro y hy; have := h y hy; omega
      · split
        · exact pushR_lost h8 h cls k
        · exact pushR_lost h8 h cls k

theorem PlE.comes (hp : PlE E n last r j nl ns sp) (cls : Int) {bs : Bytes} (h0 : 64 ≤ bs.length) (h1 : bs.length ≤ 1522) : PlE (E.comes cls bs) n last r (j + 1) nl ns sp := by
  obtain ⟨e1, e2, e3, e4, e5, e6⟩ := comes_same E cls bs
  have hp1 := hp.next
  exact
    { good := by rw [e1]; exact hp.good, ext := by rw [e1]; exact hp.ext, rep0 := by rw [e1]; exact hp.rep0, rep1 := by rw [e1]; exact hp1.rep1, chg0 := by rw [e1]; exact hp.chg0, cnt1 := by rw [e1]; exact hp1.cnt1
      led := hp.led.comes cls h0 h1, speed := (by rw [e3]; exact hp.speed), spd := (by rw [e3]; exact hp.spd)
      lost := comes_lost hp.led.r8 hp.lost cls bs
      cnts := by rw [e6]; exact hp.cnts
      nl := by rw [e4, e5]; exact hp.nl
      ns := by rw [e1, e2]; exact hp.ns }

theorem linked_same (E : Eg) (up : Bool) : (E.linked up).S = E.S ∧ (E.linked up).shaped = E.shaped ∧ (E.linked up).speed = E.speed ∧ (E.linked up).cnt = E.cnt ∧ ∀ y ∈ (E.linked up).rs, ∃ z ∈ E.rs, y.lost = z.lost := by
  unfold Eg.linked
  split
  · exact ⟨rfl, rfl, rfl, rfl, fun y hy => ⟨y, hy, rfl⟩⟩
  · refine ⟨rfl, rfl, rfl, rfl, fun y hy => ?_⟩
    obtain ⟨z, hz, rfl⟩ := List.mem_map.1 hy
    exact ⟨z, hz, rfl⟩

theorem PlE.linked (hp : PlE E n last r j nl ns sp) (up : Bool) (hnl : nl → (E.linked up).busy = E.busy ∧ (E.linked up).till = E.till) : PlE (E.linked up) n last r j nl ns sp := by
  obtain ⟨e1, e2, e3, e4, e5⟩ := linked_same E up
  exact
    { good := by rw [e1]; exact hp.good, ext := by rw [e1]; exact hp.ext, rep0 := by rw [e1]; exact hp.rep0, rep1 := by rw [e1]; exact hp.rep1, chg0 := by rw [e1]; exact hp.chg0, cnt1 := by rw [e1]; exact hp.cnt1
      led := hp.led.linked up, speed := (by rw [e3]; exact hp.speed), spd := (by rw [e3]; exact hp.spd)
      lost := fun y hy => by obtain ⟨z, hz, e⟩ := e5 y hy; rw [e]; exact hp.lost z hz
      cnts := by rw [e4]; exact hp.cnts
      nl := fun x => by rw [(hnl x).1, (hnl x).2]; exact hp.nl x
      ns := by rw [e1, e2]; exact hp.ns }

theorem PlE.shaped (hp : PlE E n last r j nl ns sp) {E' : Eg} (h : E' = E ∨ E' = { E with shaped := true }) (hns : ¬ ns) : PlE E' n last r j nl ns sp := by
  rcases h with rfl | rfl
  · exact hp
  · exact { hp with led := ⟨hp.led.held, hp.led.sum, hp.led.size, hp.led.r8⟩, ns := fun x => absurd x hns }

theorem PlE.told (hp : PlE E n last r j nl ns sp) (h0 : 0 ≤ n) (h1 : n ≤ 300000000) {base cyc ext : Int} {es : List Ent} (hg : Good base cyc ext es) (g cap : Nat) (hns : ¬ ns) : PlE { E with S := E.S.setTo base cyc ext g cap es n } n last r (j + 1) nl ns sp :=
  { good := by
      show SchGood (((E.S.pass n).told _ _).pass n)
      exact (SchGood.told (hp.good.pass n) (hg.start h0 (by omega))).pass n
    ext := by
      show Ext (((E.S.pass n).told _ _).pass n) n
      exact (Ext.told (hp.ext.pass (Int.le_refl n)) (by show es.length ≤ 64; exact hg.len) _).pass (Int.le_refl n)
    rep0 := by
      show 0 ≤ (((E.S.pass n).told _ _).pass n).rep
      rw [(Sch.pass_chg _ n).2.2]
      have := hp.rep0
      show 0 ≤ (if (E.S.pass n).waits = true then (E.S.pass n).rep + 1 else (E.S.pass n).rep)
      rw [(Sch.pass_chg E.S n).2.2]
      split <;> omega
    rep1 := by
      show (((E.S.pass n).told _ _).pass n).rep ≤ _
      rw [(Sch.pass_chg _ n).2.2]
      have := hp.rep1
      show (if (E.S.pass n).waits = true then (E.S.pass n).rep + 1 else (E.S.pass n).rep) ≤ _
      rw [(Sch.pass_chg E.S n).2.2]
      split <;> omega
    chg0 := by
      show 0 ≤ (((E.S.pass n).told _ _).pass n).chg
      have a := (Sch.pass_chg ((E.S.pass n).told ⟨base, cyc, ext, some ⟨g, 0, none⟩, cap, es⟩ (gstart base cyc n)) n).1
      have b := (Sch.pass_chg E.S n).1
      have c : ((E.S.pass n).told ⟨base, cyc, ext, some ⟨g, 0, none⟩, cap, es⟩ (gstart base cyc n)).chg = (E.S.pass n).chg := rfl
      have := hp.chg0
      omega
    cnt1 := by
      show (((E.S.pass n).told _ _).pass n).cnt ≤ _
      rw [Sch.cnt_pass]
      have a := Sch.cnt_told (E.S.pass n) ⟨base, cyc, ext, some ⟨g, 0, none⟩, cap, es⟩ (gstart base cyc n)
      rw [Sch.cnt_pass] at a
      have := hp.cnt1
      omega
    led := ⟨hp.led.held, hp.led.sum, hp.led.size, hp.led.r8⟩, speed := hp.speed, spd := hp.spd
    lost := fun x hx => by have := hp.lost x hx; omega
    cnts := hp.cnts, nl := hp.nl, ns := fun x => absurd x hns }

theorem told_alike (hA : Alike (E.S.pass n) (P.pass n)) {base cyc ext : Int} (hc : 1 ≤ cyc) {es : List Ent} (g cap : Nat) (A : Option Addr) (c : Nat) :
    Alike ((E.S.setTo base cyc ext g cap es n).pass n) ((((P.pass n).told ⟨base, cyc, ext, A, c, es⟩ (rstart base cyc n)).pass n).pass n) := by
  rw [Par.pass_pass _ (Int.le_refl n), show E.S.setTo base cyc ext g cap es n = ((E.S.pass n).told ⟨base, cyc, ext, some ⟨g, 0, none⟩, cap, es⟩ (gstart base cyc n)).pass n from rfl, Sch.pass_pass _ (Int.le_refl n), rstart_eq hc]
  exact (Alike.told hA (a := ⟨base, cyc, ext, some ⟨g, 0, none⟩, cap, es⟩) (b := ⟨base, cyc, ext, A, c, es⟩) ⟨rfl, rfl, rfl, rfl⟩ (gstart base cyc n)).pass n

/-! ## a new port -/

theorem holdsOf_zero (k : Nat) : holdsOf (List.replicate k ([], 0)) = 0 := by
  unfold holdsOf
  induction k with
  | zero => rfl
  | succ k ih => rw [List.replicate_succ, List.map_cons, List.sum_cons, ih]

theorem new_pl {speed : Int} (h : SpeedOk speed) : PlE ((Eg.new speed [9, 9, 9, 9, 9, 9, 9, 9] (List.replicate 200 ([], 0))).linked true) 0 0 0 0 nl ns speed := by
  have hh : ∀ i, heldOf (List.replicate 200 (([] : Bytes), 0)) i = 0 := fun i => by
    have := heldOf_le (ps := List.replicate 200 (([] : Bytes), 0)) (n := 0) (fun x hx => by rw [(List.mem_replicate.1 hx).2]; exact Nat.le_refl _) i
    omega
  have hp : PlE (Eg.new speed [9, 9, 9, 9, 9, 9, 9, 9] (List.replicate 200 ([], 0))) 0 0 0 0 nl ns speed :=
    { good := none_good, ext := none_ext 0, rep0 := by show (0 : Int) ≤ 0; decide, rep1 := by show (0 : Int) ≤ 0; decide, chg0 := by show (0 : Int) ≤ 0; decide, cnt1 := by show Sch.none.cnt ≤ 0; decide
      led := { held := fun i => (hh i).trans rfl, sum := (holdsOf_zero 200).trans rfl, size := fun i hn => absurd (hh i) hn, r8 := rfl }
      speed := h, spd := rfl
      lost := fun y hy => by
        have : y = ⟨9, [], 0⟩ := by
          obtain ⟨b, hb, rfl⟩ := List.mem_map.1 hy
          simp at hb
          subst hb
          rfl
        rw [this]; exact Nat.le_refl _
      cnts := fun c m hm => by
        have := (List.mem_replicate.1 (List.mem_of_getElem? hm)).2
        omega
      nl := fun _ => ⟨fun x => (by cases x), fun _ => Int.le_refl _⟩
      ns := fun _ => ⟨rfl, rfl⟩ }
  exact hp.linked true (fun _ => ⟨rfl, rfl⟩)

end

end Go.Proofs.Ytimgmobmagpmlaa
