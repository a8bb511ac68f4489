/- Play's acts: what each does to a port. -/
import Derived.Test.YtimgmobmagpmlaaPlayD
namespace Go.Proofs.Ytimgmobmagpmlaa
open Go.RowKit

section
variable {w0 w w' : World} {F N : Nat → Prop} {L : Loc} {G : Geo} {yv : Value} {E : Eg} {P : Par} {n last : Int} {r j : Nat} {I : World → Int → Prop} {nl ns : Prop} {sp : Int}

/-! ## time goes on -/

theorem PlE.later (hp : PlE E n last r j nl ns sp) {m : Int} (h : n ≤ m) : PlE E m last r j nl ns sp :=
  { hp with
    ext := hp.ext.mono h
    nl := fun x => ⟨(hp.nl x).1, fun y => Int.le_trans ((hp.nl x).2 y) h⟩ }

theorem PlAt.later (h : PlAt w0 w F N L G yv E P n last r j I nl ns sp) (hI : ∀ v v' l, I v l → Keeps (fun k => w0.heap.size ≤ k) v v' → I v' l) {m : Int} (hm : n ≤ m) (hm2 : m ≤ 300000000) :
    PlAt w0 (w.setCell ⟨L.cn, 0, none⟩ (.int .i64 m)) F N L G yv E P m last r j I nl ns sp := by
  have hk := (Keeps.refl (fun k => k = L.cn) w).setCell (p := ⟨L.cn, 0, none⟩) (fun _ => rfl) (.int .i64 m)
  have hq : L.all L.cn := by simp [Loc.all]
  have d : ∀ {b : Nat} {cs : List Value} {T : TypeId}, Blk w b cs T → T ≠ 2 → ¬ b = L.cn := fun hb hT e => by
    rw [e] at hb
    exact hT (hb.inj h.bn)
  have nN : ∀ b, N b → ¬ b = L.cn := fun b hb e => by have := h.nlt b hb; have := h.newL _ hq; omega
  exact
    { eg := h.eg.keeps hk (fun k hk' e => hk' (by rw [e]; exact h.own _ hq))
      par := ⟨h.par.blk.keeps hk (d h.par.blk (by decide)), ⟨h.par.oper.1.keeps hk (fun b o e => nN b (h.po b o e)), h.par.oper.2⟩, ⟨h.par.admin.1.keeps hk (fun b o e => nN b (h.pa b o e)), h.par.admin.2⟩⟩
      bw := h.bw.keeps hk (d h.bw (by decide))
      bn := h.bn.set 0 _
      bp := h.bp.keeps hk (d h.bp (by decide))
      by_ := h.by_.keeps hk (d h.by_ (by decide))
      bf := h.bf.keeps hk (d h.bf (by decide))
      own := h.own, newL := h.newL, newG := h.newG
      keeps := h.keepsTo hk (fun k e => by rw [e]; exact h.newL _ hq)
      lt := h.lt, nlt := h.nlt, po := h.po, pa := h.pa
      alike := by have := h.alike.pass m; rw [Sch.pass_pass _ hm, Par.pass_pass _ hm] at this; exact this
      n0 := Int.le_trans h.n0 hm, n1 := hm2, pe := h.pe.later hm
      yi := hI _ _ _ h.yi (hk.mono (fun k e _ => by rw [e]; exact h.newL _ hq)) }

theorem wakes_fresh {t : Int} (hw : Wakes E n t) (hf : Fresh E n) (h0 : 0 ≤ n) : t < 0 ∨ n < t := by
  have hk : E.wk1 = -1 ∨ n < E.wk1 := by
    unfold Eg.wk1
    by_cases h : E.S.waits = true
    · rw [if_pos h]
      have := hf.1 h
      unfold earlier
      rw [if_pos ⟨by omega, .inl (by decide)⟩]
      exact .inr this
    · rw [if_neg h]; exact .inl rfl
  have he : ∀ x, (x < 0 ∨ n < x) → earlier E.wk1 x < 0 ∨ n < earlier E.wk1 x := fun x hx => by
    unfold earlier
    by_cases h : 0 ≤ x ∧ (E.wk1 < 0 ∨ x < E.wk1)
    · rw [if_pos h]; exact hx
    · rw [if_neg h]; omega
  cases hw with
  | busy hb => exact he _ (.inr (hf.2 hb))
  | down hb hu => omega
  | up hs hb hu hh =>
    have := wakeOf_cases n hs
    exact he _ (by omega)

/-! ## a frame comes -/

theorem freeP_held {ps : PSt} {k : Nat} (h : freeP ps = some k) : heldOf ps (k : Int) = 0 ∧ k < ps.length ∧ ∃ b, ps[k]? = some (b, 0) := by
  obtain ⟨⟨b, hb⟩, -⟩ := freeP_some h
  refine ⟨?_, (List.getElem?_eq_some_iff.1 hb).1, b, hb⟩
  unfold heldOf
  rw [if_pos (by omega), Int.toNat_natCast, hb]; rfl

/-- What comes of a frame that comes. -/
def Eg.comes (E : Eg) (cls : Int) (bs : Bytes) : Eg :=
  match freeP E.ps with
  | none => E
  | some k => { ({ E with ps := takeP E.ps bs } : Eg).pushed cls k with ps := dropP (({ E with ps := takeP E.ps bs } : Eg).pushed cls k).ps k }

theorem pushR_len (rs : List RSt) (c x : Int) : (pushR rs c x).length = rs.length := by
  unfold pushR
  split
  · rfl
  · split <;> rw [List.length_set]

theorem pushR_lost {rs : List RSt} (h8 : rs.length = 8) {m : Nat} (h : ∀ y ∈ rs, y.lost ≤ m) (c x : Int) : ∀ y ∈ pushR rs c x, y.lost ≤ m + 1 := by
  unfold pushR
  by_cases h1 : c < 0 ∨ 8 ≤ c
  · rw [if_pos h1]; intro y hy; have := h y hy; omega
  · rw [if_neg h1]
    have hm : rs.getD c.toNat ⟨0, [], 0⟩ ∈ rs := by
      rw [List.getD_eq_getElem?_getD, List.getElem?_eq_getElem (by omega)]
      exact List.getElem_mem _
    have h2 := h _ hm
    split
    · intro y hy
      rcases List.mem_or_eq_of_mem_set hy with hy | rfl
      · have := h y hy; omega
      · show (rs.getD c.toNat ⟨0, [], 0⟩).lost ≤ m + 1; omega
    · intro y hy
      rcases List.mem_or_eq_of_mem_set hy with hy | rfl
      · have := h y hy; omega
      · show (rs.getD c.toNat ⟨0, [], 0⟩).lost + 1 ≤ m + 1; omega

theorem pushR_cnt {rs : List RSt} (h8 : rs.length = 8) (c x i : Int) : cntR (pushR rs c x) i = cntR rs i + (if errR rs c = 0 ∧ x = i then 1 else 0) ∧ totalOf (pushR rs c x) = totalOf rs + (if errR rs c = 0 then 1 else 0) := by
  by_cases h1 : c < 0 ∨ 8 ≤ c
  · have e1 : pushR rs c x = rs := if_pos h1
    have e2 : errR rs c = 1 := if_pos h1
    rw [e1, e2]
    simp
  · obtain ⟨rr, hrr⟩ : ∃ rr, rr = rs.getD c.toNat ⟨0, [], 0⟩ := ⟨_, rfl⟩
    have hr : rs[c.toNat]? = some rr := by
      rw [hrr, List.getD_eq_getElem?_getD, List.getElem?_eq_getElem (by omega)]; rfl
    by_cases h2 : rr.q.length < rr.n
    · have e1 : pushR rs c x = rs.set c.toNat { rr with q := rr.q ++ [x] } := by unfold pushR; rw [if_neg h1, ← hrr, if_pos h2]
      have e2 : errR rs c = 0 := by unfold errR; rw [if_neg h1, ← hrr, if_pos h2]
      have a := cntR_set (s := { rr with q := rr.q ++ [x] }) hr i
      have b := totalOf_set (s := { rr with q := rr.q ++ [x] }) hr
      rw [e1, e2]
      simp only [List.count_append, List.length_append, List.length_cons, List.length_nil] at a b
      rw [if_pos rfl]
      refine ⟨?_, by omega⟩
      by_cases e : x = i
      · subst e
        rw [if_pos ⟨rfl, rfl⟩]
        rw [List.count_singleton_self] at a
        omega
      · rw [if_neg (fun h => e h.2)]
        have : [x].count i = 0 := by simp [e]
        omega
    · have e1 : pushR rs c x = rs.set c.toNat { rr with lost := rr.lost + 1 } := by unfold pushR; rw [if_neg h1, ← hrr, if_neg h2]
      have e2 : errR rs c = 20 := by unfold errR; rw [if_neg h1, ← hrr, if_neg h2]
      have a := cntR_set (s := { rr with lost := rr.lost + 1 }) hr i
      have b := totalOf_set (s := { rr with lost := rr.lost + 1 }) hr
      rw [e1, e2]
      simp only at a b
      rw [if_neg (fun h => by cases h.1), if_neg (by decide)]
      omega

theorem Led.comes (h : Led E) (cls : Int) {bs : Bytes} (h0 : 64 ≤ bs.length) (h1 : bs.length ≤ 1522) : Led (E.comes cls bs) := by
  unfold Eg.comes
  cases hf : freeP E.ps with
  | none => exact h
  | some k =>
    obtain ⟨hk0, hkl, b0, hkb⟩ := freeP_held hf
    simp only
    have ht : takeP E.ps bs = E.ps.set k (bs, 1) := by unfold takeP; rw [hf]
    rw [ht]
    obtain ⟨E1, hE1⟩ : ∃ E1, E1 = ({ E with ps := E.ps.set k (bs, 1) } : Eg) := ⟨_, rfl⟩
    rw [← hE1]
    have p1 : ∀ i, heldOf E1.ps i = if i = (k : Int) then 1 else heldOf E.ps i := fun i => by rw [hE1]; exact heldOf_set hkl (bs, 1) i
    have p2 : ∀ i, sizeP E1.ps i = if i = (k : Int) then (bs.length : Int) else sizeP E.ps i := fun i => by
      rw [hE1]
      have := sizeP_set hkl (bs, 1) i
      simpa using this
    have p3 : holdsOf E1.ps = holdsOf E.ps + 1 := by
      rw [hE1]
      have := holdsOf_set (y := (bs, 1)) hkb
      simp only at this
      exact by simpa using this
    have hc0 : cntR E.rs (k : Int) = 0 ∧ ¬ (E.busy = true ∧ E.id = (k : Int)) := by
      have := h.held k
      rw [hk0] at this
      by_cases e : E.busy = true ∧ E.id = (k : Int)
      · rw [if_pos e] at this; omega
      · rw [if_neg e] at this; exact ⟨by omega, e⟩
    have r1 : E1.rs = E.rs := by rw [hE1]
    have u1 : E1.up = E.up := by rw [hE1]
    have hb1 : E1.busy = E.busy := by rw [hE1]
    have hi1 : E1.id = E.id := by rw [hE1]
    have hsz : ¬ sizeP E1.ps (k : Int) = 0 := by rw [p2, if_pos rfl]; omega
    have key : ∀ (rs' : List RSt) (d : Nat), rs'.length = 8 → (∀ i, cntR rs' i = cntR E.rs i + (if d = 1 ∧ (k : Int) = i then 1 else 0)) → totalOf rs' = totalOf E.rs + d → d ≤ 1 →
        ∀ ps', (d = 1 → ps' = holdP E1.ps k) → (d = 0 → ps' = E1.ps) → ∀ E' : Eg, E'.rs = rs' → E'.busy = E.busy → E'.id = E.id → E'.ps = dropP ps' k → Led E' := by
      intro rs' d h8 hc ht hd ps' hp1 hp0 E' e1 e2 e3 e4
      have hh : ∀ i, heldOf ps' i = if i = (k : Int) then 1 + d else heldOf E.ps i := fun i => by
        rcases Nat.le_one_iff_eq_zero_or_eq_one.1 hd with rfl | rfl
        · rw [hp0 rfl, p1]
        · rw [hp1 rfl, heldOf_holdP, p1, if_pos rfl]
          by_cases e : i = (k : Int)
          · rw [if_pos ⟨e, by decide⟩, if_pos e]
          · rw [if_neg (fun x => e x.1), if_neg e, p1, if_neg e]
      have hs : ∀ i, sizeP ps' i = if i = (k : Int) then (bs.length : Int) else sizeP E.ps i := fun i => by
        rcases Nat.le_one_iff_eq_zero_or_eq_one.1 hd with rfl | rfl
        · rw [hp0 rfl, p2]
        · rw [hp1 rfl, sizeP_holdP, p2]
      have hsum : holdsOf ps' = holdsOf E.ps + 1 + d := by
        rcases Nat.le_one_iff_eq_zero_or_eq_one.1 hd with rfl | rfl
        · rw [hp0 rfl, p3]
        · rw [hp1 rfl, holdsOf_hold (by rw [p1, if_pos rfl]; decide), p3]
      have hdr := holdsOf_drop (ps := ps') (i := (k : Int)) (by rw [hh, if_pos rfl]; omega)
      exact
        { held := fun i => by
            rw [e1, e2, e3, e4, heldOf_dropP, hc, hh, if_pos rfl]
            by_cases e : i = (k : Int)
            · rw [if_pos e, e, hc0.1, if_neg hc0.2]
              rcases Nat.le_one_iff_eq_zero_or_eq_one.1 hd with rfl | rfl
              · rw [if_neg (fun x => by cases x.1)]
              · rw [if_pos ⟨rfl, rfl⟩]
            · rw [if_neg e, hh, if_neg e, if_neg (fun x => e x.2.symm), h.held]
              omega
          sum := by
            rw [e1, e2, e4, ht]
            have := h.sum
            omega
          size := fun i hn => by
            rw [e4] at hn ⊢
            rw [heldOf_dropP, hh, if_pos rfl] at hn
            by_cases e : i = (k : Int)
            · rw [if_pos e] at hn
              rw [sizeP_dropP _ _ _ (.inr (by rw [hh, if_pos rfl]; omega)), hs, if_pos e]
              omega
            · rw [if_neg e, hh, if_neg e] at hn
              rw [sizeP_dropP _ _ _ (.inl e), hs, if_neg e]
              exact h.size i hn
          r8 := by rw [e1]; exact h8 }
    by_cases hu : E1.up = false
    · have e : E1.pushed cls k = E1 := if_pos hu
      rw [e]
      exact key E.rs 0 h.r8 (fun i => by simp) (by simp) (by decide) E1.ps (fun x => by cases x) (fun _ => rfl) _ r1 hb1 hi1 rfl
    · have e : E1.pushed cls k = if errR E1.rs cls = 0 then { E1 with rs := pushR E1.rs cls k, ps := holdP E1.ps k } else { E1 with rs := pushR E1.rs cls k } := by
        unfold Eg.pushed; rw [if_neg hu, if_neg hsz]
      rw [e, r1]
      have hpc := fun i => pushR_cnt h.r8 cls (k : Int) i
      by_cases he : errR E.rs cls = 0
      · rw [if_pos he]
        exact key (pushR E.rs cls k) 1 (by rw [pushR_len]; exact h.r8) (fun i => by rw [(hpc i).1]; simp [he]) (by rw [(hpc 0).2, if_pos he]) (by decide) _ (fun _ => rfl) (fun x => by cases x) _ rfl hb1 hi1 rfl
      · rw [if_neg he]
        exact key (pushR E.rs cls k) 0 (by rw [pushR_len]; exact h.r8) (fun i => by rw [(hpc i).1]; simp [he]) (by rw [(hpc 0).2, if_neg he]) (by decide) _ (fun x => by cases x) (fun _ => rfl) _ rfl hb1 hi1 rfl

end

end Go.Proofs.Ytimgmobmagpmlaa
