/- A port without lists and shapers: what it does is told by its rows alone. A frame comes into the pool of a port; what is told of a port. One frame that is sent: the law's own example. One frame that is sent: the walk. -/
import Derived.Test.YtimgmobmagpmlaaLink2
namespace Go.Proofs.Ytimgmobmagpmlaa

section
open Go.RowKit

structure Plain (E : Eg) : Prop where
  S : E.S = Sch.none
  sh : E.shaped = false

theorem none_good : SchGood Sch.none := ⟨(fun h => by cases h), (fun h => by cases h)⟩
theorem none_ext (n : Int) : Ext Sch.none n := ⟨(fun h => by cases h), by decide, by decide⟩
theorem none_pass (n : Int) : Sch.none.pass n = Sch.none := if_neg (fun h => by cases h.1)

theorem opn_all : ∀ c : Fin 8, opn (wrap64 ((2 : Int) ^ c.val)) 255 = true := by decide +kernel

theorem fits_none {c : Nat} (hc : c < 8) {now need : Int} (h0 : 0 ≤ now) (hn : 1 ≤ need) : fitsOf Sch.none c now need = now := by
  obtain ⟨r, hr, hf⟩ := Fit.fits_ok (Sch.sys_ok none_good h0 (none_ext now)) (opn (wrap64 ((2 : Int) ^ c))) hn
  have hall : Fit.Fits (Sch.none.sys now) (opn (wrap64 ((2 : Int) ^ c))) need now := fun x _ _ => opn_all ⟨c, hc⟩
  have e : (Sch.none.sys now).now = now := rfl
  unfold fitsOf
  rw [show (Sch.none.sys now).fits (opn (wrap64 ((2 : Int) ^ c))) need now = some r from hr]
  show r = now
  rcases hf with ⟨h1, _, h3⟩ | ⟨h1, h3⟩
  · rw [e] at h1
    rcases Int.lt_or_le now r with h | h
    · exact absurd hall (h3 now (by rw [e]; exact Int.le_refl _) h)
    · omega
  · exact absurd hall (h3 now (by rw [e]; exact Int.le_refl _))

/-- The highest class below n in which something waits. -/
def topC (rs : List RSt) : Nat → Option Nat
  | 0 => none
  | c + 1 => if (rs.getD c ⟨0, [], 0⟩).q = [] then topC rs c else some c

def noneV : Value := .tuple #[sentV 0 0 0 0, .bool false]

def Eg.startP (E : Eg) (now : Int) : Value × Eg :=
  if E.up = false ∨ E.busy = true then (noneV, E)
  else match topC E.rs 8 with
    | none => (noneV, E)
    | some c => match (E.rs.getD c ⟨0, [], 0⟩).q with
      | [] => (noneV, E)
      | x :: q => (.tuple #[sentV c x now (now + timeOf (sizeP E.ps x) E.speed), .bool true], E.sends now c x q)

structure EgPl (E : Eg) (now : Int) : Prop where
  pl : Plain E
  ok : EgOk E now
  pos : ∀ r ∈ E.rs, ∀ x ∈ r.q, 0 < sizeP E.ps x
  r8 : E.rs.length = 8

theorem EgPl.get {E : Eg} {now : Int} (h : EgPl E now) {c : Nat} (hc : c < 8) : E.rs.getD c ⟨0, [], 0⟩ ∈ E.rs := by
  rw [List.getD_eq_getElem?_getD, List.getElem?_eq_getElem (by have := h.r8; omega)]
  exact List.getElem_mem _

theorem EgPl.head {E : Eg} {now : Int} (h : EgPl E now) {c : Nat} (hc : c < 8) {cr : Int} : headOf E now cr c = match (E.rs.getD c ⟨0, [], 0⟩).q with
    | [] => ⟨0, 0, 0⟩
    | x :: _ => ⟨sizeP E.ps x, now, cr⟩ := by
  have hm := h.get hc
  unfold headOf
  cases hq : (E.rs.getD c ⟨0, [], 0⟩).q with
  | nil => rfl
  | cons x q =>
    simp only
    obtain ⟨a, b, d⟩ := h.ok.has _ hm x (by rw [hq]; exact List.mem_cons_self)
    rw [h.pl.S, fits_none hc h.ok.n0 (by have := timeOf_range h.ok.speed b d; omega)]

theorem classGo_top {E : Eg} {now : Int} (h : EgPl E now) {hs : List Hd} (hh : HeadsIs E now hs) : ∀ n, n ≤ 8 → classGo hs now n = match topC E.rs n with | none => -1 | some c => (c : Int)
  | 0, _ => rfl
  | n + 1, hn => by
    have ih := classGo_top h hh n (by omega)
    obtain ⟨cr, c0, c1, c2, hx⟩ := hh.get (c := n) (by omega)
    have hx2 := hx.trans (h.head (c := n) (by omega))
    rw [c2 h.pl.sh] at hx2
    rw [classGo, topC]
    cases hq : (E.rs.getD n ⟨0, [], 0⟩).q with
    | nil =>
      rw [hq] at hx2
      simp only at hx2
      rw [hx2, if_neg (by simp [Hd.goes]), if_pos rfl]
      exact ih
    | cons x q =>
      rw [hq] at hx2
      simp only at hx2
      have hp := h.pos _ (h.get (by omega : n < 8)) x (by rw [hq]; exact List.mem_cons_self)
      have n0 := h.ok.n0
      rw [hx2, if_pos (by simp [Hd.goes, hp, n0]), if_neg (by simp)]

theorem topC_some {rs : List RSt} : ∀ {n c : Nat}, topC rs n = some c → c < n ∧ (rs.getD c ⟨0, [], 0⟩).q ≠ [] ∧ ∀ d, c < d → d < n → (rs.getD d ⟨0, [], 0⟩).q = []
  | 0, c, h => by cases h
  | n + 1, c, h => by
    rw [topC] at h
    by_cases e : (rs.getD n ⟨0, [], 0⟩).q = []
    · rw [if_pos e] at h
      obtain ⟨a, b, d⟩ := topC_some h
      refine ⟨by omega, b, fun x h1 h2 => ?_⟩
      by_cases hx : x = n
      · rw [hx]; exact e
      · exact d x h1 (by omega)
    · rw [if_neg e] at h
      injection h with h
      subst h
      exact ⟨by omega, e, fun x h1 h2 => by omega⟩

theorem starts_plain {E : Eg} {now : Int} (h : EgPl E now) {v : Value} {E' : Eg} (hs : Starts E now v E') : E.startP now = (v, E') := by
  unfold Eg.startP
  cases hs with
  | down hd => rw [if_pos hd]; rfl
  | none hs hu hb hh hc =>
    rw [if_neg (fun x => by rcases x with x | x <;> simp_all)]
    have := classGo_top h hh 8 (Nat.le_refl _)
    cases ht : topC E.rs 8 with
    | none => rfl
    | some c => rw [ht] at this; simp only at this; omega
  | goes hs c x q hu hb hh hc hc8 hq =>
    rw [if_neg (fun x => by rcases x with x | x <;> simp_all)]
    have := classGo_top h hh 8 (Nat.le_refl _)
    cases ht : topC E.rs 8 with
    | none => rw [ht] at this; simp only at this; omega
    | some d =>
      rw [ht] at this
      simp only at this
      obtain rfl : d = c := by omega
      simp only
      rw [hq]

def Eg.wakeP (E : Eg) : Int := if E.busy = true then earlier (-1) E.till else -1

theorem wakeOf_plain {E : Eg} {now : Int} (h : EgPl E now) {hs : List Hd} (hh : HeadsIs E now hs) : wakeOf now hs = -1 := by
  have gen : ∀ l : List Hd, (∀ x ∈ l, x.sz = 0 ∨ (x.fits = now ∧ x.cr = 0)) → l.foldl (wakeStep now) (-1) = -1 := by
    intro l
    induction l with
    | nil => intro _; rfl
    | cons x l ih =>
      intro hl
      rw [List.foldl_cons]
      have hx := hl x List.mem_cons_self
      have n0 := h.ok.n0
      have e : wakeStep now (-1) x = -1 := by
        unfold wakeStep
        rcases hx with hx | ⟨h1, h2⟩
        · rw [if_pos (.inl hx)]
        · by_cases h3 : x.sz = 0 ∨ x.fits < 0
          · rw [if_pos h3]
          · rw [if_neg h3, h1, h2]
            simp only
            rw [if_pos n0, if_neg (fun h => by omega)]
      rw [e]
      exact ih (fun y hy => hl y (List.mem_cons_of_mem _ hy))
  refine gen hs fun x hx => ?_
  obtain ⟨c, hc⟩ := List.getElem?_of_mem hx
  have hc8 : c < 8 := by have := (List.getElem?_eq_some_iff.1 hc).1; have := hh.1; omega
  obtain ⟨cr, c0, c1, c2, rfl⟩ := hh.2 c x hc
  rw [h.head hc8, c2 h.pl.sh]
  cases hq : (E.rs.getD c ⟨0, [], 0⟩).q with
  | nil => exact .inl rfl
  | cons x q => exact .inr ⟨rfl, rfl⟩

theorem wakes_plain {E : Eg} {now : Int} (h : EgPl E now) {t : Int} (hw : Wakes E now t) : t = E.wakeP := by
  have hk : E.wk1 = -1 := by unfold Eg.wk1; rw [h.pl.S]; rfl
  unfold Eg.wakeP
  cases hw with
  | busy hb => rw [if_pos hb, hk]
  | down hb hu => rw [if_neg (by rw [hb]; decide), hk]
  | up hs hb hu hh => rw [if_neg (by rw [hb]; decide), hk, wakeOf_plain h hh]; rfl
end

section
open Go.RowKit

theorem PoolAt.mono {w : World} {p : Nat} {F G : Nat → Prop} {ps : PSt} (h : PoolAt w p F ps) (hG : ∀ k, F k → G k) (hl : ∀ k, G k → k < w.heap.size) : PoolAt w p G ps := by
  obtain ⟨q, cs, h⟩ := h
  exact ⟨q, cs, hG _ h.fp, hG _ h.fq, hl, h.many, h.head, h.row, h.size, h.holds, fun i bs k hi => by
    obtain ⟨v, hv, ho⟩ := h.bytes i bs k hi
    exact ⟨v, hv, ho.mono hG⟩⟩

open Classical in
noncomputable def Geo.take (G : Geo) (n : Nat) (F : Nat → Prop) : Geo := { G with own := fun k => if k < n then G.own k else if F k then 4 else 0 }

theorem EgIn.take {w w' : World} {G : Geo} {E : Eg} (h : EgIn w G E) {F : Nat → Prop} {ps : PSt} (hP : PoolAt w' G.pp F ps) (hF : ∀ x, F x → G.own x = 4 ∨ w.heap.size ≤ x) (hk : Keeps (fun x => G.own x = 4) w w') :
    Went w G { E with ps := ps } w' (G.take w.heap.size F) := by
  have old : ∀ k, k < w.heap.size → (G.take w.heap.size F).own k = G.own k := fun k hk => if_pos hk
  have hold : ∀ k, G.own k ≠ 0 → (G.take w.heap.size F).own k = G.own k := fun k hk => old k (h.lt k hk)
  have new : ∀ k, w.heap.size ≤ k → (G.take w.heap.size F).own k ≠ 0 → F k ∧ (G.take w.heap.size F).own k = 4 := fun k hk hn => by
    unfold Geo.take at hn ⊢
    simp only at hn ⊢
    rw [if_neg (by omega)] at hn ⊢
    by_cases e : F k
    · exact ⟨e, if_pos e⟩
    · rw [if_neg e] at hn; exact absurd rfl hn
  have hlt : ∀ k, F k → k < w'.heap.size := by obtain ⟨_, _, hI⟩ := hP; exact hI.lt
  refine ⟨?_, ⟨rfl, rfl, rfl, rfl, old⟩, hk.mono (fun x hx _ => own_T (by decide) (by decide) x hx)⟩
  exact
    { blk := h.blk.keeps hk (by rw [h.op]; decide)
      sched := ⟨h.sched.blk.keeps hk (by rw [h.os]; decide), ⟨h.sched.oper.1.keeps hk (fun b o e => by rw [h.lo b o e]; decide), h.sched.oper.2⟩, ⟨h.sched.admin.1.keeps hk (fun b o e => by rw [h.la b o e]; decide), h.sched.admin.2⟩⟩
      ring := by
        have e : (fun k => (G.take w.heap.size F).own k = 3) = (fun k => G.own k = 3) := funext fun k => propext (by
          by_cases hk : k < w.heap.size
          · rw [old k hk]
          · refine ⟨fun h3 => ?_, fun h3 => absurd (h.lt k (by rw [h3]; decide)) hk⟩
            have := (new k (by omega) (by rw [h3]; decide)).2
            omega)
        show RingAt w' G.rp _ E.rs
        rw [e]
        exact h.ring.keeps hk (fun x hx => by rw [hx]; decide)
      pool := hP.mono (fun k hk => by
          by_cases hl : k < w.heap.size
          · rw [old k hl]; rcases hF k hk with h4 | h4
            · exact h4
            · omega
          · unfold Geo.take
            simp only
            rw [if_neg hl, if_pos hk]) (fun k h4 => by
          by_cases hl : k < w.heap.size
          · exact Nat.lt_of_lt_of_le hl hk.size
          · exact hlt k (new k (by omega) (by rw [h4]; decide)).1)
      sh := fun d x hd hx => ⟨(h.sh d x hd hx).1.keeps hk (by rw [(h.sh d x hd hx).2]; decide), by rw [hold _ (by rw [(h.sh d x hd hx).2]; decide)]; exact (h.sh d x hd hx).2⟩
      op := by rw [show (G.take w.heap.size F).p = G.p from rfl, hold _ (by rw [h.op]; decide)]; exact h.op
      os := by rw [show (G.take w.heap.size F).sp = G.sp from rfl, hold _ (by rw [h.os]; decide)]; exact h.os
      lo := fun b o e => by rw [hold _ (by rw [h.lo b o e]; decide)]; exact h.lo b o e
      la := fun b o e => by rw [hold _ (by rw [h.la b o e]; decide)]; exact h.la b o e
      lt := fun k hn => by
        by_cases hl : k < w.heap.size
        · exact Nat.lt_of_lt_of_le hl hk.size
        · exact hlt k (new k (by omega) hn).1
      none := h.none
      cnt8 := h.cnt8 }

/-- The lowest place that is free. -/
def freeP : PSt → Option Nat
  | [] => Option.none
  | x :: ps => if x.2 = 0 then some 0 else (freeP ps).map (· + 1)

theorem freeP_some : ∀ {ps : PSt} {k : Nat}, freeP ps = some k → (∃ b, ps[k]? = some (b, 0)) ∧ ∀ j x, j < k → ps[j]? = some x → 0 < x.2
  | [], k, h => by cases h
  | x :: ps, k, h => by
    rw [freeP] at h
    by_cases e : x.2 = 0
    · rw [if_pos e] at h
      injection h with h
      subst h
      exact ⟨⟨x.1, by obtain ⟨x1, x2⟩ := x; simp only at e; subst e; rfl⟩, fun j y hj => by omega⟩
    · rw [if_neg e] at h
      cases hf : freeP ps with
      | none => rw [hf] at h; cases h
      | some m =>
        rw [hf] at h
        have h : m + 1 = k := by simpa using h
        subst h
        obtain ⟨⟨b, h1⟩, h2⟩ := freeP_some hf
        refine ⟨⟨b, by simpa using h1⟩, fun j y hj hy => ?_⟩
        rcases j with _ | j
        · simp at hy; subst hy; omega
        · exact h2 j y (by omega) (by simpa using hy)

theorem freeP_none : ∀ {ps : PSt}, freeP ps = Option.none → usedOf ps = ps.length
  | [], _ => rfl
  | x :: ps, h => by
    rw [freeP] at h
    by_cases e : x.2 = 0
    · rw [if_pos e] at h; cases h
    · rw [if_neg e] at h
      cases hf : freeP ps with
      | none =>
        have := freeP_none hf
        unfold usedOf at this ⊢
        rw [List.countP_cons, this, if_pos (by simp; omega)]
        rfl
      | some m => rw [hf] at h; cases h

def takeV (ps : PSt) : Value := match freeP ps with | Option.none => .tuple #[.int .i64 0, .int .i64 20] | some k => .tuple #[.int .i64 (k : Nat), .int .i64 0]
def takeP (ps : PSt) (bs : Bytes) : PSt := match freeP ps with | Option.none => ps | some k => ps.set k (bs, 1)

def TakeDid (w : World) (G : Geo) (v : Value) (E' : Eg) (e : Ending) (w' : World) : Prop := e = .returned v ∧ ∃ G', Went w G E' w' G'

theorem take_eg {w : World} {G : Geo} {E : Eg} (h : EgIn w G E) (bs : Bytes) (ad : Addr) (c : Nat) (hne : 0 < bs.length) (hlen : bs.length ≤ 140737488355328) (hr : ∀ j u, (bcells bs)[j]? = some u → w.cell? (ad.add j) = some u) :
    Calls Try.prog 12 #[.pointer (some ⟨G.pp, 0, none⟩), .slice (some ad) bs.length c] w (TakeDid w G (takeV E.ps) { E with ps := takeP E.ps bs }) := by
  unfold takeV takeP
  cases hf : freeP E.ps with
  | none => exact (take_full h.pool _ (freeP_none hf)).mono fun e w' ⟨a, b⟩ => ⟨a, G, (Went.refl h).same b⟩
  | some k =>
    obtain ⟨⟨b0, h1⟩, h2⟩ := freeP_some hf
    exact (take_free h.pool k b0 bs ad c h1 h2 hne hlen hr).mono fun e w' ⟨a, F', h3, h4, h5⟩ => ⟨a, _, h.take h3 h4 h5⟩

/-! ## what is told of a port -/

def Tells (v : Value) (w : World) (e : Ending) (w' : World) : Prop := e = .returned v ∧ Keeps Nothing w w'

theorem busy_ok {w : World} {G : Geo} {E : Eg} (h : EgIn w G E) : Calls Try.prog 27 #[.pointer (some ⟨G.p, 0, none⟩)] w (Tells (.bool E.busy) w) := by
  have b13 : w.cell? ⟨G.p, 13, none⟩ = some (.bool E.busy) := h.blk.cell 13
  clear h
  go_enter Try.func27, Try.ntmps27
  go_wp2
  go_ret
  exact ⟨rfl, Keeps.refl _ _⟩

theorem speed_ok {w : World} {G : Geo} {E : Eg} (h : EgIn w G E) : Calls Try.prog 34 #[.pointer (some ⟨G.p, 0, none⟩)] w (Tells (.int .i64 E.speed) w) := by
  have b11 : w.cell? ⟨G.p, 11, none⟩ = some (.int .i64 E.speed) := h.blk.cell 11
  clear h
  go_enter Try.func34, Try.ntmps34
  go_wp2
  go_ret
  exact ⟨rfl, Keeps.refl _ _⟩

theorem up_ok {w : World} {G : Geo} {E : Eg} (h : EgIn w G E) : Calls Try.prog 35 #[.pointer (some ⟨G.p, 0, none⟩)] w (Tells (.bool E.up) w) := by
  have b12 : w.cell? ⟨G.p, 12, none⟩ = some (.bool E.up) := h.blk.cell 12
  clear h
  go_enter Try.func35, Try.ntmps35
  go_wp2
  go_ret
  exact ⟨rfl, Keeps.refl _ _⟩

theorem waiting_ok {w : World} {G : Geo} {E : Eg} (h : EgIn w G E) : Calls Try.prog 33 #[.pointer (some ⟨G.p, 0, none⟩)] w (Tells (.int .i64 (totalOf E.rs : Nat)) w) := by
  have b1 : w.cell? ⟨G.p, 1, none⟩ = some (.pointer (some ⟨G.rp, 0, none⟩)) := h.blk.cell 1
  have C := all_any h.ring
  clear h
  go_enter Try.func33, Try.ntmps33
  go_wp2_with (go_at_call 64; refine C.mono ?_; rintro e w1 ⟨rfl, rfl⟩; clear C)
  go_ret
  exact ⟨rfl, Keeps.refl _ _⟩

theorem lost_ok {w : World} {G : Geo} {E : Eg} (h : EgIn w G E) (c : Nat) (hc : c < 8) : Calls Try.prog 32 #[.pointer (some ⟨G.p, 0, none⟩), .int .i64 c] w (Tells (.int .i64 ((E.rs.getD c ⟨0, [], 0⟩).lost : Nat)) w) := by
  have b1 : w.cell? ⟨G.p, 1, none⟩ = some (.pointer (some ⟨G.rp, 0, none⟩)) := h.blk.cell 1
  obtain ⟨r, hr⟩ : ∃ r, E.rs[c]? = some r := ⟨_, List.getElem?_eq_getElem (by obtain ⟨_, _, _, _, hR⟩ := h.ring; have := hR.eight; omega)⟩
  have C := lost_in h.ring c r hr
  have e : E.rs.getD c ⟨0, [], 0⟩ = r := by rw [List.getD_eq_getElem?_getD, hr]; rfl
  rw [e]
  clear h hr e
  go_enter Try.func32, Try.ntmps32
  go_wp2_with (go_at_call 63; refine C.mono ?_; rintro e w1 ⟨rfl, rfl⟩; clear C)
  go_ret
  exact ⟨rfl, Keeps.refl _ _⟩

def RowDid (w : World) (q : List Int) (e : Ending) (w' : World) : Prop := ∃ A c, e = .returned (.slice A q.length c) ∧ Keeps Nothing w w'

theorem row_ok {w : World} {G : Geo} {E : Eg} (h : EgIn w G E) (c : Nat) (hc : c < 8) : Calls Try.prog 29 #[.pointer (some ⟨G.p, 0, none⟩), .int .i64 c] w (RowDid w (E.rs.getD c ⟨0, [], 0⟩).q) := by
  have b1 : w.cell? ⟨G.p, 1, none⟩ = some (.pointer (some ⟨G.rp, 0, none⟩)) := h.blk.cell 1
  obtain ⟨r, hr⟩ : ∃ r, E.rs[c]? = some r := ⟨_, List.getElem?_eq_getElem (by obtain ⟨_, _, _, _, hR⟩ := h.ring; have := hR.eight; omega)⟩
  have C := list_in h.ring c r hr
  have e : E.rs.getD c ⟨0, [], 0⟩ = r := by rw [List.getD_eq_getElem?_getD, hr]; rfl
  rw [e]
  clear h hr e
  go_enter Try.func29, Try.ntmps29
  go_wp2_with (go_at_call 60; refine C.mono ?_; rintro e w1 ⟨g, cap, rfl, ho, hk⟩; clear C)
  go_ret
  exact ⟨_, _, rfl, hk⟩

def sendsV (cnt : List Int) : Value := .agg (cnt.map (Value.int .i64)).toArray

set_option maxRecDepth 100000 in
theorem sends_eg {w : World} {G : Geo} {E : Eg} (h : EgIn w G E) : Calls Try.prog 19 #[.pointer (some ⟨G.p, 0, none⟩)] w (Tells (sendsV E.cnt) w) := by
  have h8 := h.cnt8
  have hb := h.blk
  obtain ⟨S, rs, ps, shaped, speed, up, busy, cls, id, frm, till, cnt⟩ := E
  simp only at h8
  obtain ⟨c0, cnt, rfl⟩ := List.exists_cons_of_length_pos (l := cnt) (by omega)
  obtain ⟨c1, cnt, rfl⟩ := List.exists_cons_of_length_pos (l := cnt) (by simp at h8; omega)
  obtain ⟨c2, cnt, rfl⟩ := List.exists_cons_of_length_pos (l := cnt) (by simp at h8; omega)
  obtain ⟨c3, cnt, rfl⟩ := List.exists_cons_of_length_pos (l := cnt) (by simp at h8; omega)
  obtain ⟨c4, cnt, rfl⟩ := List.exists_cons_of_length_pos (l := cnt) (by simp at h8; omega)
  obtain ⟨c5, cnt, rfl⟩ := List.exists_cons_of_length_pos (l := cnt) (by simp at h8; omega)
  obtain ⟨c6, cnt, rfl⟩ := List.exists_cons_of_length_pos (l := cnt) (by simp at h8; omega)
  obtain ⟨c7, cnt, rfl⟩ := List.exists_cons_of_length_pos (l := cnt) (by simp at h8; omega)
  obtain rfl : cnt = [] := (by simpa using h8)
  have HK := Lib.hid ((Keeps.refl Nothing w).alloc (.cells #[.int .i64 0, .int .i64 0, .int .i64 0, .int .i64 0, .int .i64 0, .int .i64 0, .int .i64 0, .int .i64 0] 30))
  have HB1 := Lib.hid (Blk.new w [.int .i64 0, .int .i64 0, .int .i64 0, .int .i64 0, .int .i64 0, .int .i64 0, .int .i64 0, .int .i64 0] 30)
  have hb1 := hb.alloc (.cells #[.int .i64 0, .int .i64 0, .int .i64 0, .int .i64 0, .int .i64 0, .int .i64 0, .int .i64 0, .int .i64 0] 30)
  have p18 := hb1.cell 18
  have p19 := hb1.cell 19
  have p20 := hb1.cell 20
  have p21 := hb1.cell 21
  have p22 := hb1.cell 22
  have p23 := hb1.cell 23
  have p24 := hb1.cell 24
  have p25 := hb1.cell 25
  change _ = some (Value.int .i64 c0) at p18
  change _ = some (Value.int .i64 c1) at p19
  change _ = some (Value.int .i64 c2) at p20
  change _ = some (Value.int .i64 c3) at p21
  change _ = some (Value.int .i64 c4) at p22
  change _ = some (Value.int .i64 c5) at p23
  change _ = some (Value.int .i64 c6) at p24
  change _ = some (Value.int .i64 c7) at p25
  clear h hb hb1 h8
  go_enter Try.func19, Try.ntmps19
  go_upto_region 1 with fail
  generalize (w.alloc (.cells #[.int .i64 0, .int .i64 0, .int .i64 0, .int .i64 0, .int .i64 0, .int .i64 0, .int .i64 0, .int .i64 0] 30)) = w1 at *
  have hi30 : (Try.prog.info? 30).map (·.size) = some (#[Value.int .i64 c0, .int .i64 c1, .int .i64 c2, .int .i64 c3, .int .i64 c4, .int .i64 c5, .int .i64 c6, .int .i64 c7] : Array Value).size := by kernel_rfl
  have HI := Lib.hid hi30
  clear hi30
  have HO : Hid ((#[Value.int .i64 c0, .int .i64 c1, .int .i64 c2, .int .i64 c3, .int .i64 c4, .int .i64 c5, .int .i64 c6, .int .i64 c7] : Array Value).all (·.oneCell') = true) := by
    show (#[Value.int .i64 c0, .int .i64 c1, .int .i64 c2, .int .i64 c3, .int .i64 c4, .int .i64 c5, .int .i64 c6, .int .i64 c7] : Array Value).all (·.oneCell') = true
    simp [Value.oneCell']
  go_wp2_with (refine wpList_store_row rfl 30 (.tmp 2) (.tmp 6) rfl w.heap.size #[.int .i64 c0, .int .i64 c1, .int .i64 c2, .int .i64 c3, .int .i64 c4, .int .i64 c5, .int .i64 c6, .int .i64 c7] rfl rfl 30 #[.int .i64 0, .int .i64 0, .int .i64 0, .int .i64 0, .int .i64 0, .int .i64 0, .int .i64 0, .int .i64 0] HB1.out HI.out rfl HO.out ?_)
  refine bodyPost_ret (results_cell_row rfl _ _ w.heap.size 30 #[.int .i64 c0, .int .i64 c1, .int .i64 c2, .int .i64 c3, .int .i64 c4, .int .i64 c5, .int .i64 c6, .int .i64 c7] (0, 0) _ rfl (setRow_blk (cs' := [.int .i64 c0, .int .i64 c1, .int .i64 c2, .int .i64 c3, .int .i64 c4, .int .i64 c5, .int .i64 c6, .int .i64 c7]) HB1.out) Try.underlying30 rfl HI.out) rfl ?_
  exact ⟨rfl, HK.out.up (setRow_keeps _ _ _) (fun x hx => by omega)⟩
end

section
open Go.RowKit

def okB (E : Eg) : Bool :=
  (decide (E.speed = 10) || decide (E.speed = 100) || decide (E.speed = 1000) || decide (E.speed = 10000)) &&
  (E.rs.all fun r => r.q.all fun x => decide (0 < heldOf E.ps x) && decide (0 < sizeP E.ps x) && decide (sizeP E.ps x ≤ 1522)) &&
  (E.cnt.all fun n => decide (0 ≤ n) && decide (n ≤ 1000000000)) && (E.ps.all fun x => decide (x.2 ≤ 1000000000)) && (E.rs.all fun r => decide (r.lost ≤ 1000000000)) && decide (E.rs.length = 8)

theorem heldOf_le {ps : PSt} {n : Nat} (h : ∀ x ∈ ps, x.2 ≤ n) (i : Int) : heldOf ps i ≤ n := by
  rcases Nat.eq_zero_or_pos (heldOf ps i) with h0 | h0
  · omega
  · obtain ⟨j, bs, k, -, hj, -, hh, -⟩ := heldOf_some (by omega : heldOf ps i ≠ 0)
    rw [hh]
    exact h _ (List.mem_of_getElem? hj)

theorem EgPl.of {E : Eg} (hS : E.S = Sch.none) (hsh : E.shaped = false) (hb : okB E = true) {now : Int} (h0 : 0 ≤ now) (h1 : now ≤ 1000000000000000) : EgPl E now := by
  unfold okB at hb
  simp only [Bool.and_eq_true, List.all_eq_true, decide_eq_true_eq, Bool.or_eq_true] at hb
  obtain ⟨⟨⟨⟨⟨a, b⟩, c⟩, d⟩, e⟩, f⟩ := hb
  exact
    { pl := ⟨hS, hsh⟩
      ok :=
        { speed := by unfold SpeedOk; omega
          has := fun r hr x hx => by obtain ⟨⟨h1, h2⟩, h3⟩ := b r hr x hx; exact ⟨h1, by omega, h3⟩
          good := by rw [hS]; exact none_good
          ext := by rw [hS]; exact none_ext now
          n0 := h0, n1 := h1
          chg0 := by rw [hS]; decide
          chg1 := by rw [hS]; decide
          cnts := fun c' n hn => c n (List.mem_of_getElem? hn)
          held := heldOf_le d
          lost := e }
      pos := fun r hr x hx => (b r hr x hx).1.2
      r8 := f }

/-- A port's call whose answer and doing are told. -/
def PDid (w : World) (G : Geo) (v : Value) (E' : Eg) (e : Ending) (w' : World) : Prop := e = .returned v ∧ Went w G E' w' G

theorem start_plain {w : World} {G : Geo} {E : Eg} (h : EgIn w G E) {now : Int} (hp : EgPl E now) {v : Value} {E' : Eg} (hs : E.startP now = (v, E')) :
    Calls Try.prog 15 #[.pointer (some ⟨G.p, 0, none⟩), .int .i64 now] w (PDid w G v E') :=
  (start_ok h hp.ok (Int.le_refl _) hp.ok.n1).mono fun e w' ⟨v', E'', a, b, c⟩ => by
    have e1 : E.passed now = E := by
      have := hp.pl.S
      obtain ⟨S, rs, ps, shaped, speed, up, busy, cls, id, frm, till, cnt⟩ := E
      simp only at this
      subst this
      show ({ S := Sch.none.pass now, .. } : Eg) = _
      rw [none_pass]
    rw [e1] at b
    have := (starts_plain hp b).symm.trans hs
    injection this with h1 h2
    subst h1 h2
    exact ⟨a, c⟩

theorem wake_plain {w : World} {G : Geo} {E : Eg} (h : EgIn w G E) {now : Int} (hp : EgPl E now) {t : Int} (ht : E.wakeP = t) :
    Calls Try.prog 20 #[.pointer (some ⟨G.p, 0, none⟩), .int .i64 now] w (PDid w G (.int .i64 t) E) :=
  (wake_ok h hp.ok).mono fun e w' ⟨t', a, b, c⟩ => by
    rw [wakes_plain hp b, ht] at a
    exact ⟨a, c⟩

theorem push_plain {w : World} {G : Geo} {E : Eg} (h : EgIn w G E) {now t : Int} (hp : EgPl E t) (hn : now ≤ 1000000000000000) {c id v : Int} {E' : Eg} (hv : E.pushErr c id = v) (hE : E.pushed c id = E') :
    Calls Try.prog 13 #[.pointer (some ⟨G.p, 0, none⟩), .int .i64 c, .int .i64 id, .int .i64 now] w (PDid w G (.int .i64 v) E') := by
  rw [← hv, ← hE]
  exact push_eg h hp.ok.held hp.ok.lost c id now hn

theorem link_plain {w : World} {G : Geo} {E : Eg} (h : EgIn w G E) {now t : Int} (hp : EgPl E t) (hn : now ≤ 1000000000000000) {up : Bool} {v : Int} {E' : Eg} (hv : E.linkN up = v) (hE : E.linked up = E') :
    Calls Try.prog 11 #[.pointer (some ⟨G.p, 0, none⟩), .bool up, .int .i64 now] w (PDid w G (.int .i64 v) E') := by
  rw [← hv, ← hE]
  exact link_ok h hp.ok.held up now hn

def Eg.endP (E : Eg) (now : Int) : Value × Eg := if E.busy = true ∧ E.till ≤ now then (.tuple #[sentV E.cls E.id E.frm E.till, .bool true], E.ended) else (noneV, E)

theorem end_plain {w : World} {G : Geo} {E : Eg} (h : EgIn w G E) {now t : Int} (hp : EgPl E t) (hn : now ≤ 1000000000000000) {v : Value} {E' : Eg} (hv : E.endP now = (v, E')) :
    Calls Try.prog 17 #[.pointer (some ⟨G.p, 0, none⟩), .int .i64 now] w (PDid w G v E') :=
  (end_ok h hp.ok.held now hn).mono fun e w' hx => by
    unfold Eg.endP at hv
    rcases hx with ⟨h1, h2, h3, h4⟩ | ⟨h1, h3, h4⟩
    · rw [if_pos ⟨h1, h2⟩] at hv
      injection hv with hv hE
      subst hv hE
      exact ⟨h3, h4⟩
    · rw [if_neg (fun x => by rcases h1 with h1 | h1 <;> simp_all <;> omega)] at hv
      injection hv with hv hE
      subst hv hE
      exact ⟨h3, h4⟩

set_option maxRecDepth 100000 in
theorem shape_out {w : World} {G : Geo} {E : Eg} (h : EgIn w G E) (c idle now : Int) (hc : 8 ≤ c) :
    Calls Try.prog 36 #[.pointer (some ⟨G.p, 0, none⟩), .int .i64 c, .int .i64 idle, .int .i64 now] w (PDid w G (.int .i64 1) E) := by
  have HE := Lib.hid h
  have h1' : decide (c < 0) = false := by simp; omega
  clear h
  go_enter Try.func36, Try.ntmps36
  go_wp2_with fail
  go_ret
  exact ⟨rfl, Went.refl HE.out⟩

theorem holds_eg {w : World} {G : Geo} {E : Eg} (h : EgIn w G E) {n : Nat} (hn : holdsOf E.ps = n) (hb : n ≤ 1000000000000) :
    Calls Try.prog 31 #[.pointer (some ⟨G.pp, 0, none⟩)] w (Tells (.int .i64 (n : Nat)) w) := by
  subst hn
  exact (holds_any h.pool hb).mono fun e w' ⟨a, b, c⟩ => ⟨a, c⟩

def z64 : Bytes := List.replicate 64 0
def x0 : Eg := Eg.new 1000 [0, 2, 0, 0, 0, 0, 0, 0] (List.replicate 4 ([], 0))
def x1 : Eg := { x0 with ps := takeP x0.ps z64 }
def x2 : Eg := x1.linked true
def x3 : Eg := x2.pushed 1 0
def x4 : Eg := x3.pushed 0 0
def x5 : Eg := (x4.startP 5).2
def x6 : Eg := x5.ended

theorem x1_pl : EgPl x1 0 := EgPl.of rfl rfl (by kernel_rfl) (by decide) (by decide)
theorem x2_pl : EgPl x2 0 := EgPl.of (by kernel_rfl) (by kernel_rfl) (by kernel_rfl) (by decide) (by decide)
theorem x3_pl : EgPl x3 0 := EgPl.of (by kernel_rfl) (by kernel_rfl) (by kernel_rfl) (by decide) (by decide)
theorem x4_pl : EgPl x4 5 := EgPl.of (by kernel_rfl) (by kernel_rfl) (by kernel_rfl) (by decide) (by decide)
theorem x5_pl : EgPl x5 6 := EgPl.of (by kernel_rfl) (by kernel_rfl) (by kernel_rfl) (by decide) (by decide)
theorem x6_pl : EgPl x6 677 := EgPl.of (by kernel_rfl) (by kernel_rfl) (by kernel_rfl) (by decide) (by decide)

theorem sends_vals : takeV x0.ps = .tuple #[.int .i64 0, .int .i64 0] ∧ x1.pushErr 1 0 = 23 ∧ x1.pushed 1 0 = x1 ∧ x1.linkN true = 0 ∧ x2.pushErr 1 0 = 0 ∧ x3.pushErr 0 0 = 20 ∧ x4.pushErr 1 3 = 21 ∧ x4.pushed 1 3 = x4 := by
  refine ⟨?_, ?_, ?_, ?_, ?_, ?_, ?_, ?_⟩ <;> kernel_rfl

theorem sends_vals2 : x4.startP 5 = (.tuple #[.agg #[.int .i64 1, .int .i64 0, .int .i64 5, .int .i64 677], .bool true], x5) ∧ x5.startP 6 = (.tuple #[.agg #[.int .i64 0, .int .i64 0, .int .i64 0, .int .i64 0], .bool false], x5) ∧ x5.endP 676 = (.tuple #[.agg #[.int .i64 0, .int .i64 0, .int .i64 0, .int .i64 0], .bool false], x5) ∧ x5.endP 677 = (.tuple #[.agg #[.int .i64 1, .int .i64 0, .int .i64 5, .int .i64 677], .bool true], x6) ∧ x5.wakeP = 677 ∧ x6.wakeP = -1 ∧ holdsOf x5.ps = 2 ∧ holdsOf x6.ps = 1 ∧ x5.busy = true := by
  refine ⟨?_, ?_, ?_, ?_, ?_, ?_, ?_, ?_, ?_⟩ <;> kernel_rfl

theorem sends_vals3 : x6.cnt = [0, 1, 0, 0, 0, 0, 0, 0] ∧ (x6.rs.getD 0 ⟨0, [], 0⟩).lost = 1 ∧ totalOf x6.rs = 0 ∧ x6.speed = 1000 ∧ x6.up = true ∧ (x6.rs.getD 1 ⟨0, [], 0⟩).q = [] := by
  refine ⟨?_, ?_, ?_, ?_, ?_, ?_⟩ <;> kernel_rfl
end

section
open Go.RowKit

/-- A port that the call itself made. -/
structure Run (w0 w : World) (G : Geo) (E : Eg) : Prop where
  at_ : EgIn w G E
  keeps : Keeps Nothing w0 w
  new : ∀ k, G.own k ≠ 0 → w0.heap.size ≤ k

theorem Run.went {w0 w w' : World} {G G' : Geo} {E E' : Eg} (h : Run w0 w G E) (hw : Went w G E' w' G') : Run w0 w' G' E' where
  at_ := hw.at_
  keeps := h.keeps.up hw.keeps (fun x hx => h.new x hx.1)
  new := fun k hk => by
    by_cases hl : k < w.heap.size
    · exact h.new k (by rw [← hw.ext.own k hl]; exact hk)
    · have := h.keeps.size; omega

theorem Run.same {w0 w w' : World} {G : Geo} {E : Eg} (h : Run w0 w G E) (hk : Keeps Nothing w w') : Run w0 w' G E := ⟨h.at_.same hk, h.keeps.same hk, h.new⟩

theorem Run.start {w0 w1 w2 : World} {pp : Nat} {F : Nat → Prop} {E : Eg} {G : Geo} (hk : Keeps Nothing w0 w1) (hF : ∀ x, F x → w0.heap.size ≤ x) (hE : EgIn w2 G E) (h1 : ∀ k, k < w1.heap.size → G.own k ≠ 0 → F k) (h2 : Keeps Nothing w1 w2) : Run w0 w2 G E :=
  ⟨hE, hk.same h2, fun k hn => by
    by_cases hl : k < w1.heap.size
    · exact hF k (h1 k hl hn)
    · have := hk.size; omega⟩

theorem cells64 : rep 64 [Value.int .u8 0] = bcells z64 := by kernel_rfl

set_option maxRecDepth 100000 in
set_option maxHeartbeats 8000000 in
theorem sends_ok (w : World) : Calls Try.prog 8 #[] w (TrueKept w) := by
  obtain ⟨i0, hi0, hz0, hz1, hz2⟩ := info_parts Try.info5
  obtain ⟨v1, v2, v3, v4, v5, v6, v7, v8⟩ := sends_vals
  obtain ⟨u1, u2, u3, u4, u5, u6, u7, u8, u9⟩ := sends_vals2
  obtain ⟨t1, t2, t3, t4, t5, t6⟩ := sends_vals3
  have V := Lib.hid (And.intro v1 (And.intro v2 (And.intro v3 (And.intro v4 (And.intro v5 (And.intro v6 (And.intro v7 v8)))))))
  have U := Lib.hid (And.intro u1 (And.intro u2 (And.intro u3 (And.intro u4 (And.intro u5 (And.intro u6 (And.intro u7 (And.intro u8 u9))))))))
  have T := Lib.hid (And.intro t1 (And.intro t2 (And.intro t3 (And.intro t4 (And.intro t5 t6)))))
  clear v1 v2 v3 v4 v5 v6 v7 v8 u1 u2 u3 u4 u5 u6 u7 u8 u9 t1 t2 t3 t4 t5 t6
  go_enter Try.func8, Try.ntmps8
  go_upto_region 2 with (go_at_call 9; refine (new_any 4 _ 4 (by decide)).mono ?_; rintro e w1 ⟨pp, F, rfl, hP, hF, k1⟩)
  have C10 := new_eg hP 1000 (.inr (.inr (.inl rfl))) 0 2 0 0 0 0 0 0
  go_upto_region 3 with (go_at_call 10; refine C10.mono ?_; rintro e w2 ⟨G, rfl, hpp, hE, hn, -, k2⟩; clear C10)
  have hE : EgIn w2 G x0 := hE
  have HR := Lib.hid (Run.start (pp := pp) k1 hF hE hn k2)
  subst hpp
  clear hP hF k1 hE hn k2
  go_upto_region 6 with (first
    | (refine wpList_mk rfl (.const (.int .i64 64)) (.const (.int .i64 64)) 34 rfl 5 i0 (.int .u8 0) [.int .u8 0] Try.underlying34 hi0 hz0 hz1 rfl .i64 .i64 64 64 64 rfl rfl rfl rfl 1 hz2 (by decide) (by decide) ?_; intro w3 hB3 k3 _; have HR3 := Lib.hid (HR.out.same k3); clear HR; rw [cells64] at hB3; have C12 := take_eg HR3.out.at_ z64 ⟨w2.heap.size, 0, none⟩ 64 (by decide) (by decide) (fun j u hu => by rw [show (⟨w2.heap.size, 0, none⟩ : Addr).add j = ⟨w2.heap.size, j, none⟩ by simp [Addr.add_lit], hB3.cell j]; exact hu); rw [V.out.1] at C12)
    | (go_at_call 12; refine C12.mono ?_; rintro e w4 ⟨rfl, G', hW⟩; clear C12; have HR := Lib.hid (HR3.out.went hW); rw [← hW.ext.p, ← hW.ext.pp]))
  have HR4 : Hid (Run w w4 G' x1) := HR
  clear HR
  go_upto_region 8 with (first
    | (go_at_call 13; refine (push_plain HR4.out.at_ x1_pl (by decide) V.out.2.1 V.out.2.2.1).mono ?_; rintro e w5 ⟨rfl, hW⟩; have HR5 := Lib.hid (HR4.out.went hW); clear HR4 hW)
    | (go_at_call 11; refine (link_plain (E' := x2) HR5.out.at_ x1_pl (by decide) V.out.2.2.2.1 rfl).mono ?_; rintro e w6 ⟨rfl, hW⟩; have HR6 := Lib.hid (HR5.out.went hW); clear HR5 hW)
    | (go_at_call 13; refine (push_plain (E' := x3) HR6.out.at_ x2_pl (by decide) V.out.2.2.2.2.1 rfl).mono ?_; rintro e w7 ⟨rfl, hW⟩; have HR7 := Lib.hid (HR6.out.went hW); clear HR6 hW)
    | (go_at_call 13; refine (push_plain (E' := x4) HR7.out.at_ x3_pl (by decide) V.out.2.2.2.2.2.1 rfl).mono ?_; rintro e w8 ⟨rfl, hW⟩; have HR8 := Lib.hid (HR7.out.went hW); clear HR7 hW)
    | (go_at_call 13; refine (push_plain HR8.out.at_ x4_pl (by decide) V.out.2.2.2.2.2.2.1 V.out.2.2.2.2.2.2.2).mono ?_; rintro e w9 ⟨rfl, hW⟩; have HR9 := Lib.hid (HR8.out.went hW); clear HR8 hW))
  go_upto_region 9 with (go_at_call 15; refine (start_plain HR9.out.at_ x4_pl U.out.1).mono ?_; rintro e w10 ⟨rfl, hW⟩; have HR10 := Lib.hid (HR9.out.went hW); clear HR9 hW)
  have HB11 := Lib.hid (Blk.new w10 [.int .i64 1, .int .i64 0, .int .i64 5, .int .i64 677] 38)
  have HR11 := Lib.hid (HR10.out.same ((Keeps.refl Nothing w10).alloc (.cells #[.int .i64 1, .int .i64 0, .int .i64 5, .int .i64 677] 38)))
  have HS := Lib.hid (HR10.out.at_.own0 (Nat.le_refl _))
  have hsz : Hid ((w10.alloc (.cells #[.int .i64 1, .int .i64 0, .int .i64 5, .int .i64 677] 38)).heap.size = w10.heap.size + 1) := by show _ = _; simp
  clear HR10
  generalize (w10.alloc (.cells #[.int .i64 1, .int .i64 0, .int .i64 5, .int .i64 677] 38)) = w11 at *
  generalize w10.heap.size = sb at *
  have nS : Hid (¬ G'.T sb) := fun x => x.1 HS.out
  go_upto_region 10 with (go_at_call 15; refine (start_plain HR11.out.at_ x5_pl U.out.2.1).mono ?_; rintro e w12 ⟨rfl, hW⟩; have HR12 := Lib.hid (HR11.out.went hW); have HB12 := Lib.hid (HB11.out.keeps hW.keeps nS.out); clear HR11 HB11 hW)
  have HR13 := Lib.hid (HR12.out.same ((Keeps.refl Nothing w12).alloc (.cells #[.int .i64 0, .int .i64 0, .int .i64 0, .int .i64 0] 38)))
  have HB13 := Lib.hid (HB12.out.alloc (.cells #[.int .i64 0, .int .i64 0, .int .i64 0, .int .i64 0] 38))
  clear HR12 HB12
  generalize (w12.alloc (.cells #[.int .i64 0, .int .i64 0, .int .i64 0, .int .i64 0] 38)) = w13 at *
  go_upto_region 11 with (go_at_call 17; refine (end_plain HR13.out.at_ x5_pl (by decide) U.out.2.2.1).mono ?_; rintro e w14 ⟨rfl, hW⟩; have HR14 := Lib.hid (HR13.out.went hW); have HB14 := Lib.hid (HB13.out.keeps hW.keeps nS.out); clear HR13 HB13 hW)
  have HR15 := Lib.hid (HR14.out.same ((Keeps.refl Nothing w14).alloc (.cells #[.int .i64 0, .int .i64 0, .int .i64 0, .int .i64 0] 38)))
  have HB15 := Lib.hid (HB14.out.alloc (.cells #[.int .i64 0, .int .i64 0, .int .i64 0, .int .i64 0] 38))
  clear HR14 HB14
  generalize (w14.alloc (.cells #[.int .i64 0, .int .i64 0, .int .i64 0, .int .i64 0] 38)) = w15 at *
  have s0 : w15.cell? ⟨sb, 0, none⟩ = some (.int .i64 1) := HB15.out.cell 0
  have s1 : w15.cell? ⟨sb, 1, none⟩ = some (.int .i64 0) := HB15.out.cell 1
  have s2 : w15.cell? ⟨sb, 2, none⟩ = some (.int .i64 5) := HB15.out.cell 2
  have s3 : w15.cell? ⟨sb, 3, none⟩ = some (.int .i64 677) := HB15.out.cell 3
  go_upto_region 13 with (first
    | (go_at_call 20; refine (wake_plain HR15.out.at_ x5_pl U.out.2.2.2.2.1).mono ?_; rintro e w16 ⟨rfl, hW⟩; have HR16 := Lib.hid (HR15.out.went hW); clear HR15 hW)
    | (go_at_call 27; refine (busy_ok HR16.out.at_).mono ?_; rw [U.out.2.2.2.2.2.2.2.2]; rintro e w17 ⟨rfl, k⟩; have HR17 := Lib.hid (HR16.out.same k); clear HR16 k)
    | (go_at_call 31; refine (holds_eg HR17.out.at_ U.out.2.2.2.2.2.2.1 (by decide)).mono ?_; rintro e w18 ⟨rfl, k⟩; have HR18 := Lib.hid (HR17.out.same k); clear HR17 k))
  go_upto_region 14 with (go_at_call 17; refine (end_plain HR18.out.at_ x5_pl (by decide) U.out.2.2.2.1).mono ?_; rintro e w19 ⟨rfl, hW⟩; have HR19 := Lib.hid (HR18.out.went hW); clear HR18 hW)
  have heq : ∀ v : World, (Op.equalIn 10000 30 (.agg #[.int .i64 0, .int .i64 1, .int .i64 0, .int .i64 0, .int .i64 0, .int .i64 0, .int .i64 0, .int .i64 0]) (.agg #[.int .i64 0, .int .i64 1, .int .i64 0, .int .i64 0, .int .i64 0, .int .i64 0, .int .i64 0, .int .i64 0])).run Try.prog v = .ok true v := fun v => by kernel_rfl
  have HR20 := Lib.hid (HR19.out.same ((Keeps.refl Nothing w19).alloc (.cells #[.int .i64 1, .int .i64 0, .int .i64 5, .int .i64 677] 38)))
  clear HR19 s0 s1 s2 s3
  generalize (w19.alloc (.cells #[.int .i64 1, .int .i64 0, .int .i64 5, .int .i64 677] 38)) = w20 at *
  go_wp2_with (first
    | (go_at_call 10; refine (new_bad _ 7 _ (by unfold SpeedOk; decide) 0 0 0 0 0 0 0 0).mono ?_; rintro e w21 ⟨rfl, k⟩; have HR21 := Lib.hid (HR20.out.same k); clear HR20 k)
    | (go_at_call 31; refine (holds_eg HR21.out.at_ U.out.2.2.2.2.2.2.2.1 (by decide)).mono ?_; rintro e w22 ⟨rfl, k⟩; have HR22 := Lib.hid (HR21.out.same k); clear HR21 k)
    | (go_at_call 20; refine (wake_plain HR22.out.at_ x6_pl U.out.2.2.2.2.2.1).mono ?_; rintro e w23 ⟨rfl, hW⟩; have HR23 := Lib.hid (HR22.out.went hW); clear HR22 hW)
    | (go_at_call 19; refine (sends_eg HR23.out.at_).mono ?_; rw [T.out.1, show sendsV [0, 1, 0, 0, 0, 0, 0, 0] = .agg #[.int .i64 0, .int .i64 1, .int .i64 0, .int .i64 0, .int .i64 0, .int .i64 0, .int .i64 0, .int .i64 0] from rfl]; rintro e w24 ⟨rfl, k⟩; have HR24 := Lib.hid (HR23.out.same k); clear HR23 k)
    | (go_at_call 32; refine (lost_ok HR24.out.at_ 0 (by decide)).mono ?_; rw [T.out.2.1]; rintro e w25 ⟨rfl, k⟩; have HR25 := Lib.hid (HR24.out.same k); clear HR24 k)
    | (go_at_call 33; refine (waiting_ok HR25.out.at_).mono ?_; rw [T.out.2.2.1]; rintro e w26 ⟨rfl, k⟩; have HR26 := Lib.hid (HR25.out.same k); clear HR25 k)
    | (go_at_call 34; refine (speed_ok HR26.out.at_).mono ?_; rw [T.out.2.2.2.1]; rintro e w27 ⟨rfl, k⟩; have HR27 := Lib.hid (HR26.out.same k); clear HR26 k)
    | (go_at_call 35; refine (up_ok HR27.out.at_).mono ?_; rw [T.out.2.2.2.2.1]; rintro e w28 ⟨rfl, k⟩; have HR28 := Lib.hid (HR27.out.same k); clear HR27 k)
    | (go_at_call 29; refine (row_ok HR28.out.at_ 1 (by decide)).mono ?_; rw [T.out.2.2.2.2.2]; rintro e w29 ⟨A, c, rfl, k⟩; have HR29 := Lib.hid (HR28.out.same k); clear HR28 k)
    | (go_at_call 36; refine (shape_out HR29.out.at_ 9 1 0 (by decide)).mono ?_; rintro e w30 ⟨rfl, hW⟩; have HR30 := Lib.hid (HR29.out.went hW); clear HR29 hW))
  go_ret
  exact ⟨rfl, HR30.out.keeps⟩
end

end Go.Proofs.Ytimgmobmagpmlaa
