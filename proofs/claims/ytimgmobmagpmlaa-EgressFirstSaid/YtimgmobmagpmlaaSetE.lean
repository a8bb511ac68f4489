/- A list is told to a port. -/
import Derived.Test.YtimgmobmagpmlaaPlain
namespace Go.Proofs.Ytimgmobmagpmlaa
open Go.RowKit

def Geo.list (G : Geo) (g : Nat) : Geo := { G with own := fun k => if k = g then 6 else G.own k }

def Sch.setTo (S : Sch) (base cyc ext : Int) (g cap : Nat) (es : List Ent) (now : Int) : Sch := ((S.pass now).told ⟨base, cyc, ext, some ⟨g, 0, Option.none⟩, cap, es⟩ (gstart base cyc now)).pass now

def SetDid (w : World) (G : Geo) (E : Eg) (base cyc ext : Int) (es : List Ent) (now : Int) (e : Ending) (w' : World) : Prop :=
  ∃ G' g cap, e = .returned (.int .i64 0) ∧ Went w G { E with S := E.S.setTo base cyc ext g cap es now } w' G'

theorem EgIn.list {w w' : World} {G : Geo} {E : Eg} (h : EgIn w G E) {S' : Sch} {g : Nat} (hg : w.heap.size ≤ g) (hg2 : g < w'.heap.size) (hk : Keeps (fun k => k = G.sp) w w') (hs : SchAt w' G.sp S')
    (h1 : ∀ b o, S'.oper.A = some ⟨b, o, Option.none⟩ → b = g ∨ G.own b = 6) (h2 : ∀ b o, S'.admin.A = some ⟨b, o, Option.none⟩ → b = g ∨ G.own b = 6) : Went w G { E with S := S' } w' (G.list g) := by
  have ne : ∀ x, G.own x ≠ 2 → ¬ x = G.sp := fun x hx e => hx (by rw [e]; exact h.os)
  have h0 : G.own g = 0 := h.own0 hg
  have ow : ∀ x, G.own x ≠ 0 → (G.list g).own x = G.own x := fun x hx => by
    show (if x = g then 6 else G.own x) = _
    rw [if_neg (fun e => hx (by rw [e]; exact h0))]
  have owg : (G.list g).own g = 6 := by
    show (if g = g then 6 else G.own g) = 6
    rw [if_pos rfl]
  have ow3 : ∀ n, n ≠ 0 → n ≠ 6 → (fun x => (G.list g).own x = n) = (fun x => G.own x = n) := fun n hn h6 => funext fun x => propext (by
    show (if x = g then 6 else G.own x) = n ↔ _
    by_cases e : x = g
    · rw [if_pos e, e, h0]; exact ⟨fun h => absurd h.symm h6, fun h => absurd h.symm hn⟩
    · rw [if_neg e])
  refine ⟨?_, ⟨rfl, rfl, rfl, rfl, fun k hk => by
    show (if k = g then 6 else G.own k) = _
    rw [if_neg (by omega)]⟩, hk.mono (fun k hk _ => by subst hk; exact own_T (n := 2) (by decide) (by decide) _ h.os)⟩
  exact
    { blk := h.blk.keeps hk (ne _ (by rw [h.op]; decide))
      sched := hs
      ring := by rw [ow3 3 (by decide) (by decide)]; exact h.ring.keeps hk (fun x hx => ne x (by rw [hx]; decide))
      pool := by rw [ow3 4 (by decide) (by decide)]; exact PoolAt.keeps h.pool hk (fun x hx => ne x (by rw [hx]; decide))
      sh := fun d x hd hx => ⟨(h.sh d x hd hx).1.keeps hk (ne x (by rw [(h.sh d x hd hx).2]; decide)), by rw [ow x (by rw [(h.sh d x hd hx).2]; decide)]; exact (h.sh d x hd hx).2⟩
      op := by rw [show (G.list g).p = G.p from rfl, ow _ (by rw [h.op]; decide)]; exact h.op
      os := by rw [show (G.list g).sp = G.sp from rfl, ow _ (by rw [h.os]; decide)]; exact h.os
      lo := fun b o e => by
        rcases h1 b o e with hb | hb
        · rw [hb]; exact owg
        · rw [ow b (by rw [hb]; decide)]; exact hb
      la := fun b o e => by
        rcases h2 b o e with hb | hb
        · rw [hb]; exact owg
        · rw [ow b (by rw [hb]; decide)]; exact hb
      lt := fun x hx => by
        by_cases e : x = g
        · rw [e]; exact hg2
        · have hx : (if x = g then 6 else G.own x) ≠ 0 := hx
          rw [if_neg e] at hx
          exact Nat.lt_of_lt_of_le (h.lt x hx) hk.size
      none := h.none
      cnt8 := h.cnt8 }

theorem gstart_top {base cyc now : Int} (hb : base < 4611686018427387904) (hc : 1 ≤ cyc ∧ cyc ≤ 1000000000) (hn : now ≤ 1000000000000000) : gstart base cyc now < 4611686018427387904 := by
  have := gstart_range (base := base) (t := now) hc.1
  omega

theorem set_eg {w : World} {G : Geo} {E : Eg} (h : EgIn w G E) {base cyc ext : Int} {A : Option Addr} {c : Nat} {es : List Ent} (hr : EntsR w A c es) (hA : ∀ b o, A = some ⟨b, o, Option.none⟩ → b ≠ G.sp) (hg : Good base cyc ext es)
    (now : Int) (h0 : 0 ≤ now) (h1 : now ≤ 1000000000000000) (hc : 0 ≤ E.S.chg ∧ E.S.chg ≤ 100000000) (hp : 0 ≤ E.S.rep ∧ E.S.rep ≤ 100000000) :
    Calls Try.prog 30 #[.pointer (some ⟨G.sp, 0, none⟩), .agg #[.int .i64 base, .int .i64 cyc, .int .i64 ext, .slice A es.length c], .int .i64 now] w (SetDid w G E base cyc ext es now) :=
  (set_ok h.sched hr hA hg now h0 (by omega) (gstart_top hg.b1 ⟨hg.c0, hg.c1⟩ h1) hc hp).mono fun e w' ⟨a, b, g, cap, hS, hl⟩ => by
    have hA0 := Sch.pass_A (fun A => ∀ b o, A = some ⟨b, o, none⟩ → b = g ∨ G.own b = 6) (fun b o e => by cases e) (S := E.S) (fun b o e => .inr (h.lo b o e)) (fun b o e => .inr (h.la b o e)) now
    have hA1 := Sch.pass_A (fun A => ∀ b o, A = some ⟨b, o, none⟩ → b = g ∨ G.own b = 6) (fun b o e => by cases e) (S := (E.S.pass now).told ⟨base, cyc, ext, some ⟨g, 0, none⟩, cap, es⟩ (gstart base cyc now)) hA0.1
      (fun b o e => .inl (by
        have e : some (⟨g, 0, none⟩ : Addr) = some ⟨b, o, none⟩ := e
        injection e with e
        injection e with e
        exact e.symm)) now
    have hlt : g < w'.heap.size := by
      have hl2 : ∀ l : Lst, l.A = some ⟨g, 0, none⟩ → 0 < l.es.length → l.ok w' G.sp → g < w'.heap.size := fun l hl h0 ho => EntsR.lt ho.1 h0 g 0 hl
      generalize E.S.pass now = S1 at hS
      generalize hS2 : S1.told ⟨base, cyc, ext, some ⟨g, 0, none⟩, cap, es⟩ (gstart base cyc now) = S2 at hS
      have ha : S2.admin = ⟨base, cyc, ext, some ⟨g, 0, none⟩, cap, es⟩ := by rw [← hS2]; rfl
      by_cases hc : S2.waits = true ∧ S2.due ≤ now
      · rw [show S2.pass now = S2.passed from if_pos hc] at hS
        exact hl2 _ (by show S2.admin.A = _; rw [ha]) (by show 0 < S2.admin.es.length; rw [ha]; exact hg.pos) hS.oper
      · rw [show S2.pass now = S2 from if_neg hc] at hS
        exact hl2 _ (by rw [ha]) (by rw [ha]; exact hg.pos) hS.admin
    exact ⟨_, g, cap, a, h.list hl hlt b hS hA1.1 hA1.2⟩

end Go.Proofs.Ytimgmobmagpmlaa
