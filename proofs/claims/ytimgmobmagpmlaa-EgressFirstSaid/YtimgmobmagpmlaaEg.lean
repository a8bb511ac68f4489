/- A port's way out: where it lies, and what it holds. Each shaped class is in its mode from now on. The first frames that wait at a port. The pool's and the rows' functions, each as one function of what there is; the schedule turns. -/
import Derived.Test.YtimgmobmagpmlaaPool
import Derived.Test.YtimgmobmagpmlaaRing
import Derived.Test.YtimgmobmagpmlaaLeap
import Derived.Test.YtimgmobmagpmlaaCred
import Derived.Test.YtimgmobmagpmlaaHd
import Derived.Test.YtimgmobmagpmlaaSched
namespace Go.Proofs.Ytimgmobmagpmlaa

section
open Go.RowKit

structure Eg where
  S : Sch
  rs : List RSt
  ps : PSt
  shaped : Bool
  speed : Int
  up : Bool
  busy : Bool
  cls : Int
  id : Int
  frm : Int
  till : Int
  cnt : List Int

/-- Where a port lies: its blocks, and whose each block is (0: not the port's; 6: a list's entries, which are read alone). -/
structure Geo where
  p : Nat
  sp : Nat
  rp : Nat
  pp : Nat
  g : Nat → Option Nat
  own : Nat → Nat

def Geo.T (G : Geo) (k : Nat) : Prop := G.own k ≠ 0 ∧ G.own k ≠ 6

def shv (g : Nat → Option Nat) (c : Nat) : Value := match g c with | none => .pointer none | some k => .pointer (some ⟨k, 0, none⟩)

def Eg.cells (G : Geo) (E : Eg) : List Value :=
  .pointer (some ⟨G.sp, 0, none⟩) :: .pointer (some ⟨G.rp, 0, none⟩) :: .pointer (some ⟨G.pp, 0, none⟩) ::
  shv G.g 0 :: shv G.g 1 :: shv G.g 2 :: shv G.g 3 :: shv G.g 4 :: shv G.g 5 :: shv G.g 6 :: shv G.g 7 ::
  .int .i64 E.speed :: .bool E.up :: .bool E.busy :: .int .i64 E.cls :: .int .i64 E.id :: .int .i64 E.frm :: .int .i64 E.till :: E.cnt.map (Value.int .i64)

structure EgIn (w : World) (G : Geo) (E : Eg) : Prop where
  blk : Blk w G.p (E.cells G) 68
  sched : SchAt w G.sp E.S
  ring : RingAt w G.rp (fun k => G.own k = 3) E.rs
  pool : PoolAt w G.pp (fun k => G.own k = 4) E.ps
  sh : ∀ c k, c < 8 → G.g c = some k → ShAt w k ∧ G.own k = 5
  op : G.own G.p = 1
  os : G.own G.sp = 2
  lo : ∀ b o, E.S.oper.A = some ⟨b, o, none⟩ → G.own b = 6
  la : ∀ b o, E.S.admin.A = some ⟨b, o, none⟩ → G.own b = 6
  lt : ∀ k, G.own k ≠ 0 → k < w.heap.size
  none : E.shaped = false → ∀ c, c < 8 → G.g c = none
  cnt8 : E.cnt.length = 8

theorem EgIn.keeps {F : Nat → Prop} {w w' : World} {G : Geo} {E : Eg} (h : EgIn w G E) (hk : Keeps F w w') (hF : ∀ k, G.own k ≠ 0 → ¬ F k) : EgIn w' G E where
  blk := h.blk.keeps hk (hF _ (by rw [h.op]; decide))
  sched := ⟨h.sched.blk.keeps hk (hF _ (by rw [h.os]; decide)), ⟨h.sched.oper.1.keeps hk (fun b o e => hF _ (by rw [h.lo b o e]; decide)), h.sched.oper.2⟩, ⟨h.sched.admin.1.keeps hk (fun b o e => hF _ (by rw [h.la b o e]; decide)), h.sched.admin.2⟩⟩
  ring := h.ring.keeps hk (fun k hk' => hF k (by rw [hk']; decide))
  pool := h.pool.keeps hk (fun k hk' => hF k (by rw [hk']; decide))
  sh := fun c k hc hg => ⟨(h.sh c k hc hg).1.keeps hk (hF k (by rw [(h.sh c k hc hg).2]; decide)), (h.sh c k hc hg).2⟩
  op := h.op
  os := h.os
  lo := h.lo
  la := h.la
  lt := fun k hk' => Nat.lt_of_lt_of_le (h.lt k hk') hk.size
  none := h.none
  cnt8 := h.cnt8

theorem EgIn.same {w w' : World} {G : Geo} {E : Eg} (h : EgIn w G E) (hk : Keeps Nothing w w') : EgIn w' G E := h.keeps hk (fun _ _ h => h)

/-- A shaper has turned. -/
theorem EgIn.shaper {w w' : World} {G : Geo} {E : Eg} (h : EgIn w G E) {c k : Nat} (hc : c < 8) (hg : G.g c = some k) (hk : Keeps (fun x => x = k) w w') (hs : ShAt w' k) : EgIn w' G E := by
  have h5 := (h.sh c k hc hg).2
  have ne : ∀ x, G.own x ≠ 5 → ¬ x = k := fun x hx e => hx (by rw [e]; exact h5)
  exact
    { blk := h.blk.keeps hk (ne _ (by rw [h.op]; decide))
      sched := ⟨h.sched.blk.keeps hk (ne _ (by rw [h.os]; decide)), ⟨h.sched.oper.1.keeps hk (fun b o e => ne _ (by rw [h.lo b o e]; decide)), h.sched.oper.2⟩, ⟨h.sched.admin.1.keeps hk (fun b o e => ne _ (by rw [h.la b o e]; decide)), h.sched.admin.2⟩⟩
      ring := h.ring.keeps hk (fun x hx => ne x (by rw [hx]; decide))
      pool := h.pool.keeps hk (fun x hx => ne x (by rw [hx]; decide))
      sh := fun d x hd hx => ⟨by
        by_cases e : x = k
        · rw [e]; exact hs
        · exact (h.sh d x hd hx).1.keeps hk e, (h.sh d x hd hx).2⟩
      op := h.op, os := h.os, lo := h.lo, la := h.la
      lt := fun x hx => Nat.lt_of_lt_of_le (h.lt x hx) hk.size
      none := h.none, cnt8 := h.cnt8 }

/-- One port's place goes on to be its place: its blocks are as they were, new ones apart. -/
structure Ext2 (w : World) (G G' : Geo) : Prop where
  p : G'.p = G.p
  sp : G'.sp = G.sp
  rp : G'.rp = G.rp
  pp : G'.pp = G.pp
  own : ∀ k, k < w.heap.size → G'.own k = G.own k

theorem Ext2.refl (w : World) (G : Geo) : Ext2 w G G := ⟨rfl, rfl, rfl, rfl, fun _ _ => rfl⟩

theorem Ext2.trans {w w' : World} {G G' G'' : Geo} (h : Ext2 w G G') (h' : Ext2 w' G' G'') (hs : w.heap.size ≤ w'.heap.size) : Ext2 w G G'' :=
  ⟨h'.p.trans h.p, h'.sp.trans h.sp, h'.rp.trans h.rp, h'.pp.trans h.pp, fun k hk => (h'.own k (by omega)).trans (h.own k hk)⟩

/-- What a call did to a port. -/
structure Went (w : World) (G : Geo) (E' : Eg) (w' : World) (G' : Geo) : Prop where
  at_ : EgIn w' G' E'
  ext : Ext2 w G G'
  keeps : Keeps G.T w w'

theorem Went.trans {w w' w'' : World} {G G' G'' : Geo} {E' E'' : Eg} (h : Went w G E' w' G') (h' : Went w' G' E'' w'' G'') : Went w G E'' w'' G'' :=
  ⟨h'.at_, h.ext.trans h'.ext h.keeps.size, h.keeps.trans h'.keeps (fun x hx hl => by unfold Geo.T at *; rw [h.ext.own x hl] at hx; exact hx)⟩

theorem Went.refl {w : World} {G : Geo} {E : Eg} (h : EgIn w G E) : Went w G E w G := ⟨h, Ext2.refl _ _, Keeps.refl _ _⟩

theorem Went.same {w w' w'' : World} {G G' : Geo} {E' : Eg} (h : Went w G E' w' G') (hk : Keeps Nothing w' w'') : Went w G E' w'' G' :=
  ⟨h.at_.same hk, h.ext, h.keeps.trans hk (fun _ h _ => h.elim)⟩

/-- A call that turns some of the port's blocks, its place staying. -/
theorem Went.of {F : Nat → Prop} {w w' : World} {G : Geo} {E' : Eg} (h : EgIn w' G E') (hk : Keeps F w w') (hF : ∀ k, F k → G.T k) : Went w G E' w' G :=
  ⟨h, Ext2.refl _ _, hk.mono (fun k hk' _ => hF k hk')⟩

/-- The port's own block is turned. -/
theorem EgIn.head {w w' : World} {G : Geo} {E E' : Eg} (h : EgIn w G E) (hk : Keeps (fun x => x = G.p) w w') (hb : Blk w' G.p (E'.cells G) 68) (h1 : E'.S = E.S) (h2 : E'.rs = E.rs) (h3 : E'.ps = E.ps) (h4 : E'.shaped = E.shaped) (h5 : E'.cnt.length = 8) : EgIn w' G E' := by
  have ne : ∀ x, G.own x ≠ 1 → ¬ x = G.p := fun x hx e => hx (by rw [e]; exact h.op)
  exact
    { blk := hb
      sched := by rw [h1]; exact ⟨h.sched.blk.keeps hk (ne _ (by rw [h.os]; decide)), ⟨h.sched.oper.1.keeps hk (fun b o e => ne _ (by rw [h.lo b o e]; decide)), h.sched.oper.2⟩, ⟨h.sched.admin.1.keeps hk (fun b o e => ne _ (by rw [h.la b o e]; decide)), h.sched.admin.2⟩⟩
      ring := by rw [h2]; exact h.ring.keeps hk (fun x hx => ne x (by rw [hx]; decide))
      pool := by rw [h3]; exact h.pool.keeps hk (fun x hx => ne x (by rw [hx]; decide))
      sh := fun d x hd hx => ⟨(h.sh d x hd hx).1.keeps hk (ne x (by rw [(h.sh d x hd hx).2]; decide)), (h.sh d x hd hx).2⟩
      op := h.op, os := h.os
      lo := by rw [h1]; exact h.lo
      la := by rw [h1]; exact h.la
      lt := fun x hx => Nat.lt_of_lt_of_le (h.lt x hx) hk.size
      none := by rw [h4]; exact h.none
      cnt8 := h5 }

/-- The rows are turned. -/
theorem EgIn.rows {w w' : World} {G : Geo} {E : Eg} (h : EgIn w G E) {rs : List RSt} (hk : Keeps (fun x => G.own x = 3) w w') (hr : RingAt w' G.rp (fun x => G.own x = 3) rs) : EgIn w' G { E with rs := rs } := by
  exact
    { blk := h.blk.keeps hk (by rw [h.op]; decide)
      sched := ⟨h.sched.blk.keeps hk (by rw [h.os]; decide), ⟨h.sched.oper.1.keeps hk (fun b o e => by rw [h.lo b o e]; decide), h.sched.oper.2⟩, ⟨h.sched.admin.1.keeps hk (fun b o e => by rw [h.la b o e]; decide), h.sched.admin.2⟩⟩
      ring := hr
      pool := h.pool.keeps hk (fun x hx => by rw [hx]; decide)
      sh := fun d x hd hx => ⟨(h.sh d x hd hx).1.keeps hk (by rw [(h.sh d x hd hx).2]; decide), (h.sh d x hd hx).2⟩
      op := h.op, os := h.os, lo := h.lo, la := h.la
      lt := fun x hx => Nat.lt_of_lt_of_le (h.lt x hx) hk.size
      none := h.none, cnt8 := h.cnt8 }

/-- The pool is turned. -/
theorem EgIn.frames {w w' : World} {G : Geo} {E : Eg} (h : EgIn w G E) {ps : PSt} (hk : Keeps (fun x => G.own x = 4) w w') (hr : PoolAt w' G.pp (fun x => G.own x = 4) ps) : EgIn w' G { E with ps := ps } := by
  exact
    { blk := h.blk.keeps hk (by rw [h.op]; decide)
      sched := ⟨h.sched.blk.keeps hk (by rw [h.os]; decide), ⟨h.sched.oper.1.keeps hk (fun b o e => by rw [h.lo b o e]; decide), h.sched.oper.2⟩, ⟨h.sched.admin.1.keeps hk (fun b o e => by rw [h.la b o e]; decide), h.sched.admin.2⟩⟩
      ring := h.ring.keeps hk (fun x hx => by rw [hx]; decide)
      pool := hr
      sh := fun d x hd hx => ⟨(h.sh d x hd hx).1.keeps hk (by rw [(h.sh d x hd hx).2]; decide), (h.sh d x hd hx).2⟩
      op := h.op, os := h.os, lo := h.lo, la := h.la
      lt := fun x hx => Nat.lt_of_lt_of_le (h.lt x hx) hk.size
      none := h.none, cnt8 := h.cnt8 }

theorem own_T {G : Geo} {n : Nat} (h0 : n ≠ 0) (h6 : n ≠ 6) : ∀ k, G.own k = n → G.T k := fun k hk => ⟨by rw [hk]; exact h0, by rw [hk]; exact h6⟩
end

section
open Go.RowKit

def ModesInv (w : World) (G : Geo) (E : Eg) (k : Nat) (i : Value) (wr : World) : Prop := ∃ j : Nat, j + k = 8 ∧ i = .int .i64 (j : Nat) ∧ EgIn wr G E ∧ Keeps (fun x => G.own x = 5) w wr

def ModesDid (w : World) (G : Geo) (E : Eg) (e : Ending) (w' : World) : Prop := e = .returned (.tuple #[]) ∧ EgIn w' G E ∧ Keeps (fun x => G.own x = 5) w w'

theorem shv_get (g : Nat → Option Nat) (j : Nat) (h : j < 8) : (#[shv g 0, shv g 1, shv g 2, shv g 3, shv g 4, shv g 5, shv g 6, shv g 7] : Array Value)[j]? = some (shv g j) := by
  rcases j with _ | _ | _ | _ | _ | _ | _ | _ | j
  all_goals first | rfl | omega

set_option maxRecDepth 100000 in
set_option maxHeartbeats 4000000 in
theorem modes_ok {w : World} {G : Geo} {E : Eg} (h : EgIn w G E) (now : Int) (hn : now ≤ 1152921504606846976) :
    Calls Try.prog 40 #[.pointer (some ⟨G.p, 0, none⟩), .int .i64 now] w (ModesDid w G E) := by
  have HE := Lib.hid h
  have hB : Blk w G.p (E.cells G) 68 := h.blk
  have m3 : w.cell? ⟨G.p, 3, none⟩ = some (shv G.g 0) := hB.cell 3
  have m4 : w.cell? ⟨G.p, 4, none⟩ = some (shv G.g 1) := hB.cell 4
  have m5 : w.cell? ⟨G.p, 5, none⟩ = some (shv G.g 2) := hB.cell 5
  have m6 : w.cell? ⟨G.p, 6, none⟩ = some (shv G.g 3) := hB.cell 6
  have m7 : w.cell? ⟨G.p, 7, none⟩ = some (shv G.g 4) := hB.cell 7
  have m8 : w.cell? ⟨G.p, 8, none⟩ = some (shv G.g 5) := hB.cell 8
  have m9 : w.cell? ⟨G.p, 9, none⟩ = some (shv G.g 6) := hB.cell 9
  have m10 : w.cell? ⟨G.p, 10, none⟩ = some (shv G.g 7) := hB.cell 10
  clear h hB
  go_enter Try.func40, Try.ntmps40
  go_wp2_with fail
  go_loopg [10] 8 (fun k i wr => ModesInv w G E k i wr)
  case atStart => exact ⟨0, by omega, rfl, HE.out, Keeps.refl _ _⟩
  case round =>
    obtain ⟨j, hj, rfl, hE2, hk⟩ := hrel
    have HE2 := Lib.hid hE2
    have HK2 := Lib.hid hk
    clear hk
    by_cases hlt : j < 8
    · have hix : ∀ v : World, (Instr.index 66 (.agg #[shv G.g 0, shv G.g 1, shv G.g 2, shv G.g 3, shv G.g 4, shv G.g 5, shv G.g 6, shv G.g 7]) (.int .i64 (j : Nat))).run Try.prog v = .ok (shv G.g j) v := fun v =>
        run_index_arr (P := Try.prog) v Try.underlying66 (by kernel_rfl) (by kernel_rfl) hlt (shv_get G.g j hlt) (by omega)
      cases hg : G.g j with
      | none =>
        have hsv : shv G.g j = .pointer none := by unfold shv; rw [hg]
        rw [hsv] at hix
        clear hsv hg hE2
        go_wp2_with fail
        go_roundg (gk - 1)
        case measure => omega
        case rel => exact ⟨j + 1, by omega, by go_num, HE2.out, HK2.out⟩
      | some k =>
        have hsv : shv G.g j = .pointer (some ⟨k, 0, none⟩) := by unfold shv; rw [hg]
        rw [hsv] at hix
        obtain ⟨hsa, h5⟩ := hE2.sh j k hlt hg
        have HS5 := Lib.hid h5
        have CM := fun m (hm : 0 ≤ m ∧ m < 3) => smode_ok wr k m now hsa hm.1 hm.2 hn
        obtain ⟨r, hr⟩ : ∃ r, E.rs[j]? = some r := ⟨_, List.getElem?_eq_getElem (by obtain ⟨_, _, _, _, hR⟩ := hE2.ring; have := hR.eight; omega)⟩
        have CL := len_in hE2.ring j r hr
        have hB2 := hE2.blk
        have n1 : wr.cell? ⟨G.p, 1, none⟩ = some (.pointer (some ⟨G.rp, 0, none⟩)) := hB2.cell 1
        have n13 : wr.cell? ⟨G.p, 13, none⟩ = some (.bool E.busy) := hB2.cell 13
        have n14 : wr.cell? ⟨G.p, 14, none⟩ = some (.int .i64 E.cls) := hB2.cell 14
        clear hB2 hsv h5 hr hsa hE2
        clear m3 m4 m5 m6 m7 m8 m9 m10
        by_cases hb : E.busy = true ∧ E.cls = (j : Int)
        · obtain ⟨hb1, hb2⟩ := hb
          rw [hb1] at n13
          rw [hb2] at n14
          clear hb1 hb2
          go_wp2_with (go_at_call 66; refine (CM _ (by decide)).mono ?_; rintro e w3 ⟨rfl, hS, hk3⟩; clear CM)
          go_roundg (gk - 1)
          case measure => omega
          case rel => exact ⟨j + 1, by omega, by go_num, HE2.out.shaper hlt hg hk3 hS, HK2.out.trans hk3 (fun x hx _ => by rw [hx]; exact HS5.out)⟩
        · have hb' : (E.busy = true ∧ (E.cls == (j : Int)) = false) ∨ E.busy = false := by
            by_cases hb1 : E.busy = true
            · exact .inl ⟨hb1, by simp; exact fun e => hb ⟨hb1, e⟩⟩
            · exact .inr (by simpa using hb1)
          clear hb
          rcases hb' with ⟨hb1, hb2⟩ | hb1 <;> rw [hb1] at n13 <;> clear hb1 <;> by_cases hq : r.q.length = 0
          all_goals first | rw [hq] at CL | (have hq' : (((r.q.length : Nat) : Int) == 0) = false := by simp; intro e; exact hq (by rw [e]; rfl))
          all_goals clear hq
          all_goals go_wp2_with (first | (go_at_call 67; refine CL.mono ?_; rintro e w2 ⟨rfl, rfl⟩; clear CL) | (go_at_call 66; refine (CM _ (by decide)).mono ?_; rintro e w3 ⟨rfl, hS, hk3⟩; clear CM))
          all_goals go_roundg (gk - 1)
          all_goals first | omega | exact ⟨j + 1, by omega, by go_num, HE2.out.shaper hlt hg hk3 hS, HK2.out.trans hk3 (fun x hx _ => by rw [hx]; exact HS5.out)⟩
    · go_wp2_with fail
      go_end0
      exact ⟨rfl, HE2.out, HK2.out⟩

theorem ModesDid.went {w w' : World} {G : Geo} {E : Eg} {e : Ending} (h : ModesDid w G E e w') : Went w G E w' G := Went.of h.2.1 h.2.2 (own_T (by decide) (by decide))
end

section
open Go.RowKit

def sizeP (ps : PSt) (i : Int) : Int := if heldOf ps i = 0 then 0 else ((ps.getD i.toNat ([], 0)).1.length : Nat)

theorem size_ok {w : World} {p : Nat} {F : Nat → Prop} {ps : PSt} (h : PoolAt w p F ps) (i : Int) :
    Calls Try.prog 41 #[.pointer (some ⟨p, 0, none⟩), .int .i64 i] w fun e w' => e = .returned (.int .i64 (sizeP ps i)) ∧ w' = w := by
  unfold sizeP
  by_cases h0 : heldOf ps i = 0
  · rw [if_pos h0]
    exact (size_missing h i h0).mono fun e w' ⟨a, b⟩ => ⟨a, b.symm⟩
  · rw [if_neg h0]
    unfold heldOf at h0
    by_cases hi : 0 ≤ i
    · rw [if_pos hi] at h0
      obtain ⟨j, rfl⟩ : ∃ j : Nat, i = j := ⟨i.toNat, by omega⟩
      rw [Int.toNat_natCast] at h0 ⊢
      cases hx : ps[j]? with
      | none => rw [hx] at h0; exact absurd rfl h0
      | some x =>
        obtain ⟨bs, k⟩ := x
        rw [hx] at h0
        have hk : 0 < k := by
          have : k ≠ 0 := h0
          omega
        rw [List.getD_eq_getElem?_getD, hx]
        exact (size_some h j bs k hx hk).mono fun e w' ⟨a, b⟩ => ⟨a, b.symm⟩
    · rw [if_neg hi] at h0; exact absurd rfl h0

def fitsOf (S : Sch) (c : Nat) (now need : Int) : Int := ((S.sys now).fits (opn (wrap64 ((2 : Int) ^ c))) need now).getD (-1)

structure EgOk (E : Eg) (now : Int) : Prop where
  speed : SpeedOk E.speed
  has : ∀ r ∈ E.rs, ∀ x ∈ r.q, 0 < heldOf E.ps x ∧ 0 ≤ sizeP E.ps x ∧ sizeP E.ps x ≤ 1522
  good : SchGood E.S
  ext : Ext E.S now
  n0 : 0 ≤ now
  n1 : now ≤ 1000000000000000
  chg0 : 0 ≤ E.S.chg
  chg1 : E.S.cnt ≤ 1000000000
  cnts : ∀ (c : Nat) (n : Int), E.cnt[c]? = some n → 0 ≤ n ∧ n ≤ 1000000000
  held : ∀ i, heldOf E.ps i ≤ 1000000000
  lost : ∀ r ∈ E.rs, r.lost ≤ 1000000000

def headOf (E : Eg) (now cr : Int) (c : Nat) : Hd :=
  match (E.rs.getD c ⟨0, [], 0⟩).q with
  | [] => ⟨0, 0, 0⟩
  | x :: _ => ⟨sizeP E.ps x, fitsOf E.S c now (timeOf (sizeP E.ps x) E.speed), cr⟩

def HeadAt (E : Eg) (now : Int) (c : Nat) (h : Hd) : Prop := ∃ cr, 0 ≤ cr ∧ cr ≤ 4611686018427387904 ∧ (E.shaped = false → cr = 0) ∧ h = headOf E now cr c

def HeadsIs (E : Eg) (now : Int) (hs : List Hd) : Prop := hs.length = 8 ∧ ∀ c h, hs[c]? = some h → HeadAt E now c h

def HeadsDid (w : World) (G : Geo) (E : Eg) (now : Int) (e : Ending) (w' : World) : Prop :=
  ∃ hs, e = .returned (.agg (hcells hs).toArray) ∧ HeadsIs E now hs ∧ EgIn w' G E ∧ Keeps (fun x => G.own x = 5) w w'

theorem setRow_blk {w : World} {g : Nat} {cs cs' : List Value} {T : TypeId} (h : Blk w g cs T) : Blk (w.setRow g cs'.toArray) g cs' T := by
  unfold Blk at *
  simp [World.setRow, Array.getElem?_modify, h]

theorem setRow_keeps (w : World) (g : Nat) (cs : Array Value) : Keeps (fun k => k = g) w (w.setRow g cs) :=
  ⟨rfl, rfl, rfl, by simp [World.setRow], fun k _ hn => by rw [World.setRow]; simp only [Array.getElem?_modify]; rw [if_neg (fun h => hn h.symm)]⟩

def HeadsInv (w : World) (G : Geo) (E : Eg) (now : Int) (k : Nat) (i : Value) (wr : World) : Prop :=
  ∃ (j : Nat) (hs : List Hd), j + k = 8 ∧ i = .int .i64 (j : Nat) ∧ EgIn wr G E ∧ Keeps (fun x => G.own x = 5) w wr ∧ hs.length = 8 ∧ (∀ c h, hs[c]? = some h → (c < j → HeadAt E now c h) ∧ (j ≤ c → h = ⟨0, 0, 0⟩)) ∧
    Blk wr (w.heap.size + 1) (hcells hs) 89 ∧ Blk wr w.heap.size (hcells (List.replicate 8 ⟨0, 0, 0⟩)) 89

theorem hcells_set : ∀ (hs : List Hd) (j : Nat) (h : Hd), j < hs.length → (((hcells hs).set (j * 3) (.int .i64 h.sz)).set (j * 3 + 1) (.int .i64 h.fits)).set (j * 3 + 2) (.int .i64 h.cr) = hcells (hs.set j h)
  | [], j, h, hj => by simp at hj
  | x :: hs, 0, h, _ => rfl
  | x :: hs, j + 1, h, hj => by
    have e : hcells (x :: hs) = x.cells ++ hcells hs := rfl
    have e2 : hcells ((x :: hs).set (j + 1) h) = x.cells ++ hcells (hs.set j h) := rfl
    have hl : x.cells.length = 3 := rfl
    rw [e, e2, ← hcells_set hs j h (by simpa using hj), Nat.succ_mul]
    rw [List.set_append_right _ _ (by omega), List.set_append_right _ _ (by omega), List.set_append_right _ _ (by omega), hl]
    rw [show j * 3 + 3 - 3 = j * 3 by omega, show j * 3 + 3 + 1 - 3 = j * 3 + 1 by omega, show j * 3 + 3 + 2 - 3 = j * 3 + 2 by omega]

theorem headsInv_step {E : Eg} {now : Int} {j : Nat} {hs : List Hd} (h8 : hs.length = 8) (hj : j < 8) (h : ∀ c h, hs[c]? = some h → (c < j → HeadAt E now c h) ∧ (j ≤ c → h = ⟨0, 0, 0⟩)) {x : Hd} (hx : HeadAt E now j x) :
    (hs.set j x).length = 8 ∧ ∀ c h, (hs.set j x)[c]? = some h → (c < j + 1 → HeadAt E now c h) ∧ (j + 1 ≤ c → h = ⟨0, 0, 0⟩) := by
  refine ⟨by rw [List.length_set]; exact h8, fun c y hy => ?_⟩
  by_cases e : j = c
  · subst e
    rw [List.getElem?_set_self (by omega)] at hy
    injection hy with hy
    subst hy
    exact ⟨fun _ => hx, fun hh => by omega⟩
  · rw [List.getElem?_set_ne e] at hy
    obtain ⟨h1, h2⟩ := h c y hy
    exact ⟨fun hh => h1 (by omega), fun hh => h2 (by omega)⟩

theorem headsInv_skip {E : Eg} {now : Int} {j : Nat} {hs : List Hd} (h : ∀ c h, hs[c]? = some h → (c < j → HeadAt E now c h) ∧ (j ≤ c → h = ⟨0, 0, 0⟩)) (hx : HeadAt E now j ⟨0, 0, 0⟩) :
    ∀ c h, hs[c]? = some h → (c < j + 1 → HeadAt E now c h) ∧ (j + 1 ≤ c → h = ⟨0, 0, 0⟩) := fun c y hy => by
  obtain ⟨h1, h2⟩ := h c y hy
  refine ⟨fun hh => ?_, fun hh => h2 (by omega)⟩
  by_cases e : c = j
  · subst e; rw [h2 (Nat.le_refl _)]; exact hx
  · exact h1 (by omega)

set_option maxRecDepth 100000 in
set_option maxHeartbeats 8000000 in
theorem heads_ok {w : World} {G : Geo} {E : Eg} (h : EgIn w G E) {now : Int} (hk : EgOk E now) :
    Calls Try.prog 47 #[.pointer (some ⟨G.p, 0, none⟩), .int .i64 now] w (HeadsDid w G E now) := by
  have HE := Lib.hid h
  have HOK := Lib.hid hk
  clear h hk
  go_enter Try.func47, Try.ntmps47
  go_wp2_with fail
  go_loopg [13] 8 (fun k i wr => HeadsInv w G E now k i wr)
  case atStart =>
    refine ⟨0, List.replicate 8 ⟨0, 0, 0⟩, by omega, rfl, (HE.out.same ((Keeps.refl _ _).alloc _)).same ((Keeps.refl _ _).alloc _), ((Keeps.refl _ _).alloc _).alloc _, rfl, fun c h hc => ⟨fun x => absurd x (Nat.not_lt_zero _), fun _ => (List.mem_replicate.1 (List.mem_of_getElem? hc)).2⟩, ?_, (Blk.new w (hcells (List.replicate 8 ⟨0, 0, 0⟩)) 89).alloc _⟩
    have := Blk.new (w.alloc (.cells (hcells (List.replicate 8 ⟨0, 0, 0⟩)).toArray 89)) (hcells (List.replicate 8 ⟨0, 0, 0⟩)) 89
    rw [show (w.alloc (.cells (hcells (List.replicate 8 ⟨0, 0, 0⟩)).toArray 89)).heap.size = w.heap.size + 1 by simp] at this
    exact this
  case round =>
    obtain ⟨j, hs, hj, rfl, hE2, hk, h8, hI, hB, hR⟩ := hrel
    have HE2 := Lib.hid hE2
    have HK2 := Lib.hid hk
    have H8 := Lib.hid h8
    have HI := Lib.hid hI
    have HB := Lib.hid hB
    have HR := Lib.hid hR
    clear hk h8 hI hB hR
    by_cases hlt : j < 8
    · obtain ⟨r, hr⟩ : ∃ r, E.rs[j]? = some r := ⟨_, List.getElem?_eq_getElem (by obtain ⟨_, _, _, _, hR⟩ := hE2.ring; have := hR.eight; omega)⟩
      have hgd : E.rs.getD j ⟨0, [], 0⟩ = r := by rw [List.getD_eq_getElem?_getD, hr]; rfl
      have n1 : wr.cell? ⟨G.p, 1, none⟩ = some (.pointer (some ⟨G.rp, 0, none⟩)) := hE2.blk.cell 1
      cases hq : r.q with
      | nil =>
        have CH := head_none hE2.ring j r hr hq
        have hh : Hid (HeadAt E now j ⟨0, 0, 0⟩) := ⟨0, by omega, by omega, fun _ => rfl, by unfold headOf; rw [hgd, hq]⟩
        clear hr hgd hq hE2
        go_wp2_with (go_at_call 71; refine CH.mono ?_; rintro e w2 ⟨rfl, rfl⟩; clear CH)
        go_roundg (gk - 1)
        case measure => omega
        case rel => exact ⟨j + 1, hs, by omega, by go_num, HE2.out, HK2.out, H8.out, headsInv_skip HI.out hh.out, HB.out, HR.out⟩
      | cons x q =>
        have CH := head_some hE2.ring j x q r hr hq
        have CS := fun v (hv : Keeps Nothing wr v) => size_ok (PoolAt.keeps hE2.pool hv (fun _ _ h => h)) x
        obtain ⟨hx0, hx1, hx2⟩ := HOK.out.has r (List.mem_of_getElem? hr) x (by rw [hq]; exact List.mem_cons_self)
        have hhd : Hid (∀ cr, headOf E now cr j = ⟨sizeP E.ps x, fitsOf E.S j now (timeOf (sizeP E.ps x) E.speed), cr⟩) := by
          show ∀ cr, headOf E now cr j = ⟨sizeP E.ps x, fitsOf E.S j now (timeOf (sizeP E.ps x) E.speed), cr⟩
          intro cr; unfold headOf; rw [hgd, hq]
        have n2 : wr.cell? ⟨G.p, 2, none⟩ = some (.pointer (some ⟨G.pp, 0, none⟩)) := hE2.blk.cell 2
        obtain ⟨sz, hsz⟩ : ∃ sz, sz = sizeP E.ps x := ⟨_, rfl⟩
        rw [← hsz] at hx1 hx2 CS hhd
        clear hr hgd hq hx0 hsz hE2
        go_upto_region 8 with (first | (go_at_call 71; refine CH.mono ?_; rintro e w2 ⟨rfl, k2⟩; clear CH; have m2 := (k2.cell (World.block_lt_of_cell? _ _ n2) (fun h => h)).trans n2) | (go_at_call 41; refine (CS _ k2).mono ?_; rintro e w2 ⟨rfl, rfl⟩; clear CS))
        have HB3 := Lib.hid (Blk.new w2 [.int .i64 sz, .int .i64 0, .int .i64 0] 88)
        have HK3 := Lib.hid (k2.alloc (.cells #[.int .i64 sz, .int .i64 0, .int .i64 0] 88))
        have hlt2 := HB.out.lt
        have hlt3 := k2.size
        have hlt4 : w.heap.size + 1 < w2.heap.size := by omega
        clear hlt2 hlt3 n1 n2 m2
        change Code.wp _ _ _ _ (w2.alloc (.cells #[.int .i64 sz, .int .i64 0, .int .i64 0] 88))
        generalize (w2.alloc (.cells #[.int .i64 sz, .int .i64 0, .int .i64 0] 88)) = w3 at *
        have hl5 : wr.heap.size ≤ w2.heap.size := k2.size
        generalize w2.heap.size = hb at *
        have HL := Lib.hid hl5
        clear k2
        have hE3 := HE2.out.same HK3.out
        have a0 : w3.cell? ⟨hb, 0, none⟩ = some (.int .i64 sz) := HB3.out.cell 0
        have a11 : w3.cell? ⟨G.p, 11, none⟩ = some (.int .i64 E.speed) := hE3.blk.cell 11
        obtain ⟨t, ht⟩ : ∃ t, t = timeOf sz E.speed := ⟨_, rfl⟩
        have htr := timeOf_range HOK.out.speed hx1 hx2
        have CT := fun v => time_ok v sz E.speed HOK.out.speed hx1 hx2
        rw [← ht] at htr CT hhd
        clear ht hx1 hx2 hE3
        refine wp_region_still_tail 11 (by kernel_rfl) (by kernel_rfl) ?_
        simp only [List.take_succ_cons, List.take_zero, List.drop_succ_cons, List.drop_zero]
        repeat still_step
        still_call (CT _)
        repeat still_step
        refine wpStill_nil ?_
        change wpList _ _ _ _ _ w3.drew
        have HB4 : Hid (Blk w3.drew hb [.int .i64 sz, .int .i64 0, .int .i64 0] 88) := HB3.out
        have HK4 := Lib.hid (HK3.out.drew)
        clear CT a0 a11 HB3 HK3
        generalize w3.drew = w4 at *
        have hE4 := HE2.out.same HK4.out
        have a0 : w4.cell? ⟨G.p, 0, none⟩ = some (.pointer (some ⟨G.sp, 0, none⟩)) := hE4.blk.cell 0
        obtain ⟨f, hf, hff⟩ := Fit.fits_ok (Sch.sys_ok HOK.out.good HOK.out.n0 HOK.out.ext) (opn (wrap64 ((2 : Int) ^ j))) (need := t) (by omega)
        have hf2 : fitsOf E.S j now t = f := by unfold fitsOf; rw [show (E.S.sys now).fits (opn (wrap64 ((2 : Int) ^ j))) t now = some f from hf]; rfl
        rw [hf2] at hhd
        have CF := gfits_ok hE4.sched HOK.out.good HOK.out.ext j _ hlt rfl now t f (by have := HOK.out.n1; omega) (by omega) (by omega) hf
        have b1 : w4.cell? ⟨hb, 1, none⟩ = some (.int .i64 0) := HB4.out.cell 1
        have bl := HB4.out.lt
        clear hE4 hf hff hf2
        go_upto_region 10 with (go_at_call 72; refine CF.mono ?_; rintro e w5 ⟨rfl, k5⟩; clear CF; have HB5 := Lib.hid (HB4.out.keeps k5 (fun h => h)); have c1 : w5.cell? ⟨hb, 1, none⟩ = some (.int .i64 0) := HB5.out.cell 1; have cf1 : w5.frozen? ⟨hb, 1, none⟩ = false := HB5.out.frozen 1; clear a0 b1)
        have HB6 := Lib.hid (HB5.out.set 1 (.int .i64 f))
        have hn5 : ∀ k, G.own k ≠ 0 → ¬ k = hb := fun k hk e => by
          have := HE2.out.lt k hk
          rw [e] at this
          exact absurd this (by have := HL.out; omega)
        have HE6 := Lib.hid ((((HE2.out.same HK4.out).same k5)).keeps ((Keeps.refl (fun k => k = hb) w5).setCell (p := ⟨hb, 1, none⟩) (fun _ => rfl) (.int .i64 f)) hn5)
        have HK6 := Lib.hid ((HK4.out.same k5).trans ((Keeps.refl (fun k => k = hb) w5).setCell (p := ⟨hb, 1, none⟩) (fun _ => rfl) (.int .i64 f)) (G := fun k => k = hb) (F := Nothing) (fun k hk hl => by rw [hk] at hl; exact absurd hl (by have := HL.out; omega)))
        clear c1 cf1
        generalize (w5.setCell ⟨hb, 1, none⟩ (.int .i64 f)) = w6 at *
        have hl0 := HB.out.lt
        have HBo : Hid (Blk w6 (w.heap.size + 1) (hcells hs) 89) := HB.out.keeps HK6.out (fun h => h)
        have HRo : Hid (Blk w6 w.heap.size (hcells (List.replicate 8 ⟨0, 0, 0⟩)) 89) := HR.out.keeps HK6.out (fun h => h)
        have o1 : w6.cell? ⟨hb, 0, none⟩ = some (.int .i64 sz) := HB6.out.cell 0
        have o2 : w6.cell? ⟨hb, 1, none⟩ = some (.int .i64 f) := HB6.out.cell 1
        have o3 : w6.cell? ⟨hb, 2, none⟩ = some (.int .i64 0) := HB6.out.cell 2
        have o4 : w6.frozen? ⟨hb, 2, none⟩ = false := HB6.out.frozen 2
        have q0 : w6.frozen? ⟨w.heap.size + 1, j * 3, none⟩ = false := HBo.out.frozen _
        have q1 : w6.frozen? ⟨w.heap.size + 1, j * 3 + 1, none⟩ = false := HBo.out.frozen _
        have q2 : w6.frozen? ⟨w.heap.size + 1, j * 3 + 2, none⟩ = false := HBo.out.frozen _
        obtain ⟨⟨z0, z1, z2⟩, hz⟩ : ∃ z, hs[j]? = some z := ⟨_, List.getElem?_eq_getElem (by have := H8.out; omega)⟩
        obtain ⟨y0, y1, y2⟩ := hcells_get hs j _ hz
        have r0 := (HBo.out.cell _).trans y0
        have r1 := (HBo.out.cell _).trans y1
        have r2 := (HBo.out.cell _).trans y2
        clear y0 y1 y2 hz hn5 bl k5
        have hsh : w6.cell? ⟨G.p, 3 + j, none⟩ = some (shv G.g j) := by
          rw [HE6.out.blk.cell (3 + j)]
          rcases j with _ | _ | _ | _ | _ | _ | _ | _ | j
          all_goals first | rfl | omega
        have hne : hb ≠ w.heap.size + 1 := by have := HL.out; omega
        cases hg : G.g j with
        | none =>
          have hsv : shv G.g j = .pointer none := by unfold shv; rw [hg]
          rw [hsv] at hsh
          have hx : Hid (HeadAt E now j ⟨sz, f, 0⟩) := ⟨0, by omega, by omega, fun _ => rfl, by rw [hhd.out]⟩
          have HB7 : Hid (Blk (((w6.setCell ⟨w.heap.size + 1, j * 3, none⟩ (.int .i64 sz)).setCell ⟨w.heap.size + 1, j * 3 + 1, none⟩ (.int .i64 f)).setCell ⟨w.heap.size + 1, j * 3 + 2, none⟩ (.int .i64 0)) (w.heap.size + 1) (hcells (hs.set j ⟨sz, f, 0⟩)) 89) := by
            have := ((HBo.out.set (j * 3) (.int .i64 sz)).set (j * 3 + 1) (.int .i64 f)).set (j * 3 + 2) (.int .i64 0)
            rw [hcells_set hs j ⟨sz, f, 0⟩ (by rw [H8.out]; exact hlt)] at this
            exact this
          have HK7 := Lib.hid (((((Keeps.refl (fun k => k = w.heap.size + 1) w6).setCell (p := ⟨w.heap.size + 1, j * 3, none⟩) (fun _ => rfl) (.int .i64 sz)).setCell (p := ⟨w.heap.size + 1, j * 3 + 1, none⟩) (fun _ => rfl) (.int .i64 f)).setCell (p := ⟨w.heap.size + 1, j * 3 + 2, none⟩) (fun _ => rfl) (.int .i64 0)))
          clear hsv hg
          go_wp2_with fail
          go_roundg (gk - 1)
          case measure => omega
          case rel =>
            obtain ⟨g1, g2⟩ := headsInv_step H8.out hlt HI.out hx.out
            refine ⟨j + 1, _, by omega, by go_num, HE6.out.keeps HK7.out (fun k hk e => ?_), ?_, g1, g2, HB7.out, HRo.out.keeps HK7.out (fun e => by omega)⟩
            · have := HE.out.lt k hk; omega
            · exact (HK2.out.trans HK6.out (G := Nothing) (fun _ h _ => h.elim)).trans HK7.out (fun k e hl => absurd hl (by omega))
        | some k =>
          have hsv : shv G.g j = .pointer (some ⟨k, 0, none⟩) := by unfold shv; rw [hg]
          rw [hsv] at hsh
          obtain ⟨hsa, h5⟩ := HE6.out.sh j k hlt hg
          have HS5 := Lib.hid h5
          have hshd : E.shaped = false → False := fun e => by have := HE.out.none e j hlt; rw [hg] at this; cases this
          have HSH := Lib.hid hshd
          have HG := Lib.hid hg
          have hk1 : k ≠ hb := fun e => by have := HE2.out.lt k (by rw [h5]; decide); rw [e] at this; exact absurd this (by have := HL.out; omega)
          have hk2 : k ≠ w.heap.size + 1 := fun e => by have := HE.out.lt k (by rw [h5]; decide); omega
          have hk3 : k ≠ w.heap.size := fun e => by have := HE.out.lt k (by rw [h5]; decide); omega
          have CW := swhen_ok w6 k now hsa HOK.out.n0 (by have := HOK.out.n1; omega)
          clear hsv hg hsa h5 hshd q0 q1 q2 r0 r1 r2 o1 o2 o3 o4
          go_upto_region 13 with (go_at_call 73; refine CW.mono ?_; rintro e w7 ⟨t2, rfl, t20, t21, hS7, k7⟩; clear CW; have hB7 := HB6.out.keeps k7 (fun e => hk1 e.symm); have c2 : w7.cell? ⟨hb, 2, none⟩ = some (.int .i64 0) := hB7.cell 2; have cf2 : w7.frozen? ⟨hb, 2, none⟩ = false := hB7.frozen 2)
          have HB8 := Lib.hid (hB7.set 2 (.int .i64 t2))
          have HE7 := Lib.hid (HE6.out.shaper hlt HG.out k7 hS7)
          have HKc := Lib.hid ((Keeps.refl (fun k => k = hb) w7).setCell (p := ⟨hb, 2, none⟩) (fun _ => rfl) (.int .i64 t2))
          have HE8 := Lib.hid (HE7.out.keeps HKc.out (fun x hx e => by
            have := HE2.out.lt x hx
            rw [e] at this
            exact absurd this (by have := HL.out; omega)))
          have HBp : Hid (Blk (w7.setCell ⟨hb, 2, none⟩ (.int .i64 t2)) (w.heap.size + 1) (hcells hs) 89) := (HBo.out.keeps k7 (fun e => hk2 e.symm)).keeps HKc.out (fun e => hne e.symm)
          have HRp : Hid (Blk (w7.setCell ⟨hb, 2, none⟩ (.int .i64 t2)) w.heap.size (hcells (List.replicate 8 ⟨0, 0, 0⟩)) 89) := (HRo.out.keeps k7 (fun e => hk3 e.symm)).keeps HKc.out (fun e => by have := HL.out; omega)
          have HK8 : Hid (Keeps (fun x => G.own x = 5) wr (w7.setCell ⟨hb, 2, none⟩ (.int .i64 t2))) := ((HK6.out.mono (G := fun x => G.own x = 5) (fun _ h _ => h.elim)).trans k7 (fun x hx _ => by rw [hx]; exact HS5.out)).trans HKc.out (fun x hx hl => by rw [hx] at hl; exact absurd hl (by have := HL.out; omega))
          clear hB7 c2 cf2 k7
          generalize (w7.setCell ⟨hb, 2, none⟩ (.int .i64 t2)) = w8 at *
          have o1 : w8.cell? ⟨hb, 0, none⟩ = some (.int .i64 sz) := HB8.out.cell 0
          have o2 : w8.cell? ⟨hb, 1, none⟩ = some (.int .i64 f) := HB8.out.cell 1
          have o3 : w8.cell? ⟨hb, 2, none⟩ = some (.int .i64 t2) := HB8.out.cell 2
          have q0 : w8.frozen? ⟨w.heap.size + 1, j * 3, none⟩ = false := HBp.out.frozen _
          have q1 : w8.frozen? ⟨w.heap.size + 1, j * 3 + 1, none⟩ = false := HBp.out.frozen _
          have q2 : w8.frozen? ⟨w.heap.size + 1, j * 3 + 2, none⟩ = false := HBp.out.frozen _
          obtain ⟨⟨z0, z1, z2⟩, hz⟩ : ∃ z, hs[j]? = some z := ⟨_, List.getElem?_eq_getElem (by have := H8.out; omega)⟩
          obtain ⟨y0, y1, y2⟩ := hcells_get hs j _ hz
          have r0 := (HBp.out.cell _).trans y0
          have r1 := (HBp.out.cell _).trans y1
          have r2 := (HBp.out.cell _).trans y2
          clear y0 y1 y2 hz
          have hx : Hid (HeadAt E now j ⟨sz, f, t2⟩) := ⟨t2, t20, t21, fun e => (HSH.out e).elim, by rw [hhd.out]⟩
          have HB9 : Hid (Blk (((w8.setCell ⟨w.heap.size + 1, j * 3, none⟩ (.int .i64 sz)).setCell ⟨w.heap.size + 1, j * 3 + 1, none⟩ (.int .i64 f)).setCell ⟨w.heap.size + 1, j * 3 + 2, none⟩ (.int .i64 t2)) (w.heap.size + 1) (hcells (hs.set j ⟨sz, f, t2⟩)) 89) := by
            have := ((HBp.out.set (j * 3) (.int .i64 sz)).set (j * 3 + 1) (.int .i64 f)).set (j * 3 + 2) (.int .i64 t2)
            rw [hcells_set hs j ⟨sz, f, t2⟩ (by rw [H8.out]; exact hlt)] at this
            exact this
          have HK9 := Lib.hid (((((Keeps.refl (fun k => k = w.heap.size + 1) w8).setCell (p := ⟨w.heap.size + 1, j * 3, none⟩) (fun _ => rfl) (.int .i64 sz)).setCell (p := ⟨w.heap.size + 1, j * 3 + 1, none⟩) (fun _ => rfl) (.int .i64 f)).setCell (p := ⟨w.heap.size + 1, j * 3 + 2, none⟩) (fun _ => rfl) (.int .i64 t2)))
          go_wp2_with fail
          go_roundg (gk - 1)
          case measure => omega
          case rel =>
            obtain ⟨g1, g2⟩ := headsInv_step H8.out hlt HI.out hx.out
            refine ⟨j + 1, _, by omega, by go_num, HE8.out.keeps HK9.out (fun k hk e => ?_), ?_, g1, g2, HB9.out, HRp.out.keeps HK9.out (fun e => by omega)⟩
            · have := HE.out.lt k hk; omega
            · exact (HK2.out.trans HK8.out (fun x h _ => h)).trans HK9.out (fun k e hl => absurd hl (by omega))
    · have HS : Hid ((Try.prog.info? 89).map (·.size) = some (hcells hs).toArray.size) := by
        show (Try.prog.info? 89).map (·.size) = some (hcells hs).toArray.size
        rw [List.size_toArray, hcells_len, H8.out]
        kernel_rfl
      have HO := Lib.hid (hcells_one hs)
      have HZ : Hid ((hcells (List.replicate 8 ⟨0, 0, 0⟩)).toArray.size = (hcells hs).toArray.size) := by
        show (hcells (List.replicate 8 ⟨0, 0, 0⟩)).toArray.size = (hcells hs).toArray.size
        rw [List.size_toArray, List.size_toArray, hcells_len, hcells_len, H8.out, List.length_replicate]
      generalize (hcells (List.replicate 8 ⟨0, 0, 0⟩)) = zs at *
      obtain ⟨cs, hcs⟩ : ∃ cs, cs = hcells hs := ⟨_, rfl⟩
      rw [← hcs] at HB HS HO HZ
      have HCS := Lib.hid hcs
      clear hcs hE2
      go_wp2_with (first | (refine wpList_load_row rfl 89 (.tmp 5) rfl (w.heap.size + 1) rfl 89 cs.toArray (0, 0) _ HB.out Try.underlying89 rfl HS.out ?_) | (refine wpList_store_row rfl 89 (.tmp 4) (.tmp 69) rfl w.heap.size cs.toArray rfl rfl 89 zs.toArray HR.out HS.out HZ.out HO.out ?_))
      refine bodyPost_ret (results_cell_row rfl _ _ w.heap.size 89 cs.toArray (0, 0) _ rfl (setRow_blk HR.out) Try.underlying89 rfl HS.out) rfl ?_
      refine ⟨hs, by rw [HCS.out], ⟨H8.out, fun c h hc => (HI.out c h hc).1 (by have := (List.getElem?_eq_some_iff.1 hc).1; have := H8.out; omega)⟩, HE2.out.keeps (setRow_keeps _ _ _) (fun k hk e => ?_), HK2.out.trans (setRow_keeps _ _ _) (fun k e hl => absurd hl (by omega))⟩
      have := HE.out.lt k hk; omega
end

section
open Go.RowKit

theorem heldOf_some {ps : PSt} {i : Int} (h : heldOf ps i ≠ 0) : ∃ (j : Nat) (bs : Bytes) (k : Nat), i = (j : Int) ∧ ps[j]? = some (bs, k) ∧ 0 < k ∧ heldOf ps i = k ∧ ps.getD j ([], 0) = (bs, k) := by
  unfold heldOf at h
  by_cases hi : 0 ≤ i
  · rw [if_pos hi] at h
    obtain ⟨j, rfl⟩ : ∃ j : Nat, i = j := ⟨i.toNat, by omega⟩
    rw [Int.toNat_natCast] at h
    cases hx : ps[j]? with
    | none => rw [hx] at h; exact absurd rfl h
    | some x =>
      obtain ⟨bs, k⟩ := x
      rw [hx] at h
      have hk : k ≠ 0 := h
      refine ⟨j, bs, k, rfl, hx, by omega, ?_, by rw [List.getD_eq_getElem?_getD, hx]; rfl⟩
      unfold heldOf
      rw [if_pos hi, Int.toNat_natCast, hx]; rfl
  · rw [if_neg hi] at h; exact absurd rfl h

def holdP (ps : PSt) (i : Int) : PSt := if heldOf ps i = 0 then ps else ps.set i.toNat ((ps.getD i.toNat ([], 0)).1, (ps.getD i.toNat ([], 0)).2 + 1)
def dropP (ps : PSt) (i : Int) : PSt := if heldOf ps i = 0 then ps else ps.set i.toNat (if (ps.getD i.toNat ([], 0)).2 = 1 then ([], 0) else ((ps.getD i.toNat ([], 0)).1, (ps.getD i.toNat ([], 0)).2 - 1))
def errP (ps : PSt) (i : Int) : Int := if heldOf ps i = 0 then 21 else 0

def PTurn (w : World) (p : Nat) (F : Nat → Prop) (v : Value) (ps : PSt) (e : Ending) (w' : World) : Prop := e = .returned v ∧ PoolAt w' p F ps ∧ Keeps F w w'

theorem hold_ok {w : World} {p : Nat} {F : Nat → Prop} {ps : PSt} (hP : PoolAt w p F ps) (i : Int) (hb : heldOf ps i ≤ 1000000000) :
    Calls Try.prog 43 #[.pointer (some ⟨p, 0, none⟩), .int .i64 i] w (PTurn w p F (.int .i64 (errP ps i)) (holdP ps i)) := by
  unfold holdP errP
  by_cases h0 : heldOf ps i = 0
  · rw [if_pos h0, if_pos h0]
    exact (hold_missing hP i h0).mono fun e w' ⟨a, b⟩ => by subst b; exact ⟨a, hP, Keeps.refl _ _⟩
  · rw [if_neg h0, if_neg h0]
    obtain ⟨j, bs, k, rfl, hj, hk, hh, hg⟩ := heldOf_some h0
    rw [hh] at hb
    rw [Int.toNat_natCast, hg]
    exact hold_some hP j bs k hj hk hb

theorem drop_ok {w : World} {p : Nat} {F : Nat → Prop} {ps : PSt} (hP : PoolAt w p F ps) (i : Int) (hb : heldOf ps i ≤ 1000000000) :
    Calls Try.prog 14 #[.pointer (some ⟨p, 0, none⟩), .int .i64 i] w (PTurn w p F (.int .i64 (errP ps i)) (dropP ps i)) := by
  unfold dropP errP
  by_cases h0 : heldOf ps i = 0
  · rw [if_pos h0, if_pos h0]
    exact (drop_missing hP i h0).mono fun e w' ⟨a, b⟩ => by subst b; exact ⟨a, hP, Keeps.refl _ _⟩
  · rw [if_neg h0, if_neg h0]
    obtain ⟨j, bs, k, rfl, hj, hk, hh, hg⟩ := heldOf_some h0
    rw [hh] at hb
    rw [Int.toNat_natCast, hg]
    simp only
    by_cases h1 : k = 1
    · subst h1
      rw [if_pos rfl]
      exact drop_last hP j bs hj
    · rw [if_neg h1]
      obtain ⟨m, rfl⟩ : ∃ m, k = m + 2 := ⟨k - 2, by omega⟩
      exact drop_more hP j bs m hj (by omega)

def pushR (rs : List RSt) (c x : Int) : List RSt :=
  if c < 0 ∨ 8 ≤ c then rs
  else if (rs.getD c.toNat ⟨0, [], 0⟩).q.length < (rs.getD c.toNat ⟨0, [], 0⟩).n then rs.set c.toNat { rs.getD c.toNat ⟨0, [], 0⟩ with q := (rs.getD c.toNat ⟨0, [], 0⟩).q ++ [x] }
  else rs.set c.toNat { rs.getD c.toNat ⟨0, [], 0⟩ with lost := (rs.getD c.toNat ⟨0, [], 0⟩).lost + 1 }
def errR (rs : List RSt) (c : Int) : Int :=
  if c < 0 ∨ 8 ≤ c then 1 else if (rs.getD c.toNat ⟨0, [], 0⟩).q.length < (rs.getD c.toNat ⟨0, [], 0⟩).n then 0 else 20

theorem rpush_ok {w : World} {p : Nat} {F : Nat → Prop} {rs : List RSt} (h : RingAt w p F rs) (c x : Int) (hl : ∀ r ∈ rs, r.lost ≤ 1000000000) :
    Calls Try.prog 42 #[.pointer (some ⟨p, 0, none⟩), .int .i64 c, .int .i64 x] w (Turned w p F (.int .i64 (errR rs c)) (pushR rs c x)) := by
  unfold pushR errR
  by_cases ho : c < 0 ∨ 8 ≤ c
  · rw [if_pos ho, if_pos ho]
    exact (push_out c x ho).mono fun e w' ⟨a, b⟩ => by subst b; exact ⟨a, h, Keeps.refl _ _⟩
  · rw [if_neg ho, if_neg ho]
    obtain ⟨j, rfl⟩ : ∃ j : Nat, c = j := ⟨c.toNat, by omega⟩
    obtain ⟨r, hr⟩ : ∃ r, rs[j]? = some r := ⟨_, List.getElem?_eq_getElem (by obtain ⟨_, _, _, _, hR⟩ := h; have := hR.eight; omega)⟩
    have hg : rs.getD j ⟨0, [], 0⟩ = r := by rw [List.getD_eq_getElem?_getD, hr]; rfl
    have hfit : r.q.length ≤ r.n := by obtain ⟨_, _, _, _, hR⟩ := h; exact (hR.rows j r hr).fits
    rw [Int.toNat_natCast, hg]
    by_cases hf : r.q.length < r.n
    · rw [if_pos hf, if_pos hf]
      exact push_ok h j x r hr hf
    · rw [if_neg hf, if_neg hf]
      exact push_full h j x r hr (by omega) (hl r (List.mem_of_getElem? hr))

/-- The schedule is turned. -/
theorem EgIn.sch {w w' : World} {G : Geo} {E : Eg} (h : EgIn w G E) {S' : Sch} (hk : Keeps (fun k => k = G.sp) w w') (hs : SchAt w' G.sp S') (h1 : ∀ b o, S'.oper.A = some ⟨b, o, Option.none⟩ → G.own b = 6) (h2 : ∀ b o, S'.admin.A = some ⟨b, o, Option.none⟩ → G.own b = 6) : EgIn w' G { E with S := S' } := by
  have ne : ∀ x, G.own x ≠ 2 → ¬ x = G.sp := fun x hx e => hx (by rw [e]; exact h.os)
  exact
    { blk := h.blk.keeps hk (ne _ (by rw [h.op]; decide))
      sched := hs
      ring := h.ring.keeps hk (fun x hx => ne x (by rw [hx]; decide))
      pool := h.pool.keeps hk (fun x hx => ne x (by rw [hx]; decide))
      sh := fun d x hd hx => ⟨(h.sh d x hd hx).1.keeps hk (ne x (by rw [(h.sh d x hd hx).2]; decide)), (h.sh d x hd hx).2⟩
      op := h.op, os := h.os, lo := h1, la := h2
      lt := fun x hx => Nat.lt_of_lt_of_le (h.lt x hx) hk.size
      none := h.none, cnt8 := h.cnt8 }

def Eg.passed (E : Eg) (now : Int) : Eg := { E with S := E.S.pass now }

def PassDid (w : World) (G : Geo) (E1 : Eg) (e : Ending) (w' : World) : Prop := e = .returned (.tuple #[]) ∧ EgIn w' G E1 ∧ Keeps (fun k => k = G.sp) w w'

theorem Sch.chg_le (S : Sch) : S.chg ≤ S.cnt := by unfold Sch.cnt; split <;> omega

theorem epass_ok {w : World} {G : Geo} {E : Eg} (h : EgIn w G E) {t : Int} (hk : EgOk E t) (now : Int) :
    Calls Try.prog 45 #[.pointer (some ⟨G.sp, 0, none⟩), .int .i64 now] w (PassDid w G (E.passed now)) :=
  (pass_ok h.sched now ⟨hk.chg0, by have := hk.chg1; have := Sch.chg_le E.S; omega⟩).mono fun e w' ⟨a, b, c⟩ => by
    have hA := Sch.pass_A (fun A => ∀ b o, A = some ⟨b, o, none⟩ → G.own b = 6) (fun b o e => by cases e) (S := E.S) h.lo h.la now
    exact ⟨a, h.sch c b hA.1 hA.2, c⟩

theorem EgOk.passed {E : Eg} {t now : Int} (h : EgOk E t) (ht : t ≤ now) (hn : now ≤ 1000000000000000) : EgOk (E.passed now) now :=
  { speed := h.speed, has := h.has, good := h.good.pass now, ext := h.ext.pass ht, n0 := Int.le_trans h.n0 ht, n1 := hn,
    chg0 := by have := h.chg0; have := (Sch.pass_chg E.S now).1; show 0 ≤ (E.S.pass now).chg; omega,
    chg1 := by show (E.S.pass now).cnt ≤ _; rw [Sch.cnt_pass]; exact h.chg1, cnts := h.cnts, held := h.held, lost := h.lost }
end

end Go.Proofs.Ytimgmobmagpmlaa
