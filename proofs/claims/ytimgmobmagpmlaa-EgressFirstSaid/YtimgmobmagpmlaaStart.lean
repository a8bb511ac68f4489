/- The next frame is sent, if one may go. What is being sent is sent; a frame comes to wait. What holding and dropping does to how often each frame is held, and to their sizes. -/
import Derived.Test.YtimgmobmagpmlaaEg
namespace Go.Proofs.Ytimgmobmagpmlaa

section
open Go.RowKit

theorem results_cell38 {fn : Func} {p u : Tmp} (h : fn.results = #[.cell p 38, .tmp u]) (tmps : Array Value) (w : World) (g : Nat) (cs : List Value) (T : TypeId) (hp : tmps.getD p undef = .pointer (some ⟨g, 0, none⟩)) (hB : Blk w g cs T) (h4 : cs.length = 4) :
    (results fn tmps).run Try.prog w = .ok (.tuple #[.agg cs.toArray, tmps.getD u undef]) w := by
  rw [results_cell_tmp h, hp]
  have hi : (Try.prog.info? 38).map (·.size) = some 4 := by kernel_rfl
  have hl := run_loadVar_row (P := Try.prog) w g T 38 cs.toArray (0, 0) _ hB Try.underlying38 rfl (by rw [List.size_toArray, h4]; exact hi)
  simp [asAddr, hl]

/-- Class c's first frame is sent from now on. -/
def Eg.sends (E : Eg) (now : Int) (c : Nat) (x : Int) (q : List Int) : Eg :=
  { E with rs := E.rs.set c { E.rs.getD c ⟨0, [], 0⟩ with q := q }, busy := true, cls := (c : Int), id := x, frm := now, till := now + timeOf (sizeP E.ps x) E.speed, cnt := E.cnt.set c (E.cnt.getD c 0 + 1) }

def sentV (a b c d : Int) : Value := .agg #[.int .i64 a, .int .i64 b, .int .i64 c, .int .i64 d]

/-- What Start comes to: none goes, or class c's first one does. -/
inductive Starts (E : Eg) (now : Int) : Value → Eg → Prop
  | down : E.up = false ∨ E.busy = true → Starts E now (.tuple #[sentV 0 0 0 0, .bool false]) E
  | none (hs : List Hd) : E.up = true → E.busy = false → HeadsIs E now hs → classGo hs now 8 < 0 → Starts E now (.tuple #[sentV 0 0 0 0, .bool false]) E
  | goes (hs : List Hd) (c : Nat) (x : Int) (q : List Int) : E.up = true → E.busy = false → HeadsIs E now hs → classGo hs now 8 = (c : Int) → c < 8 → (E.rs.getD c ⟨0, [], 0⟩).q = x :: q →
      Starts E now (.tuple #[sentV c x now (now + timeOf (sizeP E.ps x) E.speed), .bool true]) (E.sends now c x q)

def StartDid (w : World) (G : Geo) (E1 : Eg) (now : Int) (e : Ending) (w' : World) : Prop :=
  ∃ v E', e = .returned v ∧ Starts E1 now v E' ∧ Went w G E' w' G

theorem classGo_lt (hs : List Hd) (now : Int) : ∀ n : Nat, classGo hs now n < n ∧ -1 ≤ classGo hs now n
  | 0 => by simp [classGo]
  | n + 1 => by
    rw [classGo]
    have := classGo_lt hs now n
    by_cases h : (hs.getD n ⟨0, 0, 0⟩).goes now = true
    · rw [if_pos h]; omega
    · rw [if_neg h]; omega

theorem classGo_goes {hs : List Hd} {now : Int} : ∀ {n : Nat} {c : Nat}, classGo hs now n = (c : Int) → c < n ∧ (hs.getD c ⟨0, 0, 0⟩).goes now = true ∧ ∀ d, c < d → d < n → (hs.getD d ⟨0, 0, 0⟩).goes now = false
  | 0, c, h => by simp [classGo] at h
  | n + 1, c, h => by
    rw [classGo] at h
    by_cases hg : (hs.getD n ⟨0, 0, 0⟩).goes now = true
    · rw [if_pos hg] at h
      obtain rfl : n = c := by omega
      exact ⟨by omega, hg, fun d h1 h2 => by omega⟩
    · rw [if_neg hg] at h
      obtain ⟨h1, h2, h3⟩ := classGo_goes h
      refine ⟨by omega, h2, fun d h4 h5 => ?_⟩
      by_cases e : d = n
      · subst e; simpa using hg
      · exact h3 d h4 (by omega)

theorem HeadsIs.get {E : Eg} {now : Int} {hs : List Hd} (h : HeadsIs E now hs) {c : Nat} (hc : c < 8) : HeadAt E now c (hs.getD c ⟨0, 0, 0⟩) := by
  have hl : c < hs.length := by have := h.1; omega
  have := h.2 c hs[c] (List.getElem?_eq_getElem hl)
  rw [List.getD_eq_getElem?_getD, List.getElem?_eq_getElem hl]
  exact this

theorem headOf_goes {E : Eg} {now : Int} {c : Nat} {h : Hd} (hh : HeadAt E now c h) (hg : h.goes now = true) : ∃ x q cr, (E.rs.getD c ⟨0, [], 0⟩).q = x :: q ∧ h = ⟨sizeP E.ps x, fitsOf E.S c now (timeOf (sizeP E.ps x) E.speed), cr⟩ ∧ cr ≤ now ∧ 0 ≤ fitsOf E.S c now (timeOf (sizeP E.ps x) E.speed) ∧ fitsOf E.S c now (timeOf (sizeP E.ps x) E.speed) ≤ now ∧ 0 < sizeP E.ps x := by
  obtain ⟨cr, c0, c1, c2, rfl⟩ := hh
  unfold headOf at hg ⊢
  cases hq : (E.rs.getD c ⟨0, [], 0⟩).q with
  | nil => rw [hq] at hg; simp [Hd.goes] at hg
  | cons x q =>
    rw [hq] at hg
    simp [Hd.goes] at hg
    exact ⟨x, q, cr, rfl, rfl, hg.2.2.2, hg.2.1, hg.2.2.1, hg.1⟩

theorem Blk.set4 {w : World} {r : Nat} {x0 x1 x2 x3 : Value} {T : TypeId} (h : Blk w r [x0, x1, x2, x3] T) (a b c d : Value) :
    Blk ((((w.setCell ⟨r, 0, none⟩ a).setCell ⟨r, 1, none⟩ b).setCell ⟨r, 2, none⟩ c).setCell ⟨r, 3, none⟩ d) r [a, b, c, d] T :=
  (((h.set 0 a).set 1 b).set 2 c).set 3 d

theorem keeps4 (w : World) (r : Nat) (a b c d : Value) : Keeps (fun k => k = r) w ((((w.setCell ⟨r, 0, none⟩ a).setCell ⟨r, 1, none⟩ b).setCell ⟨r, 2, none⟩ c).setCell ⟨r, 3, none⟩ d) :=
  ((((Keeps.refl (fun k => k = r) w).setCell (p := ⟨r, 0, none⟩) (fun _ => rfl) a).setCell (p := ⟨r, 1, none⟩) (fun _ => rfl) b).setCell (p := ⟨r, 2, none⟩) (fun _ => rfl) c).setCell (p := ⟨r, 3, none⟩) (fun _ => rfl) d

theorem cells_cnt (G : Geo) (E : Eg) (c : Nat) (n : Int) : (E.cells G).set (18 + c) (.int .i64 n) = ({ E with cnt := E.cnt.set c n } : Eg).cells G := by
  rw [Nat.add_comm]
  show _ :: _ :: _ :: _ :: _ :: _ :: _ :: _ :: _ :: _ :: _ :: _ :: _ :: _ :: _ :: _ :: _ :: _ :: ((E.cnt.map (Value.int .i64)).set c (.int .i64 n)) = _
  rw [← List.map_set]
  rfl

theorem cells_cnt_get (G : Geo) (E : Eg) (c : Nat) : (E.cells G)[18 + c]? = (E.cnt.map (Value.int .i64))[c]? := by
  rw [Nat.add_comm]
  rfl

/-- A block of the call's own is turned besides. -/
theorem Went.local {w w' w'' : World} {G G' : Geo} {E' : Eg} {r : Nat} (h : Went w G E' w' G') (hk : Keeps (fun k => k = r) w' w'') (hr : w.heap.size ≤ r) (ho : G'.own r = 0) : Went w G E' w'' G' :=
  ⟨h.at_.keeps hk (fun k hk' e => hk' (by rw [e]; exact ho)), h.ext, h.keeps.trans hk (fun x hx hl => by omega)⟩

theorem EgIn.own0 {w : World} {G : Geo} {E : Eg} (h : EgIn w G E) {r : Nat} (hr : w.heap.size ≤ r) : G.own r = 0 := by
  rcases Nat.eq_zero_or_pos (G.own r) with h0 | h0
  · exact h0
  · have := h.lt r (by omega)
    omega

set_option maxRecDepth 100000 in
set_option maxHeartbeats 8000000 in
theorem start_ok {w : World} {G : Geo} {E : Eg} (h : EgIn w G E) {t now : Int} (hk : EgOk E t) (ht : t ≤ now) (hn : now ≤ 1000000000000000) :
    Calls Try.prog 15 #[.pointer (some ⟨G.p, 0, none⟩), .int .i64 now] w (StartDid w G (E.passed now) now) := by
  have HE := Lib.hid h
  have HOK := Lib.hid hk
  have hpl := h.blk.lt
  have HBr := Lib.hid (Blk.new w [.int .i64 0, .int .i64 0, .int .i64 0, .int .i64 0] 38)
  have HK1 := Lib.hid ((Keeps.refl Nothing w).alloc (.cells #[.int .i64 0, .int .i64 0, .int .i64 0, .int .i64 0] 38))
  have HE1 := Lib.hid (h.same HK1.out)
  have a0 : (w.alloc (.cells #[.int .i64 0, .int .i64 0, .int .i64 0, .int .i64 0] 38)).cell? ⟨G.p, 0, none⟩ = some (.pointer (some ⟨G.sp, 0, none⟩)) := HE1.out.blk.cell 0
  clear h hk
  go_enter Try.func15, Try.ntmps15
  go_upto_region 1 with fail
  generalize (w.alloc (.cells #[.int .i64 0, .int .i64 0, .int .i64 0, .int .i64 0] 38)) = w1 at *
  have C45 := epass_ok HE1.out HOK.out now
  have HOK2 := Lib.hid (HOK.out.passed ht hn)
  generalize E.passed now = E1 at *
  go_upto_region 3 with (first
    | (go_at_call 45; refine C45.mono ?_; rintro e w2 ⟨rfl, hE2, k2⟩; clear C45; have C40 := modes_ok hE2 now (by omega))
    | (go_at_call 40; refine C40.mono ?_; rintro e w3 ⟨rfl, hE3, k3⟩; clear C40))
  have nr : ∀ k, G.own k ≠ 0 → k ≠ w.heap.size := fun k hk e => by have := HE.out.lt k hk; omega
  have HW3 : Hid (Went w G E1 w3 G) := ((Went.of (hE2.same (Keeps.refl _ _)) ((HK1.out.mono (G := fun k => k = G.sp) (fun _ h _ => h.elim)).trans k2 (fun x hx _ => hx)) (fun k hk => by subst hk; exact own_T (n := 2) (by decide) (by decide) _ HE.out.os))).trans (Went.of hE3 k3 (own_T (by decide) (by decide)))
  have HB3 : Hid (Blk w3 w.heap.size [.int .i64 0, .int .i64 0, .int .i64 0, .int .i64 0] 38) := ((HBr.out.keeps k2 (fun e => nr _ (by rw [HE.out.os]; decide) e.symm)).keeps k3 (fun e => nr _ (by rw [e]; decide) rfl))
  have b12 : w3.cell? ⟨G.p, 12, none⟩ = some (.bool E1.up) := hE3.blk.cell 12
  have b13 : w3.cell? ⟨G.p, 13, none⟩ = some (.bool E1.busy) := hE3.blk.cell 13
  have r0 : w3.cell? ⟨w.heap.size, 0, none⟩ = some (.int .i64 0) := HB3.out.cell 0
  have r1 : w3.cell? ⟨w.heap.size, 1, none⟩ = some (.int .i64 0) := HB3.out.cell 1
  have r2 : w3.cell? ⟨w.heap.size, 2, none⟩ = some (.int .i64 0) := HB3.out.cell 2
  have r3 : w3.cell? ⟨w.heap.size, 3, none⟩ = some (.int .i64 0) := HB3.out.cell 3
  have f0 : w3.frozen? ⟨w.heap.size, 0, none⟩ = false := HB3.out.frozen 0
  have f1 : w3.frozen? ⟨w.heap.size, 1, none⟩ = false := HB3.out.frozen 1
  have f2 : w3.frozen? ⟨w.heap.size, 2, none⟩ = false := HB3.out.frozen 2
  have f3 : w3.frozen? ⟨w.heap.size, 3, none⟩ = false := HB3.out.frozen 3
  clear k2 k3 hE2 a0
  by_cases hud : E1.up = false ∨ E1.busy = true
  · have hud2 : E1.up = false ∨ (E1.up = true ∧ E1.busy = true) := by
      cases h : E1.up
      · exact .inl rfl
      · exact .inr ⟨rfl, by rw [h] at hud; exact hud.resolve_left (by decide)⟩
    have HUD := Lib.hid hud
    clear hud
    rcases hud2 with u1 | ⟨u1, u2⟩ <;> rw [u1] at b12 <;> try rw [u2] at b13
    all_goals
      go_wp2_with fail
      refine bodyPost_ret (results_cell38 rfl _ _ w.heap.size [.int .i64 0, .int .i64 0, .int .i64 0, .int .i64 0] 38 rfl (HB3.out.set4 _ _ _ _) rfl) rfl ?_
      exact ⟨_, E1, rfl, .down HUD.out, HW3.out.local (keeps4 _ _ _ _ _ _) (Nat.le_refl _) (HE.out.own0 (Nat.le_refl _))⟩
  · have u1 : E1.up = true := by
      cases h : E1.up
      · exact absurd (.inl h) hud
      · rfl
    have u2 : E1.busy = false := by
      cases h : E1.busy
      · rfl
      · exact absurd (.inr h) hud
    rw [u1] at b12
    rw [u2] at b13
    have HU := Lib.hid (And.intro u1 u2)
    have C47 := heads_ok hE3 HOK2.out
    clear hud u1 u2
    go_upto_region 6 with (first
      | (go_at_call 47; refine C47.mono ?_; rintro e w4 ⟨hs, rfl, hHs, hE4, k4⟩; clear C47; have C46 := class_ok w4 hs hHs.1 now)
      | (go_at_call 46; refine C46.mono ?_; rintro e w5 ⟨rfl, k5⟩; clear C46))
    have HHs := Lib.hid hHs
    have HE5 := Lib.hid (hE4.same k5)
    have HW5 : Hid (Went w G E1 w5 G) := (HW3.out.trans (Went.of hE4 k4 (own_T (by decide) (by decide)))).same k5
    have HB5 : Hid (Blk w5 w.heap.size [.int .i64 0, .int .i64 0, .int .i64 0, .int .i64 0] 38) := (HB3.out.keeps k4 (fun e => nr _ (by rw [e]; decide) rfl)).keeps k5 (fun h => h)
    clear b12 b13 r0 r1 r2 r3 f0 f1 f2 f3 hHs hE4 k4 k5
    have r0 : w5.cell? ⟨w.heap.size, 0, none⟩ = some (.int .i64 0) := HB5.out.cell 0
    have r1 : w5.cell? ⟨w.heap.size, 1, none⟩ = some (.int .i64 0) := HB5.out.cell 1
    have r2 : w5.cell? ⟨w.heap.size, 2, none⟩ = some (.int .i64 0) := HB5.out.cell 2
    have r3 : w5.cell? ⟨w.heap.size, 3, none⟩ = some (.int .i64 0) := HB5.out.cell 3
    have f0 : w5.frozen? ⟨w.heap.size, 0, none⟩ = false := HB5.out.frozen 0
    have f1 : w5.frozen? ⟨w.heap.size, 1, none⟩ = false := HB5.out.frozen 1
    have f2 : w5.frozen? ⟨w.heap.size, 2, none⟩ = false := HB5.out.frozen 2
    have f3 : w5.frozen? ⟨w.heap.size, 3, none⟩ = false := HB5.out.frozen 3
    obtain ⟨cv, hcv⟩ : ∃ cv, cv = classGo hs now 8 := ⟨_, rfl⟩
    rw [← hcv]
    have HCV := Lib.hid hcv
    clear hcv
    by_cases hneg : cv < 0
    · go_wp2_with fail
      refine bodyPost_ret (results_cell38 rfl _ _ w.heap.size [.int .i64 0, .int .i64 0, .int .i64 0, .int .i64 0] 38 rfl (HB5.out.set4 _ _ _ _) rfl) rfl ?_
      exact ⟨_, E1, rfl, .none hs HU.out.1 HU.out.2 HHs.out (by rw [← HCV.out]; exact hneg), HW5.out.local (keeps4 _ _ _ _ _ _) (Nat.le_refl _) (HE.out.own0 (Nat.le_refl _))⟩
    · have hneg' : decide (cv < 0) = false := by simpa using hneg
      obtain ⟨c, rfl⟩ : ∃ c : Nat, cv = c := ⟨cv.toNat, by omega⟩
      obtain ⟨hc8, hgo, -⟩ := classGo_goes HCV.out.symm
      obtain ⟨x, q, cr, hq, -, -, -, -, -⟩ := headOf_goes (HHs.out.get hc8) hgo
      obtain ⟨r, hr⟩ : ∃ r, E1.rs[c]? = some r := ⟨_, List.getElem?_eq_getElem (by obtain ⟨_, _, _, _, hR⟩ := HE5.out.ring; have := hR.eight; omega)⟩
      have hgd : E1.rs.getD c ⟨0, [], 0⟩ = r := by rw [List.getD_eq_getElem?_getD, hr]; rfl
      have hqr : r.q = x :: q := by rw [← hgd]; exact hq
      obtain ⟨hx0, hx1, hx2⟩ := HOK2.out.has r (List.mem_of_getElem? hr) x (by rw [hqr]; exact List.mem_cons_self)
      have C48 := pop_some HE5.out.ring c x q r hr hqr
      have HST := Lib.hid (Starts.goes hs c x q HU.out.1 HU.out.2 HHs.out HCV.out.symm hc8 hq)
      rw [← hgd] at C48
      have n1 : w5.cell? ⟨G.p, 1, none⟩ = some (.pointer (some ⟨G.rp, 0, none⟩)) := HE5.out.blk.cell 1
      clear hgo hq hr hgd hqr hx0 r0 r1 r2 r3 f0 f1 f2 f3
      go_upto_region 9 with (go_at_call 48; refine C48.mono ?_; rintro e w6 ⟨rfl, hR6, k6⟩; clear C48)
      have HE6 := Lib.hid (HE5.out.rows k6 hR6)
      have HB6 : Hid (Blk w6 w.heap.size [.int .i64 0, .int .i64 0, .int .i64 0, .int .i64 0] 38) := HB5.out.keeps k6 (fun e => nr _ (by rw [e]; decide) rfl)
      have HW6 : Hid (Went w G { E1 with rs := E1.rs.set c { E1.rs.getD c ⟨0, [], 0⟩ with q := q } } w6 G) := HW5.out.trans (Went.of HE6.out k6 (own_T (by decide) (by decide)))
      have CS := fun v (hv : Keeps Nothing w6 v) => size_ok (PoolAt.keeps HE6.out.pool hv (fun _ _ h => h)) x
      have CT := fun v => time_ok v (sizeP E1.ps x) E1.speed HOK2.out.speed hx1 hx2
      obtain ⟨sz, hsz⟩ : ∃ sz, sz = sizeP E1.ps x := ⟨_, rfl⟩
      obtain ⟨tm, htm⟩ : ∃ tm, tm = timeOf sz E1.speed := ⟨_, rfl⟩
      have htr := timeOf_range HOK2.out.speed hx1 hx2
      rw [← hsz] at CT htr
      have CS' : ∀ v, Keeps Nothing w6 v → Calls Try.prog 41 #[.pointer (some ⟨G.pp, 0, none⟩), .int .i64 x] v fun e w' => e = .returned (.int .i64 sz) ∧ w' = v := fun v hv => by rw [hsz]; exact CS v hv
      rw [← htm] at CT htr
      have HSZ := Lib.hid (And.intro hsz htm)
      have m2 : w6.cell? ⟨G.p, 2, none⟩ = some (.pointer (some ⟨G.pp, 0, none⟩)) := HE6.out.blk.cell 2
      have m11 : w6.cell? ⟨G.p, 11, none⟩ = some (.int .i64 E1.speed) := HE6.out.blk.cell 11
      clear CS hsz htm hx1 hx2 n1 hR6 k6
      refine wp_region_still_tail 15 (by kernel_rfl) (by kernel_rfl) ?_
      simp only [List.take_succ_cons, List.take_zero, List.drop_succ_cons, List.drop_zero]
      repeat still_step
      still_call (CS' _ ((Keeps.refl _ _).drew))
      repeat still_step
      still_call (CT _)
      repeat still_step
      refine wpStill_nil ?_
      change wpList _ _ _ _ _ w6.drew
      have HE7 := Lib.hid (HE6.out.same ((Keeps.refl Nothing w6).drew))
      have HB7 : Hid (Blk w6.drew w.heap.size [.int .i64 0, .int .i64 0, .int .i64 0, .int .i64 0] 38) := HB6.out
      have HW7 := Lib.hid (HW6.out.same ((Keeps.refl Nothing w6).drew))
      clear m2 m11 CS' CT
      generalize w6.drew = w7 at *
      have hB7 := HE7.out.blk
      have hsum : 0 ≤ now + tm ∧ now + tm ≤ 2000000000000000 := by have := HOK.out.n0; omega
      obtain ⟨hs1, hs2⟩ := hsum
      have p13 : w7.cell? ⟨G.p, 13, none⟩ = some (.bool E1.busy) := hB7.cell 13
      have p14 : w7.cell? ⟨G.p, 14, none⟩ = some (.int .i64 E1.cls) := hB7.cell 14
      have p15 : w7.cell? ⟨G.p, 15, none⟩ = some (.int .i64 E1.id) := hB7.cell 15
      have p16 : w7.cell? ⟨G.p, 16, none⟩ = some (.int .i64 E1.frm) := hB7.cell 16
      have p17 : w7.cell? ⟨G.p, 17, none⟩ = some (.int .i64 E1.till) := hB7.cell 17
      have g13 : w7.frozen? ⟨G.p, 13, none⟩ = false := hB7.frozen 13
      have g14 : w7.frozen? ⟨G.p, 14, none⟩ = false := hB7.frozen 14
      have g15 : w7.frozen? ⟨G.p, 15, none⟩ = false := hB7.frozen 15
      have g16 : w7.frozen? ⟨G.p, 16, none⟩ = false := hB7.frozen 16
      have g17 : w7.frozen? ⟨G.p, 17, none⟩ = false := hB7.frozen 17
      have hwn : IntKind.i64.wrap (now + tm) = now + tm := by rw [IntKind.wrap_i64]; omega
      clear hB7 htr
      go_upto_region 11 with fail
      have HE8 : Hid (Blk (((((w7.setCell ⟨G.p, 14, none⟩ (.int .i64 c)).setCell ⟨G.p, 15, none⟩ (.int .i64 x)).setCell ⟨G.p, 16, none⟩ (.int .i64 now)).setCell ⟨G.p, 17, none⟩ (.int .i64 (now + tm))).setCell ⟨G.p, 13, none⟩ (.bool true)) G.p (({ E1 with rs := E1.rs.set c { E1.rs.getD c ⟨0, [], 0⟩ with q := q }, busy := true, cls := (c : Int), id := x, frm := now, till := now + tm } : Eg).cells G) 68) :=
        ((((HE7.out.blk.set 14 _).set 15 _).set 16 _).set 17 _).set 13 _
      have HK8 : Hid (Keeps (fun k => k = G.p) w7 (((((w7.setCell ⟨G.p, 14, none⟩ (.int .i64 c)).setCell ⟨G.p, 15, none⟩ (.int .i64 x)).setCell ⟨G.p, 16, none⟩ (.int .i64 now)).setCell ⟨G.p, 17, none⟩ (.int .i64 (now + tm))).setCell ⟨G.p, 13, none⟩ (.bool true))) :=
        (((((Keeps.refl (fun k => k = G.p) w7).setCell (p := ⟨G.p, 14, none⟩) (fun _ => rfl) _).setCell (p := ⟨G.p, 15, none⟩) (fun _ => rfl) _).setCell (p := ⟨G.p, 16, none⟩) (fun _ => rfl) _).setCell (p := ⟨G.p, 17, none⟩) (fun _ => rfl) _).setCell (p := ⟨G.p, 13, none⟩) (fun _ => rfl) _
      clear p13 p14 p15 p16 p17 g13 g14 g15 g16 g17
      generalize (((((w7.setCell ⟨G.p, 14, none⟩ (.int .i64 c)).setCell ⟨G.p, 15, none⟩ (.int .i64 x)).setCell ⟨G.p, 16, none⟩ (.int .i64 now)).setCell ⟨G.p, 17, none⟩ (.int .i64 (now + tm))).setCell ⟨G.p, 13, none⟩ (.bool true)) = w8 at *
      obtain ⟨n, hn8⟩ : ∃ n, E1.cnt[c]? = some n := ⟨_, List.getElem?_eq_getElem (by have : E1.cnt.length = 8 := HE5.out.cnt8; omega)⟩
      obtain ⟨hn0, hn1⟩ := HOK2.out.cnts c n hn8
      have hwc : IntKind.i64.wrap (n + 1) = n + 1 := by rw [IntKind.wrap_i64]; omega
      have p18 : w8.cell? ⟨G.p, 18 + c, none⟩ = some (.int .i64 n) := by
        rw [HE8.out.cell (18 + c), cells_cnt_get]
        show (E1.cnt.map (Value.int .i64))[c]? = _
        rw [List.getElem?_map, hn8]; rfl
      have g18 : w8.frozen? ⟨G.p, 18 + c, none⟩ = false := HE8.out.frozen _
      have HN : Hid (E1.cnt.getD c 0 = n) := by
        show E1.cnt.getD c 0 = n
        rw [List.getD_eq_getElem?_getD, hn8]; rfl
      clear hn8 hn0 hn1
      have hc8i : (c : Int) < 8 := by omega
      have hc8j : (0 : Int) ≤ (c : Int) := by omega
      have p18d : w8.drew.cell? ⟨G.p, 18 + c, none⟩ = some (.int .i64 n) := p18
      refine wp_region_still_tail 10 (by kernel_rfl) (by kernel_rfl) ?_
      simp only [List.take_succ_cons, List.take_zero, List.drop_succ_cons, List.drop_zero]
      repeat still_step
      refine wpStill_nil ?_
      change wpList _ _ _ _ _ w8.drew
      have HB9 : Hid (Blk (w8.drew.setCell ⟨G.p, 18 + c, none⟩ (.int .i64 (n + 1))) G.p ((E1.sends now c x q).cells G) 68) := by
        have := (show Blk w8.drew G.p _ 68 from HE8.out).set (18 + c) (.int .i64 (n + 1))
        rw [cells_cnt] at this
        unfold Eg.sends
        rw [← HSZ.out.1, ← HSZ.out.2, HN.out]
        exact this
      have HK9 : Hid (Keeps (fun k => k = G.p) w7 (w8.drew.setCell ⟨G.p, 18 + c, none⟩ (.int .i64 (n + 1)))) := (HK8.out.drew).setCell (p := ⟨G.p, 18 + c, none⟩) (fun _ => rfl) _
      have p18' : w8.drew.cell? ⟨G.p, 18 + c, none⟩ = some (.int .i64 n) := p18
      have g18' : w8.drew.frozen? ⟨G.p, 18 + c, none⟩ = false := g18
      clear p18 g18 HE8 HK8
      have HE9 : Hid (EgIn (w8.drew.setCell ⟨G.p, 18 + c, none⟩ (.int .i64 (n + 1))) G (E1.sends now c x q)) :=
        HE7.out.head HK9.out HB9.out rfl rfl rfl rfl (by show (E1.cnt.set c _).length = 8; rw [List.length_set]; exact HE5.out.cnt8)
      have HW9 : Hid (Went w G (E1.sends now c x q) (w8.drew.setCell ⟨G.p, 18 + c, none⟩ (.int .i64 (n + 1))) G) := HW7.out.trans (Went.of HE9.out HK9.out (fun k hk => by subst hk; exact own_T (n := 1) (by decide) (by decide) _ HE7.out.op))
      have HB10 : Hid (Blk (w8.drew.setCell ⟨G.p, 18 + c, none⟩ (.int .i64 (n + 1))) w.heap.size [.int .i64 0, .int .i64 0, .int .i64 0, .int .i64 0] 38) := HB7.out.keeps HK9.out (fun e => nr _ (by rw [HE7.out.op]; decide) e.symm)
      go_upto_region 12 with fail
      change Code.wp _ _ _ _ (w8.drew.setCell ⟨G.p, 18 + c, none⟩ (.int .i64 (n + 1)))
      generalize (w8.drew.setCell ⟨G.p, 18 + c, none⟩ (.int .i64 (n + 1))) = w9 at *
      have C40' := modes_ok HE9.out now (by omega)
      go_upto_region 13 with (go_at_call 40; go_loud (refine C40'.mono ?_; rintro e w10 ⟨rfl, hE10, k10⟩; clear C40'))
      have HW10 := Lib.hid (HW9.out.trans (Went.of hE10 k10 (own_T (by decide) (by decide))))
      have HB11 : Hid (Blk w10 w.heap.size [.int .i64 0, .int .i64 0, .int .i64 0, .int .i64 0] 38) := HB10.out.keeps k10 (fun e => nr _ (by rw [e]; decide) rfl)
      have p14 : w10.cell? ⟨G.p, 14, none⟩ = some (.int .i64 c) := hE10.blk.cell 14
      have p15 : w10.cell? ⟨G.p, 15, none⟩ = some (.int .i64 x) := hE10.blk.cell 15
      have p16 : w10.cell? ⟨G.p, 16, none⟩ = some (.int .i64 now) := hE10.blk.cell 16
      have p17 : w10.cell? ⟨G.p, 17, none⟩ = some (.int .i64 (now + tm)) := by rw [HSZ.out.2, HSZ.out.1]; exact hE10.blk.cell 17
      have r0 : w10.cell? ⟨w.heap.size, 0, none⟩ = some (.int .i64 0) := HB11.out.cell 0
      have r1 : w10.cell? ⟨w.heap.size, 1, none⟩ = some (.int .i64 0) := HB11.out.cell 1
      have r2 : w10.cell? ⟨w.heap.size, 2, none⟩ = some (.int .i64 0) := HB11.out.cell 2
      have r3 : w10.cell? ⟨w.heap.size, 3, none⟩ = some (.int .i64 0) := HB11.out.cell 3
      have f0 : w10.frozen? ⟨w.heap.size, 0, none⟩ = false := HB11.out.frozen 0
      have f1 : w10.frozen? ⟨w.heap.size, 1, none⟩ = false := HB11.out.frozen 1
      have f2 : w10.frozen? ⟨w.heap.size, 2, none⟩ = false := HB11.out.frozen 2
      have f3 : w10.frozen? ⟨w.heap.size, 3, none⟩ = false := HB11.out.frozen 3
      clear hE10 k10
      go_wp2_with fail
      refine bodyPost_ret (results_cell38 rfl _ _ w.heap.size [.int .i64 c, .int .i64 x, .int .i64 now, .int .i64 (now + tm)] 38 rfl (HB11.out.set4 _ _ _ _) rfl) rfl ?_
      have hST := HST.out
      rw [← HSZ.out.1, ← HSZ.out.2] at hST
      exact ⟨_, _, rfl, hST, HW10.out.local (keeps4 _ _ _ _ _ _) (Nat.le_refl _) (HE.out.own0 (Nat.le_refl _))⟩
end

section
open Go.RowKit

def Eg.ended (E : Eg) : Eg := { E with ps := dropP E.ps E.id, busy := false }

def EndDid (w : World) (G : Geo) (E : Eg) (now : Int) (e : Ending) (w' : World) : Prop :=
  (E.busy = true ∧ E.till ≤ now ∧ e = .returned (.tuple #[sentV E.cls E.id E.frm E.till, .bool true]) ∧ Went w G E.ended w' G) ∨
  ((E.busy = false ∨ now < E.till) ∧ e = .returned (.tuple #[sentV 0 0 0 0, .bool false]) ∧ Went w G E w' G)

set_option maxRecDepth 100000 in
set_option maxHeartbeats 4000000 in
theorem end_ok {w : World} {G : Geo} {E : Eg} (h : EgIn w G E) (hh : ∀ i, heldOf E.ps i ≤ 1000000000) (now : Int) (hn : now ≤ 1000000000000000) :
    Calls Try.prog 17 #[.pointer (some ⟨G.p, 0, none⟩), .int .i64 now] w (EndDid w G E now) := by
  have HE := Lib.hid h
  have hpl := h.blk.lt
  have HBr := Lib.hid (Blk.new w [.int .i64 0, .int .i64 0, .int .i64 0, .int .i64 0] 38)
  have HK1 := Lib.hid ((Keeps.refl Nothing w).alloc (.cells #[.int .i64 0, .int .i64 0, .int .i64 0, .int .i64 0] 38))
  have HE1 := Lib.hid (h.same HK1.out)
  have HH := Lib.hid hh
  have nr : ∀ k, G.own k ≠ 0 → k ≠ w.heap.size := fun k hk e => by have := HE.out.lt k hk; omega
  clear h hh
  go_enter Try.func17, Try.ntmps17
  go_upto_region 1 with fail
  generalize (w.alloc (.cells #[.int .i64 0, .int .i64 0, .int .i64 0, .int .i64 0] 38)) = w1 at *
  have b13 : w1.cell? ⟨G.p, 13, none⟩ = some (.bool E.busy) := HE1.out.blk.cell 13
  have b17 : w1.cell? ⟨G.p, 17, none⟩ = some (.int .i64 E.till) := HE1.out.blk.cell 17
  have r0 : w1.cell? ⟨w.heap.size, 0, none⟩ = some (.int .i64 0) := HBr.out.cell 0
  have r1 : w1.cell? ⟨w.heap.size, 1, none⟩ = some (.int .i64 0) := HBr.out.cell 1
  have r2 : w1.cell? ⟨w.heap.size, 2, none⟩ = some (.int .i64 0) := HBr.out.cell 2
  have r3 : w1.cell? ⟨w.heap.size, 3, none⟩ = some (.int .i64 0) := HBr.out.cell 3
  have f0 : w1.frozen? ⟨w.heap.size, 0, none⟩ = false := HBr.out.frozen 0
  have f1 : w1.frozen? ⟨w.heap.size, 1, none⟩ = false := HBr.out.frozen 1
  have f2 : w1.frozen? ⟨w.heap.size, 2, none⟩ = false := HBr.out.frozen 2
  have f3 : w1.frozen? ⟨w.heap.size, 3, none⟩ = false := HBr.out.frozen 3
  have HW1 : Hid (Went w G E w1 G) := (Went.refl HE.out).same HK1.out
  by_cases hc : E.busy = true ∧ E.till ≤ now
  · obtain ⟨hc1, hc2⟩ := hc
    have HC := Lib.hid (And.intro hc1 hc2)
    rw [hc1] at b13
    have hc2' : decide (now < E.till) = false := decide_eq_false (by omega)
    have g13 : w1.frozen? ⟨G.p, 13, none⟩ = false := HE1.out.blk.frozen 13
    have HB2 : Hid (Blk (w1.setCell ⟨G.p, 13, none⟩ (.bool false)) G.p (({ E with busy := false } : Eg).cells G) 68) := HE1.out.blk.set 13 _
    have HK2 := Lib.hid ((Keeps.refl (fun k => k = G.p) w1).setCell (p := ⟨G.p, 13, none⟩) (fun _ => rfl) (.bool false))
    have HE2 : Hid (EgIn (w1.setCell ⟨G.p, 13, none⟩ (.bool false)) G { E with busy := false }) := HE1.out.head HK2.out HB2.out rfl rfl rfl rfl HE1.out.cnt8
    have HW2 : Hid (Went w G { E with busy := false } (w1.setCell ⟨G.p, 13, none⟩ (.bool false)) G) := HW1.out.trans (Went.of HE2.out HK2.out (fun k hk => by subst hk; exact own_T (n := 1) (by decide) (by decide) _ HE.out.op))
    have HBr2 : Hid (Blk (w1.setCell ⟨G.p, 13, none⟩ (.bool false)) w.heap.size [.int .i64 0, .int .i64 0, .int .i64 0, .int .i64 0] 38) := HBr.out.keeps HK2.out (fun e => nr _ (by rw [HE.out.op]; decide) e.symm)
    clear hc1 hc2 r0 r1 r2 r3 f0 f1 f2 f3
    go_upto_region 4 with fail
    generalize (w1.setCell ⟨G.p, 13, none⟩ (.bool false)) = w2 at *
    clear b13 b17 g13
    have a2 : w2.cell? ⟨G.p, 2, none⟩ = some (.pointer (some ⟨G.pp, 0, none⟩)) := HE2.out.blk.cell 2
    have a15 : w2.cell? ⟨G.p, 15, none⟩ = some (.int .i64 E.id) := HE2.out.blk.cell 15
    refine wp_region_still_tail 9 (by kernel_rfl) (by kernel_rfl) ?_
    simp only [List.take_succ_cons, List.take_zero, List.drop_succ_cons, List.drop_zero]
    repeat still_step
    refine wpStill_nil ?_
    change wpList _ _ _ _ _ w2.drew
    have HE3 := Lib.hid (HE2.out.same ((Keeps.refl Nothing w2).drew))
    have HW3 := Lib.hid (HW2.out.same ((Keeps.refl Nothing w2).drew))
    have HBr3 : Hid (Blk w2.drew w.heap.size [.int .i64 0, .int .i64 0, .int .i64 0, .int .i64 0] 38) := HBr2.out
    clear a2 a15
    generalize w2.drew = w3 at *
    have C14 := drop_ok HE3.out.pool E.id (HH.out E.id)
    go_upto_region 5 with (go_at_call 14; refine C14.mono ?_; rintro e w4 ⟨rfl, hP4, k4⟩; clear C14; have hE4 := HE3.out.frames k4 hP4; have C40 := modes_ok hE4 now (by omega))
    have HW4 := Lib.hid (HW3.out.trans (Went.of hE4 k4 (own_T (by decide) (by decide))))
    have HBr4 := Lib.hid (HBr3.out.keeps k4 (fun e => nr _ (by rw [e]; decide) rfl))
    go_upto_region 6 with (go_at_call 40; refine C40.mono ?_; rintro e w5 ⟨rfl, hE5, k5⟩; clear C40)
    have HW5 := Lib.hid (HW4.out.trans (Went.of hE5 k5 (own_T (by decide) (by decide))))
    have HBr5 := Lib.hid (HBr4.out.keeps k5 (fun e => nr _ (by rw [e]; decide) rfl))
    have p14 : w5.cell? ⟨G.p, 14, none⟩ = some (.int .i64 E.cls) := hE5.blk.cell 14
    have p15 : w5.cell? ⟨G.p, 15, none⟩ = some (.int .i64 E.id) := hE5.blk.cell 15
    have p16 : w5.cell? ⟨G.p, 16, none⟩ = some (.int .i64 E.frm) := hE5.blk.cell 16
    have p17 : w5.cell? ⟨G.p, 17, none⟩ = some (.int .i64 E.till) := hE5.blk.cell 17
    have r0 : w5.cell? ⟨w.heap.size, 0, none⟩ = some (.int .i64 0) := HBr5.out.cell 0
    have r1 : w5.cell? ⟨w.heap.size, 1, none⟩ = some (.int .i64 0) := HBr5.out.cell 1
    have r2 : w5.cell? ⟨w.heap.size, 2, none⟩ = some (.int .i64 0) := HBr5.out.cell 2
    have r3 : w5.cell? ⟨w.heap.size, 3, none⟩ = some (.int .i64 0) := HBr5.out.cell 3
    have f0 : w5.frozen? ⟨w.heap.size, 0, none⟩ = false := HBr5.out.frozen 0
    have f1 : w5.frozen? ⟨w.heap.size, 1, none⟩ = false := HBr5.out.frozen 1
    have f2 : w5.frozen? ⟨w.heap.size, 2, none⟩ = false := HBr5.out.frozen 2
    have f3 : w5.frozen? ⟨w.heap.size, 3, none⟩ = false := HBr5.out.frozen 3
    clear hE4 k4 hE5 k5 hP4
    go_wp2_with fail
    refine bodyPost_ret (results_cell38 rfl _ _ w.heap.size [.int .i64 E.cls, .int .i64 E.id, .int .i64 E.frm, .int .i64 E.till] 38 rfl (HBr5.out.set4 _ _ _ _) rfl) rfl ?_
    exact .inl ⟨HC.out.1, HC.out.2, rfl, HW5.out.local (keeps4 _ _ _ _ _ _) (Nat.le_refl _) (HE.out.own0 (Nat.le_refl _))⟩
  · have hc2 : E.busy = false ∨ (E.busy = true ∧ now < E.till) := by
      cases hb : E.busy
      · exact .inl rfl
      · exact .inr ⟨rfl, by have : ¬ E.till ≤ now := fun h => hc ⟨hb, h⟩; omega⟩
    have HC : Hid (E.busy = false ∨ now < E.till) := hc2.imp id (fun h => h.2)
    clear hc
    rcases hc2 with h1 | ⟨h1, h2⟩ <;> rw [h1] at b13 <;> clear h1
    all_goals
      go_wp2_with fail
      refine bodyPost_ret (results_cell38 rfl _ _ w.heap.size [.int .i64 0, .int .i64 0, .int .i64 0, .int .i64 0] 38 rfl (HBr.out.set4 _ _ _ _) rfl) rfl ?_
      exact .inr ⟨HC.out, rfl, HW1.out.local (keeps4 _ _ _ _ _ _) (Nat.le_refl _) (HE.out.own0 (Nat.le_refl _))⟩

/-! ## Push -/

def Eg.pushErr (E : Eg) (c id : Int) : Int := if E.up = false then 23 else if sizeP E.ps id = 0 then 21 else errR E.rs c
def Eg.pushed (E : Eg) (c id : Int) : Eg :=
  if E.up = false then E else if sizeP E.ps id = 0 then E
  else if errR E.rs c = 0 then { E with rs := pushR E.rs c id, ps := holdP E.ps id } else { E with rs := pushR E.rs c id }

def PushDid (w : World) (G : Geo) (v : Int) (E' : Eg) (e : Ending) (w' : World) : Prop := e = .returned (.int .i64 v) ∧ Went w G E' w' G

set_option maxRecDepth 100000 in
set_option maxHeartbeats 4000000 in
theorem push_eg {w : World} {G : Geo} {E : Eg} (h : EgIn w G E) (hh : ∀ i, heldOf E.ps i ≤ 1000000000) (hl : ∀ r ∈ E.rs, r.lost ≤ 1000000000) (c id now : Int) (hn : now ≤ 1000000000000000) :
    Calls Try.prog 13 #[.pointer (some ⟨G.p, 0, none⟩), .int .i64 c, .int .i64 id, .int .i64 now] w (PushDid w G (E.pushErr c id) (E.pushed c id)) := by
  have HE := Lib.hid h
  have b12 : w.cell? ⟨G.p, 12, none⟩ = some (.bool E.up) := h.blk.cell 12
  have b1 : w.cell? ⟨G.p, 1, none⟩ = some (.pointer (some ⟨G.rp, 0, none⟩)) := h.blk.cell 1
  have b2 : w.cell? ⟨G.p, 2, none⟩ = some (.pointer (some ⟨G.pp, 0, none⟩)) := h.blk.cell 2
  have C41 := size_ok h.pool id
  have C42 := rpush_ok h.ring c id hl
  have HH := Lib.hid hh
  clear h hh hl
  by_cases hu : E.up = false
  · rw [hu] at b12
    have e1 : E.pushErr c id = 23 := if_pos hu
    have e2 : E.pushed c id = E := if_pos hu
    rw [e1, e2]
    clear hu
    go_enter Try.func13, Try.ntmps13
    go_wp2_with fail
    go_ret
    exact ⟨rfl, Went.refl HE.out⟩
  · have hu' : E.up = true := by simpa using hu
    rw [hu'] at b12
    by_cases hz : sizeP E.ps id = 0
    · have e1 : E.pushErr c id = 21 := by unfold Eg.pushErr; rw [if_neg hu, if_pos hz]
      have e2 : E.pushed c id = E := by unfold Eg.pushed; rw [if_neg hu, if_pos hz]
      rw [e1, e2]
      rw [hz] at C41
      clear hu hu' hz
      go_enter Try.func13, Try.ntmps13
      go_wp2_with (go_at_call 41; refine C41.mono ?_; rintro e w1 ⟨rfl, rfl⟩; clear C41)
      go_ret
      exact ⟨rfl, Went.refl HE.out⟩
    · have hz' : (sizeP E.ps id == 0) = false := by simpa using hz
      have e1 : E.pushErr c id = errR E.rs c := by unfold Eg.pushErr; rw [if_neg hu, if_neg hz]
      have e2 : E.pushed c id = if errR E.rs c = 0 then { E with rs := pushR E.rs c id, ps := holdP E.ps id } else { E with rs := pushR E.rs c id } := by unfold Eg.pushed; rw [if_neg hu, if_neg hz]
      rw [e1, e2]
      generalize sizeP E.ps id = sz at *
      by_cases he : errR E.rs c = 0
      · rw [if_pos he, he]
        rw [he] at C42
        clear hu hu' hz he e1 e2
        go_enter Try.func13, Try.ntmps13
        go_upto_region 8 with (first | (go_at_call 41; refine C41.mono ?_; rintro e w1 ⟨rfl, rfl⟩; clear C41) | (go_at_call 42; refine C42.mono ?_; rintro e w2 ⟨rfl, hR, k2⟩; clear C42))
        have hE2 := HE.out.rows k2 hR
        have c2 : w2.cell? ⟨G.p, 2, none⟩ = some (.pointer (some ⟨G.pp, 0, none⟩)) := hE2.blk.cell 2
        have C43 := hold_ok hE2.pool id (HH.out id)
        have HW2 := Lib.hid (Went.of hE2 k2 (own_T (by decide) (by decide)))
        go_upto_region 9 with (go_at_call 43; refine C43.mono ?_; rintro e w3 ⟨rfl, hP, k3⟩; clear C43)
        have hE3 := hE2.frames k3 hP
        have C40 := modes_ok hE3 now (by omega)
        have HW3 := Lib.hid (HW2.out.trans (Went.of hE3 k3 (own_T (by decide) (by decide))))
        clear hE2 k2 hR c2
        go_wp2_with (go_at_call 40; refine C40.mono ?_; rintro e w4 ⟨rfl, hE4, k4⟩; clear C40)
        go_ret
        exact ⟨rfl, HW3.out.trans (Went.of hE4 k4 (own_T (by decide) (by decide)))⟩
      · have he' : (errR E.rs c == 0) = false := by simpa using he
        rw [if_neg he]
        generalize errR E.rs c = er at *
        clear hu hu' hz he e1 e2
        go_enter Try.func13, Try.ntmps13
        go_wp2_with (first | (go_at_call 41; refine C41.mono ?_; rintro e w1 ⟨rfl, rfl⟩; clear C41) | (go_at_call 42; refine C42.mono ?_; rintro e w2 ⟨rfl, hR, k2⟩; clear C42))
        go_ret
        exact ⟨rfl, Went.of (HE.out.rows k2 hR) k2 (own_T (by decide) (by decide))⟩
end

section
open Go.RowKit

theorem heldOf_set {ps : PSt} {j : Nat} (hj : j < ps.length) (x : Bytes × Nat) (i : Int) : heldOf (ps.set j x) i = if i = (j : Int) then x.2 else heldOf ps i := by
  unfold heldOf
  by_cases hi : 0 ≤ i
  · rw [if_pos hi, if_pos hi]
    by_cases e : i = (j : Int)
    · subst e
      rw [if_pos rfl, Int.toNat_natCast, List.getElem?_set_self hj]
      rfl
    · rw [if_neg e, List.getElem?_set_ne (by omega)]
  · rw [if_neg hi, if_neg hi, if_neg (by omega)]

theorem sizeP_set {ps : PSt} {j : Nat} (hj : j < ps.length) (x : Bytes × Nat) (i : Int) : sizeP (ps.set j x) i = if i = (j : Int) then (if x.2 = 0 then 0 else (x.1.length : Int)) else sizeP ps i := by
  unfold sizeP
  rw [heldOf_set hj]
  by_cases e : i = (j : Int)
  · subst e
    rw [if_pos rfl, if_pos rfl, Int.toNat_natCast, List.getD_eq_getElem?_getD, List.getElem?_set_self hj]
    rfl
  · rw [if_neg e, if_neg e]
    by_cases h0 : heldOf ps i = 0
    · rw [if_pos h0, if_pos h0]
    · rw [if_neg h0, if_neg h0]
      obtain ⟨m, bs, k, rfl, -⟩ := heldOf_some h0
      rw [Int.toNat_natCast, List.getD_eq_getElem?_getD, List.getD_eq_getElem?_getD, List.getElem?_set_ne (by omega)]

theorem heldOf_holdP (ps : PSt) (i k : Int) : heldOf (holdP ps i) k = if k = i ∧ heldOf ps i ≠ 0 then heldOf ps i + 1 else heldOf ps k := by
  unfold holdP
  by_cases h0 : heldOf ps i = 0
  · rw [if_pos h0, if_neg (fun h => h.2 h0)]
  · rw [if_neg h0]
    obtain ⟨j, bs, m, rfl, hj, hm, hh, hg⟩ := heldOf_some h0
    rw [Int.toNat_natCast, hg, heldOf_set (List.getElem?_eq_some_iff.1 hj).1]
    by_cases e : k = (j : Int)
    · rw [if_pos e, if_pos ⟨e, h0⟩, hh]
    · rw [if_neg e, if_neg (fun h => e h.1)]

theorem heldOf_dropP (ps : PSt) (i k : Int) : heldOf (dropP ps i) k = if k = i then heldOf ps i - 1 else heldOf ps k := by
  unfold dropP
  by_cases h0 : heldOf ps i = 0
  · rw [if_pos h0]
    by_cases e : k = i
    · rw [if_pos e, e, h0]
    · rw [if_neg e]
  · rw [if_neg h0]
    obtain ⟨j, bs, m, rfl, hj, hm, hh, hg⟩ := heldOf_some h0
    rw [Int.toNat_natCast, hg, heldOf_set (List.getElem?_eq_some_iff.1 hj).1, hh]
    by_cases e : k = (j : Int)
    · rw [if_pos e, if_pos e]
      simp only
      by_cases h1 : m = 1
      · rw [if_pos h1, h1]
      · rw [if_neg h1]
    · rw [if_neg e, if_neg e]

theorem sizeP_holdP (ps : PSt) (i k : Int) : sizeP (holdP ps i) k = sizeP ps k := by
  unfold holdP
  by_cases h0 : heldOf ps i = 0
  · rw [if_pos h0]
  · rw [if_neg h0]
    obtain ⟨j, bs, m, rfl, hj, hm, hh, hg⟩ := heldOf_some h0
    rw [Int.toNat_natCast, hg, sizeP_set (List.getElem?_eq_some_iff.1 hj).1]
    by_cases e : k = (j : Int)
    · rw [if_pos e, e, if_neg (by simp)]
      unfold sizeP
      rw [if_neg h0, Int.toNat_natCast, hg]
    · rw [if_neg e]

theorem sizeP_dropP (ps : PSt) (i k : Int) (h : k ≠ i ∨ 2 ≤ heldOf ps i) : sizeP (dropP ps i) k = sizeP ps k := by
  unfold dropP
  by_cases h0 : heldOf ps i = 0
  · rw [if_pos h0]
  · rw [if_neg h0]
    obtain ⟨j, bs, m, rfl, hj, hm, hh, hg⟩ := heldOf_some h0
    rw [Int.toNat_natCast, hg, sizeP_set (List.getElem?_eq_some_iff.1 hj).1]
    by_cases e : k = (j : Int)
    · have h2 : 2 ≤ m := by rcases h with h | h <;> omega
      rw [if_pos e, e]
      simp only
      rw [if_neg (by omega : ¬ m = 1)]
      simp only
      rw [if_neg (by omega)]
      unfold sizeP
      rw [if_neg h0, Int.toNat_natCast, hg]
    · rw [if_neg e]

theorem heldOf_drops_le (l : List Int) : ∀ (ps : PSt) (k : Int), heldOf (l.foldl dropP ps) k ≤ heldOf ps k := by
  induction l with
  | nil => intro ps k; exact Nat.le_refl _
  | cons x l ih =>
    intro ps k
    rw [List.foldl_cons]
    refine Nat.le_trans (ih _ k) ?_
    rw [heldOf_dropP]
    by_cases e : k = x
    · rw [if_pos e, e]; omega
    · rw [if_neg e]; exact Nat.le_refl _
end

end Go.Proofs.Ytimgmobmagpmlaa
