/- The rows of a port: what each function comes to, over rows that read as queues. The rows of a port, on: the port's own methods. The rows of a port, the last: New, All, Waits, Flush. The rows of a port: New. -/
import Derived.Test.YtimgmobmagpmlaaBase
import Derived.BigRegion
import Derived.Deep.RegionLaw
namespace Go.Proofs.Ytimgmobmagpmlaa

section
open Go.RowKit

/-- A row: its bound, what waits in it, and how many had no room. -/
structure RSt where
  n : Nat
  q : List Int
  lost : Nat

structure RowOk (cs : List Value) (i g : Nat) (r : RSt) (f : Nat) (ts : List Value) : Prop where
  c0 : cs[i * 4]? = some (.slice (some ⟨g, 0, none⟩) r.n r.n)
  c1 : cs[i * 4 + 1]? = some (.int .i64 (f : Nat))
  c2 : cs[i * 4 + 2]? = some (.int .i64 (r.q.length : Nat))
  c3 : cs[i * 4 + 3]? = some (.int .i64 (r.lost : Nat))
  len : ts.length = r.n
  cap : r.n ≤ 1024
  fits : r.q.length ≤ r.n
  first : f < r.n ∨ r.n = 0 ∧ f = 0
  ints : ∀ j, j < r.n → ∃ x, ts[j]? = some (.int .i64 x)
  has : ∀ j x, r.q[j]? = some x → ts[(f + j) % r.n]? = some (.int .i64 x)

structure RingIn (w : World) (p : Nat) (F : Nat → Prop) (rs : List RSt) (cs : List Value) (gs fs : Nat → Nat) (ts : Nat → List Value) : Prop where
  fp : F p
  fg : ∀ i, i < 8 → F (gs i)
  lt : ∀ k, F k → k < w.heap.size
  inj : ∀ i j, i < 8 → j < 8 → gs i = gs j → i = j
  head : Blk w p cs 110
  size : cs.length = 32
  eight : rs.length = 8
  rows : ∀ i r, rs[i]? = some r → RowOk cs i (gs i) r (fs i) (ts i)
  blks : ∀ i, i < 8 → Blk w (gs i) (ts i) 3

def RingAt (w : World) (p : Nat) (F : Nat → Prop) (rs : List RSt) : Prop := ∃ cs gs fs ts, RingIn w p F rs cs gs fs ts

theorem RingAt.keeps {w w' : World} {p : Nat} {F G : Nat → Prop} {rs : List RSt} (h : RingAt w p F rs) (hk : Keeps G w w') (hn : ∀ k, F k → ¬ G k) : RingAt w' p F rs := by
  obtain ⟨cs, gs, fs, ts, h⟩ := h
  exact ⟨cs, gs, fs, ts, h.fp, h.fg, fun k hk' => Nat.lt_of_lt_of_le (h.lt k hk') hk.size, h.inj, h.head.keeps hk (hn _ h.fp), h.size, h.eight, h.rows, fun i hi => (h.blks i hi).keeps hk (hn _ (h.fg i hi))⟩

theorem RingAt.same {w w' : World} {p : Nat} {F : Nat → Prop} {rs : List RSt} (h : RingAt w p F rs) (hk : Keeps Nothing w w') : RingAt w' p F rs := h.keeps hk (fun _ _ h => h)

theorem RingAt.lt {w : World} {p : Nat} {F : Nat → Prop} {rs : List RSt} (h : RingAt w p F rs) : ∀ k, F k → k < w.heap.size := by
  obtain ⟨cs, gs, fs, ts, h⟩ := h
  exact h.lt

theorem RingIn.ne {w : World} {p : Nat} {F : Nat → Prop} {rs : List RSt} {cs : List Value} {gs fs : Nat → Nat} {ts : Nat → List Value} (h : RingIn w p F rs cs gs fs ts) {i : Nat} (hi : i < 8) : p ≠ gs i := by
  intro e
  have := (h.blks i hi)
  rw [← e] at this
  exact absurd (h.head.inj this) (by decide)

theorem RingIn.drewN {w : World} {p : Nat} {F : Nat → Prop} {rs : List RSt} {cs : List Value} {gs fs : Nat → Nat} {ts : Nat → List Value} (h : RingIn w p F rs cs gs fs ts) (m : Nat) : RingIn (w.drewN m) p F rs cs gs fs ts :=
  ⟨h.fp, h.fg, h.lt, h.inj, h.head, h.size, h.eight, h.rows, h.blks⟩

theorem class_in (c : Int) (w : World) (h0 : 0 ≤ c) (h1 : c < 8) : Calls Try.prog 68 #[.int .i64 c] w fun e w' => e = .returned (.bool true) ∧ w = w' := by
  have hd : decide (c < 8) = true := by simpa using h1
  go_enter Try.func68, Try.ntmps68
  go_wp2
  go_ret
  exact ⟨rfl, rfl⟩

theorem class_out (c : Int) (w : World) (h : c < 0 ∨ 8 ≤ c) : Calls Try.prog 68 #[.int .i64 c] w fun e w' => e = .returned (.bool false) ∧ w = w' := by
  rcases h with h | h
  · go_enter Try.func68, Try.ntmps68
    go_wp2
    go_ret
    exact ⟨rfl, rfl⟩
  · have h0 : 0 ≤ c := by omega
    have hd : decide (c < 8) = false := by simpa using h
    go_enter Try.func68, Try.ntmps68
    go_wp2
    go_ret
    exact ⟨rfl, rfl⟩

/-! A row's four cells, one turned. -/
theorem RowOk.other {cs : List Value} {i g : Nat} {r : RSt} {f : Nat} {ts : List Value} (h : RowOk cs i g r f ts) (c k : Nat) (hk : k < 4) (hne : i ≠ c) (v : Value) : RowOk (cs.set (c * 4 + k) v) i g r f ts :=
  ⟨by rw [List.getElem?_set_ne (by omega)]; exact h.c0, by rw [List.getElem?_set_ne (by omega)]; exact h.c1, by rw [List.getElem?_set_ne (by omega)]; exact h.c2, by rw [List.getElem?_set_ne (by omega)]; exact h.c3,
    h.len, h.cap, h.fits, h.first, h.ints, h.has⟩

/-- One of a row's words is turned. -/
theorem RingIn.word {w : World} {p : Nat} {F : Nat → Prop} {rs : List RSt} {cs : List Value} {gs fs : Nat → Nat} {ts : Nat → List Value} (h : RingIn w p F rs cs gs fs ts) (c k : Nat) (hk : k < 4) (hc : c < 8) (v : Value) {r' : RSt} {f' : Nat}
    (hr : RowOk (cs.set (c * 4 + k) v) c (gs c) r' f' (ts c)) :
    RingIn (w.setCell ⟨p, c * 4 + k, none⟩ v) p F (rs.set c r') (cs.set (c * 4 + k) v) gs (fun i => if i = c then f' else fs i) ts := by
  refine ⟨h.fp, h.fg, by simpa [World.setCell] using h.lt, h.inj, h.head.set _ _, by simpa using h.size, by simpa using h.eight, ?_, fun i hi => (h.blks i hi).set_ne _ _ (Ne.symm (h.ne hi))⟩
  intro i r hi
  by_cases e : c = i
  · subst e
    rw [List.getElem?_set_self (by rw [h.eight]; exact hc)] at hi
    simp at hi
    subst hi
    simpa using hr
  · rw [List.getElem?_set_ne e] at hi
    simp only [if_neg (Ne.symm e)]
    exact (h.rows i r hi).other c k hk (Ne.symm e) v

/-- A place of a row's things is turned. -/
theorem RingIn.thing {w : World} {p : Nat} {F : Nat → Prop} {rs : List RSt} {cs : List Value} {gs fs : Nat → Nat} {ts : Nat → List Value} (h : RingIn w p F rs cs gs fs ts) (c k : Nat) (hc : c < 8) (v : Value) {r' : RSt}
    (hr : RowOk cs c (gs c) r' (fs c) ((ts c).set k v)) :
    RingIn (w.setCell ⟨gs c, k, none⟩ v) p F (rs.set c r') cs gs fs (fun i => if i = c then (ts c).set k v else ts i) := by
  refine ⟨h.fp, h.fg, by simpa [World.setCell] using h.lt, h.inj, h.head.set_ne _ _ (h.ne hc), h.size, by simpa using h.eight, ?_, ?_⟩
  · intro i r hi
    by_cases e : c = i
    · subst e
      rw [List.getElem?_set_self (by rw [h.eight]; exact hc)] at hi
      simp at hi
      subst hi
      simpa using hr
    · rw [List.getElem?_set_ne e] at hi
      simp only [if_neg (Ne.symm e)]
      exact h.rows i r hi
  · intro i hi
    by_cases e : i = c
    · subst e
      simp only [if_true]
      exact (h.blks i hi).set _ _
    · simp only [if_neg e]
      exact (h.blks i hi).set_ne _ _ (fun he => e (h.inj i c hi hc he))

def Turned (w : World) (p : Nat) (F : Nat → Prop) (v : Value) (rs : List RSt) (e : Ending) (w' : World) : Prop := e = .returned v ∧ RingAt w' p F rs ∧ Keeps F w w'

set_option maxRecDepth 100000 in
theorem put_full {w : World} {p : Nat} {F : Nat → Prop} {rs : List RSt} (h : RingAt w p F rs) (c : Nat) (x : Int) (r : RSt) (hr : rs[c]? = some r) (hf : r.q.length = r.n) (hl : r.lost ≤ 1000000000) :
    Calls Try.prog 69 #[.pointer (some ⟨p, c * 4, none⟩), .int .i64 x] w (Turned w p F (.bool false) (rs.set c { r with lost := r.lost + 1 })) := by
  obtain ⟨cs, gs, fs, ts, h⟩ := h
  have hc : c < 8 := by have := (List.getElem?_eq_some_iff.1 hr).1; have := h.eight; omega
  have R := h.rows c r hr
  have a0 := (h.head.cell _).trans R.c0
  have a2 := (h.head.cell _).trans R.c2
  have a3 := (h.head.cell _).trans R.c3
  have f3 := h.head.frozen (c * 4 + 3)
  have hcap := R.cap
  have hs := h.size
  have E := fun m => (h.drewN m).word c 3 (by omega) hc (.int .i64 ((r.lost + 1 : Nat) : Int)) (r' := { r with lost := r.lost + 1 }) (f' := fs c)
    ⟨by rw [List.getElem?_set_ne (by omega)]; exact R.c0, by rw [List.getElem?_set_ne (by omega)]; exact R.c1, by rw [List.getElem?_set_ne (by omega)]; exact R.c2, List.getElem?_set_self (by omega), R.len, R.cap, R.fits, R.first, R.ints, R.has⟩
  have fp := h.fp
  have lt := h.lt
  rw [hf] at a2
  clear R hf h hs
  go_enter Try.func69, Try.ntmps69
  go_wp2
  go_quiet (fail)
  go_wp2
  go_ret
  exact ⟨rfl, ⟨_, gs, _, ts, E _⟩, (((Keeps.refl F w).drewN _).setCell (fun _ => fp) _)⟩

theorem modw {f j n : Nat} (hf : f < n) (hj : j < n) : (f + j) % n = if f + j < n then f + j else f + j - n := by
  split
  · exact Nat.mod_eq_of_lt ‹_›
  · rw [Nat.mod_eq_sub_mod (by omega), Nat.mod_eq_of_lt (by omega)]

theorem RowOk.put {cs : List Value} {c g : Nat} {r : RSt} {f : Nat} {ts : List Value} (R : RowOk cs c g r f ts) (hroom : r.q.length < r.n) (x : Int) :
    RowOk cs c g r f (ts.set ((f + r.q.length) % r.n) (.int .i64 x)) ∧ (c * 4 + 2 < cs.length → RowOk (cs.set (c * 4 + 2) (.int .i64 ((r.q.length + 1 : Nat) : Int))) c g { r with q := r.q ++ [x] } f (ts.set ((f + r.q.length) % r.n) (.int .i64 x))) := by
  have hf : f < r.n := by rcases R.first with h | h <;> omega
  have hlt := Nat.mod_lt (f + r.q.length) (show 0 < r.n by omega)
  have ints : ∀ j, j < r.n → ∃ y, (ts.set ((f + r.q.length) % r.n) (.int .i64 x))[j]? = some (.int .i64 y) := by
    intro j hj
    by_cases e : (f + r.q.length) % r.n = j
    · rw [e]; exact ⟨x, List.getElem?_set_self (by rw [R.len]; exact hj)⟩
    · rw [List.getElem?_set_ne e]; exact R.ints j hj
  have has : ∀ j y, r.q[j]? = some y → (ts.set ((f + r.q.length) % r.n) (.int .i64 x))[(f + j) % r.n]? = some (.int .i64 y) := by
    intro j y hj
    have hjl := (List.getElem?_eq_some_iff.1 hj).1
    rw [List.getElem?_set_ne]
    · exact R.has j y hj
    · rw [modw hf (by omega), modw hf (by omega)]
      split <;> split <;> omega
  refine ⟨⟨R.c0, R.c1, R.c2, R.c3, by simpa using R.len, R.cap, R.fits, R.first, ints, has⟩, fun hl => ?_⟩
  refine ⟨by rw [List.getElem?_set_ne (by omega)]; exact R.c0, by rw [List.getElem?_set_ne (by omega)]; exact R.c1, by rw [List.getElem?_set_self hl]; simp, by rw [List.getElem?_set_ne (by omega)]; exact R.c3, by simpa using R.len, R.cap, by simp; omega, R.first, ints, ?_⟩
  intro j y hj
  by_cases e : j < r.q.length
  · rw [List.getElem?_append_left e] at hj
    exact has j y hj
  · rw [List.getElem?_append_right (by omega)] at hj
    obtain ⟨h1, h2⟩ := List.getElem?_eq_some_iff.1 hj
    simp at h1
    have : j = r.q.length := by omega
    subst this
    simp at h2
    subst h2
    exact List.getElem?_set_self (by rw [R.len]; exact hlt)

set_option maxRecDepth 100000 in
set_option maxHeartbeats 1000000 in
theorem put_ok {w : World} {p : Nat} {F : Nat → Prop} {rs : List RSt} (h : RingAt w p F rs) (c : Nat) (x : Int) (r : RSt) (hr : rs[c]? = some r) (hf : r.q.length < r.n) :
    Calls Try.prog 69 #[.pointer (some ⟨p, c * 4, none⟩), .int .i64 x] w (Turned w p F (.bool true) (rs.set c { r with q := r.q ++ [x] })) := by
  obtain ⟨cs, gs, fs, ts, h⟩ := h
  have hc : c < 8 := by have := (List.getElem?_eq_some_iff.1 hr).1; have := h.eight; omega
  have R := h.rows c r hr
  have hcap := R.cap
  have hs := h.size
  have hfn : fs c < r.n := by rcases R.first with h | h <;> omega
  have a0 := (h.head.cell _).trans R.c0
  have a1 := (h.head.cell _).trans R.c1
  have a2 := (h.head.cell _).trans R.c2
  have f2 := h.head.frozen (c * 4 + 2)
  obtain ⟨P1, P2⟩ := R.put hf x
  have E1 := fun m => (h.drewN m).thing c ((fs c + r.q.length) % r.n) hc (.int .i64 x) P1
  have E2 := fun m => (E1 m).word c 2 (by omega) hc (.int .i64 ((r.q.length + 1 : Nat) : Int)) (r' := { r with q := r.q ++ [x] }) (f' := fs c) (by simpa using P2 (by omega))
  simp only [List.set_set] at E2
  have hk := Nat.mod_lt (fs c + r.q.length) (show 0 < r.n by omega)
  obtain ⟨y, hy⟩ := R.ints _ hk
  have ck := ((h.blks c hc).cell _).trans hy
  have fk := (h.blks c hc).frozen ((fs c + r.q.length) % r.n)
  have hne := h.ne hc
  have hne2 : gs c ≠ p := Ne.symm hne
  have hS : IntKind.i64.wrap ((fs c : Int) + (r.q.length : Int)) = (fs c : Int) + (r.q.length : Int) := IntWalk.i64_in _ (by omega)
  have hT : ((fs c : Int) + (r.q.length : Int)).tmod (r.n : Int) = (((fs c + r.q.length) % r.n : Nat) : Int) := by
    rw [Int.tmod_eq_emod_of_nonneg (by omega)]; simp
  have hT2 : ((fs c : Int) + (r.q.length : Int)) % (r.n : Int) = (((fs c + r.q.length) % r.n : Nat) : Int) := by simp
  have hne3 : ((r.q.length : Int) == (r.n : Int)) = false := by simp; omega
  have fp := h.fp
  have fg := h.fg c hc
  have E := Lib.hid E2
  clear E1 E2 P1 P2 R h hs hy hr
  generalize (fs c + r.q.length) % r.n = k at *
  go_enter Try.func69, Try.ntmps69
  go_wp2
  go_quiet (fail)
  go_wp2
  go_region
  all_goals go_wp2
  all_goals go_ret
  all_goals exact ⟨rfl, ⟨_, gs, _, _, E.out _⟩, ((((Keeps.refl F w).drewN _).setCell (fun _ => fg) _).setCell (fun _ => fp) _)⟩

theorem drop_has {r : RSt} {f : Nat} {ts : List Value} (hf : f < r.n) (hq1 : r.q.length ≤ r.n) {x : Int} {q : List Int} (hq : r.q = x :: q) (has : ∀ j y, r.q[j]? = some y → ts[(f + j) % r.n]? = some (.int .i64 y)) :
    ∀ j y, q[j]? = some y → ts[((f + 1) % r.n + j) % r.n]? = some (.int .i64 y) := by
  intro j y hj
  have h := has (j + 1) y (by rw [hq]; simpa using hj)
  rw [← h]
  congr 1
  rw [Nat.mod_add_mod]
  congr 1
  omega

def Dropped (w : World) (p : Nat) (F : Nat → Prop) (rs : List RSt) (e : Ending) (w' : World) : Prop := e = .returned (.tuple #[]) ∧ RingAt w' p F rs ∧ Keeps F w w'

set_option maxRecDepth 100000 in
theorem drop_row {w : World} {p : Nat} {F : Nat → Prop} {rs : List RSt} (h : RingAt w p F rs) (c : Nat) (x : Int) (q : List Int) (r : RSt) (hr : rs[c]? = some r) (hq : r.q = x :: q) :
    Calls Try.prog 74 #[.pointer (some ⟨p, c * 4, none⟩)] w (Dropped w p F (rs.set c { r with q := q })) := by
  obtain ⟨cs, gs, fs, ts, h⟩ := h
  have hc : c < 8 := by have := (List.getElem?_eq_some_iff.1 hr).1; have := h.eight; omega
  have R := h.rows c r hr
  have hcap := R.cap
  have hs := h.size
  have hlq : r.q.length = q.length + 1 := by rw [hq]; rfl
  have hfits := R.fits
  have hfn : fs c < r.n := by rcases R.first with h | h <;> omega
  have a0 := (h.head.cell _).trans R.c0
  have a1 := (h.head.cell _).trans R.c1
  have a2 := (h.head.cell _).trans R.c2
  have f1 := h.head.frozen (c * 4 + 1)
  have f2 := h.head.frozen (c * 4 + 2)
  have hk := Nat.mod_lt (fs c + 1) (show 0 < r.n by omega)
  have has := drop_has hfn hfits hq R.has
  -- both words at once
  have E : ∀ m, RingIn (((w.drewN m).setCell ⟨p, c * 4 + 1, none⟩ (.int .i64 (((fs c + 1) % r.n : Nat) : Int))).setCell ⟨p, c * 4 + 2, none⟩ (.int .i64 (q.length : Nat))) p F (rs.set c { r with q := q })
      ((cs.set (c * 4 + 1) (.int .i64 (((fs c + 1) % r.n : Nat) : Int))).set (c * 4 + 2) (.int .i64 (q.length : Nat))) gs (fun i => if i = c then (fs c + 1) % r.n else fs i) ts := by
    intro m
    refine ⟨h.fp, h.fg, by simpa [World.setCell] using h.lt, h.inj, ((h.drewN m).head.set _ _).set _ _, by simpa using h.size, by simpa using h.eight, ?_, fun i hi => (((h.drewN m).blks i hi).set_ne _ _ (Ne.symm (h.ne hi))).set_ne _ _ (Ne.symm (h.ne hi))⟩
    intro i r2 hi
    by_cases e : c = i
    · subst e
      rw [List.getElem?_set_self (by rw [h.eight]; exact hc)] at hi
      simp at hi
      subst hi
      simp only [if_true]
      exact ⟨by rw [List.getElem?_set_ne (by omega), List.getElem?_set_ne (by omega)]; exact R.c0, by rw [List.getElem?_set_ne (by omega), List.getElem?_set_self (by omega)], by rw [List.getElem?_set_self (by simp; omega)],
        by rw [List.getElem?_set_ne (by omega), List.getElem?_set_ne (by omega)]; exact R.c3, R.len, R.cap, by simp; omega, .inl hk, R.ints, has⟩
    · rw [List.getElem?_set_ne e] at hi
      simp only [if_neg (Ne.symm e)]
      exact ((h.rows i r2 hi).other c 1 (by omega) (Ne.symm e) _).other c 2 (by omega) (Ne.symm e) _
  have hS : IntKind.i64.wrap ((fs c : Int) + 1) = (fs c : Int) + 1 := IntWalk.i64_in _ (by omega)
  have hT : ((fs c : Int) + 1).tmod (r.n : Int) = (((fs c + 1) % r.n : Nat) : Int) := by
    rw [Int.tmod_eq_emod_of_nonneg (by omega)]; simp
  have hT2 : ((fs c : Int) + 1) % (r.n : Int) = (((fs c + 1) % r.n : Nat) : Int) := by simp
  have hql : q.length ≤ 1024 := by omega
  rw [hlq] at a2
  have fp := h.fp
  have E := Lib.hid E
  clear R h hs hr has hfits hlq
  generalize (fs c + 1) % r.n = k at *
  go_enter Try.func74, Try.ntmps74
  go_wp2
  go_region
  all_goals go_wp2
  all_goals go_end0
  all_goals exact ⟨rfl, ⟨_, gs, _, _, E.out _⟩, ((((Keeps.refl F w).drewN _).setCell (fun _ => fp) _).setCell (fun _ => fp) _)⟩

def icells (l : List Int) : List Value := l.map fun x => .int .i64 x
@[simp] theorem icells_length (l : List Int) : (icells l).length = l.length := by simp [icells]

theorem Try.info3 : (Try.prog.info? 3).map (fun i => (i.zero, i.size, i.bytes)) = some (some (.int .i64 0), 1, 8) := by kernel_rfl

def ListInv (g m : Nat) (q : List Int) (w : World) (k : Nat) (i : Value) (wr : World) : Prop :=
  ∃ (j : Nat) (cur : List Value), j + k = m ∧ i = .int .i64 (j : Nat) ∧ Blk wr g cur 3 ∧ cur.length = m ∧ (∀ l, l < m → ∃ x, cur[l]? = some (.int .i64 x)) ∧ (∀ l, l < j → ∀ x, q[l]? = some x → cur[l]? = some (.int .i64 x)) ∧ Keeps (fun x => x = g) w wr

def Listed (w : World) (q : List Int) (e : Ending) (w' : World) : Prop := ∃ g cap, e = .returned (.slice (some ⟨g, 0, none⟩) q.length cap) ∧ OwnF w' (fun k => w.heap.size ≤ k) 3 (.slice (some ⟨g, 0, none⟩) q.length cap) (icells q) ∧ Keeps Nothing w w'

set_option maxRecDepth 100000 in
set_option maxHeartbeats 1000000 in
theorem list_row {w : World} {p : Nat} {F : Nat → Prop} {rs : List RSt} (h : RingAt w p F rs) (c : Nat) (r : RSt) (hr : rs[c]? = some r) :
    Calls Try.prog 80 #[.pointer (some ⟨p, c * 4, none⟩)] w (Listed w r.q) := by
  obtain ⟨i0, hi0, hz0, hz1, hz2⟩ := info_parts Try.info3
  obtain ⟨cs, gs, fs, ts, h⟩ := h
  have hc : c < 8 := by have := (List.getElem?_eq_some_iff.1 hr).1; have := h.eight; omega
  have R := h.rows c r hr
  have hcap := R.cap
  have hfits := R.fits
  have a2 := (h.head.cell _).trans R.c2
  have HR := Lib.hid R
  have HH := Lib.hid h
  have hpl := h.head.lt
  have hgl := (h.blks c hc).lt
  clear R h hr
  go_enter Try.func80, Try.ntmps80
  go_wp2_with (at_make; refine wpList_mk rfl (.tmp 8) (.tmp 8) 22 rfl 3 i0 (.int .i64 0) [.int .i64 0] Try.underlying22 hi0 hz0 hz1 rfl .i64 .i64 _ _ r.q.length rfl rfl rfl rfl 8 hz2 (by omega) (by omega) ?_)
  intro w1 hb hk hs
  rw [rep_one] at hb
  have HB := Lib.hid hb
  have HK := Lib.hid hk
  clear hb hk
  go_wp2_with fail
  go_loopg [12] r.q.length (fun k i wr => ListInv w.heap.size r.q.length r.q w1 k i wr)
  case atStart => exact ⟨0, _, by omega, rfl, HB.out, by simp, fun l hl => ⟨0, by simp [hl]⟩, fun l hl => absurd hl (Nat.not_lt_zero l), Keeps.refl _ _⟩
  case round =>
    obtain ⟨j, cur, hj, rfl, hbl, hlen, hint, hdone, hk2⟩ := hrel
    have HBL := Lib.hid hbl
    have HI := Lib.hid hint
    have HD := Lib.hid hdone
    have HL := Lib.hid hlen
    have H1 : Blk wr p cs 110 := (HH.out.head.keeps HK.out (fun h => h)).keeps hk2 (fun h => by omega)
    have H2 : Blk wr (gs c) (ts c) 3 := ((HH.out.blks c hc).keeps HK.out (fun h => h)).keeps hk2 (fun h => by omega)
    by_cases hlt : j < r.q.length
    · have hfn : fs c < r.n := by rcases HR.out.first with h | h <;> omega
      obtain ⟨x, hx⟩ : ∃ x, r.q[j]? = some x := ⟨_, List.getElem?_eq_getElem hlt⟩
      have HX := Lib.hid hx
      have b0 := (H1.cell _).trans HR.out.c0
      have b1 := (H1.cell _).trans HR.out.c1
      have bk := (H2.cell _).trans (HR.out.has j x hx)
      obtain ⟨y, hy⟩ := hint j hlt
      have bo := (hbl.cell j).trans hy
      have fo := hbl.frozen j
      have hkn := Nat.mod_lt (fs c + j) (show 0 < r.n by omega)
      have hS : IntKind.i64.wrap ((fs c : Int) + (j : Int)) = (fs c : Int) + (j : Int) := IntWalk.i64_in _ (by omega)
      have hT : ((fs c : Int) + (j : Int)).tmod (r.n : Int) = (((fs c + j) % r.n : Nat) : Int) := by
        rw [Int.tmod_eq_emod_of_nonneg (by omega)]; simp
      have hT2 : ((fs c : Int) + (j : Int)) % (r.n : Int) = (((fs c + j) % r.n : Nat) : Int) := by simp
      clear hbl hint hdone hlen hx hy H1 H2
      generalize (fs c + j) % r.n = kk at *
      go_wp2_with fail
      go_region
      all_goals go_wp2_with fail
      all_goals go_roundg (gk - 1)
      all_goals
        first
        | omega
        | (refine ⟨j + 1, _, by omega, by go_num, HBL.out.drew.set j _, by rw [List.length_set]; exact HL.out, fun l hl => ?_, fun l hl z hz => ?_, (hk2.drewN _).setCell (fun _ => rfl) _⟩
           · by_cases e : j = l
             · subst e; exact ⟨x, List.getElem?_set_self (by have := HL.out; omega)⟩
             · rw [List.getElem?_set_ne e]; exact HI.out l hl
           · by_cases e : j = l
             · subst e
               have := HX.out.symm.trans hz
               injection this with this
               subst this
               exact List.getElem?_set_self (by have := HL.out; omega)
             · rw [List.getElem?_set_ne e]; exact HD.out l (by omega) z hz)
    · clear hbl hint hdone hlen H1 H2
      have hfin : Hid (OwnF wr (fun k => w.heap.size ≤ k) 3 (.slice (some ⟨w.heap.size, 0, none⟩) r.q.length r.q.length) (icells r.q)) := by
        have e : cur = icells r.q := by
          apply List.ext_getElem?
          intro l
          by_cases hl : l < r.q.length
          · rw [HD.out l (by omega) _ (List.getElem?_eq_getElem hl)]
            simp [icells, hl]
          · rw [List.getElem?_eq_none (by have := HL.out; omega), List.getElem?_eq_none (by simp; omega)]
        have hb := HBL.out
        rw [e] at hb
        have := OwnF.mk (F := fun k => w.heap.size ≤ k) (xs := icells r.q) (cap := r.q.length) (Nat.le_refl _) hb (by simp) (by unfold maxLen; omega) (by simp) (List.take_length)
        rw [icells_length] at this
        exact this
      go_wp2_with fail
      go_ret
      exact ⟨_, _, rfl, hfin.out, HK.out.up hk2 (fun x hx => by omega)⟩
end

section
open Go.RowKit

/-- Is a number a row's? -/
theorem push_out {w : World} {p : Nat} (c x : Int) (h : c < 0 ∨ 8 ≤ c) :
    Calls Try.prog 42 #[.pointer (some ⟨p, 0, none⟩), .int .i64 c, .int .i64 x] w fun e w' => e = .returned (.int .i64 1) ∧ w = w' := by
  have C := class_out c w h
  go_enter Try.func42, Try.ntmps42
  go_wp2_with (go_at_call 68; refine C.mono ?_; rintro e w' ⟨rfl, rfl⟩)
  go_ret
  exact ⟨rfl, rfl⟩

theorem push_full {w : World} {p : Nat} {F : Nat → Prop} {rs : List RSt} (h : RingAt w p F rs) (c : Nat) (x : Int) (r : RSt) (hr : rs[c]? = some r) (hf : r.q.length = r.n) (hl : r.lost ≤ 1000000000) :
    Calls Try.prog 42 #[.pointer (some ⟨p, 0, none⟩), .int .i64 c, .int .i64 x] w (Turned w p F (.int .i64 20) (rs.set c { r with lost := r.lost + 1 })) := by
  have hc : c < 8 := by obtain ⟨_, _, _, _, h⟩ := h; have := (List.getElem?_eq_some_iff.1 hr).1; have := h.eight; omega
  have C := class_in c w (by omega) (by omega)
  have D := put_full h c x r hr hf hl
  clear hf hr
  go_enter Try.func42, Try.ntmps42
  go_wp2_with (first | (go_at_call 68; refine C.mono ?_; rintro e w' ⟨rfl, rfl⟩) | (go_at_call 69; refine D.mono ?_; rintro e w' ⟨rfl, hR, hk⟩))
  go_ret
  exact ⟨rfl, hR, hk⟩

theorem push_ok {w : World} {p : Nat} {F : Nat → Prop} {rs : List RSt} (h : RingAt w p F rs) (c : Nat) (x : Int) (r : RSt) (hr : rs[c]? = some r) (hf : r.q.length < r.n) :
    Calls Try.prog 42 #[.pointer (some ⟨p, 0, none⟩), .int .i64 c, .int .i64 x] w (Turned w p F (.int .i64 0) (rs.set c { r with q := r.q ++ [x] })) := by
  have hc : c < 8 := by obtain ⟨_, _, _, _, h⟩ := h; have := (List.getElem?_eq_some_iff.1 hr).1; have := h.eight; omega
  have C := class_in c w (by omega) (by omega)
  have D := put_ok h c x r hr hf
  clear hf hr
  go_enter Try.func42, Try.ntmps42
  go_wp2_with (first | (go_at_call 68; refine C.mono ?_; rintro e w' ⟨rfl, rfl⟩) | (go_at_call 69; refine D.mono ?_; rintro e w' ⟨rfl, hR, hk⟩))
  go_ret
  exact ⟨rfl, hR, hk⟩

theorem head_out {w : World} {p : Nat} (c : Int) (h : c < 0 ∨ 8 ≤ c) :
    Calls Try.prog 71 #[.pointer (some ⟨p, 0, none⟩), .int .i64 c] w fun e w' => e = .returned (.tuple #[.int .i64 0, .int .i64 1]) ∧ w = w' := by
  have C := class_out c w h
  go_enter Try.func71, Try.ntmps71
  go_wp2_with (go_at_call 68; refine C.mono ?_; rintro e w' ⟨rfl, rfl⟩)
  go_ret2
  exact ⟨rfl, rfl⟩

theorem head_none {w : World} {p : Nat} {F : Nat → Prop} {rs : List RSt} (h : RingAt w p F rs) (c : Nat) (r : RSt) (hr : rs[c]? = some r) (hq : r.q = []) :
    Calls Try.prog 71 #[.pointer (some ⟨p, 0, none⟩), .int .i64 c] w fun e w' => e = .returned (.tuple #[.int .i64 0, .int .i64 21]) ∧ w = w' := by
  obtain ⟨cs, gs, fs, ts, h⟩ := h
  have hc : c < 8 := by have := (List.getElem?_eq_some_iff.1 hr).1; have := h.eight; omega
  have C := class_in c w (by omega) (by omega)
  have a2 := (h.head.cell _).trans (h.rows c r hr).c2
  rw [hq] at a2
  clear h hr hq
  go_enter Try.func71, Try.ntmps71
  go_wp2_with (go_at_call 68; refine C.mono ?_; rintro e w' ⟨rfl, rfl⟩)
  go_ret2
  exact ⟨rfl, rfl⟩

def Headed (x : Int) (w : World) (e : Ending) (w' : World) : Prop := e = .returned (.tuple #[.int .i64 x, .int .i64 0]) ∧ Keeps Nothing w w'

theorem head_some {w : World} {p : Nat} {F : Nat → Prop} {rs : List RSt} (h : RingAt w p F rs) (c : Nat) (x : Int) (q : List Int) (r : RSt) (hr : rs[c]? = some r) (hq : r.q = x :: q) :
    Calls Try.prog 71 #[.pointer (some ⟨p, 0, none⟩), .int .i64 c] w (Headed x w) := by
  obtain ⟨cs, gs, fs, ts, h⟩ := h
  have hc : c < 8 := by have := (List.getElem?_eq_some_iff.1 hr).1; have := h.eight; omega
  have C := class_in c w (by omega) (by omega)
  have R := h.rows c r hr
  have hcap := R.cap
  have hfits := R.fits
  have hlq : r.q.length = q.length + 1 := by rw [hq]; rfl
  have hfn : fs c < r.n := by rcases R.first with h | h <;> omega
  have a0 := (h.head.cell _).trans R.c0
  have a1 := (h.head.cell _).trans R.c1
  have a2 := (h.head.cell _).trans R.c2
  have ax := ((h.blks c hc).cell _).trans (R.has 0 x (by rw [hq]; rfl))
  rw [Nat.add_zero, Nat.mod_eq_of_lt hfn] at ax
  rw [hlq] at a2
  have hne : (((q.length + 1 : Nat) : Int) == 0) = false := by simp; omega
  have hne' : (((q.length : Nat) : Int) + 1 == 0) = false := by simp; omega
  clear h hr hq R hlq
  go_enter Try.func71, Try.ntmps71
  go_wp2_with (go_at_call 68; refine C.mono ?_; rintro e w' ⟨rfl, rfl⟩)
  go_quiet (fail)
  go_wp2
  go_ret2
  exact ⟨rfl, (Keeps.refl _ _).drewN _⟩

theorem pop_out {w : World} {p : Nat} (c : Int) (h : c < 0 ∨ 8 ≤ c) :
    Calls Try.prog 48 #[.pointer (some ⟨p, 0, none⟩), .int .i64 c] w fun e w' => e = .returned (.tuple #[.int .i64 0, .int .i64 1]) ∧ w = w' := by
  have C := head_out (w := w) (p := p) c h
  go_enter Try.func48, Try.ntmps48
  go_wp2_with (go_at_call 71; refine C.mono ?_; rintro e w' ⟨rfl, rfl⟩)
  go_ret2
  exact ⟨rfl, rfl⟩

theorem pop_none {w : World} {p : Nat} {F : Nat → Prop} {rs : List RSt} (h : RingAt w p F rs) (c : Nat) (r : RSt) (hr : rs[c]? = some r) (hq : r.q = []) :
    Calls Try.prog 48 #[.pointer (some ⟨p, 0, none⟩), .int .i64 c] w fun e w' => e = .returned (.tuple #[.int .i64 0, .int .i64 21]) ∧ w = w' := by
  have C := head_none h c r hr hq
  clear h hr hq
  go_enter Try.func48, Try.ntmps48
  go_wp2_with (go_at_call 71; refine C.mono ?_; rintro e w' ⟨rfl, rfl⟩)
  go_ret2
  exact ⟨rfl, rfl⟩

theorem pop_some {w : World} {p : Nat} {F : Nat → Prop} {rs : List RSt} (h : RingAt w p F rs) (c : Nat) (x : Int) (q : List Int) (r : RSt) (hr : rs[c]? = some r) (hq : r.q = x :: q) :
    Calls Try.prog 48 #[.pointer (some ⟨p, 0, none⟩), .int .i64 c] w (Turned w p F (.tuple #[.int .i64 x, .int .i64 0]) (rs.set c { r with q := q })) := by
  have hc : c < 8 := by obtain ⟨_, _, _, _, h⟩ := h; have := (List.getElem?_eq_some_iff.1 hr).1; have := h.eight; omega
  have C := head_some h c x q r hr hq
  have H := Lib.hid (And.intro hr hq)
  clear hr hq
  go_enter Try.func48, Try.ntmps48
  go_wp2_with (first
    | (go_at_call 71; refine C.mono ?_; rintro e w1 ⟨rfl, hk1⟩; have D := drop_row (h.same hk1) c x q r H.out.1 H.out.2)
    | (go_at_call 74; refine D.mono ?_; rintro e w2 ⟨rfl, hR, hk2⟩))
  go_ret2
  exact ⟨rfl, hR, (hk1.mono (fun _ h _ => h.elim)).trans hk2 (fun _ h _ => h)⟩

theorem len_out {w : World} {p : Nat} (c : Int) (h : c < 0 ∨ 8 ≤ c) :
    Calls Try.prog 67 #[.pointer (some ⟨p, 0, none⟩), .int .i64 c] w fun e w' => e = .returned (.int .i64 0) ∧ w = w' := by
  have C := class_out c w h
  go_enter Try.func67, Try.ntmps67
  go_wp2_with (go_at_call 68; refine C.mono ?_; rintro e w' ⟨rfl, rfl⟩)
  go_ret
  exact ⟨rfl, rfl⟩

theorem lost_out {w : World} {p : Nat} (c : Int) (h : c < 0 ∨ 8 ≤ c) :
    Calls Try.prog 63 #[.pointer (some ⟨p, 0, none⟩), .int .i64 c] w fun e w' => e = .returned (.int .i64 0) ∧ w = w' := by
  have C := class_out c w h
  go_enter Try.func63, Try.ntmps63
  go_wp2_with (go_at_call 68; refine C.mono ?_; rintro e w' ⟨rfl, rfl⟩)
  go_ret
  exact ⟨rfl, rfl⟩

theorem list_out {w : World} {p : Nat} (c : Int) (h : c < 0 ∨ 8 ≤ c) :
    Calls Try.prog 60 #[.pointer (some ⟨p, 0, none⟩), .int .i64 c] w fun e w' => e = .returned (.slice none 0 0) ∧ w = w' := by
  have C := class_out c w h
  go_enter Try.func60, Try.ntmps60
  go_wp2_with (go_at_call 68; refine C.mono ?_; rintro e w' ⟨rfl, rfl⟩)
  go_ret
  exact ⟨rfl, rfl⟩

theorem len_in {w : World} {p : Nat} {F : Nat → Prop} {rs : List RSt} (h : RingAt w p F rs) (c : Nat) (r : RSt) (hr : rs[c]? = some r) :
    Calls Try.prog 67 #[.pointer (some ⟨p, 0, none⟩), .int .i64 c] w fun e w' => e = .returned (.int .i64 (r.q.length : Nat)) ∧ w = w' := by
  obtain ⟨cs, gs, fs, ts, h⟩ := h
  have hc : c < 8 := by have := (List.getElem?_eq_some_iff.1 hr).1; have := h.eight; omega
  have C := class_in c w (by omega) (by omega)
  have a2 := (h.head.cell _).trans (h.rows c r hr).c2
  clear h hr
  go_enter Try.func67, Try.ntmps67
  go_wp2_with (go_at_call 68; refine C.mono ?_; rintro e w' ⟨rfl, rfl⟩)
  go_ret
  exact ⟨rfl, rfl⟩

theorem lost_in {w : World} {p : Nat} {F : Nat → Prop} {rs : List RSt} (h : RingAt w p F rs) (c : Nat) (r : RSt) (hr : rs[c]? = some r) :
    Calls Try.prog 63 #[.pointer (some ⟨p, 0, none⟩), .int .i64 c] w fun e w' => e = .returned (.int .i64 (r.lost : Nat)) ∧ w = w' := by
  obtain ⟨cs, gs, fs, ts, h⟩ := h
  have hc : c < 8 := by have := (List.getElem?_eq_some_iff.1 hr).1; have := h.eight; omega
  have C := class_in c w (by omega) (by omega)
  have a3 := (h.head.cell _).trans (h.rows c r hr).c3
  clear h hr
  go_enter Try.func63, Try.ntmps63
  go_wp2_with (go_at_call 68; refine C.mono ?_; rintro e w' ⟨rfl, rfl⟩)
  go_ret
  exact ⟨rfl, rfl⟩

theorem list_in {w : World} {p : Nat} {F : Nat → Prop} {rs : List RSt} (h : RingAt w p F rs) (c : Nat) (r : RSt) (hr : rs[c]? = some r) :
    Calls Try.prog 60 #[.pointer (some ⟨p, 0, none⟩), .int .i64 c] w (Listed w r.q) := by
  have hc : c < 8 := by obtain ⟨_, _, _, _, h⟩ := h; have := (List.getElem?_eq_some_iff.1 hr).1; have := h.eight; omega
  have C := class_in c w (by omega) (by omega)
  have D := list_row h c r hr
  clear hr
  go_enter Try.func60, Try.ntmps60
  go_wp2_with (first | (go_at_call 68; refine C.mono ?_; rintro e w' ⟨rfl, rfl⟩) | (go_at_call 80; refine D.mono ?_; rintro e w' ⟨g, cap, rfl, ho, hk⟩))
  go_ret
  exact ⟨g, cap, rfl, ho, hk⟩
end

section
open Go.RowKit

def totalOf (rs : List RSt) : Nat := (rs.map (·.q.length)).sum

theorem totalOf_take_succ (rs : List RSt) (k : Nat) (r : RSt) (h : rs[k]? = some r) : totalOf (rs.take (k + 1)) = totalOf (rs.take k) + r.q.length := by
  obtain ⟨hl, he⟩ := List.getElem?_eq_some_iff.1 h
  unfold totalOf
  rw [List.take_succ_eq_append_getElem hl, List.map_append, List.sum_append_nat]
  simp [he]

theorem totalOf_take_le (rs : List RSt) (k : Nat) : totalOf (rs.take k) ≤ totalOf rs := by
  have : totalOf rs = totalOf (rs.take k) + totalOf (rs.drop k) := by
    unfold totalOf
    rw [← List.sum_append_nat, ← List.map_append, List.take_append_drop]
  omega

theorem RingAt.total_le {w : World} {p : Nat} {F : Nat → Prop} {rs : List RSt} (h : RingAt w p F rs) : totalOf rs ≤ 8192 := by
  obtain ⟨cs, gs, fs, ts, h⟩ := h
  have hb : ∀ r ∈ rs, r.q.length ≤ 1024 := by
    intro r hr
    obtain ⟨i, hi⟩ := List.getElem?_of_mem hr
    have R := h.rows i r hi
    have := R.fits; have := R.cap; omega
  have gen : ∀ l : List RSt, (∀ r ∈ l, r.q.length ≤ 1024) → totalOf l ≤ l.length * 1024 := by
    intro l
    induction l with
    | nil => intro _; simp [totalOf]
    | cons x l ih =>
      intro hl
      have h1 := hl x (by simp)
      have h2 := ih (fun r hr => hl r (by simp [hr]))
      simp only [totalOf, List.map_cons, List.sum_cons, List.length_cons] at h2 ⊢
      omega
  have := gen rs hb
  rw [h.eight] at this
  exact this

def AllInv (rs : List RSt) (w : World) (k : Nat) (n i : Value) (wr : World) : Prop := ∃ j : Nat, j + k = 8 ∧ i = .int .i64 (j : Nat) ∧ n = .int .i64 (totalOf (rs.take j) : Nat) ∧ w = wr

set_option maxRecDepth 100000 in
theorem all_any {w : World} {p : Nat} {F : Nat → Prop} {rs : List RSt} (h : RingAt w p F rs) :
    Calls Try.prog 64 #[.pointer (some ⟨p, 0, none⟩)] w fun e w' => e = .returned (.int .i64 (totalOf rs : Nat)) ∧ w = w' := by
  have ht := h.total_le
  obtain ⟨cs, gs, fs, ts, h⟩ := h
  have HH := Lib.hid h
  clear h
  go_enter Try.func64, Try.ntmps64
  go_wp2
  go_loopg [3, 5] 8 (fun k n i wr => AllInv rs w k n i wr)
  case atStart => exact ⟨0, by omega, rfl, rfl, rfl⟩
  case round =>
    obtain ⟨j, hj, rfl, rfl, rfl⟩ := hrel
    by_cases hlt : j < 8
    · obtain ⟨r, hr⟩ : ∃ r, rs[j]? = some r := ⟨_, List.getElem?_eq_getElem (by rw [HH.out.eight]; exact hlt)⟩
      have a2 := (HH.out.head.cell _).trans (HH.out.rows j r hr).c2
      have hs := Lib.hid (totalOf_take_succ rs j r hr)
      have h1 := totalOf_take_le rs (j + 1)
      rw [hs.out] at h1
      clear hr
      generalize totalOf (rs.take j) = S at *
      go_wp2
      go_roundg (gk - 1)
      case measure => omega
      case rel => exact ⟨j + 1, by omega, by go_num, by rw [hs.out]; go_num, rfl⟩
    · have he : Hid (totalOf (rs.take j) = totalOf rs) := by
        have e : rs.take j = rs := List.take_of_length_le (by rw [HH.out.eight]; omega)
        show _ = _
        rw [e]
      generalize totalOf (rs.take j) = S at *
      go_wp2
      go_ret
      exact ⟨ret_int (by have := he.out; omega), rfl⟩

theorem bits_or_i64_nat (a b : Nat) (ha : a < 4611686018427387904) (hb : b < 4611686018427387904) :
    bits .or .i64 (a : Int) (b : Int) = ((a ||| b : Nat) : Int) := by
  have hx : a ||| b < 2 ^ 62 := Nat.or_lt_two_pow (by omega) (by omega)
  have h1 : (BitVec.ofInt 64 (a : Int)).toNat = a := by
    rw [BitVec.ofInt_natCast, BitVec.toNat_ofNat]; exact Nat.mod_eq_of_lt (by omega)
  have h2 : (BitVec.ofInt 64 (b : Int)).toNat = b := by
    rw [BitVec.ofInt_natCast, BitVec.toNat_ofNat]; exact Nat.mod_eq_of_lt (by omega)
  show IntKind.i64.wrap ((BitVec.ofInt 64 (a : Int) ||| BitVec.ofInt 64 (b : Int)).toNat : Int) = _
  rw [BitVec.toNat_or, h1, h2, IntKind.wrap_i64]
  omega

theorem bits_or_add (a c : Nat) (hc : c < 60) (ha : a < 2 ^ c) : bits .or .i64 (a : Int) ((2 ^ c : Nat) : Int) = ((a + 2 ^ c : Nat) : Int) := by
  have h60 : 2 ^ c ≤ 2 ^ 60 := Nat.pow_le_pow_right (by omega) (by omega)
  rw [bits_or_i64_nat a (2 ^ c) (by omega) (by omega)]
  congr 1
  have := Nat.two_pow_add_eq_or_of_lt ha 1
  rw [Nat.mul_one] at this
  rw [Nat.or_comm, ← this, Nat.add_comm]

/-- A bit for each of the first rows in which something waits. -/
def bitsTo (rs : List RSt) : Nat → Nat
  | 0 => 0
  | j + 1 => bitsTo rs j + if 0 < ((rs[j]?).map (·.q.length)).getD 0 then 2 ^ j else 0

theorem bitsTo_lt (rs : List RSt) : ∀ j, bitsTo rs j < 2 ^ j
  | 0 => by simp [bitsTo]
  | j + 1 => by
    have := bitsTo_lt rs j
    have h2 : 2 ^ (j + 1) = 2 ^ j + 2 ^ j := by rw [Nat.pow_succ]; omega
    unfold bitsTo
    split <;> omega

def BitsInv (rs : List RSt) (w : World) (k : Nat) (n i : Value) (wr : World) : Prop := ∃ j : Nat, j + k = 8 ∧ i = .int .i64 (j : Nat) ∧ n = .int .i64 (bitsTo rs j : Nat) ∧ w = wr

/-! New. -/
theorem run_index_arr {P : Program} {T e n : Nat} {cs : Array Value} {j : Nat} {v : Value} (w : World) (hT : P.underlying T = some (.array n e)) (hs : (sizeOf e).run P w = .ok 1 w) (ha : (isAgg e).run P w = .ok false w)
    (hj : j < n) (hv : cs[j]? = some v) (hjb : j < 9223372036854775808) : (Instr.index T (.agg cs) (.int .i64 (j : Nat))).run P w = .ok v w := by
  have h1 : (0 : Int) ≤ (j : Int) ∧ (j : Int) < (n : Int) := by omega
  have hw : IntKind.i64.wrap (j : Int) = (j : Int) := by rw [IntKind.wrap_i64]; omega
  simp [Instr.index, asIntOf, run_underlying hT, hw, hj, hs, part, ha, hv, Result.andThen]
end

section
open Go.RowKit

def bnd (b : Int) : Nat := (min (max b 0) 1024).toNat
theorem bnd_le (b : Int) : bnd b ≤ 1024 := by unfold bnd; omega

structure NewAt (bl : List Int) (w : World) (p j : Nat) (cs : List Value) (gs : Nat → Nat) (wr : World) : Prop where
  head : Blk wr p cs 110
  size : cs.length = 32
  made : ∀ l, l < j → ∀ b, bl[l]? = some b → cs[l * 4]? = some (.slice (some ⟨gs l, 0, none⟩) (bnd b) (bnd b)) ∧ Blk wr (gs l) (List.replicate (bnd b) (.int .i64 0)) 3 ∧ p < gs l
  inj : ∀ l m, l < j → m < j → gs l = gs m → l = m
  rest : ∀ l, j ≤ l → l < 8 → cs[l * 4]? = some (.slice none 0 0)
  zero : ∀ l, l < 8 → cs[l * 4 + 1]? = some (.int .i64 0) ∧ cs[l * 4 + 2]? = some (.int .i64 0) ∧ cs[l * 4 + 3]? = some (.int .i64 0)
  keeps : Keeps Nothing w wr
  own : w.heap.size ≤ p

def NewInv (bl : List Int) (w : World) (p : Nat) (k : Nat) (i : Value) (wr : World) : Prop := ∃ j cs gs, j + k = 8 ∧ i = .int .i64 (j : Nat) ∧ NewAt bl w p j cs gs wr

def MadeRing (bl : List Int) (w : World) (e : Ending) (w' : World) : Prop :=
  ∃ p F, e = .returned (.pointer (some ⟨p, 0, none⟩)) ∧ RingAt w' p F (bl.map fun b => ⟨bnd b, [], 0⟩) ∧ (∀ x, F x → w.heap.size ≤ x) ∧ Keeps Nothing w w'

theorem NewAt.step {bl : List Int} {w : World} {p j : Nat} {cs : List Value} {gs : Nat → Nat} {wr : World} (h : NewAt bl w p j cs gs wr) (hj : j < 8) (b : Int) (hb : bl[j]? = some b) {w' : World} (g : Nat) (hg : wr.heap.size ≤ g)
    (hB : Blk w' g (List.replicate (bnd b) (.int .i64 0)) 3) (hH : Blk w' p (cs.set (j * 4) (.slice (some ⟨g, 0, none⟩) (bnd b) (bnd b))) 110) (hk : Keeps (fun x => x = p) wr w') :
    NewAt bl w p (j + 1) (cs.set (j * 4) (.slice (some ⟨g, 0, none⟩) (bnd b) (bnd b))) (fun l => if l = j then g else gs l) w' := by
  have hpl := h.head.lt
  refine ⟨hH, by simpa using h.size, ?_, ?_, ?_, ?_, h.keeps.up hk (fun x hx => by have := h.own; omega), h.own⟩
  · intro l hl b' hb'
    by_cases e : l = j
    · subst e
      rw [hb] at hb'
      injection hb' with hb'
      subst hb'
      simp only [if_true]
      exact ⟨List.getElem?_set_self (by rw [h.size]; omega), hB, by omega⟩
    · simp only [if_neg e]
      obtain ⟨h1, h2, h3⟩ := h.made l (by omega) b' hb'
      exact ⟨by rw [List.getElem?_set_ne (by omega)]; exact h1, h2.keeps hk (fun e => by omega), h3⟩
  · intro l m hl hm he
    by_cases e1 : l = j <;> by_cases e2 : m = j
    · omega
    · rw [if_pos e1, if_neg e2] at he
      exfalso
      cases hb' : bl[m]? with
      | none =>
        have := List.getElem?_eq_none_iff.1 hb'
        have := (List.getElem?_eq_some_iff.1 hb).1
        omega
      | some b' =>
        have := (h.made m (by omega) b' hb').2.1.lt
        omega
    · rw [if_neg e1, if_pos e2] at he
      exfalso
      cases hb' : bl[l]? with
      | none =>
        have := List.getElem?_eq_none_iff.1 hb'
        have := (List.getElem?_eq_some_iff.1 hb).1
        omega
      | some b' =>
        have := (h.made l (by omega) b' hb').2.1.lt
        omega
    · rw [if_neg e1, if_neg e2] at he
      exact h.inj l m (by omega) (by omega) he
  · intro l hl hl8
    rw [List.getElem?_set_ne (by omega)]
    exact h.rest l (by omega) hl8
  · intro l hl
    obtain ⟨h1, h2, h3⟩ := h.zero l hl
    exact ⟨by rw [List.getElem?_set_ne (by omega)]; exact h1, by rw [List.getElem?_set_ne (by omega)]; exact h2, by rw [List.getElem?_set_ne (by omega)]; exact h3⟩

theorem NewAt.fin {bl : List Int} {w : World} {p : Nat} {cs : List Value} {gs : Nat → Nat} {wr : World} (h : NewAt bl w p 8 cs gs wr) (hbl : bl.length = 8) :
    RingAt wr p (fun x => p ≤ x ∧ x < wr.heap.size) (bl.map fun b => ⟨bnd b, [], 0⟩) := by
  have hb : ∀ i, i < 8 → ∃ b, bl[i]? = some b := fun i hi => ⟨_, List.getElem?_eq_getElem (by omega)⟩
  refine ⟨cs, gs, fun _ => 0, fun i => List.replicate (bnd (bl.getD i 0)) (.int .i64 0), ⟨Nat.le_refl _, h.head.lt⟩, ?_, fun k hk => hk.2, h.inj, h.head, h.size, by simpa using hbl, ?_, ?_⟩
  · intro i hi
    obtain ⟨b, hb⟩ := hb i hi
    obtain ⟨-, h2, h3⟩ := h.made i hi b hb
    exact ⟨Nat.le_of_lt h3, h2.lt⟩
  · intro i r hr
    simp only [List.getElem?_map, Option.map_eq_some_iff] at hr
    obtain ⟨b, hbi, rfl⟩ := hr
    have hi : i < 8 := by have := (List.getElem?_eq_some_iff.1 hbi).1; omega
    obtain ⟨h1, h2, h3⟩ := h.made i hi b hbi
    obtain ⟨z1, z2, z3⟩ := h.zero i hi
    have hd : bl.getD i 0 = b := by simp [List.getD, hbi]
    simp only [hd]
    exact ⟨h1, z1, z2, z3, by simp, bnd_le b, by simp, (Nat.eq_zero_or_pos (bnd b)).elim (fun h => .inr ⟨h, rfl⟩) .inl, fun l hl => ⟨0, by simp [hl]⟩, fun l x hx => by simp at hx⟩
  · intro i hi
    obtain ⟨b, hbi⟩ := hb i hi
    obtain ⟨h1, h2, h3⟩ := h.made i hi b hbi
    have hd : bl.getD i 0 = b := by simp [List.getD, hbi]
    simp only [hd]
    exact h2

def zeroPort : List Value := [.slice none 0 0, .int .i64 0, .int .i64 0, .int .i64 0, .slice none 0 0, .int .i64 0, .int .i64 0, .int .i64 0, .slice none 0 0, .int .i64 0, .int .i64 0, .int .i64 0, .slice none 0 0, .int .i64 0, .int .i64 0, .int .i64 0,
  .slice none 0 0, .int .i64 0, .int .i64 0, .int .i64 0, .slice none 0 0, .int .i64 0, .int .i64 0, .int .i64 0, .slice none 0 0, .int .i64 0, .int .i64 0, .int .i64 0, .slice none 0 0, .int .i64 0, .int .i64 0, .int .i64 0]

set_option maxRecDepth 100000 in
set_option maxHeartbeats 2000000 in
theorem new_ring (b0 b1 b2 b3 b4 b5 b6 b7 : Int) (w : World) :
    Calls Try.prog 38 #[.agg #[.int .i64 b0, .int .i64 b1, .int .i64 b2, .int .i64 b3, .int .i64 b4, .int .i64 b5, .int .i64 b6, .int .i64 b7]] w (MadeRing [b0, b1, b2, b3, b4, b5, b6, b7] w) := by
  obtain ⟨i0, hi0, hz0, hz1, hz2⟩ := info_parts Try.info3
  go_enter Try.func38, Try.ntmps38
  go_wp2
  generalize hbl : [b0, b1, b2, b3, b4, b5, b6, b7] = bl at *
  have HBL := Lib.hid hbl
  go_loopg [9] 8 (fun k i wr => NewInv bl w (w.heap.size + 1) k i wr)
  case atStart =>
    refine ⟨0, zeroPort, fun _ => 0, by omega, rfl, ?_⟩
    refine ⟨?_, rfl, fun l h => absurd h (Nat.not_lt_zero l), fun l m h => absurd h (Nat.not_lt_zero l), ?_, ?_, ((Keeps.refl _ _).alloc _).alloc _, by omega⟩
    · have := Blk.new (w.alloc (.cells #[.int .i64 b0, .int .i64 b1, .int .i64 b2, .int .i64 b3, .int .i64 b4, .int .i64 b5, .int .i64 b6, .int .i64 b7] 30)) zeroPort 110
      simp at this
      exact this
    · intro l _ hl
      obtain rfl | rfl | rfl | rfl | rfl | rfl | rfl | rfl : l = 0 ∨ l = 1 ∨ l = 2 ∨ l = 3 ∨ l = 4 ∨ l = 5 ∨ l = 6 ∨ l = 7 := by omega
      all_goals rfl
    · intro l hl
      obtain rfl | rfl | rfl | rfl | rfl | rfl | rfl | rfl : l = 0 ∨ l = 1 ∨ l = 2 ∨ l = 3 ∨ l = 4 ∨ l = 5 ∨ l = 6 ∨ l = 7 := by omega
      all_goals exact ⟨rfl, rfl, rfl⟩
  case round =>
    obtain ⟨j, cs, gs, hj, rfl, hN⟩ := hrel
    have HN := Lib.hid hN
    clear hN
    by_cases hlt : j < 8
    · have hl8 : bl.length = 8 := by rw [← HBL.out]; rfl
      obtain ⟨b, hb⟩ : ∃ b, bl[j]? = some b := ⟨_, List.getElem?_eq_getElem (by omega)⟩
      have hix : ∀ w, (Instr.index 30 (.agg #[.int .i64 b0, .int .i64 b1, .int .i64 b2, .int .i64 b3, .int .i64 b4, .int .i64 b5, .int .i64 b6, .int .i64 b7]) (.int .i64 (j : Nat))).run Try.prog w = .ok (.int .i64 b) w := fun w => by
        refine run_index_arr w Try.underlying30 (by kernel_rfl) (by kernel_rfl) hlt ?_ (by omega)
        rw [show (#[.int .i64 b0, .int .i64 b1, .int .i64 b2, .int .i64 b3, .int .i64 b4, .int .i64 b5, .int .i64 b6, .int .i64 b7] : Array Value) = ([b0, b1, b2, b3, b4, b5, b6, b7].map (Value.int .i64)).toArray from rfl, HBL.out]
        simp [hb]
      have hB := Lib.hid hb
      clear hb hl8
      have e6 : (if 1024 < (if b < 0 then 0 else b) then 1024 else (if b < 0 then 0 else b) : Int) = (bnd b : Nat) := by
        unfold bnd
        by_cases h : b < 0
        · simp only [h, if_true]; rw [if_neg (by omega)]; omega
        · simp only [h, if_false]; split <;> omega
      have hbn := bnd_le b
      have hmk : ∀ w, (Instr.makeSlice 22 (.int .i64 (bnd b : Nat)) (.int .i64 (bnd b : Nat))).run Try.prog w = .ok (.slice (some ⟨w.heap.size, 0, none⟩) (bnd b) (bnd b)) (w.alloc (.cells (List.replicate (bnd b) (.int .i64 0)).toArray 3)) := fun w => by
        have := run_make (P := Try.prog) w 22 3 i0 (.int .i64 0) Try.underlying22 hi0 hz0 .i64 .i64 (bnd b : Nat) (bnd b : Nat) (by omega) (Int.le_refl _) (by rw [hz2]; omega) (by omega)
        rw [this]
        simp only [Int.toNat_natCast, hz1, Nat.mul_one]
        have e := toList_madeCells_one (.int .i64 0) (bnd b)
        rw [← e]
        rfl
      have hhd := HN.out.head
      have c0 := (hhd.cell (j * 4)).trans (HN.out.rest j (Nat.le_refl _) hlt)
      have f0 := hhd.frozen (j * 4)
      have hpl := hhd.lt
      clear hhd
      generalize hm : bnd b = m at *
      go_wp2_with fail
      go_region
      all_goals go_wp2_with fail
      all_goals
        go_roundg (gk - 1)
        case measure => omega
        case rel =>
          subst hm
          have hA : Blk (((wr.setCell ⟨w.heap.size + 1, j * 4, none⟩ (.slice (some ⟨wr.heap.size, 0, none⟩) (bnd b) (bnd b))).alloc (.cells (Array.replicate (bnd b) (.int .i64 0)) 3)).drew) wr.heap.size (List.replicate (bnd b) (.int .i64 0)) 3 := by
            have := Blk.new (wr.setCell ⟨w.heap.size + 1, j * 4, none⟩ (.slice (some ⟨wr.heap.size, 0, none⟩) (bnd b) (bnd b))) (List.replicate (bnd b) (.int .i64 0)) 3
            simp at this
            exact this
          exact ⟨j + 1, _, _, by omega, by go_num, HN.out.step hlt b hB.out wr.heap.size (Nat.le_refl _) hA ((HN.out.head.set _ _).alloc _).drew ((((Keeps.refl (fun x => x = w.heap.size + 1) wr).setCell (p := ⟨w.heap.size + 1, j * 4, none⟩) (fun _ => rfl) _).alloc _).drew)⟩
    · obtain rfl : j = 8 := by omega
      have hl8 : bl.length = 8 := by rw [← HBL.out]; rfl
      go_wp2_with fail
      go_ret
      exact ⟨_, _, rfl, HN.out.fin hl8, fun x hx => by have := HN.out.own; omega, HN.out.keeps⟩

/-! Flush. -/
def emptied (r : RSt) : RSt := { r with q := [] }
def flushTo (rs : List RSt) (j : Nat) : List RSt := (rs.take j).map emptied ++ rs.drop j
def allTo (rs : List RSt) (j : Nat) : List Int := ((rs.take j).map (·.q)).flatten

theorem flushTo_get {rs : List RSt} {j : Nat} {r : RSt} (h : rs[j]? = some r) : (flushTo rs j)[j]? = some r := by
  have hl := (List.getElem?_eq_some_iff.1 h).1
  unfold flushTo
  rw [List.getElem?_append_right (by simp; omega)]
  simp [Nat.min_eq_left (Nat.le_of_lt hl), h]

theorem flushTo_succ {rs : List RSt} {j : Nat} {r : RSt} (h : rs[j]? = some r) : (flushTo rs j).set j (emptied r) = flushTo rs (j + 1) := by
  obtain ⟨hl, he⟩ := List.getElem?_eq_some_iff.1 h
  apply List.ext_getElem?
  intro i
  unfold flushTo
  by_cases e : j = i
  · subst e
    rw [List.getElem?_set_self (by simp; omega), List.getElem?_append_left (by simp; omega)]
    simp [hl, he, List.getElem?_take]
  · rw [List.getElem?_set_ne e]
    by_cases hi : i < j
    · rw [List.getElem?_append_left (by simp; omega), List.getElem?_append_left (by simp; omega)]
      simp [List.getElem?_take, hi, show i < j + 1 by omega]
    · rw [List.getElem?_append_right (by simp; omega), List.getElem?_append_right (by simp; omega)]
      simp only [List.length_map, List.length_take, List.getElem?_drop]
      congr 1
      omega

theorem allTo_succ {rs : List RSt} {j : Nat} {r : RSt} (h : rs[j]? = some r) : allTo rs (j + 1) = allTo rs j ++ r.q := by
  obtain ⟨hl, he⟩ := List.getElem?_eq_some_iff.1 h
  unfold allTo
  rw [List.take_succ_eq_append_getElem hl, List.map_append, List.flatten_append]
  simp [he]

theorem allTo_length (rs : List RSt) (j : Nat) : (allTo rs j).length = totalOf (rs.take j) := by
  unfold allTo totalOf
  rw [List.length_flatten, List.map_map]
  rfl

theorem icells_append (a b : List Int) : icells (a ++ b) = icells a ++ icells b := by simp [icells]
theorem icells_one (l : List Int) : ∀ u ∈ icells l, u.oneCell' = true := by
  intro u hu
  obtain ⟨x, _, rfl⟩ := List.mem_map.1 hu
  rfl

/-- A row is emptied: its first, and how many. -/
theorem RingIn.empty {w : World} {p : Nat} {F : Nat → Prop} {rs : List RSt} {cs : List Value} {gs fs : Nat → Nat} {ts : Nat → List Value} (h : RingIn w p F rs cs gs fs ts) (c : Nat) (r : RSt) (hr : rs[c]? = some r) :
    RingIn ((w.setCell ⟨p, c * 4 + 1, none⟩ (.int .i64 0)).setCell ⟨p, c * 4 + 2, none⟩ (.int .i64 0)) p F (rs.set c (emptied r)) ((cs.set (c * 4 + 1) (.int .i64 0)).set (c * 4 + 2) (.int .i64 0)) gs (fun i => if i = c then 0 else fs i) ts := by
  have hc : c < 8 := by have := (List.getElem?_eq_some_iff.1 hr).1; have := h.eight; omega
  have R := h.rows c r hr
  have hs := h.size
  refine ⟨h.fp, h.fg, by simpa [World.setCell] using h.lt, h.inj, (h.head.set _ _).set _ _, by simpa using h.size, by simpa using h.eight, ?_, fun i hi => ((h.blks i hi).set_ne _ _ (Ne.symm (h.ne hi))).set_ne _ _ (Ne.symm (h.ne hi))⟩
  intro i r2 hi
  by_cases e : c = i
  · subst e
    rw [List.getElem?_set_self (by rw [h.eight]; exact hc)] at hi
    simp at hi
    subst hi
    simp only [if_true]
    exact ⟨by rw [List.getElem?_set_ne (by omega), List.getElem?_set_ne (by omega)]; exact R.c0, by rw [List.getElem?_set_ne (by omega), List.getElem?_set_self (by omega)]; rfl, by rw [List.getElem?_set_self (by simp; omega)]; rfl,
      by rw [List.getElem?_set_ne (by omega), List.getElem?_set_ne (by omega)]; exact R.c3, R.len, R.cap, by simp [emptied], (Nat.eq_zero_or_pos r.n).elim (fun h => .inr ⟨h, rfl⟩) .inl, R.ints, fun j x hj => by simp [emptied] at hj⟩
  · rw [List.getElem?_set_ne e] at hi
    simp only [if_neg (Ne.symm e)]
    exact ((h.rows i r2 hi).other c 1 (by omega) (Ne.symm e) _).other c 2 (by omega) (Ne.symm e) _

structure FlushAt (w : World) (p : Nat) (F : Nat → Prop) (rs : List RSt) (j : Nat) (v : Value) (wr : World) : Prop where
  ring : RingAt wr p F (flushTo rs j)
  out : OwnS wr (fun k => w.heap.size ≤ k) 3 1 v (allTo rs j).length (icells (allTo rs j))
  form : ∃ A n c, v = .slice A n c
  keeps : Keeps F w wr

def FlushInv (w : World) (p : Nat) (F : Nat → Prop) (rs : List RSt) (k : Nat) (v i : Value) (wr : World) : Prop := ∃ j : Nat, j + k = 8 ∧ i = .int .i64 (j : Nat) ∧ FlushAt w p F rs j v wr

def Flushed (w : World) (p : Nat) (F : Nat → Prop) (rs : List RSt) (e : Ending) (w' : World) : Prop :=
  ∃ v, e = .returned v ∧ OwnF w' (fun k => w.heap.size ≤ k) 3 v (icells (allTo rs 8)) ∧ RingAt w' p F (rs.map emptied) ∧ Keeps F w w'

set_option maxRecDepth 100000 in
set_option maxHeartbeats 2000000 in
theorem flush_any {w : World} {p : Nat} {F : Nat → Prop} {rs : List RSt} (h : RingAt w p F rs) :
    Calls Try.prog 39 #[.pointer (some ⟨p, 0, none⟩)] w (Flushed w p F rs) := by
  obtain ⟨i0, hi0, hz0, hz1, hz2⟩ := info_parts Try.info3
  have h8 : Hid (rs.length = 8) := by obtain ⟨_, _, _, _, h⟩ := h; exact h.eight
  have htot := h.total_le
  have HR := Lib.hid h
  have hFl := h.lt
  clear h
  go_enter Try.func39, Try.ntmps39
  go_wp2_with fail
  go_loopg [3, 5] 8 (fun k v i wr => FlushInv w p F rs k v i wr)
  case atStart => exact ⟨0, by omega, rfl, by simpa [flushTo] using HR.out, OwnS.nil _ _ _ _, ⟨_, _, _, rfl⟩, Keeps.refl _ _⟩
  case round =>
    obtain ⟨j, hj, rfl, hF⟩ := hrel
    have HF := Lib.hid hF
    obtain ⟨A0, n0, c0, hv⟩ := hF.form
    subst hv
    clear hF
    by_cases hlt : j < 8
    · obtain ⟨r, hr⟩ : ∃ r, rs[j]? = some r := ⟨_, List.getElem?_eq_getElem (by rw [h8.out]; exact hlt)⟩
      have hrf := Lib.hid (flushTo_get hr)
      have hrs := Lib.hid (flushTo_succ hr)
      have has := Lib.hid (allTo_succ hr)
      have hlen := allTo_length rs (j + 1)
      have htk := totalOf_take_le rs (j + 1)
      rw [has.out, List.length_append] at hlen
      have C := list_in HF.out.ring j r hrf.out
      clear hr
      have hbound : (allTo rs j).length + r.q.length ≤ 8192 := by omega
      have hF8 : (allTo rs j).length ≤ 8192 := by omega
      clear hlen htk
      by_cases hq : 0 < r.q.length
      · have hnb : Hid ((icells r.q).length = r.q.length * 1) := by show _ = _; simp
        have h1c := Lib.hid (icells_one r.q)
        go_wp2_with (first
          | (go_at_call 60; refine C.mono ?_; rintro e w2 ⟨g, cap, rfl, ho, hk2⟩; have hO2 := HF.out.out.keeps hk2 (fun _ _ h => h); have hnews := Lib.hid (ho.1.cells (g := g) rfl); clear C)
          | (at_builtin; refine wpList_app rfl (.tmp 8) (.tmp 11) 22 rfl 3 i0 (.int .i64 0) 1 8 Try.underlying22 hi0 hz0 hz1 hz2 rfl (by decide) (fun k => w.heap.size ≤ k) (.slice A0 n0 c0) _ _ rfl hO2 ⟨g, 0, none⟩ r.q.length cap (icells r.q) rfl hnb.out hnews.out h1c.out hq ?h63 ?hby ?_))
        case h63 => omega
        case hby => omega
        intro g2 cap2 w3 ho3 hk3
        have hR3 : RingAt w3 p F (flushTo rs j) := (HF.out.ring.same hk2).keeps hk3 (fun k hk h => by have := hO2.2 k h; have := hFl k hk; omega)
        obtain ⟨cs, gs, fs, ts, hI⟩ := hR3
        have R := hI.rows j r hrf.out
        have a1 := (hI.head.cell _).trans R.c1
        have a2 := (hI.head.cell _).trans R.c2
        have f1 := hI.head.frozen (j * 4 + 1)
        have f2 := hI.head.frozen (j * 4 + 2)
        have HI := Lib.hid hI
        have HO3 := Lib.hid ho3
        clear hI R ho3 ho hO2
        go_wp2_with fail
        go_region
        all_goals go_wp2_with fail
        all_goals go_roundg (gk - 1)
        all_goals
          first
          | omega
          | (have hpw : p < w.heap.size := hFl p HI.out.fp
             have K : Keeps (fun x => x = p) w3 (((w3.setCell ⟨p, j * 4 + 1, none⟩ (.int .i64 0)).setCell ⟨p, j * 4 + 2, none⟩ (.int .i64 0)).drew) := ((((Keeps.refl (fun x => x = p) w3).setCell (p := ⟨p, j * 4 + 1, none⟩) (fun _ => rfl) _).setCell (p := ⟨p, j * 4 + 2, none⟩) (fun _ => rfl) _).drew)
             refine ⟨j + 1, by omega, by go_num, ⟨?_, ?_, ⟨_, _, _, rfl⟩, ?_⟩⟩
             · rw [← hrs.out]
               exact ⟨_, gs, _, ts, (HI.out.empty j r hrf.out).drewN 1⟩
             · rw [has.out, icells_append, List.length_append]
               have hle := HF.out.keeps.size
               have hle2 := hk2.size
               exact (HO3.out.keeps K (fun k hk h => by omega)).mono (fun k hk => by omega)
             · exact ((HF.out.keeps.trans hk2 (fun _ h _ => h.elim)).trans hk3 (fun x hx hl => absurd (HF.out.out.2 x hx) (by omega))).trans K (fun x hx _ => hx ▸ HI.out.fp))
      · have hqe : r.q.length = 0 := by omega
        have hqn : Hid (r.q = []) := List.eq_nil_of_length_eq_zero hqe
        rw [hqn.out] at C
        clear hqe
        go_wp2_with (first
          | (go_at_call 60; refine C.mono ?_; rintro e w2 ⟨g, cap, rfl, ho, hk2⟩; have hO2 := HF.out.out.keeps hk2 (fun _ _ h => h); clear C)
          | (at_builtin; refine wpList_app0 rfl (.tmp 8) (.tmp 11) 22 rfl 3 i0 1 Try.underlying22 hi0 (.slice A0 n0 c0) _ _ rfl hO2.1 (some ⟨g, 0, none⟩) cap rfl ?_))
        have hR3 : RingAt w2 p F (flushTo rs j) := (HF.out.ring.same hk2)
        obtain ⟨cs, gs, fs, ts, hI⟩ := hR3
        have R := hI.rows j r hrf.out
        have a1 := (hI.head.cell _).trans R.c1
        have a2 := (hI.head.cell _).trans R.c2
        have f1 := hI.head.frozen (j * 4 + 1)
        have f2 := hI.head.frozen (j * 4 + 2)
        have HI := Lib.hid hI
        have HO3 := Lib.hid hO2
        clear hI R ho hO2
        go_wp2_with fail
        go_region
        all_goals go_wp2_with fail
        all_goals go_roundg (gk - 1)
        all_goals
          first
          | omega
          | (have hpw : p < w.heap.size := hFl p HI.out.fp
             have K : Keeps (fun x => x = p) w2 (((w2.setCell ⟨p, j * 4 + 1, none⟩ (.int .i64 0)).setCell ⟨p, j * 4 + 2, none⟩ (.int .i64 0)).drew) := ((((Keeps.refl (fun x => x = p) w2).setCell (p := ⟨p, j * 4 + 1, none⟩) (fun _ => rfl) _).setCell (p := ⟨p, j * 4 + 2, none⟩) (fun _ => rfl) _).drew)
             refine ⟨j + 1, by omega, by go_num, ⟨?_, ?_, ⟨_, _, _, rfl⟩, ?_⟩⟩
             · rw [← hrs.out]
               exact ⟨_, gs, _, ts, (HI.out.empty j r hrf.out).drewN 1⟩
             · rw [has.out, hqn.out, List.append_nil]
               exact (HO3.out.keeps K (fun k hk h => by omega))
             · exact (HF.out.keeps.trans hk2 (fun _ h _ => h.elim)).trans K (fun x hx _ => hx ▸ HI.out.fp))
    · obtain rfl : j = 8 := by omega
      go_wp2_with fail
      go_ret
      refine ⟨_, rfl, HF.out.out.toF, ?_, HF.out.keeps⟩
      have := HF.out.ring
      have e : flushTo rs 8 = rs.map emptied := by
        unfold flushTo
        rw [List.take_of_length_le (by rw [h8.out]; omega), List.drop_eq_nil_of_le (by rw [h8.out]; omega), List.append_nil]
      rwa [e] at this
end

end Go.Proofs.Ytimgmobmagpmlaa
