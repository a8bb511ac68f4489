/- The rows of a port: what each function comes to, over rows that read as queues. -/
import Derived.Test.YtpgmkekdgchkfaaBase
import Derived.BigRegion
namespace Go.Proofs.Ytpgmkekdgchkfaa
open Go.RowKit

/-- A row: its bound, what waits in it, and how many had no room. -/
structure RSt where
  n : Nat
  q : List Int
  lost : Nat

structure RowOk (cs : List Value) (i g : Nat) (r : RSt) (f : Nat) (ts : List Value) : Prop where
  c0 : cs[i * 4]? = some (.slice (some ⟨g, 0, none⟩) r.n r.n)
  c1 : cs[i * 4 + 1]? = some (.int .i64 (f : Nat))
  c2 : cs[i * 4 + 2]? = some (.int .i64 (r.q.length : Nat))
  c3 : cs[i * 4 + 3]? = some (.int .i64 (r.lost : Nat))
  len : ts.length = r.n
  cap : r.n ≤ 1024
  fits : r.q.length ≤ r.n
  first : f < r.n ∨ r.n = 0 ∧ f = 0
  ints : ∀ j, j < r.n → ∃ x, ts[j]? = some (.int .i64 x)
  has : ∀ j x, r.q[j]? = some x → ts[(f + j) % r.n]? = some (.int .i64 x)

structure RingIn (w : World) (p : Nat) (F : Nat → Prop) (rs : List RSt) (cs : List Value) (gs fs : Nat → Nat) (ts : Nat → List Value) : Prop where
  fp : F p
  fg : ∀ i, i < 8 → F (gs i)
  lt : ∀ k, F k → k < w.heap.size
  inj : ∀ i j, i < 8 → j < 8 → gs i = gs j → i = j
  head : Blk w p cs 100
  size : cs.length = 32
  eight : rs.length = 8
  rows : ∀ i r, rs[i]? = some r → RowOk cs i (gs i) r (fs i) (ts i)
  blks : ∀ i, i < 8 → Blk w (gs i) (ts i) 3

def RingAt (w : World) (p : Nat) (F : Nat → Prop) (rs : List RSt) : Prop := ∃ cs gs fs ts, RingIn w p F rs cs gs fs ts

theorem RingAt.keeps {w w' : World} {p : Nat} {F G : Nat → Prop} {rs : List RSt} (h : RingAt w p F rs) (hk : Keeps G w w') (hn : ∀ k, F k → ¬ G k) : RingAt w' p F rs := by
  obtain ⟨cs, gs, fs, ts, h⟩ := h
  exact ⟨cs, gs, fs, ts, h.fp, h.fg, fun k hk' => Nat.lt_of_lt_of_le (h.lt k hk') hk.size, h.inj, h.head.keeps hk (hn _ h.fp), h.size, h.eight, h.rows, fun i hi => (h.blks i hi).keeps hk (hn _ (h.fg i hi))⟩

theorem RingAt.same {w w' : World} {p : Nat} {F : Nat → Prop} {rs : List RSt} (h : RingAt w p F rs) (hk : Keeps Nothing w w') : RingAt w' p F rs := h.keeps hk (fun _ _ h => h)

theorem RingAt.lt {w : World} {p : Nat} {F : Nat → Prop} {rs : List RSt} (h : RingAt w p F rs) : ∀ k, F k → k < w.heap.size := by
  obtain ⟨cs, gs, fs, ts, h⟩ := h
  exact h.lt

theorem RingIn.ne {w : World} {p : Nat} {F : Nat → Prop} {rs : List RSt} {cs : List Value} {gs fs : Nat → Nat} {ts : Nat → List Value} (h : RingIn w p F rs cs gs fs ts) {i : Nat} (hi : i < 8) : p ≠ gs i := by
  intro e
  have := (h.blks i hi)
  rw [← e] at this
  exact absurd (h.head.inj this) (by decide)

theorem RingIn.drewN {w : World} {p : Nat} {F : Nat → Prop} {rs : List RSt} {cs : List Value} {gs fs : Nat → Nat} {ts : Nat → List Value} (h : RingIn w p F rs cs gs fs ts) (m : Nat) : RingIn (w.drewN m) p F rs cs gs fs ts :=
  ⟨h.fp, h.fg, h.lt, h.inj, h.head, h.size, h.eight, h.rows, h.blks⟩

theorem class_in (c : Int) (w : World) (h0 : 0 ≤ c) (h1 : c < 8) : Calls Try.prog 51 #[.int .i64 c] w fun e w' => e = .returned (.bool true) ∧ w = w' := by
  have hd : decide (c < 8) = true := by simpa using h1
  go_enter Try.func51, Try.ntmps51
  go_wp2
  go_ret
  exact ⟨rfl, rfl⟩

theorem class_out (c : Int) (w : World) (h : c < 0 ∨ 8 ≤ c) : Calls Try.prog 51 #[.int .i64 c] w fun e w' => e = .returned (.bool false) ∧ w = w' := by
  rcases h with h | h
  · go_enter Try.func51, Try.ntmps51
    go_wp2
    go_ret
    exact ⟨rfl, rfl⟩
  · have h0 : 0 ≤ c := by omega
    have hd : decide (c < 8) = false := by simpa using h
    go_enter Try.func51, Try.ntmps51
    go_wp2
    go_ret
    exact ⟨rfl, rfl⟩

/-! A row's four cells, one turned. -/
theorem RowOk.other {cs : List Value} {i g : Nat} {r : RSt} {f : Nat} {ts : List Value} (h : RowOk cs i g r f ts) (c k : Nat) (hk : k < 4) (hne : i ≠ c) (v : Value) : RowOk (cs.set (c * 4 + k) v) i g r f ts :=
  ⟨by rw [List.getElem?_set_ne (by omega)]; exact h.c0, by rw [List.getElem?_set_ne (by omega)]; exact h.c1, by rw [List.getElem?_set_ne (by omega)]; exact h.c2, by rw [List.getElem?_set_ne (by omega)]; exact h.c3,
    h.len, h.cap, h.fits, h.first, h.ints, h.has⟩

/-- One of a row's words is turned. -/
theorem RingIn.word {w : World} {p : Nat} {F : Nat → Prop} {rs : List RSt} {cs : List Value} {gs fs : Nat → Nat} {ts : Nat → List Value} (h : RingIn w p F rs cs gs fs ts) (c k : Nat) (hk : k < 4) (hc : c < 8) (v : Value) {r' : RSt} {f' : Nat}
    (hr : RowOk (cs.set (c * 4 + k) v) c (gs c) r' f' (ts c)) :
    RingIn (w.setCell ⟨p, c * 4 + k, none⟩ v) p F (rs.set c r') (cs.set (c * 4 + k) v) gs (fun i => if i = c then f' else fs i) ts := by
  refine ⟨h.fp, h.fg, by simpa [World.setCell] using h.lt, h.inj, h.head.set _ _, by simpa using h.size, by simpa using h.eight, ?_, fun i hi => (h.blks i hi).set_ne _ _ (Ne.symm (h.ne hi))⟩
  intro i r hi
  by_cases e : c = i
  · subst e
    rw [List.getElem?_set_self (by rw [h.eight]; exact hc)] at hi
    simp at hi
    subst hi
    simpa using hr
  · rw [List.getElem?_set_ne e] at hi
    simp only [if_neg (Ne.symm e)]
    exact (h.rows i r hi).other c k hk (Ne.symm e) v

/-- A place of a row's things is turned. -/
theorem RingIn.thing {w : World} {p : Nat} {F : Nat → Prop} {rs : List RSt} {cs : List Value} {gs fs : Nat → Nat} {ts : Nat → List Value} (h : RingIn w p F rs cs gs fs ts) (c k : Nat) (hc : c < 8) (v : Value) {r' : RSt}
    (hr : RowOk cs c (gs c) r' (fs c) ((ts c).set k v)) :
    RingIn (w.setCell ⟨gs c, k, none⟩ v) p F (rs.set c r') cs gs fs (fun i => if i = c then (ts c).set k v else ts i) := by
  refine ⟨h.fp, h.fg, by simpa [World.setCell] using h.lt, h.inj, h.head.set_ne _ _ (h.ne hc), h.size, by simpa using h.eight, ?_, ?_⟩
  · intro i r hi
    by_cases e : c = i
    · subst e
      rw [List.getElem?_set_self (by rw [h.eight]; exact hc)] at hi
      simp at hi
      subst hi
      simpa using hr
    · rw [List.getElem?_set_ne e] at hi
      simp only [if_neg (Ne.symm e)]
      exact h.rows i r hi
  · intro i hi
    by_cases e : i = c
    · subst e
      simp only [if_true]
      exact (h.blks i hi).set _ _
    · simp only [if_neg e]
      exact (h.blks i hi).set_ne _ _ (fun he => e (h.inj i c hi hc he))

def Turned (w : World) (p : Nat) (F : Nat → Prop) (v : Value) (rs : List RSt) (e : Ending) (w' : World) : Prop := e = .returned v ∧ RingAt w' p F rs ∧ Keeps F w w'

set_option maxRecDepth 100000 in
theorem put_full {w : World} {p : Nat} {F : Nat → Prop} {rs : List RSt} (h : RingAt w p F rs) (c : Nat) (x : Int) (r : RSt) (hr : rs[c]? = some r) (hf : r.q.length = r.n) (hl : r.lost ≤ 1000000000) :
    Calls Try.prog 52 #[.pointer (some ⟨p, c * 4, none⟩), .int .i64 x] w (Turned w p F (.bool false) (rs.set c { r with lost := r.lost + 1 })) := by
  obtain ⟨cs, gs, fs, ts, h⟩ := h
  have hc : c < 8 := by have := (List.getElem?_eq_some_iff.1 hr).1; have := h.eight; omega
  have R := h.rows c r hr
  have a0 := (h.head.cell _).trans R.c0
  have a2 := (h.head.cell _).trans R.c2
  have a3 := (h.head.cell _).trans R.c3
  have f3 := h.head.frozen (c * 4 + 3)
  have hcap := R.cap
  have hs := h.size
  have E := fun m => (h.drewN m).word c 3 (by omega) hc (.int .i64 ((r.lost + 1 : Nat) : Int)) (r' := { r with lost := r.lost + 1 }) (f' := fs c)
    ⟨by rw [List.getElem?_set_ne (by omega)]; exact R.c0, by rw [List.getElem?_set_ne (by omega)]; exact R.c1, by rw [List.getElem?_set_ne (by omega)]; exact R.c2, List.getElem?_set_self (by omega), R.len, R.cap, R.fits, R.first, R.ints, R.has⟩
  have fp := h.fp
  have lt := h.lt
  rw [hf] at a2
  clear R hf h hs
  go_enter Try.func52, Try.ntmps52
  go_wp2
  go_quiet (fail)
  go_wp2
  go_ret
  exact ⟨rfl, ⟨_, gs, _, ts, E _⟩, (((Keeps.refl F w).drewN _).setCell (fun _ => fp) _)⟩

theorem modw {f j n : Nat} (hf : f < n) (hj : j < n) : (f + j) % n = if f + j < n then f + j else f + j - n := by
  split
  · exact Nat.mod_eq_of_lt ‹_›
  · rw [Nat.mod_eq_sub_mod (by omega), Nat.mod_eq_of_lt (by omega)]

theorem RowOk.put {cs : List Value} {c g : Nat} {r : RSt} {f : Nat} {ts : List Value} (R : RowOk cs c g r f ts) (hroom : r.q.length < r.n) (x : Int) :
    RowOk cs c g r f (ts.set ((f + r.q.length) % r.n) (.int .i64 x)) ∧ (c * 4 + 2 < cs.length → RowOk (cs.set (c * 4 + 2) (.int .i64 ((r.q.length + 1 : Nat) : Int))) c g { r with q := r.q ++ [x] } f (ts.set ((f + r.q.length) % r.n) (.int .i64 x))) := by
  have hf : f < r.n := by rcases R.first with h | h <;> omega
  have hlt := Nat.mod_lt (f + r.q.length) (show 0 < r.n by omega)
  have ints : ∀ j, j < r.n → ∃ y, (ts.set ((f + r.q.length) % r.n) (.int .i64 x))[j]? = some (.int .i64 y) := by
    intro j hj
    by_cases e : (f + r.q.length) % r.n = j
    · rw [e]; exact ⟨x, List.getElem?_set_self (by rw [R.len]; exact hj)⟩
    · rw [List.getElem?_set_ne e]; exact R.ints j hj
  have has : ∀ j y, r.q[j]? = some y → (ts.set ((f + r.q.length) % r.n) (.int .i64 x))[(f + j) % r.n]? = some (.int .i64 y) := by
    intro j y hj
    have hjl := (List.getElem?_eq_some_iff.1 hj).1
    rw [List.getElem?_set_ne]
    · exact R.has j y hj
    · rw [modw hf (by omega), modw hf (by omega)]
      split <;> split <;> omega
  refine ⟨⟨R.c0, R.c1, R.c2, R.c3, by simpa using R.len, R.cap, R.fits, R.first, ints, has⟩, fun hl => ?_⟩
  refine ⟨by rw [List.getElem?_set_ne (by omega)]; exact R.c0, by rw [List.getElem?_set_ne (by omega)]; exact R.c1, by rw [List.getElem?_set_self hl]; simp, by rw [List.getElem?_set_ne (by omega)]; exact R.c3, by simpa using R.len, R.cap, by simp; omega, R.first, ints, ?_⟩
  intro j y hj
  by_cases e : j < r.q.length
  · rw [List.getElem?_append_left e] at hj
    exact has j y hj
  · rw [List.getElem?_append_right (by omega)] at hj
    obtain ⟨h1, h2⟩ := List.getElem?_eq_some_iff.1 hj
    simp at h1
    have : j = r.q.length := by omega
    subst this
    simp at h2
    subst h2
    exact List.getElem?_set_self (by rw [R.len]; exact hlt)

set_option maxRecDepth 100000 in
set_option maxHeartbeats 1000000 in
theorem put_ok {w : World} {p : Nat} {F : Nat → Prop} {rs : List RSt} (h : RingAt w p F rs) (c : Nat) (x : Int) (r : RSt) (hr : rs[c]? = some r) (hf : r.q.length < r.n) :
    Calls Try.prog 52 #[.pointer (some ⟨p, c * 4, none⟩), .int .i64 x] w (Turned w p F (.bool true) (rs.set c { r with q := r.q ++ [x] })) := by
  obtain ⟨cs, gs, fs, ts, h⟩ := h
  have hc : c < 8 := by have := (List.getElem?_eq_some_iff.1 hr).1; have := h.eight; omega
  have R := h.rows c r hr
  have hcap := R.cap
  have hs := h.size
  have hfn : fs c < r.n := by rcases R.first with h | h <;> omega
  have a0 := (h.head.cell _).trans R.c0
  have a1 := (h.head.cell _).trans R.c1
  have a2 := (h.head.cell _).trans R.c2
  have f2 := h.head.frozen (c * 4 + 2)
  obtain ⟨P1, P2⟩ := R.put hf x
  have E1 := fun m => (h.drewN m).thing c ((fs c + r.q.length) % r.n) hc (.int .i64 x) P1
  have E2 := fun m => (E1 m).word c 2 (by omega) hc (.int .i64 ((r.q.length + 1 : Nat) : Int)) (r' := { r with q := r.q ++ [x] }) (f' := fs c) (by simpa using P2 (by omega))
  simp only [List.set_set] at E2
  have hk := Nat.mod_lt (fs c + r.q.length) (show 0 < r.n by omega)
  obtain ⟨y, hy⟩ := R.ints _ hk
  have ck := ((h.blks c hc).cell _).trans hy
  have fk := (h.blks c hc).frozen ((fs c + r.q.length) % r.n)
  have hne := h.ne hc
  have hne2 : gs c ≠ p := Ne.symm hne
  have hS : IntKind.i64.wrap ((fs c : Int) + (r.q.length : Int)) = (fs c : Int) + (r.q.length : Int) := IntWalk.i64_in _ (by omega)
  have hT : ((fs c : Int) + (r.q.length : Int)).tmod (r.n : Int) = (((fs c + r.q.length) % r.n : Nat) : Int) := by
    rw [Int.tmod_eq_emod_of_nonneg (by omega)]; simp
  have hT2 : ((fs c : Int) + (r.q.length : Int)) % (r.n : Int) = (((fs c + r.q.length) % r.n : Nat) : Int) := by simp
  have hne3 : ((r.q.length : Int) == (r.n : Int)) = false := by simp; omega
  have fp := h.fp
  have fg := h.fg c hc
  have E := Lib.hid E2
  clear E1 E2 P1 P2 R h hs hy hr
  generalize (fs c + r.q.length) % r.n = k at *
  go_enter Try.func52, Try.ntmps52
  go_wp2
  go_quiet (fail)
  go_wp2
  go_region
  all_goals go_wp2
  all_goals go_ret
  all_goals exact ⟨rfl, ⟨_, gs, _, _, E.out _⟩, ((((Keeps.refl F w).drewN _).setCell (fun _ => fg) _).setCell (fun _ => fp) _)⟩

theorem drop_has {r : RSt} {f : Nat} {ts : List Value} (hf : f < r.n) (hq1 : r.q.length ≤ r.n) {x : Int} {q : List Int} (hq : r.q = x :: q) (has : ∀ j y, r.q[j]? = some y → ts[(f + j) % r.n]? = some (.int .i64 y)) :
    ∀ j y, q[j]? = some y → ts[((f + 1) % r.n + j) % r.n]? = some (.int .i64 y) := by
  intro j y hj
  have h := has (j + 1) y (by rw [hq]; simpa using hj)
  rw [← h]
  congr 1
  rw [Nat.mod_add_mod]
  congr 1
  omega

def Dropped (w : World) (p : Nat) (F : Nat → Prop) (rs : List RSt) (e : Ending) (w' : World) : Prop := e = .returned (.tuple #[]) ∧ RingAt w' p F rs ∧ Keeps F w w'

set_option maxRecDepth 100000 in
theorem drop_row {w : World} {p : Nat} {F : Nat → Prop} {rs : List RSt} (h : RingAt w p F rs) (c : Nat) (x : Int) (q : List Int) (r : RSt) (hr : rs[c]? = some r) (hq : r.q = x :: q) :
    Calls Try.prog 53 #[.pointer (some ⟨p, c * 4, none⟩)] w (Dropped w p F (rs.set c { r with q := q })) := by
  obtain ⟨cs, gs, fs, ts, h⟩ := h
  have hc : c < 8 := by have := (List.getElem?_eq_some_iff.1 hr).1; have := h.eight; omega
  have R := h.rows c r hr
  have hcap := R.cap
  have hs := h.size
  have hlq : r.q.length = q.length + 1 := by rw [hq]; rfl
  have hfits := R.fits
  have hfn : fs c < r.n := by rcases R.first with h | h <;> omega
  have a0 := (h.head.cell _).trans R.c0
  have a1 := (h.head.cell _).trans R.c1
  have a2 := (h.head.cell _).trans R.c2
  have f1 := h.head.frozen (c * 4 + 1)
  have f2 := h.head.frozen (c * 4 + 2)
  have hk := Nat.mod_lt (fs c + 1) (show 0 < r.n by omega)
  have has := drop_has hfn hfits hq R.has
  -- both words at once
  have E : ∀ m, RingIn (((w.drewN m).setCell ⟨p, c * 4 + 1, none⟩ (.int .i64 (((fs c + 1) % r.n : Nat) : Int))).setCell ⟨p, c * 4 + 2, none⟩ (.int .i64 (q.length : Nat))) p F (rs.set c { r with q := q })
      ((cs.set (c * 4 + 1) (.int .i64 (((fs c + 1) % r.n : Nat) : Int))).set (c * 4 + 2) (.int .i64 (q.length : Nat))) gs (fun i => if i = c then (fs c + 1) % r.n else fs i) ts := by
    intro m
    refine ⟨h.fp, h.fg, by simpa [World.setCell] using h.lt, h.inj, ((h.drewN m).head.set _ _).set _ _, by simpa using h.size, by simpa using h.eight, ?_, fun i hi => (((h.drewN m).blks i hi).set_ne _ _ (Ne.symm (h.ne hi))).set_ne _ _ (Ne.symm (h.ne hi))⟩
    intro i r2 hi
    by_cases e : c = i
    · subst e
      rw [List.getElem?_set_self (by rw [h.eight]; exact hc)] at hi
      simp at hi
      subst hi
      simp only [if_true]
      exact ⟨by rw [List.getElem?_set_ne (by omega), List.getElem?_set_ne (by omega)]; exact R.c0, by rw [List.getElem?_set_ne (by omega), List.getElem?_set_self (by omega)], by rw [List.getElem?_set_self (by simp; omega)],
        by rw [List.getElem?_set_ne (by omega), List.getElem?_set_ne (by omega)]; exact R.c3, R.len, R.cap, by simp; omega, .inl hk, R.ints, has⟩
    · rw [List.getElem?_set_ne e] at hi
      simp only [if_neg (Ne.symm e)]
      exact ((h.rows i r2 hi).other c 1 (by omega) (Ne.symm e) _).other c 2 (by omega) (Ne.symm e) _
  have hS : IntKind.i64.wrap ((fs c : Int) + 1) = (fs c : Int) + 1 := IntWalk.i64_in _ (by omega)
  have hT : ((fs c : Int) + 1).tmod (r.n : Int) = (((fs c + 1) % r.n : Nat) : Int) := by
    rw [Int.tmod_eq_emod_of_nonneg (by omega)]; simp
  have hT2 : ((fs c : Int) + 1) % (r.n : Int) = (((fs c + 1) % r.n : Nat) : Int) := by simp
  have hql : q.length ≤ 1024 := by omega
  rw [hlq] at a2
  have fp := h.fp
  have E := Lib.hid E
  clear R h hs hr has hfits hlq
  generalize (fs c + 1) % r.n = k at *
  go_enter Try.func53, Try.ntmps53
  go_wp2
  go_region
  all_goals go_wp2
  all_goals go_end0
  all_goals exact ⟨rfl, ⟨_, gs, _, _, E.out _⟩, ((((Keeps.refl F w).drewN _).setCell (fun _ => fp) _).setCell (fun _ => fp) _)⟩

def icells (l : List Int) : List Value := l.map fun x => .int .i64 x
@[simp] theorem icells_length (l : List Int) : (icells l).length = l.length := by simp [icells]

theorem Try.info3 : (Try.prog.info? 3).map (fun i => (i.zero, i.size, i.bytes)) = some (some (.int .i64 0), 1, 8) := by kernel_rfl

def ListInv (g m : Nat) (q : List Int) (w : World) (k : Nat) (i : Value) (wr : World) : Prop :=
  ∃ (j : Nat) (cur : List Value), j + k = m ∧ i = .int .i64 (j : Nat) ∧ Blk wr g cur 3 ∧ cur.length = m ∧ (∀ l, l < m → ∃ x, cur[l]? = some (.int .i64 x)) ∧ (∀ l, l < j → ∀ x, q[l]? = some x → cur[l]? = some (.int .i64 x)) ∧ Keeps (fun x => x = g) w wr

def Listed (w : World) (q : List Int) (e : Ending) (w' : World) : Prop := ∃ g cap, e = .returned (.slice (some ⟨g, 0, none⟩) q.length cap) ∧ OwnF w' (fun k => w.heap.size ≤ k) 3 (.slice (some ⟨g, 0, none⟩) q.length cap) (icells q) ∧ Keeps Nothing w w'

set_option maxRecDepth 100000 in
set_option maxHeartbeats 1000000 in
theorem list_row {w : World} {p : Nat} {F : Nat → Prop} {rs : List RSt} (h : RingAt w p F rs) (c : Nat) (r : RSt) (hr : rs[c]? = some r) :
    Calls Try.prog 54 #[.pointer (some ⟨p, c * 4, none⟩)] w (Listed w r.q) := by
  obtain ⟨i0, hi0, hz0, hz1, hz2⟩ := info_parts Try.info3
  obtain ⟨cs, gs, fs, ts, h⟩ := h
  have hc : c < 8 := by have := (List.getElem?_eq_some_iff.1 hr).1; have := h.eight; omega
  have R := h.rows c r hr
  have hcap := R.cap
  have hfits := R.fits
  have a2 := (h.head.cell _).trans R.c2
  have HR := Lib.hid R
  have HH := Lib.hid h
  have hpl := h.head.lt
  have hgl := (h.blks c hc).lt
  clear R h hr
  go_enter Try.func54, Try.ntmps54
  go_wp2_with (at_make; refine wpList_mk rfl (.tmp 8) (.tmp 8) 47 rfl 3 i0 (.int .i64 0) [.int .i64 0] Try.underlying47 hi0 hz0 hz1 rfl .i64 .i64 _ _ r.q.length rfl rfl rfl rfl 8 hz2 (by omega) (by omega) ?_)
  intro w1 hb hk hs
  rw [rep_one] at hb
  have HB := Lib.hid hb
  have HK := Lib.hid hk
  clear hb hk
  go_wp2_with fail
  go_loopg [12] r.q.length (fun k i wr => ListInv w.heap.size r.q.length r.q w1 k i wr)
  case atStart => exact ⟨0, _, by omega, rfl, HB.out, by simp, fun l hl => ⟨0, by simp [hl]⟩, fun l hl => absurd hl (Nat.not_lt_zero l), Keeps.refl _ _⟩
  case round =>
    obtain ⟨j, cur, hj, rfl, hbl, hlen, hint, hdone, hk2⟩ := hrel
    have HBL := Lib.hid hbl
    have HI := Lib.hid hint
    have HD := Lib.hid hdone
    have HL := Lib.hid hlen
    have H1 : Blk wr p cs 100 := (HH.out.head.keeps HK.out (fun h => h)).keeps hk2 (fun h => by omega)
    have H2 : Blk wr (gs c) (ts c) 3 := ((HH.out.blks c hc).keeps HK.out (fun h => h)).keeps hk2 (fun h => by omega)
    by_cases hlt : j < r.q.length
    · have hfn : fs c < r.n := by rcases HR.out.first with h | h <;> omega
      obtain ⟨x, hx⟩ : ∃ x, r.q[j]? = some x := ⟨_, List.getElem?_eq_getElem hlt⟩
      have HX := Lib.hid hx
      have b0 := (H1.cell _).trans HR.out.c0
      have b1 := (H1.cell _).trans HR.out.c1
      have bk := (H2.cell _).trans (HR.out.has j x hx)
      obtain ⟨y, hy⟩ := hint j hlt
      have bo := (hbl.cell j).trans hy
      have fo := hbl.frozen j
      have hkn := Nat.mod_lt (fs c + j) (show 0 < r.n by omega)
      have hS : IntKind.i64.wrap ((fs c : Int) + (j : Int)) = (fs c : Int) + (j : Int) := IntWalk.i64_in _ (by omega)
      have hT : ((fs c : Int) + (j : Int)).tmod (r.n : Int) = (((fs c + j) % r.n : Nat) : Int) := by
        rw [Int.tmod_eq_emod_of_nonneg (by omega)]; simp
      have hT2 : ((fs c : Int) + (j : Int)) % (r.n : Int) = (((fs c + j) % r.n : Nat) : Int) := by simp
      clear hbl hint hdone hlen hx hy H1 H2
      generalize (fs c + j) % r.n = kk at *
      go_wp2_with fail
      go_region
      all_goals go_wp2_with fail
      all_goals go_roundg (gk - 1)
      all_goals
        first
        | omega
        | (refine ⟨j + 1, _, by omega, by go_num, HBL.out.drew.set j _, by rw [List.length_set]; exact HL.out, fun l hl => ?_, fun l hl z hz => ?_, (hk2.drewN _).setCell (fun _ => rfl) _⟩
           · by_cases e : j = l
             · subst e; exact ⟨x, List.getElem?_set_self (by have := HL.out; omega)⟩
             · rw [List.getElem?_set_ne e]; exact HI.out l hl
           · by_cases e : j = l
             · subst e
               have := HX.out.symm.trans hz
               injection this with this
               subst this
               exact List.getElem?_set_self (by have := HL.out; omega)
             · rw [List.getElem?_set_ne e]; exact HD.out l (by omega) z hz)
    · clear hbl hint hdone hlen H1 H2
      have hfin : Hid (OwnF wr (fun k => w.heap.size ≤ k) 3 (.slice (some ⟨w.heap.size, 0, none⟩) r.q.length r.q.length) (icells r.q)) := by
        have e : cur = icells r.q := by
          apply List.ext_getElem?
          intro l
          by_cases hl : l < r.q.length
          · rw [HD.out l (by omega) _ (List.getElem?_eq_getElem hl)]
            simp [icells, hl]
          · rw [List.getElem?_eq_none (by have := HL.out; omega), List.getElem?_eq_none (by simp; omega)]
        have hb := HBL.out
        rw [e] at hb
        have := OwnF.mk (F := fun k => w.heap.size ≤ k) (xs := icells r.q) (cap := r.q.length) (Nat.le_refl _) hb (by simp) (by unfold maxLen; omega) (by simp) (List.take_length)
        rw [icells_length] at this
        exact this
      go_wp2_with fail
      go_ret
      exact ⟨_, _, rfl, hfin.out, HK.out.up hk2 (fun x hx => by omega)⟩

end Go.Proofs.Ytpgmkekdgchkfaa
