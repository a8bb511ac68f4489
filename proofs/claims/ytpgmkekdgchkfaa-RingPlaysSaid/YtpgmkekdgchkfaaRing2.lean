/- The rows of a port, on: the port's own methods. -/
import Derived.Test.YtpgmkekdgchkfaaRing
namespace Go.Proofs.Ytpgmkekdgchkfaa
open Go.RowKit

/-- Is a number a row's? -/
theorem push_out {w : World} {p : Nat} (c x : Int) (h : c < 0 ∨ 8 ≤ c) :
    Calls Try.prog 25 #[.pointer (some ⟨p, 0, none⟩), .int .i64 c, .int .i64 x] w fun e w' => e = .returned (.int .i64 1) ∧ w = w' := by
  have C := class_out c w h
  go_enter Try.func25, Try.ntmps25
  go_wp2_with (go_at_call 51; refine C.mono ?_; rintro e w' ⟨rfl, rfl⟩)
  go_ret
  exact ⟨rfl, rfl⟩

theorem push_full {w : World} {p : Nat} {F : Nat → Prop} {rs : List RSt} (h : RingAt w p F rs) (c : Nat) (x : Int) (r : RSt) (hr : rs[c]? = some r) (hf : r.q.length = r.n) (hl : r.lost ≤ 1000000000) :
    Calls Try.prog 25 #[.pointer (some ⟨p, 0, none⟩), .int .i64 c, .int .i64 x] w (Turned w p F (.int .i64 20) (rs.set c { r with lost := r.lost + 1 })) := by
  have hc : c < 8 := by obtain ⟨_, _, _, _, h⟩ := h; have := (List.getElem?_eq_some_iff.1 hr).1; have := h.eight; omega
  have C := class_in c w (by omega) (by omega)
  have D := put_full h c x r hr hf hl
  clear hf hr
  go_enter Try.func25, Try.ntmps25
  go_wp2_with (first | (go_at_call 51; refine C.mono ?_; rintro e w' ⟨rfl, rfl⟩) | (go_at_call 52; refine D.mono ?_; rintro e w' ⟨rfl, hR, hk⟩))
  go_ret
  exact ⟨rfl, hR, hk⟩

theorem push_ok {w : World} {p : Nat} {F : Nat → Prop} {rs : List RSt} (h : RingAt w p F rs) (c : Nat) (x : Int) (r : RSt) (hr : rs[c]? = some r) (hf : r.q.length < r.n) :
    Calls Try.prog 25 #[.pointer (some ⟨p, 0, none⟩), .int .i64 c, .int .i64 x] w (Turned w p F (.int .i64 0) (rs.set c { r with q := r.q ++ [x] })) := by
  have hc : c < 8 := by obtain ⟨_, _, _, _, h⟩ := h; have := (List.getElem?_eq_some_iff.1 hr).1; have := h.eight; omega
  have C := class_in c w (by omega) (by omega)
  have D := put_ok h c x r hr hf
  clear hf hr
  go_enter Try.func25, Try.ntmps25
  go_wp2_with (first | (go_at_call 51; refine C.mono ?_; rintro e w' ⟨rfl, rfl⟩) | (go_at_call 52; refine D.mono ?_; rintro e w' ⟨rfl, hR, hk⟩))
  go_ret
  exact ⟨rfl, hR, hk⟩

theorem head_out {w : World} {p : Nat} (c : Int) (h : c < 0 ∨ 8 ≤ c) :
    Calls Try.prog 26 #[.pointer (some ⟨p, 0, none⟩), .int .i64 c] w fun e w' => e = .returned (.tuple #[.int .i64 0, .int .i64 1]) ∧ w = w' := by
  have C := class_out c w h
  go_enter Try.func26, Try.ntmps26
  go_wp2_with (go_at_call 51; refine C.mono ?_; rintro e w' ⟨rfl, rfl⟩)
  go_ret2
  exact ⟨rfl, rfl⟩

theorem head_none {w : World} {p : Nat} {F : Nat → Prop} {rs : List RSt} (h : RingAt w p F rs) (c : Nat) (r : RSt) (hr : rs[c]? = some r) (hq : r.q = []) :
    Calls Try.prog 26 #[.pointer (some ⟨p, 0, none⟩), .int .i64 c] w fun e w' => e = .returned (.tuple #[.int .i64 0, .int .i64 21]) ∧ w = w' := by
  obtain ⟨cs, gs, fs, ts, h⟩ := h
  have hc : c < 8 := by have := (List.getElem?_eq_some_iff.1 hr).1; have := h.eight; omega
  have C := class_in c w (by omega) (by omega)
  have a2 := (h.head.cell _).trans (h.rows c r hr).c2
  rw [hq] at a2
  clear h hr hq
  go_enter Try.func26, Try.ntmps26
  go_wp2_with (go_at_call 51; refine C.mono ?_; rintro e w' ⟨rfl, rfl⟩)
  go_ret2
  exact ⟨rfl, rfl⟩

def Headed (x : Int) (w : World) (e : Ending) (w' : World) : Prop := e = .returned (.tuple #[.int .i64 x, .int .i64 0]) ∧ Keeps Nothing w w'

theorem head_some {w : World} {p : Nat} {F : Nat → Prop} {rs : List RSt} (h : RingAt w p F rs) (c : Nat) (x : Int) (q : List Int) (r : RSt) (hr : rs[c]? = some r) (hq : r.q = x :: q) :
    Calls Try.prog 26 #[.pointer (some ⟨p, 0, none⟩), .int .i64 c] w (Headed x w) := by
  obtain ⟨cs, gs, fs, ts, h⟩ := h
  have hc : c < 8 := by have := (List.getElem?_eq_some_iff.1 hr).1; have := h.eight; omega
  have C := class_in c w (by omega) (by omega)
  have R := h.rows c r hr
  have hcap := R.cap
  have hfits := R.fits
  have hlq : r.q.length = q.length + 1 := by rw [hq]; rfl
  have hfn : fs c < r.n := by rcases R.first with h | h <;> omega
  have a0 := (h.head.cell _).trans R.c0
  have a1 := (h.head.cell _).trans R.c1
  have a2 := (h.head.cell _).trans R.c2
  have ax := ((h.blks c hc).cell _).trans (R.has 0 x (by rw [hq]; rfl))
  rw [Nat.add_zero, Nat.mod_eq_of_lt hfn] at ax
  rw [hlq] at a2
  have hne : (((q.length + 1 : Nat) : Int) == 0) = false := by simp; omega
  have hne' : (((q.length : Nat) : Int) + 1 == 0) = false := by simp; omega
  clear h hr hq R hlq
  go_enter Try.func26, Try.ntmps26
  go_wp2_with (go_at_call 51; refine C.mono ?_; rintro e w' ⟨rfl, rfl⟩)
  go_quiet (fail)
  go_wp2
  go_ret2
  exact ⟨rfl, (Keeps.refl _ _).drewN _⟩

theorem pop_out {w : World} {p : Nat} (c : Int) (h : c < 0 ∨ 8 ≤ c) :
    Calls Try.prog 27 #[.pointer (some ⟨p, 0, none⟩), .int .i64 c] w fun e w' => e = .returned (.tuple #[.int .i64 0, .int .i64 1]) ∧ w = w' := by
  have C := head_out (w := w) (p := p) c h
  go_enter Try.func27, Try.ntmps27
  go_wp2_with (go_at_call 26; refine C.mono ?_; rintro e w' ⟨rfl, rfl⟩)
  go_ret2
  exact ⟨rfl, rfl⟩

theorem pop_none {w : World} {p : Nat} {F : Nat → Prop} {rs : List RSt} (h : RingAt w p F rs) (c : Nat) (r : RSt) (hr : rs[c]? = some r) (hq : r.q = []) :
    Calls Try.prog 27 #[.pointer (some ⟨p, 0, none⟩), .int .i64 c] w fun e w' => e = .returned (.tuple #[.int .i64 0, .int .i64 21]) ∧ w = w' := by
  have C := head_none h c r hr hq
  clear h hr hq
  go_enter Try.func27, Try.ntmps27
  go_wp2_with (go_at_call 26; refine C.mono ?_; rintro e w' ⟨rfl, rfl⟩)
  go_ret2
  exact ⟨rfl, rfl⟩

theorem pop_some {w : World} {p : Nat} {F : Nat → Prop} {rs : List RSt} (h : RingAt w p F rs) (c : Nat) (x : Int) (q : List Int) (r : RSt) (hr : rs[c]? = some r) (hq : r.q = x :: q) :
    Calls Try.prog 27 #[.pointer (some ⟨p, 0, none⟩), .int .i64 c] w (Turned w p F (.tuple #[.int .i64 x, .int .i64 0]) (rs.set c { r with q := q })) := by
  have hc : c < 8 := by obtain ⟨_, _, _, _, h⟩ := h; have := (List.getElem?_eq_some_iff.1 hr).1; have := h.eight; omega
  have C := head_some h c x q r hr hq
  have H := Lib.hid (And.intro hr hq)
  clear hr hq
  go_enter Try.func27, Try.ntmps27
  go_wp2_with (first
    | (go_at_call 26; refine C.mono ?_; rintro e w1 ⟨rfl, hk1⟩; have D := drop_row (h.same hk1) c x q r H.out.1 H.out.2)
    | (go_at_call 53; refine D.mono ?_; rintro e w2 ⟨rfl, hR, hk2⟩))
  go_ret2
  exact ⟨rfl, hR, (hk1.mono (fun _ h _ => h.elim)).trans hk2 (fun _ h _ => h)⟩

theorem len_out {w : World} {p : Nat} (c : Int) (h : c < 0 ∨ 8 ≤ c) :
    Calls Try.prog 30 #[.pointer (some ⟨p, 0, none⟩), .int .i64 c] w fun e w' => e = .returned (.int .i64 0) ∧ w = w' := by
  have C := class_out c w h
  go_enter Try.func30, Try.ntmps30
  go_wp2_with (go_at_call 51; refine C.mono ?_; rintro e w' ⟨rfl, rfl⟩)
  go_ret
  exact ⟨rfl, rfl⟩

theorem lost_out {w : World} {p : Nat} (c : Int) (h : c < 0 ∨ 8 ≤ c) :
    Calls Try.prog 31 #[.pointer (some ⟨p, 0, none⟩), .int .i64 c] w fun e w' => e = .returned (.int .i64 0) ∧ w = w' := by
  have C := class_out c w h
  go_enter Try.func31, Try.ntmps31
  go_wp2_with (go_at_call 51; refine C.mono ?_; rintro e w' ⟨rfl, rfl⟩)
  go_ret
  exact ⟨rfl, rfl⟩

theorem list_out {w : World} {p : Nat} (c : Int) (h : c < 0 ∨ 8 ≤ c) :
    Calls Try.prog 32 #[.pointer (some ⟨p, 0, none⟩), .int .i64 c] w fun e w' => e = .returned (.slice none 0 0) ∧ w = w' := by
  have C := class_out c w h
  go_enter Try.func32, Try.ntmps32
  go_wp2_with (go_at_call 51; refine C.mono ?_; rintro e w' ⟨rfl, rfl⟩)
  go_ret
  exact ⟨rfl, rfl⟩

theorem len_in {w : World} {p : Nat} {F : Nat → Prop} {rs : List RSt} (h : RingAt w p F rs) (c : Nat) (r : RSt) (hr : rs[c]? = some r) :
    Calls Try.prog 30 #[.pointer (some ⟨p, 0, none⟩), .int .i64 c] w fun e w' => e = .returned (.int .i64 (r.q.length : Nat)) ∧ w = w' := by
  obtain ⟨cs, gs, fs, ts, h⟩ := h
  have hc : c < 8 := by have := (List.getElem?_eq_some_iff.1 hr).1; have := h.eight; omega
  have C := class_in c w (by omega) (by omega)
  have a2 := (h.head.cell _).trans (h.rows c r hr).c2
  clear h hr
  go_enter Try.func30, Try.ntmps30
  go_wp2_with (go_at_call 51; refine C.mono ?_; rintro e w' ⟨rfl, rfl⟩)
  go_ret
  exact ⟨rfl, rfl⟩

theorem lost_in {w : World} {p : Nat} {F : Nat → Prop} {rs : List RSt} (h : RingAt w p F rs) (c : Nat) (r : RSt) (hr : rs[c]? = some r) :
    Calls Try.prog 31 #[.pointer (some ⟨p, 0, none⟩), .int .i64 c] w fun e w' => e = .returned (.int .i64 (r.lost : Nat)) ∧ w = w' := by
  obtain ⟨cs, gs, fs, ts, h⟩ := h
  have hc : c < 8 := by have := (List.getElem?_eq_some_iff.1 hr).1; have := h.eight; omega
  have C := class_in c w (by omega) (by omega)
  have a3 := (h.head.cell _).trans (h.rows c r hr).c3
  clear h hr
  go_enter Try.func31, Try.ntmps31
  go_wp2_with (go_at_call 51; refine C.mono ?_; rintro e w' ⟨rfl, rfl⟩)
  go_ret
  exact ⟨rfl, rfl⟩

theorem list_in {w : World} {p : Nat} {F : Nat → Prop} {rs : List RSt} (h : RingAt w p F rs) (c : Nat) (r : RSt) (hr : rs[c]? = some r) :
    Calls Try.prog 32 #[.pointer (some ⟨p, 0, none⟩), .int .i64 c] w (Listed w r.q) := by
  have hc : c < 8 := by obtain ⟨_, _, _, _, h⟩ := h; have := (List.getElem?_eq_some_iff.1 hr).1; have := h.eight; omega
  have C := class_in c w (by omega) (by omega)
  have D := list_row h c r hr
  clear hr
  go_enter Try.func32, Try.ntmps32
  go_wp2_with (first | (go_at_call 51; refine C.mono ?_; rintro e w' ⟨rfl, rfl⟩) | (go_at_call 54; refine D.mono ?_; rintro e w' ⟨g, cap, rfl, ho, hk⟩))
  go_ret
  exact ⟨g, cap, rfl, ho, hk⟩

end Go.Proofs.Ytpgmkekdgchkfaa
