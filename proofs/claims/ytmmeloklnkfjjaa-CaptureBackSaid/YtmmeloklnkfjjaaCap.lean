/- Frames that can be read; are they few and small; those within a window. -/
import Derived.Test.YtmmeloklnkfjjaaBase
import Derived.Deep.DeepCutAuto
import Derived.Deep.CutBlock
namespace Go.Proofs.Ytmmeloklnkfjjaa
open Go.RowKit

structure Fr where
  port : Int
  cls : Int
  frm : Int
  till : Int
  A : Option Addr
  cap : Nat
  bs : Bytes

def Fr.cells (f : Fr) : List Value := [.int .i64 f.port, .int .i64 f.cls, .int .i64 f.frm, .int .i64 f.till, .slice f.A f.bs.length f.cap]

/-- The frame's bytes can be read. -/
def Fr.Rd (w : World) (f : Fr) : Prop := SlR w (.slice f.A f.bs.length f.cap) (bcells f.bs)

/-- Frames that can be read. -/
def FrsR (w : World) (A : Option Addr) (c : Nat) (l : List Fr) : Prop :=
  (l = [] ∨ ∃ b o, A = some ⟨b, o, none⟩ ∧ l.length ≤ c ∧ ∀ (j : Nat) (f : Fr), l[j]? = some f → ∀ i u, f.cells[i]? = some u → w.cell? ⟨b, o + j * 5 + i, none⟩ = some u) ∧ ∀ f ∈ l, f.Rd w

theorem FrsR.same {w w' : World} {A : Option Addr} {c : Nat} {l : List Fr} (h : FrsR w A c l) (hk : Keeps Nothing w w') : FrsR w' A c l := by
  obtain ⟨h1, h2⟩ := h
  refine ⟨?_, fun f hf => (h2 f hf).same hk⟩
  rcases h1 with h | ⟨b, o, h1, h2, h3⟩
  · exact .inl h
  · exact .inr ⟨b, o, h1, h2, fun j f hj i u hi => (hk.cell (World.block_lt_of_cell? _ _ (h3 j f hj i u hi)) (fun h => h)).trans (h3 j f hj i u hi)⟩

theorem FrsR.get {w : World} {A : Option Addr} {c : Nat} {l : List Fr} (h : FrsR w A c l) {j : Nat} (hj : j < l.length) :
    ∃ port cls frm till B cap bs b o, l[j]? = some ⟨port, cls, frm, till, B, cap, bs⟩ ∧ A = some ⟨b, o, none⟩ ∧ w.cell? ⟨b, o + j * 5, none⟩ = some (.int .i64 port) ∧ w.cell? ⟨b, o + j * 5 + 1, none⟩ = some (.int .i64 cls) ∧
      w.cell? ⟨b, o + j * 5 + 2, none⟩ = some (.int .i64 frm) ∧ w.cell? ⟨b, o + j * 5 + 3, none⟩ = some (.int .i64 till) ∧ w.cell? ⟨b, o + j * 5 + 4, none⟩ = some (.slice B bs.length cap) ∧ SlR w (.slice B bs.length cap) (bcells bs) := by
  obtain ⟨⟨port, cls, frm, till, B, cap, bs⟩, hf⟩ : ∃ f, l[j]? = some f := ⟨_, List.getElem?_eq_getElem hj⟩
  have hm := h.2 _ (List.mem_of_getElem? hf)
  rcases h.1 with h1 | ⟨b, o, h1, h2, h3⟩
  · rw [h1] at hj; simp at hj
  · exact ⟨port, cls, frm, till, B, cap, bs, b, o, hf, h1, h3 j _ hf 0 _ rfl, h3 j _ hf 1 _ rfl, h3 j _ hf 2 _ rfl, h3 j _ hf 3 _ rfl, h3 j _ hf 4 _ rfl, hm⟩

def Small (l : List Fr) : Prop := (∀ f ∈ l, f.bs.length ≤ 1600) ∧ l.length ≤ 100

def SmInv (w : World) (l : List Fr) (k : Nat) (i : Value) (wr : World) : Prop :=
  ∃ j : Nat, j + k = l.length ∧ i = .int .i64 (j : Nat) ∧ (∀ (m : Nat) (f : Fr), m < j → l[m]? = some f → f.bs.length ≤ 1600) ∧ Keeps Nothing w wr

set_option maxRecDepth 100000 in
set_option maxHeartbeats 2000000 in
theorem small_ok {w : World} {A : Option Addr} {c : Nat} {l : List Fr} (hr : FrsR w A c l) (hl : l.length ≤ 9223372036854775807) (v : Bool) (hv : v = true ↔ Small l) :
    Calls Try.prog 10 #[.slice A l.length c] w (fun e w' => e = .returned (.bool v) ∧ Keeps Nothing w w') := by
  have HR := Lib.hid hr
  have HV := Lib.hid hv
  clear hr hv
  go_enter Try.func10, Try.ntmps10
  go_wp2_with fail
  go_loopg [7] l.length (fun k i wr => SmInv w l k i wr)
  case atStart => exact ⟨0, by omega, rfl, fun m f h => by omega, Keeps.refl _ _⟩
  case round =>
    obtain ⟨j, hj, rfl, hno, hk⟩ := hrel
    have HN := Lib.hid hno
    have HK := Lib.hid hk
    by_cases hlt : j < l.length
    · obtain ⟨port, cls, frm, till, B, cap, bs, b, o, hf, rfl, f0, f1, f2, f3, f4, hs⟩ := (HR.out.same hk).get hlt
      have HF := Lib.hid hf
      clear hno hk hf hs
      by_cases hb : (bs.length : Int) ≤ 1600
      · go_wp2_with fail
        go_roundg (gk - 1)
        case measure => omega
        case rel =>
          refine ⟨j + 1, by omega, by go_num, fun m f hm he => ?_, HK.out.alloc _⟩
          by_cases e1 : m = j
          · subst e1
            rw [HF.out] at he
            injection he with he
            subst he
            simp only
            omega
          · exact HN.out m f (by omega) he
      · have hb' : (1600 : Int) < (bs.length : Int) := by omega
        obtain rfl : v = false := by
          cases hvv : v
          · rfl
          · have := (HV.out.1 hvv).1 _ (List.mem_of_getElem? HF.out)
            simp only at this
            omega
        clear HV HN
        go_wp2_with fail
        go_ret
        exact ⟨rfl, HK.out.alloc _⟩
    · have he : v = decide (l.length ≤ 100) := by
        have : Small l ↔ l.length ≤ 100 := ⟨fun h => h.2, fun h => ⟨fun f hf => by
          obtain ⟨m, hm⟩ := List.getElem?_of_mem hf
          exact HN.out m f (by have := (List.getElem?_eq_some_iff.1 hm).1; omega) hm, h⟩⟩
        rw [Bool.eq_iff_iff, HV.out, this, decide_eq_true_iff]
      have he2 : v = decide ((l.length : Int) ≤ 100) := by rw [he, Bool.eq_iff_iff, decide_eq_true_iff, decide_eq_true_iff]; omega
      have HE := Lib.hid he2
      clear HV HN hno hk he he2
      go_wp2_with fail
      go_ret
      exact ⟨by rw [HE.out]; first | rfl | simp, HK.out⟩

end Go.Proofs.Ytmmeloklnkfjjaa
