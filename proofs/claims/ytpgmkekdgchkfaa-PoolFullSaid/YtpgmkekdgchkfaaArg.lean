/- What is known of bytes that came in: they read as a list of bytes. -/
import Derived.Test.YtpgmkekdgchkfaaBase
import Derived.ProofKit
import Derived.OpenShut
namespace Go.Proofs.Ytpgmkekdgchkfaa
open Go.RowKit

/-- WHAT THE WALK IS TOLD OF A SLICE OF INTEGERS THAT CAME IN: it is nil; or it leads to a row of 'cap' cells, the numbers 'zs' (the first 'len' are its elements, the rest its spare room), each fitting its kind. -/
def IsRow (k : IntKind) (w : World) (a : Option Addr) (len cap : Nat) (zs : List Int) : Prop :=
  (a = none ∧ len = 0 ∧ cap = 0 ∧ zs = []) ∨
  ∃ x, a = some x ∧ len ≤ cap ∧ cap ≤ maxLen ∧ zs.length = cap ∧ (∀ i, i < zs.length → w.cell? (x.add i) = some (.int k (zs.getD i 0))) ∧ ∀ n ∈ zs, (Lit.int k n).wf = true

theorem IsRow.bytes {w : World} {A : Option Addr} {len cap : Nat} {zs : List Int} (h : IsRow .u8 w A len cap zs) :
    len ≤ 9223372036854775807 ∧ (len = 0 ∨ ∃ (bs : Bytes) (ad : Addr), A = some ad ∧ bs.length = len ∧ len ≤ cap ∧ ∀ j u, (bcells bs)[j]? = some u → w.cell? (ad.add j) = some u) := by
  rcases h with ⟨rfl, rfl, rfl, rfl⟩ | ⟨x, rfl, hl, hm, hz, hc, hw⟩
  · exact ⟨by omega, .inl rfl⟩
  · have hm' := hm
    unfold maxLen at hm'
    refine ⟨by omega, .inr ⟨(zs.take len).map fun n => UInt8.ofNat n.toNat, x, rfl, by simp; omega, hl, fun j u hj => ?_⟩⟩
    have hj' : j < len := by
      have := (List.getElem?_eq_some_iff.1 hj).1
      simp [bcells] at this
      omega
    have hzj : j < zs.length := by omega
    rw [hc j hzj]
    have hwf := hw zs[j] (List.getElem_mem hzj)
    have hr : 0 ≤ zs[j] ∧ zs[j] ≤ 255 := by
      have := bounds_u8 hwf
      exact this
    simp [bcells, List.getElem?_take, hj', hzj] at hj
    rw [← hj]
    simp [List.getD, hzj]
    omega

theorem IsRow.slR {w : World} {A : Option Addr} {len cap : Nat} {zs : List Int} (h : IsRow .u8 w A len cap zs) :
    ∃ bs : Bytes, len = bs.length ∧ len ≤ 9223372036854775807 ∧ SlR w (.slice A len cap) (bcells bs) := by
  obtain ⟨hm, rfl | ⟨bs, ad, rfl, rfl, hc, hr⟩⟩ := h.bytes
  · exact ⟨[], rfl, hm, SlR.empty _ _ _⟩
  · exact ⟨bs, rfl, hm, .inr ⟨ad, cap, by rw [bcells_length], by rw [bcells_length]; exact hc, hr⟩⟩

open Go.ChangeShapes Go.WideShapes Go.ChangeAt in
/-- Bytes that came in. -/
theorem open_bytes {H : Type} {enc : TypeId × Value → H} {P : Program} {base T E : Nat} {v : Value} {d : DataW H} {p : List MemPlace} {W : World}
    (hT : P.underlying T = some (.slice E)) (hE : P.underlying E = some (.int .u8)) (hc1 : P.cellsOf E = 1)
    (o : Value.okWide P W .any base T v) (h : DataW.Trod enc P W 0 (fun _ => true) true T v d p) :
    ∃ A n c, ∃ bs : Bytes, v = .slice A n c ∧ n = bs.length ∧ n ≤ 9223372036854775807 ∧ SlR W v (bcells bs) := by
  obtain ⟨a0, len0, cap0, rfl⟩ := okWide_slice hT o
  obtain ⟨z0, w0⟩ : ∃ zs, IsRow .u8 W a0 len0 cap0 zs := by
    obtain ⟨fuel, hf⟩ := h
    rcases open_ints hT hE hc1 hf with ⟨hcs, _⟩ | ⟨x, l, c, zs, hcs, _, hl, hm, hz, _, hcell, hwz⟩
    · simp [Value.cells] at hcs
      obtain ⟨rfl, rfl, rfl⟩ := hcs
      exact ⟨[], .inl ⟨rfl, rfl, rfl, rfl⟩⟩
    · simp [Value.cells] at hcs
      obtain ⟨rfl, rfl, rfl⟩ := hcs
      exact ⟨zs, .inr ⟨_, rfl, hl, hm, by simpa using hz, hcell, hwz⟩⟩
  obtain ⟨bs, hn, hm, hs⟩ := w0.slR
  exact ⟨_, _, _, bs, rfl, hn, hm, hs⟩

end Go.Proofs.Ytpgmkekdgchkfaa
