/- What is known of bytes that came in: they read as a list of bytes. -/
import Derived.Test.YtpgmkekdgchkfaaBase
import Derived.ProofKit
import Derived.OpenShut
namespace Go.Proofs.Ytpgmkekdgchkfaa
open Go.RowKit

/-- WHAT THE WALK IS TOLD OF A SLICE OF INTEGERS THAT CAME IN: it is nil; or it leads to a row of 'cap' cells, the numbers 'zs' (the first 'len' are its elements, the rest its spare room), each fitting its kind. -/
def IsRow (k : IntKind) (w : World) (a : Option Addr) (len cap : Nat) (zs : List Int) : Prop :=
  (a = none ∧ len = 0 ∧ cap = 0 ∧ zs = []) ∨
  ∃ x, a = some x ∧ len ≤ cap ∧ cap ≤ maxLen ∧ zs.length = cap ∧ (∀ i, i < zs.length → w.cell? (x.add i) = some (.int k (zs.getD i 0))) ∧ ∀ n ∈ zs, (Lit.int k n).wf = true

theorem IsRow.bytes {w : World} {A : Option Addr} {len cap : Nat} {zs : List Int} (h : IsRow .u8 w A len cap zs) :
    len ≤ 9223372036854775807 ∧ (len = 0 ∨ ∃ (bs : Bytes) (ad : Addr), A = some ad ∧ bs.length = len ∧ len ≤ cap ∧ ∀ j u, (bcells bs)[j]? = some u → w.cell? (ad.add j) = some u) := by
  rcases h with ⟨rfl, rfl, rfl, rfl⟩ | ⟨x, rfl, hl, hm, hz, hc, hw⟩
  · exact ⟨by omega, .inl rfl⟩
  · have hm' := hm
    unfold maxLen at hm'
    refine ⟨by omega, .inr ⟨(zs.take len).map fun n => UInt8.ofNat n.toNat, x, rfl, by simp; omega, hl, fun j u hj => ?_⟩⟩
    have hj' : j < len := by
      have := (List.getElem?_eq_some_iff.1 hj).1
      simp [bcells] at this
      omega
    have hzj : j < zs.length := by omega
    rw [hc j hzj]
    have hwf := hw zs[j] (List.getElem_mem hzj)
    have hr : 0 ≤ zs[j] ∧ zs[j] ≤ 255 := by
      have := bounds_u8 hwf
      exact this
    simp [bcells, List.getElem?_take, hj', hzj] at hj
    rw [← hj]
    simp [List.getD, hzj]
    omega

end Go.Proofs.Ytpgmkekdgchkfaa
