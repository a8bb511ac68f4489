/- Pieces behind each other: Join. -/
import Derived.Test.YtmmeloklnkfjjaaPut
namespace Go.Proofs.Ytmmeloklnkfjjaa
open Go.RowKit

structure Pc where
  A : Option Addr
  c : Nat
  bs : Bytes

def joinB (ps : List Pc) : Bytes := (ps.map (·.bs)).flatten

theorem joinB_snoc (l : List Pc) (p : Pc) : joinB (l ++ [p]) = joinB l ++ p.bs := by simp [joinB]

theorem joinB_take (l : List Pc) (j : Nat) : (joinB (l.take j)).length ≤ (joinB l).length := by
  have : joinB l = joinB (l.take j) ++ joinB (l.drop j) := by
    unfold joinB
    rw [← List.flatten_append, ← List.map_append, List.take_append_drop]
  rw [this, List.length_append]
  omega

def JoinRes (w : World) (out : Bytes) (e : Ending) (w' : World) : Prop :=
  ∃ v, e = .returned v ∧ OwnF w' (fun k => w.heap.size ≤ k) 5 v (bcells out) ∧ Keeps Nothing w w'

def JoinInv (w : World) (ps : List Pc) (k : Nat) (v i : Value) (wr : World) : Prop :=
  ∃ j : Nat, j + k = ps.length ∧ i = .int .i64 (j : Nat) ∧ OwnF wr (fun k => w.heap.size ≤ k) 5 v (bcells (joinB (ps.take j))) ∧ Keeps Nothing w wr

set_option maxRecDepth 100000 in
set_option maxHeartbeats 4000000 in
theorem join_ok {w : World} {g : Nat} {ps : List Pc} (hc : ∀ (j : Nat) (p : Pc), ps[j]? = some p → w.cell? ⟨g, j, none⟩ = some (.slice p.A p.bs.length p.c) ∧ SlR w (.slice p.A p.bs.length p.c) (bcells p.bs)) (hl : ps.length ≤ 1000) (hb : (joinB ps).length ≤ 1000000000) :
    Calls Try.prog 21 #[.slice (some ⟨g, 0, none⟩) ps.length ps.length] w (JoinRes w (joinB ps)) := by
  obtain ⟨i0, hi0, hz0, hz1, hz2⟩ := info_parts info5
  have HC := Lib.hid hc
  clear hc
  go_enter Try.func21, Try.ntmps21
  go_wp2_with fail
  go_loopg [3, 8] ps.length (fun k v i wr => JoinInv w ps k v i wr)
  case atStart => exact ⟨0, by omega, rfl, OwnF.nil _ _ _, Keeps.refl _ _⟩
  case round =>
    obtain ⟨j, hj, rfl, ho, hk⟩ := hrel
    have HO := Lib.hid ho
    have HK := Lib.hid hk
    by_cases hlt : j < ps.length
    · obtain ⟨⟨A, c, bs⟩, hp⟩ : ∃ p, ps[j]? = some p := ⟨_, List.getElem?_eq_getElem hlt⟩
      obtain ⟨c0, hs⟩ := HC.out j _ hp
      simp only at c0 hs
      have c1 : wr.cell? ⟨g, j, none⟩ = some (.slice A bs.length c) := (hk.cell (World.block_lt_of_cell? _ _ c0) (fun h => h)).trans c0
      have HS := Lib.hid (hs.same hk)
      have ht := take_snoc' hp
      have hjs : joinB (ps.take (j + 1)) = joinB (ps.take j) ++ bs := by rw [ht, joinB_snoc]
      have hln := joinB_take ps (j + 1)
      rw [hjs, List.length_append] at hln
      have HJ := Lib.hid hjs
      have hw : w.heap.size ≤ wr.heap.size := hk.size
      clear ho hk hp c0 hs ht hjs
      go_wp2_with (refine wpList_appR rfl (.tmp 12) (.tmp 13) 25 rfl 5 i0 (.int .u8 0) 1 Try.underlying25 hi0 hz0 hz1 hz2 rfl (fun k => w.heap.size ≤ k) _ (bcells (joinB (ps.take j))) rfl HO.out (.slice A bs.length c) (bcells bs) rfl HS.out (bcells_one _) ?h63 ?hby ?_)
      case h63 => rw [bcells_length, bcells_length]; omega
      case hby => rw [bcells_length, bcells_length]; omega
      intro v4 w4 ho4 k4
      have HO4 := Lib.hid (ho4.mono (G := fun k => w.heap.size ≤ k) (fun k hk => by omega))
      have HK4 := Lib.hid (HK.out.up k4 (fun x hx => HO.out.2 x hx))
      clear ho4 k4
      go_wp2_with fail
      go_roundg (gk - 1)
      case measure => omega
      case rel => exact ⟨j + 1, by omega, by go_num, by rw [HJ.out, bcells_app]; exact HO4.out, HK4.out⟩
    · obtain rfl : j = ps.length := by omega
      clear ho hk
      go_wp2_with fail
      go_ret
      exact ⟨_, rfl, by rw [List.take_length] at HO; exact HO.out, HK.out⟩

end Go.Proofs.Ytmmeloklnkfjjaa
