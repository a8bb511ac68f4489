/- The reader: numbers and bytes one behind the other. -/
import Derived.Test.YtmmeloklnkfjjaaGet
namespace Go.Proofs.Ytmmeloklnkfjjaa
open Go.RowKit

/-- Block p is a reader of bytes, at a place, with an error's number. -/
def Rdr (w : World) (p : Nat) (bs : Bytes) (at' err : Nat) : Prop :=
  ∃ g c, Blk w p [.slice (some ⟨g, 0, none⟩) bs.length c, .int .i64 (at' : Nat), .int .i64 (err : Nat)] 72 ∧ SlR w (.slice (some ⟨g, 0, none⟩) bs.length c) (bcells bs) ∧ g < p ∧ bs.length ≤ c ∧ at' ≤ bs.length

theorem Rdr.lt {w : World} {p : Nat} {bs : Bytes} {a e : Nat} (h : Rdr w p bs a e) : p < w.heap.size := by
  obtain ⟨g, c, hb, -⟩ := h
  exact hb.lt

theorem Rdr.same {w w' : World} {p : Nat} {bs : Bytes} {a e : Nat} (h : Rdr w p bs a e) (hk : Keeps Nothing w w') : Rdr w' p bs a e := by
  obtain ⟨g, c, hb, hs, r⟩ := h
  exact ⟨g, c, hb.keeps hk (fun h => h), hs.same hk, r⟩

theorem Rdr.keeps {G : Nat → Prop} {w w' : World} {p : Nat} {bs : Bytes} {a e : Nat} (h : Rdr w p bs a e) (hk : Keeps G w w') (hG : ∀ k, G k → p < k) : Rdr w' p bs a e := by
  obtain ⟨g, c, hb, hs, hgp, r⟩ := h
  exact ⟨g, c, hb.keeps hk (fun h => by have := hG _ h; omega), hs.keeps hk (fun g' hg' h => by
    simp [Value.ownBlock] at hg'
    subst hg'
    have := hG _ h
    omega), hgp, r⟩

def numR (bs : Bytes) (a e size : Nat) : Nat × Nat × Nat :=
  if e ≠ 0 then (0, a, e) else if (getR bs a size).2 ≠ 0 then (0, a, (getR bs a size).2) else ((getR bs a size).1, a + size, 0)

def takeR (bs : Bytes) (a e n : Nat) : Bytes × Nat × Nat :=
  if e ≠ 0 then ([], a, e) else if bs.length - a < n then ([], a, 2) else ((bs.drop a).take n, a + n, 0)

theorem numR_ok {bs : Bytes} {a size : Nat} (h : a + size ≤ bs.length) : numR bs a 0 size = (ofBE ((bs.drop a).take size), a + size, 0) := by
  have h1 : getR bs a size = (ofBE ((bs.drop a).take size), 0) := by unfold getR; rw [if_neg (by omega)]
  unfold numR
  rw [h1]
  simp

theorem numR_short {bs : Bytes} {a size : Nat} (h : bs.length < a + size) (h2 : a ≤ bs.length) : numR bs a 0 size = (0, a, 2) := by
  have h1 : getR bs a size = (0, 2) := by unfold getR; rw [if_pos (by omega)]
  unfold numR
  rw [h1]
  simp

def NumRes (w : World) (p : Nat) (bs : Bytes) (r : Nat × Nat × Nat) (e : Ending) (w' : World) : Prop :=
  e = .returned (.int .u64 (r.1 : Nat)) ∧ Rdr w' p bs r.2.1 r.2.2 ∧ Keeps (fun k => k = p) w w'

set_option maxRecDepth 100000 in
theorem rread_ok {w : World} {g c : Nat} {bs : Bytes} (hs : SlR w (.slice (some ⟨g, 0, none⟩) bs.length c) (bcells bs)) (hc : bs.length ≤ c) (hg : g < w.heap.size) :
    Calls Try.prog 24 #[.slice (some ⟨g, 0, none⟩) bs.length c] w (fun e w' => e = .returned (.pointer (some ⟨w.heap.size, 0, none⟩)) ∧ Rdr w' w.heap.size bs 0 0 ∧ Keeps Nothing w w') := by
  have HS := Lib.hid hs
  clear hs
  go_enter Try.func24, Try.ntmps24
  go_wp2_with fail
  go_ret
  exact ⟨rfl, ⟨g, c, Blk.new w [.slice (some ⟨g, 0, none⟩) bs.length c, .int .i64 (0 : Nat), .int .i64 (0 : Nat)] 72, HS.out.same ((Keeps.refl _ _).alloc _), by omega, hc, Nat.zero_le _⟩, (Keeps.refl _ _).alloc _⟩

set_option maxRecDepth 100000 in
theorem rerr_ok {w : World} {p : Nat} {bs : Bytes} {a e : Nat} (h : Rdr w p bs a e) :
    Calls Try.prog 27 #[.pointer (some ⟨p, 0, none⟩)] w (fun e' w' => e' = .returned (.int .i64 (e : Nat)) ∧ w = w') := by
  obtain ⟨g, c, hb, -⟩ := h
  have c2 : w.cell? ⟨p, 2, none⟩ = some (.int .i64 (e : Nat)) := hb.cell 2
  clear hb
  go_enter Try.func27, Try.ntmps27
  go_wp2_with fail
  go_ret
  exact ⟨rfl, rfl⟩

set_option maxRecDepth 100000 in
theorem rleft_ok {w : World} {p : Nat} {bs : Bytes} {a e : Nat} (h : Rdr w p bs a e) (hl : bs.length ≤ 1000000000) :
    Calls Try.prog 28 #[.pointer (some ⟨p, 0, none⟩)] w (fun e' w' => e' = .returned (.int .i64 (bs.length - a : Nat)) ∧ Keeps Nothing w w') := by
  obtain ⟨g, c, hb, -, -, -, ha⟩ := h
  have c0 : w.cell? ⟨p, 0, none⟩ = some (.slice (some ⟨g, 0, none⟩) bs.length c) := hb.cell 0
  have c1 : w.cell? ⟨p, 1, none⟩ = some (.int .i64 (a : Nat)) := hb.cell 1
  clear hb
  go_enter Try.func28, Try.ntmps28
  have hw : IntKind.i64.wrap ((bs.length : Int) - (a : Int)) = (bs.length : Int) - (a : Int) := IntWalk.i64_in _ (by omega)
  go_upto_region 1 with fail
  go_quiet (fail)
  go_wp2_with fail
  go_ret
  exact ⟨by rw [Int.natCast_sub ha]; rfl, (Keeps.refl _ _).drewN _⟩

set_option maxRecDepth 100000 in
set_option maxHeartbeats 4000000 in
theorem rnum_ok {w : World} {p : Nat} {bs : Bytes} {a e : Nat} (h : Rdr w p bs a e) (hl : bs.length ≤ 1000000000) (size : Nat) (h1 : 1 ≤ size) (h8 : size ≤ 8) (R : Nat × Nat × Nat) (hR : numR bs a e size = R) :
    Calls Try.prog 26 #[.pointer (some ⟨p, 0, none⟩), .int .i64 (size : Nat)] w (NumRes w p bs R) := by
  have HRR := Lib.hid hR
  clear hR
  have HR := Lib.hid h
  obtain ⟨g, c, hb, hs, hgp, hc, ha⟩ := h
  have c0 : w.cell? ⟨p, 0, none⟩ = some (.slice (some ⟨g, 0, none⟩) bs.length c) := hb.cell 0
  have c1 : w.cell? ⟨p, 1, none⟩ = some (.int .i64 (a : Nat)) := hb.cell 1
  have c2 : w.cell? ⟨p, 2, none⟩ = some (.int .i64 (e : Nat)) := hb.cell 2
  by_cases he : e = 0
  · subst he
    have hge : ∀ r e, getR bs a size = (r, e) → ∀ n, Calls Try.prog 33 #[.slice (some ⟨g, 0, none⟩) bs.length c, .int .i64 (a : Nat), .int .i64 (size : Nat)] (w.drewN n) (fun e' w' => e' = .returned (.tuple #[.int .u64 (r : Nat), .int .i64 (e : Nat)]) ∧ w' = w.drewN n) :=
      fun r e h n => get_ok (hs.same ((Keeps.refl _ _).drewN n)) hl hc a size ha h1 h8 r e h
    obtain ⟨r, e', hre⟩ : ∃ r e, getR bs a size = (r, e) := ⟨_, _, rfl⟩
    have D := hge r e' hre
    have HS := Lib.hid hs
    have HB := Lib.hid hb
    have HRE := Lib.hid hre
    clear hge hs hb hre
    go_enter Try.func26, Try.ntmps26
    go_upto_region 3 with fail
    go_quiet ((go_at_call 33; with_reducible exact Calls.quiet_of_same (D _)))
    have k1 : (w.drewN nq).cell? ⟨p, 1, none⟩ = some (.int .i64 (a : Nat)) := c1
    have f1 : (w.drewN nq).frozen? ⟨p, 1, none⟩ = false := HB.out.frozen 1
    have k2 : (w.drewN nq).cell? ⟨p, 2, none⟩ = some (.int .i64 ((0 : Nat) : Int)) := c2
    have f2 : (w.drewN nq).frozen? ⟨p, 2, none⟩ = false := HB.out.frozen 2
    have HSd := Lib.hid (HS.out.same ((Keeps.refl Nothing w).drewN nq))
    have HBd := Lib.hid (show Blk (w.drewN nq) p _ 72 from HB.out)
    have HKd := Lib.hid ((Keeps.refl (fun k => k = p) w).drewN nq)
    clear D c0 c1 c2 HS HB HR
    generalize w.drewN nq = w1 at *
    by_cases hz : e' = 0
    · subst hz
      have hn : numR bs a 0 size = (r, a + size, 0) := by
        unfold numR
        rw [HRE.out]
        simp
      have has : a + size ≤ bs.length := by
        have h := HRE.out
        unfold getR at h
        split at h
        · simp at h
        · omega
      obtain rfl : R = (r, a + size, 0) := HRR.out.symm.trans hn
      clear HRE hn HRR
      go_wp2_with fail
      go_ret
      refine ⟨rfl, ⟨g, c, by simpa using HBd.out.set 1 (.int .i64 ((a : Int) + (size : Int))), HSd.out.keeps ((Keeps.refl (fun k => k = p) _).setCell (p := ⟨p, 1, none⟩) (fun _ => rfl) _) (fun g' hg' => by simp [Value.ownBlock] at hg'; subst hg'; omega), hgp, hc, has⟩, HKd.out.setCell (p := ⟨p, 1, none⟩) (fun _ => rfl) _⟩
    · have hn : numR bs a 0 size = (0, a, e') := by
        unfold numR
        rw [HRE.out]
        simp [hz]
      have hz' : (((e' : Nat) : Int) != 0) = true := by simpa using hz
      obtain rfl : R = (0, a, e') := HRR.out.symm.trans hn
      clear HRE hn HRR
      go_wp2_with fail
      go_ret
      refine ⟨rfl, ⟨g, c, by simpa using HBd.out.set 2 (.int .i64 (e' : Int)), HSd.out.keeps ((Keeps.refl (fun k => k = p) _).setCell (p := ⟨p, 2, none⟩) (fun _ => rfl) _) (fun g' hg' => by simp [Value.ownBlock] at hg'; subst hg'; omega), hgp, hc, ha⟩, HKd.out.setCell (p := ⟨p, 2, none⟩) (fun _ => rfl) _⟩
  · have he' : (((e : Nat) : Int) != 0) = true := by simpa using he
    have hn : numR bs a e size = (0, a, e) := by unfold numR; rw [if_pos he]
    obtain rfl : R = (0, a, e) := HRR.out.symm.trans hn
    clear hs hb hn HRR
    go_enter Try.func26, Try.ntmps26
    go_wp2_with fail
    go_ret
    exact ⟨rfl, HR.out, Keeps.refl _ _⟩

end Go.Proofs.Ytmmeloklnkfjjaa
