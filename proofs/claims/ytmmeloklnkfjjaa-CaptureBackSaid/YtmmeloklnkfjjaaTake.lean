/- The reader: bytes of their own. -/
import Derived.Test.YtmmeloklnkfjjaaRdr
import Derived.Deep.RegionLaw
namespace Go.Proofs.Ytmmeloklnkfjjaa
open Go.RowKit

def TakeRes (w : World) (p : Nat) (bs : Bytes) (r : Bytes × Nat × Nat) (e : Ending) (w' : World) : Prop :=
  ∃ A c, e = .returned (.slice A r.1.length c) ∧ SlR w' (.slice A r.1.length c) (bcells r.1) ∧ (∀ x, A = some x → w.heap.size ≤ x.block ∧ x.block < w'.heap.size) ∧ Rdr w' p bs r.2.1 r.2.2 ∧ Keeps (fun k => k = p) w w'

theorem run_slA {w : World} (A : Option Addr) (n c lo hi : Nat) (h1 : lo ≤ hi) (h2 : hi ≤ c) :
    (Instr.sliceAt 25 (.slice A n c) (some (.int .i64 lo)) (some (.int .i64 hi)) none).run Try.prog w = .ok (.slice (if c = lo then A else A.map (·.add lo)) (hi - lo) (c - lo)) w := by
  have hs : ∀ w, (sizeOf (Try.prog.elem 25)).run Try.prog w = .ok 1 w := fun w => by kernel_rfl
  rw [run_sliceAt_slice (h := Try.underlying25), run_slice_lh (ht := Try.underlying25) (h0 := by omega) (h1 := by omega) (h2 := by omega), hs]
  simp [sliced, Result.andThen]

set_option maxRecDepth 100000 in
set_option maxHeartbeats 4000000 in
theorem rtake_ok {w : World} {p : Nat} {bs : Bytes} {a e : Nat} (h : Rdr w p bs a e) (hl : bs.length ≤ 1000000000) (n : Nat) (hn : n ≤ 1000000000) (R : Bytes × Nat × Nat) (hR : takeR bs a e n = R) :
    Calls Try.prog 25 #[.pointer (some ⟨p, 0, none⟩), .int .i64 (n : Nat)] w (TakeRes w p bs R) := by
  obtain ⟨i0, hi0, hz0, hz1, hz2⟩ := info_parts info5
  have HRR := Lib.hid hR
  clear hR
  have HR := Lib.hid h
  obtain ⟨g, c, hb, hs, hgp, hc, ha⟩ := h
  have c0 : w.cell? ⟨p, 0, none⟩ = some (.slice (some ⟨g, 0, none⟩) bs.length c) := hb.cell 0
  have c1 : w.cell? ⟨p, 1, none⟩ = some (.int .i64 (a : Nat)) := hb.cell 1
  have c2 : w.cell? ⟨p, 2, none⟩ = some (.int .i64 (e : Nat)) := hb.cell 2
  have f1 : w.frozen? ⟨p, 1, none⟩ = false := hb.frozen 1
  have f2 : w.frozen? ⟨p, 2, none⟩ = false := hb.frozen 2
  by_cases he : e = 0
  · subst he
    have hw : IntKind.i64.wrap ((bs.length : Int) - (a : Int)) = (bs.length : Int) - (a : Int) := IntWalk.i64_in _ (by omega)
    by_cases hlong : (bs.length : Int) - (a : Int) < n
    · obtain rfl : R = ([], a, 2) := by rw [← HRR.out]; unfold takeR; rw [if_neg (by simp), if_pos (by omega)]
      have HB := Lib.hid hb
      have HS := Lib.hid hs
      clear hs hb HRR
      go_enter Try.func25, Try.ntmps25
      go_upto_region 6 with fail
      go_quiet (fail)
      have k1 : (w.drewN nq).cell? ⟨p, 1, none⟩ = some (.int .i64 (a : Nat)) := c1
      have k2 : (w.drewN nq).cell? ⟨p, 2, none⟩ = some (.int .i64 ((0 : Nat) : Int)) := c2
      have f2 : (w.drewN nq).frozen? ⟨p, 2, none⟩ = false := HB.out.frozen 2
      have HSd := Lib.hid (HS.out.same ((Keeps.refl Nothing w).drewN nq))
      have HBd := Lib.hid (show Blk (w.drewN nq) p _ 72 from HB.out)
      have HKd := Lib.hid ((Keeps.refl (fun k => k = p) w).drewN nq)
      clear c0 c1 c2 HS HB HR
      generalize w.drewN nq = w1 at *
      go_wp2_with fail
      go_ret
      exact ⟨none, 0, rfl, SlR.empty _ _ _, (fun x h => by cases h), ⟨g, c, by simpa using HBd.out.set 2 (.int .i64 2), HSd.out.keeps ((Keeps.refl (fun k => k = p) _).setCell (p := ⟨p, 2, none⟩) (fun _ => rfl) _) (fun g' hg' => by simp [Value.ownBlock] at hg'; subst hg'; omega), hgp, hc, ha⟩, HKd.out.setCell (p := ⟨p, 2, none⟩) (fun _ => rfl) _⟩
    · have hlong' : decide ((bs.length : Int) - (a : Int) < n) = false := by simpa using hlong
      obtain rfl : R = ((bs.drop a).take n, a + n, 0) := by rw [← HRR.out]; unfold takeR; rw [if_neg (by simp), if_neg (by omega)]
      have HB := Lib.hid hb
      have HS := Lib.hid hs
      clear hs hb HRR
      go_enter Try.func25, Try.ntmps25
      go_upto_region 6 with fail
      go_quiet (fail)
      have k0 : (w.drewN nq).cell? ⟨p, 0, none⟩ = some (.slice (some ⟨g, 0, none⟩) bs.length c) := c0
      have k1 : (w.drewN nq).cell? ⟨p, 1, none⟩ = some (.int .i64 (a : Nat)) := c1
      have f1 : (w.drewN nq).frozen? ⟨p, 1, none⟩ = false := HB.out.frozen 1
      have HSd := Lib.hid (HS.out.same ((Keeps.refl Nothing w).drewN nq))
      have HBd := Lib.hid (show Blk (w.drewN nq) p _ 72 from HB.out)
      have HKd := Lib.hid ((Keeps.refl (fun k => k = p) w).drewN nq)
      clear c0 c1 c2 HS HB f2
      generalize w.drewN nq = w1 at *
      go_upto_region 10 with fail
      have HB2 := Lib.hid (show Blk (w1.setCell ⟨p, 1, none⟩ (.int .i64 ((a : Int) + (n : Int)))) p [.slice (some ⟨g, 0, none⟩) bs.length c, .int .i64 ((a : Int) + (n : Int)), .int .i64 ((0 : Nat) : Int)] 72 from by simpa using HBd.out.set 1 (.int .i64 ((a : Int) + (n : Int))))
      have HS2 := Lib.hid (HSd.out.keeps ((Keeps.refl (fun k => k = p) _).setCell (p := ⟨p, 1, none⟩) (fun _ => rfl) (.int .i64 ((a : Int) + (n : Int)))) (fun g' hg' => by simp [Value.ownBlock] at hg'; subst hg'; omega))
      have HK2 := Lib.hid (HKd.out.setCell (p := ⟨p, 1, none⟩) (fun _ => rfl) (.int .i64 ((a : Int) + (n : Int))))
      clear k0 k1 f1 HBd HSd HKd
      generalize (w1.setCell ⟨p, 1, none⟩ (.int .i64 ((a : Int) + (n : Int)))) = w2 at *
      have d0 : w2.cell? ⟨p, 0, none⟩ = some (.slice (some ⟨g, 0, none⟩) bs.length c) := HB2.out.cell 0
      have d1 : w2.cell? ⟨p, 1, none⟩ = some (.int .i64 ((a : Int) + (n : Int))) := HB2.out.cell 1
      have hw2 : IntKind.i64.wrap ((a : Int) + (n : Int) - (n : Int)) = (a : Int) := by rw [Int.add_sub_cancel]; exact IntWalk.i64_in _ (by omega)
      have hsl : ∀ v, (Instr.sliceAt 25 (.slice (some ⟨g, 0, none⟩) bs.length c) (some (.int .i64 (a : Nat))) (some (.int .i64 ((a : Int) + (n : Int)))) none).run Try.prog v = .ok (.slice (if c = a then some ⟨g, 0, none⟩ else some ⟨g, a, none⟩) n (c - a)) v := fun v => by
        have := run_slA (w := v) (some ⟨g, 0, none⟩) bs.length c a (a + n) (by omega) (by omega)
        rw [Nat.add_sub_cancel_left, Int.natCast_add] at this
        rw [this]
        simp [Addr.add_lit]
      have hwa : IntKind.i64.wrap (a : Int) = (a : Int) := IntWalk.i64_in _ (by omega)
      go_still_tail 15, (by kernel_rfl)
      change wpList _ _ _ _ _ w2.drew
      have hlen : ((bs.drop a).take n).length = n := by rw [List.length_take, List.length_drop]; omega
      have hsr : SlR w2.drew (.slice (if c = a then some ⟨g, 0, none⟩ else some ⟨g, a, none⟩) n (c - a)) (bcells ((bs.drop a).take n)) := by
        by_cases hca : c = a
        · have h0 : n = 0 := by omega
          subst h0
          exact SlR.empty _ _ _
        · rw [if_neg hca]
          have h := ((HS2.out.same ((Keeps.refl Nothing w2).drew)).drop a ha (c - a) (by omega)).take n (by omega) (c - a) (by omega)
          rw [Addr.add_lit, Nat.zero_add] at h
          unfold bcells at h ⊢
          rwa [List.map_take, List.map_drop]
      have HSR := Lib.hid hsr
      have HLen := Lib.hid hlen
      have hps : p < w.heap.size := by
        have h1 := HR.out
        exact h1.lt
      have HB3 := Lib.hid (show Blk w2.drew p _ 72 from HB2.out)
      have HS3 := Lib.hid (HS2.out.same ((Keeps.refl Nothing w2).drew))
      have HK3 := Lib.hid (HK2.out.drew)
      clear hsr hlen hsl d0 d1
      generalize w2.drew = w3 at *
      generalize (if c = a then some (⟨g, 0, none⟩ : Addr) else some ⟨g, a, none⟩) = AA at *
      refine wpList_appR rfl (.const (.slice none 0 0)) (.tmp 55) 25 rfl 5 i0 (.int .u8 0) 1 Try.underlying25 hi0 hz0 hz1 hz2 rfl (fun _ => False) (.slice none 0 0) [] rfl (OwnF.nil _ _ _) _ (bcells ((bs.drop a).take n)) rfl HSR.out (bcells_one _) ?h63 ?hby ?_
      case h63 => rw [bcells_length, HLen.out]; simp; omega
      case hby => rw [bcells_length, HLen.out]; simp; omega
      intro v4 w4 ho4 k4
      have HO4 := Lib.hid ho4
      have hk4 : Keeps Nothing w3 w4 := k4.mono (fun x hx _ => by simp [Value.ownBlock] at hx)
      have HK4 := Lib.hid hk4
      clear ho4 k4 hk4
      go_wp2_with fail
      go_ret
      obtain ⟨A, c', rfl⟩ := HO4.out.lenG
      rw [List.nil_append, bcells_length] at HO4 ⊢
      have hsz := HK3.out.size
      refine ⟨A, c', rfl, HO4.out.slR, ?_, ⟨g, c, by simpa using HB3.out.keeps HK4.out (fun h => h), HS3.out.same HK4.out, hgp, hc, by simp only; omega⟩, HK3.out.trans HK4.out (fun _ h _ => h.elim)⟩
      intro x hx
      subst hx
      rcases HO4.out.blk with ⟨h, -⟩ | ⟨g', cap', cur, h, hg', -⟩
      · cases h
      · injection h with h
        injection h with h
        subst h
        have hlt := HO4.out.toS.lt (g := g') rfl
        rcases hg' with hg' | hg'
        · exact hg'.elim
        · simp only; omega
  · have he' : (((e : Nat) : Int) != 0) = true := by simpa using he
    obtain rfl : R = ([], a, e) := by rw [← HRR.out]; unfold takeR; rw [if_pos he]
    clear hs hb HRR
    go_enter Try.func25, Try.ntmps25
    go_wp2_with fail
    go_ret
    exact ⟨none, 0, rfl, SlR.empty _ _ _, (fun x h => by cases h), HR.out, Keeps.refl _ _⟩

end Go.Proofs.Ytmmeloklnkfjjaa
