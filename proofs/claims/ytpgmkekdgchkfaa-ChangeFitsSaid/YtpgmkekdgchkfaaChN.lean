/- ChangeNexts: the walk; and the acts that come in. -/
import Derived.Test.YtpgmkekdgchkfaaPlay2
import Derived.Test.YtpgmkekdgchkfaaArg9
namespace Go.Proofs.Ytpgmkekdgchkfaa
open Go.ChangeShapes Go.WideShapes Go.ChangeAt Go.RowKit

set_option maxRecDepth 100000 in
theorem open_kacts {H : Type} {enc : TypeId × Value → H} {base : Nat} {v : Value} {d : DataW H} {p : List MemPlace} {W : World}
    (o : Value.okWide Try.prog W .any base 59 v) (h : DataW.Trod enc Try.prog W 0 (fun _ => true) true 59 v d p) :
    ∃ acts A c, v = .slice A acts.length c ∧ acts.length ≤ 9223372036854775807 ∧ KActs W A acts c := by
  obtain ⟨a0, len0, cap0, rfl⟩ := okWide_slice Try.underlying59 o
  obtain ⟨l, hr, ⟨A, c, hv⟩, hm, hel⟩ := tr_slice (sz := 5) Try.underlying59 (by kernel_rfl) (by omega) (tr_of h)
  have hact : ∀ cs ∈ l, ∃ a : KAct, cs = a.cells ∧ EntsR W a.A a.cap a.es := by
    intro cs hcs
    obtain ⟨hl, hf⟩ := tr_struct Try.underlying107 (hel cs hcs)
    have hl5 : cs.length = 5 := hl.trans (by kernel_rfl)
    match cs, hl5 with
    | [x, y0, y1, y2, y3], _ =>
      have c2 : Try.prog.cellsOf 2 = 1 := by kernel_rfl
      have c70 : Try.prog.cellsOf 70 = 1 := by kernel_rfl
      have c72 : Try.prog.cellsOf 72 = 4 := by kernel_rfl
      have f0 : Tr enc Try.prog W 2 ([x, y0, y1, y2, y3].take (Try.prog.cellsOf 2)) := hf 0 _ rfl
      have f1 : Tr enc Try.prog W 72 ([y0, y1, y2, y3].take (Try.prog.cellsOf 72)) := hf 1 _ rfl
      rw [c2] at f0
      rw [c72] at f1
      obtain ⟨k, e0, -⟩ := tr_int Try.underlying2 f0
      obtain ⟨-, hf2⟩ := tr_struct Try.underlying72 f1
      have g0 : Tr enc Try.prog W 2 ([y0, y1, y2, y3].take (Try.prog.cellsOf 2)) := hf2 0 _ rfl
      have g1 : Tr enc Try.prog W 2 ([y1, y2, y3].take (Try.prog.cellsOf 2)) := hf2 1 _ rfl
      have g2 : Tr enc Try.prog W 2 ([y2, y3].take (Try.prog.cellsOf 2)) := hf2 2 _ rfl
      have g3 : Tr enc Try.prog W 70 ([y3].take (Try.prog.cellsOf 70)) := hf2 3 _ rfl
      rw [c2] at g0 g1 g2
      rw [c70] at g3
      obtain ⟨b, e1, -⟩ := tr_int Try.underlying2 g0
      obtain ⟨y, e2, -⟩ := tr_int Try.underlying2 g1
      obtain ⟨xx, e3, -⟩ := tr_int Try.underlying2 g2
      obtain ⟨es, A2, c2', e4, hlen, hes⟩ := tr_ents (v := y3) g3
      simp at e0 e1 e2 e3
      subst e0 e1 e2 e3 e4
      exact ⟨⟨k, b, y, xx, A2, c2', es⟩, rfl, hes⟩
  obtain ⟨acts, hl, hp⟩ := list_of_each (n := l.length) (p := fun i a => l[i]? = some (KAct.cells a) ∧ EntsR W a.A a.cap a.es) (fun i hi => by
    obtain ⟨a, h1, h2⟩ := hact l[i] (List.getElem_mem hi)
    exact ⟨a, by rw [List.getElem?_eq_getElem hi, h1], h2⟩)
  injection hv with e1 e2 e3
  subst e1 e2 e3
  refine ⟨acts, a0, cap0, by rw [hl], by omega, ?_⟩
  rcases hr with ⟨h1, -⟩ | ⟨b, o', c', h1, h2, h3⟩
  · exact .inl (List.eq_nil_of_length_eq_zero (by rw [hl, h1]; rfl))
  · injection h1 with e1 e2 e3
    subst e3
    refine .inr ⟨b, o', e1, by omega, fun j a hj => ?_⟩
    obtain ⟨hp1, hp2⟩ := hp j a hj
    exact ⟨(h3 j _ hp1).2, hp2⟩

set_option maxRecDepth 100000 in
set_option maxHeartbeats 2000000 in
theorem chn_out {w : World} {A : Option Addr} {acts : List KAct} {c : Nat} (h : KActs w A acts c) (hl : acts.length ≤ 9223372036854775807) (later between : Int) (ho : ¬ Sm acts ∨ later < 0 ∨ 1125899906842624 < later) :
    Calls Try.prog 10 #[.slice A acts.length c, .int .i64 later, .int .i64 between] w (TrueKept w) := by
  have HA := Lib.hid h
  have HO := Lib.hid ho
  clear h ho
  go_enter Try.func10, Try.ntmps10
  go_upto_region 3 with (go_at_call 34; refine (turns_ok _).mono ?_; rintro e w1 ⟨rfl, k1⟩)
  by_cases hs : Sm acts
  · have C := small_yes (HA.out.same k1) hl hs
    have ho : later < 0 ∨ 1125899906842624 < later := by
      rcases HO.out with h | h
      · exact absurd hs h
      · exact h
    clear hs HO
    by_cases h1 : later < 0
    · go_wp2_with (go_at_call 35; refine C.mono ?_; rintro e w2 ⟨rfl, k2⟩; clear C)
      go_ret
      exact ⟨rfl, k1.same k2⟩
    · have h1' : decide (later < 0) = false := by simpa using h1
      have h2 : 1125899906842624 < later := by omega
      go_wp2_with (go_at_call 35; refine C.mono ?_; rintro e w2 ⟨rfl, k2⟩; clear C)
      go_ret
      exact ⟨rfl, k1.same k2⟩
  · have C := small_no (HA.out.same k1) hl hs
    clear hs HO
    go_wp2_with (go_at_call 35; refine C.mono ?_; rintro e w2 ⟨rfl, k2⟩; clear C)
    go_ret
    exact ⟨rfl, k1.same k2⟩

theorem gnx_le {base cyc ext : Int} {es : List Ent} (g : Good base cyc ext es) {t : Int} (ht : 0 ≤ t) : gnx base cyc es t ≤ t + 4611686018427387904 := by
  have h1 := g.b1
  have h2 := g.c1
  by_cases h : t < base
  · unfold gnx; rw [if_pos h]; omega
  · have := (gnx_range (es := es) g.c0 (Int.not_lt.1 h)).2
    omega

theorem Sch.next_le {S : Sch} (hg : SchGood S) {t : Int} (ht : 0 ≤ t) : S.next t ≤ t + 4611686018427387904 := by
  have hp : S.pre t ≤ t + 4611686018427387904 := by
    unfold Sch.pre
    cases hT : S.tail with
    | none =>
      simp only
      by_cases hh : S.has = true
      · rw [if_pos hh]; exact gnx_le (hg.oper hh) ht
      · rw [if_neg hh]; omega
    | some f =>
      have hh := (Sch.tail_some hT).2
      have h1 := gnx_le (hg.oper hh) ht
      simp only
      by_cases hf : f ≤ t
      · rw [if_pos hf]; omega
      · rw [if_neg hf, if_pos hh]
        split <;> omega
  unfold Sch.next
  by_cases hw : S.waits = true
  · have g := hg.admin hw
    have h1 := g.b1
    by_cases hd : S.due ≤ t
    · rw [if_pos ⟨hw, hd⟩]; exact gnx_le g ht
    · rw [if_neg (fun x => hd x.2)]
      split <;> omega
  · rw [if_neg (fun x => hw x.1), if_neg (fun x => hw x.1)]; exact hp

set_option maxRecDepth 100000 in
set_option maxHeartbeats 4000000 in
theorem chn_in {w : World} {A : Option Addr} {acts : List KAct} {c : Nat} (h : KActs w A acts c) (hs : Sm acts) (later between : Int) (hl0 : 0 ≤ later) (hl1 : later ≤ 1125899906842624) (hbt : between ≤ 9223372036854775807) :
    Calls Try.prog 10 #[.slice A acts.length c, .int .i64 later, .int .i64 between] w (TrueKept w) := by
  have HA := Lib.hid h
  have h30 : acts.length ≤ 30 := hs.1
  have HSm := Lib.hid hs
  have q1 : decide (later < 0) = false := by simpa using hl0
  have q2 : decide ((1125899906842624 : Int) < later) = false := by simpa using hl1
  clear h hs
  go_enter Try.func10, Try.ntmps10
  go_upto_region 3 with (go_at_call 34; refine (turns_ok _).mono ?_; rintro e w1 ⟨rfl, k1⟩)
  have C := small_yes (HA.out.same k1) (by omega) HSm.out
  have C2 := fun v (hv : Keeps Nothing w1 v) => play_ok ((HA.out.same k1).same hv) h30
  go_upto_region 8 with (first | (go_at_call 35; refine C.mono ?_; rintro e w2 ⟨rfl, k2⟩; clear C) | (go_at_call 36; refine (C2 _ k2).mono ?_; rintro e w3 ⟨p, q, n, cn, S, P, rfl, hP⟩; clear C2))
  have HP := Lib.hid hP
  have HK := Lib.hid ((k1.same k2).same hP.keeps)
  have hn0 := hP.n0
  have hn1 : n ≤ 30 * 1099511627776 := by have := hP.n1; omega
  clear hP k1 k2
  have hN := next_eq HP.out.alike HP.out.good (n + later)
  have hgt := Sch.next_gt HP.out.good (n + later)
  have hle := Sch.next_le HP.out.good (t := n + later) (by omega)
  have D1 := next_ok HP.out.sch HP.out.good (n + later) (by omega)
  have D2 := fun v (hv : Keeps Nothing w3 v) => pnext_ok (HP.out.par.same hv) (Par.good HP.out.alike HP.out.good) (n + later) (by omega)
  rw [hN] at D2
  have D3 := fun v (hv : Keeps Nothing w3 v) (t : Int) (ht : t ≤ 9000000000000000000) => state_ok (HP.out.sch.same hv) HP.out.good t ht
  have HST := Lib.hid (fun (h2 : S.next (n + later) < 0 ∨ n + later + between < S.next (n + later)) (h1 : n + later ≤ n + later + between) => Sch.stays HP.out.good h1 h2)
  clear hN
  generalize S.next (n + later) = N at *
  by_cases hN0 : 0 ≤ N
  · have hNt := hgt hN0 (by omega)
    have q3 : decide (N ≤ n + later) = false := by simp; omega
    clear hgt
    by_cases b1 : between < 0
    · clear HST D3
      go_wp2_with (first | (go_at_call 37; refine D1.mono ?_; rintro e w4 ⟨rfl, k4⟩; clear D1) | (go_at_call 38; refine (D2 _ k4).mono ?_; rintro e w5 ⟨rfl, k5⟩; clear D2))
      go_ret
      exact ⟨rfl, HK.out.same (k4.same k5)⟩
    · have b1' : decide (between < 0) = false := by simpa using b1
      by_cases b2 : 1125899906842624 < between
      · clear HST D3
        go_wp2_with (first | (go_at_call 37; refine D1.mono ?_; rintro e w4 ⟨rfl, k4⟩; clear D1) | (go_at_call 38; refine (D2 _ k4).mono ?_; rintro e w5 ⟨rfl, k5⟩; clear D2))
        go_ret
        exact ⟨rfl, HK.out.same (k4.same k5)⟩
      · have b2' : decide ((1125899906842624 : Int) < between) = false := by simpa using b2
        have hw0 : IntKind.i64.wrap (N - (n + later)) = N - (n + later) := by rw [IntKind.wrap_i64]; omega
        by_cases b3 : N - (n + later) ≤ between
        · clear HST D3
          go_wp2_with (first | (go_at_call 37; refine D1.mono ?_; rintro e w4 ⟨rfl, k4⟩; clear D1) | (go_at_call 38; refine (D2 _ k4).mono ?_; rintro e w5 ⟨rfl, k5⟩; clear D2))
          go_ret
          exact ⟨rfl, HK.out.same (k4.same k5)⟩
        · have b3' : decide (N - (n + later) ≤ between) = false := by simpa using b3
          have hV : S.state (n + later + between) = S.state (n + later) := HST.out (.inr (by omega)) (by omega)
          have E1 := fun v (hv : Keeps Nothing w3 v) => D3 v hv (n + later + between) (by omega)
          have E2 := fun v (hv : Keeps Nothing w3 v) => D3 v hv (n + later) (by omega)
          rw [hV] at E1
          have HE2 := Lib.hid E2
          clear E2 hV D3
          generalize S.state (n + later) = V at *
          have E2 := HE2.out
          have hw1 : IntKind.i64.wrap (n + later + between) = n + later + between := by rw [IntKind.wrap_i64]; omega
          go_wp2_with (first | (go_at_call 37; refine D1.mono ?_; rintro e w4 ⟨rfl, k4⟩; clear D1) | (go_at_call 38; refine (D2 _ k4).mono ?_; rintro e w5 ⟨rfl, k5⟩; clear D2) | (go_at_call 39; refine (E1 _ (k4.same k5)).mono ?_; rintro e w6 ⟨rfl, k6⟩; clear E1) | (go_at_call 39; refine (E2 _ ((k4.same k5).same k6)).mono ?_; rintro e w7 ⟨rfl, k7⟩; clear E2))
          go_ret
          exact ⟨rfl, HK.out.same (((k4.same k5).same k6).same k7)⟩
  · have q3 : decide (0 ≤ N) = false := by simpa using hN0
    clear hgt
    by_cases b1 : between < 0
    · clear HST D3
      go_wp2_with (first | (go_at_call 37; refine D1.mono ?_; rintro e w4 ⟨rfl, k4⟩; clear D1) | (go_at_call 38; refine (D2 _ k4).mono ?_; rintro e w5 ⟨rfl, k5⟩; clear D2))
      go_ret
      exact ⟨rfl, HK.out.same (k4.same k5)⟩
    · have b1' : decide (between < 0) = false := by simpa using b1
      by_cases b2 : 1125899906842624 < between
      · clear HST D3
        go_wp2_with (first | (go_at_call 37; refine D1.mono ?_; rintro e w4 ⟨rfl, k4⟩; clear D1) | (go_at_call 38; refine (D2 _ k4).mono ?_; rintro e w5 ⟨rfl, k5⟩; clear D2))
        go_ret
        exact ⟨rfl, HK.out.same (k4.same k5)⟩
      · have b2' : decide ((1125899906842624 : Int) < between) = false := by simpa using b2
        have hV : S.state (n + later + between) = S.state (n + later) := HST.out (.inl (by omega)) (by omega)
        have E1 := fun v (hv : Keeps Nothing w3 v) => D3 v hv (n + later + between) (by omega)
        have E2 := fun v (hv : Keeps Nothing w3 v) => D3 v hv (n + later) (by omega)
        rw [hV] at E1
        have HE2 := Lib.hid E2
        clear E2 hV D3
        generalize S.state (n + later) = V at *
        have E2 := HE2.out
        have hw1 : IntKind.i64.wrap (n + later + between) = n + later + between := by rw [IntKind.wrap_i64]; omega
        go_wp2_with (first | (go_at_call 37; refine D1.mono ?_; rintro e w4 ⟨rfl, k4⟩; clear D1) | (go_at_call 38; refine (D2 _ k4).mono ?_; rintro e w5 ⟨rfl, k5⟩; clear D2) | (go_at_call 39; refine (E1 _ (k4.same k5)).mono ?_; rintro e w6 ⟨rfl, k6⟩; clear E1) | (go_at_call 39; refine (E2 _ ((k4.same k5).same k6)).mono ?_; rintro e w7 ⟨rfl, k7⟩; clear E2))
        go_ret
        exact ⟨rfl, HK.out.same (((k4.same k5).same k6).same k7)⟩

end Go.Proofs.Ytpgmkekdgchkfaa
