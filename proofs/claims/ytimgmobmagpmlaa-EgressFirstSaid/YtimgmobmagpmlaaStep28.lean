/- Play's step: what is asked of a port at one time, where what is sent is handed to function 28. -/
import Derived.Test.YtimgmobmagpmlaaPlayD
namespace Go.Proofs.Ytimgmobmagpmlaa
open Go.RowKit

set_option maxRecDepth 100000 in
set_option maxHeartbeats 16000000 in
theorem step28 {w0 w : World} {F N : Nat → Prop} {L : Loc} {G : Geo} {caps : Array Value} {E : Eg} {P : Par} {n last : Int} {r j : Nat} {I : World → Int → Prop} {nl ns : Prop} {sp : Int}
    (hY : YSpec 28 caps F I nl ns sp) (hI : ∀ v v' l, I v l → Keeps (fun k => w0.heap.size ≤ k) v v' → I v' l) (h : PlAt w0 w F N L G (.func (.func 28) #[] caps) E P n last r j I nl ns sp) (hr : r ≤ 4000) (hj : j ≤ 60) :
    Calls Try.prog 52 #[.pointer (some ⟨L.cw, 0, none⟩), .pointer (some ⟨L.cn, 0, none⟩), .pointer (some ⟨L.cp, 0, none⟩), .pointer (some ⟨L.cy, 0, none⟩), .pointer (some ⟨L.cf, 0, none⟩)] w
      (StepDid w0 w F N L G (.func (.func 28) #[] caps) n r j I nl ns sp) := by
  have H := Lib.hid h
  have hn0 := h.n0
  have hn1 := h.n1
  clear h
  go_enter Try.func52, Try.ntmps52
  go_wp2_with fail
  go_loopg [] 2 (fun k wr => StepInv w0 w F N L G (.func (.func 28) #[] caps) n r j I nl ns sp k wr)
  case atStart => exact ⟨E, P, last, r, .inl ⟨rfl, rfl⟩, fun h => absurd h (by decide), H.out, Keeps.refl _ _⟩
  case round =>
    obtain ⟨E1, P1, last1, r1, hk1, hb, h1, hz1⟩ := hrel
    have Z1 := Lib.hid hz1
    clear hz1
    have H1 := Lib.hid h1
    have HB := Lib.hid hb
    have c0 : wr.cell? ⟨L.cw, 0, none⟩ = some (.pointer (some ⟨L.q, 0, none⟩)) := h1.bw.cell 0
    have c1 : wr.cell? ⟨L.cn, 0, none⟩ = some (.int .i64 n) := h1.bn.cell 0
    have C53 := ppass_ok h1.par n
    clear h1 hb
    go_upto_region 2 with (go_at_call 53; refine C53.mono ?_; rintro e w2 ⟨rfl, hP2, k2⟩; clear C53)
    have H2 := Lib.hid (H1.out.ppass hI hP2 k2)
    have Z2 := Lib.hid (Z1.out.trans k2 (fun x hx _ => .inr (.inr (by rw [hx]; simp [Loc.all]))))
    clear hP2 k2 c0 c1
    have c2 : w2.cell? ⟨L.cp, 0, none⟩ = some (.pointer (some ⟨G.p, 0, none⟩)) := H2.out.bp.cell 0
    have c1 : w2.cell? ⟨L.cn, 0, none⟩ = some (.int .i64 n) := H2.out.bn.cell 0
    have C17 := end_ok H2.out.eg H2.out.held n (by omega)
    go_upto_region 3 with (go_at_call 17; refine C17.mono ?_; intro e w3 hE3; clear C17; obtain ⟨a3, b3, c3, d3, x3, E3, rfl, hW3, hcase⟩ := end_cases hE3; clear hE3)
    have H3 := Lib.hid (H2.out.port hI hW3 (by rw [hcase.sch]; exact H2.out.alike) (hcase.pl H2.out.pe))
    have Z3 := Lib.hid (Z2.out.trans hW3.keeps (fun x hx _ => .inr (.inl hx)))
    have HB3 := Lib.hid (fun (hk : gk = 1) => hcase.stays (HB.out hk))
    have HF3 := Lib.hid hcase.fresh
    clear hW3 hcase c1 c2
    have c2 : w3.cell? ⟨L.cp, 0, none⟩ = some (.pointer (some ⟨G.p, 0, none⟩)) := H3.out.bp.cell 0
    have c1 : w3.cell? ⟨L.cn, 0, none⟩ = some (.int .i64 n) := H3.out.bn.cell 0
    have hr5 : r1 ≤ 5000 := by omega
    have C15 := start_ok H3.out.eg (H3.out.ok hr5 hj) (Int.le_refl n) (by omega)
    have hr1' : r1 ≤ r + 1 := by omega
    go_upto_region 4 with (go_at_call 15; refine C15.mono ?_; rintro e w4 ⟨v4, E4, rfl, hSt, hW4⟩; clear C15; rcases hSt with hd | ⟨hs, hu, hb0, hh, hneg⟩ | ⟨hs, c, x, q, hu, hb0, hh, hcl, hc8, hq⟩ <;> simp only [sentV])
    · have H4 := Lib.hid (H3.out.port hI hW4 (by show Alike ((E3.S.pass n).pass n) _; rw [Sch.pass_pass _ (Int.le_refl n)]; exact H3.out.alike) (H3.out.pe.passed.more hr1'))
      have HFr : Hid (Fresh (E3.passed n) n) := ⟨Sch.pass_due E3.S n, HF3.out⟩
      have Z4 := Lib.hid (Z3.out.trans hW4.keeps (fun x hx _ => .inr (.inl hx)))
      clear hW4 hd
      go_wp2_with fail
      go_ret
      exact ⟨rfl, _, _, _, H4.out.alloc hI ((Keeps.refl _ _).alloc _), HFr.out, Z4.out.alloc _⟩
    · have H4 := Lib.hid (H3.out.port hI hW4 (by show Alike ((E3.S.pass n).pass n) _; rw [Sch.pass_pass _ (Int.le_refl n)]; exact H3.out.alike) (H3.out.pe.passed.more hr1'))
      have HFr : Hid (Fresh (E3.passed n) n) := ⟨Sch.pass_due E3.S n, HF3.out⟩
      have Z4 := Lib.hid (Z3.out.trans hW4.keeps (fun x hx _ => .inr (.inl hx)))
      clear hW4 hneg hh
      go_wp2_with fail
      go_ret
      exact ⟨rfl, _, _, _, H4.out.alloc hI ((Keeps.refl _ _).alloc _), HFr.out, Z4.out.alloc _⟩
    · have hok := H3.out.ok hr5 hj
      have hokp := hok.passed (Int.le_refl n) hok.n1
      have hal : Alike (E3.passed n).S (P1.pass n) := by have := H3.out.alike; rw [Par.pass_pass _ (Int.le_refl n)] at this; exact this
      obtain ⟨hY1, hY2, hY3⟩ := H3.out.pe.passed.goes hb0 hokp H3.out.n1 hal hh hc8 hcl hq
      have hk2 : gk = 2 ∧ r1 = r := by
        rcases hk1 with h | ⟨h, -⟩
        · exact h
        · have := HB3.out h
          have h2 := HB.out h
          have hb0 : E3.busy = false := hb0
          rw [this] at hb0
          rw [hb0] at h2; cases h2.1
      obtain ⟨E5, hE5⟩ : ∃ E5, E5 = (E3.passed n).sends n c x q := ⟨_, rfl⟩
      have e5c : E5.cls = (c : Int) := by rw [hE5]; rfl
      have e5i : E5.id = x := by rw [hE5]; rfl
      have e5f : E5.frm = n := by rw [hE5]; rfl
      have e5t : E5.till = n + timeOf (sizeP (E3.passed n).ps x) (E3.passed n).speed := by rw [hE5]; rfl
      have e5s : E5.S = E3.S.pass n := by rw [hE5]; rfl
      have e5p : E5.ps = (E3.passed n).ps := by rw [hE5]; rfl
      rw [← hE5] at hY1 hY2 hY3 hW4
      rw [← e5t, ← e5c, ← e5i]
      have hY2' : PlE E5 n last1 (r1 + 1) j (nl ∧ False) ns sp := { hY2 with nl := fun h => h.2.elim }
      have HY := Lib.hid (And.intro hY1 (And.intro hY2 hY3))
      clear hE5 hY1 hY2 hY3 hcl hq hh hok hokp hal hb0 e5c e5i e5f e5t e5p
      have H4 := Lib.hid (H3.out.port hI hW4 (by rw [e5s, Sch.pass_pass _ (Int.le_refl n)]; exact H3.out.alike) hY2')
      have Z4 := Lib.hid (Z3.out.trans hW4.keeps (fun x hx _ => .inr (.inl hx)))
      clear hW4 hY2' e5s c1 c2
      obtain ⟨vc, hvc⟩ : ∃ v, v = E5.cls := ⟨_, rfl⟩
      obtain ⟨vi, hvi⟩ : ∃ v, v = E5.id := ⟨_, rfl⟩
      obtain ⟨vt, hvt⟩ : ∃ v, v = E5.till := ⟨_, rfl⟩
      have hvf : n = E5.frm := HY.out.1.frm.symm
      rw [← hvc, ← hvi, ← hvt]
      have HB5 := Lib.hid (Blk.new w4 [.int .i64 vc, .int .i64 vi, .int .i64 n, .int .i64 vt] 38)
      have H5 := Lib.hid (H4.out.alloc hI ((Keeps.refl Nothing w4).alloc (.cells #[.int .i64 vc, .int .i64 vi, .int .i64 n, .int .i64 vt] 38)))
      have Z5 := Lib.hid (Z4.out.alloc (.cells #[.int .i64 vc, .int .i64 vi, .int .i64 n, .int .i64 vt] 38))
      have HV := Lib.hid (And.intro hvc (And.intro hvi (And.intro hvt hvf)))
      clear hvc hvi hvt hvf
      go_upto_region 6 with fail
      generalize (w4.alloc (.cells #[.int .i64 vc, .int .i64 vi, .int .i64 n, .int .i64 vt] 38)) = w5 at *
      generalize w4.heap.size = sb at *
      have d0 : w5.cell? ⟨L.cw, 0, none⟩ = some (.pointer (some ⟨L.q, 0, none⟩)) := H5.out.bw.cell 0
      have d2 : w5.cell? ⟨L.cp, 0, none⟩ = some (.pointer (some ⟨G.p, 0, none⟩)) := H5.out.bp.cell 0
      have d3 : w5.cell? ⟨L.cy, 0, none⟩ = some (.func (.func 28) #[] caps) := H5.out.by_.cell 0
      have d4 : w5.cell? ⟨L.cf, 0, none⟩ = some (.pointer (some ⟨G.pp, 0, none⟩)) := H5.out.bf.cell 0
      have s0 : w5.cell? ⟨sb, 0, none⟩ = some (.int .i64 vc) := HB5.out.cell 0
      have s1 : w5.cell? ⟨sb, 1, none⟩ = some (.int .i64 vi) := HB5.out.cell 1
      have s2 : w5.cell? ⟨sb, 2, none⟩ = some (.int .i64 n) := HB5.out.cell 2
      have s3 : w5.cell? ⟨sb, 3, none⟩ = some (.int .i64 vt) := HB5.out.cell 3
      obtain ⟨sz, hsz⟩ : ∃ sz, sz = sizeP E5.ps E5.id := ⟨_, rfl⟩
      have CS : ∀ v, Keeps Nothing w5 v → Calls Try.prog 41 #[.pointer (some ⟨G.pp, 0, none⟩), .int .i64 vi] v fun e w' => e = .returned (.int .i64 sz) ∧ w' = v := fun v hv => by
        rw [hsz, HV.out.2.1]
        exact size_ok (PoolAt.keeps H5.out.eg.pool hv (fun _ _ h => h)) E5.id
      have CY : ∀ v, Keeps Nothing w5 v → Calls Try.prog 28 (#[.pointer (some ⟨G.p, 0, none⟩), .pointer (some ⟨L.q, 0, none⟩), .agg #[.int .i64 vc, .int .i64 vi, .int .i64 n, .int .i64 vt], .int .i64 sz] ++ caps) v
          (fun e w' => e = .returned (.bool true) ∧ I w' E5.till ∧ Keeps F v w') := fun v hv => by
        have h5 := H5.out.alloc hI hv
        have := hY v L.q G E5 (P1.pass n) n last1 h5.eg h5.par h5.yi HY.out.1
        rw [← hsz, ← HV.out.1, ← HV.out.2.1, ← HV.out.2.2.1, ← HV.out.2.2.2] at this
        rw [HV.out.2.2.1] at this ⊢
        exact this
      clear hsz
      refine wp_region_still_tail 8 (by kernel_rfl) (by kernel_rfl) ?_
      simp only [List.take_succ_cons, List.take_zero, List.drop_succ_cons, List.drop_zero]
      repeat still_step
      still_call (CS _ ((Keeps.refl _ _).drew))
      repeat still_step
      refine wpStill_nil ?_
      change wpList _ _ _ _ _ w5.drew
      have CY' := CY _ ((Keeps.refl Nothing w5).drew)
      have H6 := Lib.hid (H5.out.alloc hI ((Keeps.refl Nothing w5).drew))
      have Z6 := Lib.hid (Z5.out.drew)
      clear CS CY d0 d2 d3 d4 s0 s1 s2 s3
      generalize w5.drew = w6 at *
      go_wp2_with (go_at_call 28; go_must (refine CY'.mono ?_; rintro e w7 ⟨rfl, hi, k7⟩; clear CY'))
      obtain ⟨rfl, rfl⟩ := hk2
      go_roundg 1
      case measure => omega
      case rel => exact ⟨E5, P1.pass n, E5.till, r1 + 1, .inr ⟨rfl, rfl⟩, fun _ => ⟨HY.out.1.busy, HY.out.2.2⟩, H6.out.yields k7 hi HY.out.2.1, Z6.out.trans k7 (fun x hx _ => .inl hx)⟩

end Go.Proofs.Ytimgmobmagpmlaa
