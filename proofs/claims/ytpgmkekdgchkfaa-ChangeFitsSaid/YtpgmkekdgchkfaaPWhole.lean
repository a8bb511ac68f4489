/- The document's pair: whether a whole cycle went by. -/
import Derived.Test.YtpgmkekdgchkfaaPState
namespace Go.Proofs.Ytpgmkekdgchkfaa
open Go.RowKit

def Par.whole (P : Par) (begun t : Int) : Bool :=
  if P.waits = true ∧ P.due ≤ t then decide (P.admin.cyc ≤ t - (if begun < P.due then P.due else begun))
  else if P.has = true then decide (P.oper.cyc ≤ t - (if begun < P.oper.base then P.oper.base else begun)) else false

theorem whole_eq {S : Sch} {P : Par} (h : Alike S P) (now begun t : Int) : P.whole begun t = (S.sys now).wholeR begun t := by
  have e : (S.sys now).wholeR begun t = if S.waits = true ∧ S.due ≤ t then decide (S.admin.cyc ≤ t - (if begun < S.due then S.due else begun)) else if S.has = true then decide (S.oper.cyc ≤ t - (if begun < S.oper.base then S.oper.base else begun)) else false := rfl
  rw [e]
  unfold Par.whole
  by_cases hw : P.waits = true ∧ P.due ≤ t
  · have hd := h.due hw.1
    have c : S.waits = true ∧ S.due ≤ t := ⟨by rw [h.waits]; exact hw.1, by rw [hd]; exact hw.2⟩
    rw [if_pos hw, if_pos c, hd, (h.admin hw.1).cyc]
  · have c : ¬ (S.waits = true ∧ S.due ≤ t) := fun x => by
      have x1 : P.waits = true := by rw [← h.waits]; exact x.1
      exact hw ⟨x1, by rw [← h.due x1]; exact x.2⟩
    rw [if_neg hw, if_neg c]
    by_cases hh : P.has = true
    · have c2 : S.has = true := by rw [h.has]; exact hh
      rw [if_pos hh, if_pos c2, (h.oper hh).cyc, (h.oper hh).base]
    · have c2 : ¬ S.has = true := by rw [h.has]; exact hh
      rw [if_neg hh, if_neg c2]

set_option maxRecDepth 100000 in
set_option maxHeartbeats 8000000 in
theorem pwhole_ok {w : World} {q : Nat} {P : Par} (h : ParAt w q P) (hg : ParGood P) (begun t : Int) (h0 : 0 ≤ begun) (h1 : begun ≤ t) (ht : t ≤ 9000000000000000000) :
    Calls Try.prog 67 #[.pointer (some ⟨q, 0, none⟩), .int .i64 begun, .int .i64 t] w (fun e w' => e = .returned (.bool (P.whole begun t)) ∧ Keeps Nothing w w') := by
  obtain ⟨⟨ob, oc, ox, oA, ocap, oes⟩, ⟨ab, ac, ax, aA, acap, aes⟩, has, waits, due⟩ := P
  have hB : Blk w q [.int .i64 ob, .int .i64 oc, .int .i64 ox, .slice oA oes.length ocap, .int .i64 ab, .int .i64 ac, .int .i64 ax, .slice aA aes.length acap, .bool has, .bool waits, .int .i64 due] 74 := h.blk
  have HG := Lib.hid hg
  have hql := hB.lt
  have s0 : w.cell? ⟨q, 0, none⟩ = some (.int .i64 ob) := hB.cell 0
  have s1 : w.cell? ⟨q, 1, none⟩ = some (.int .i64 oc) := hB.cell 1
  have s2 : w.cell? ⟨q, 2, none⟩ = some (.int .i64 ox) := hB.cell 2
  have s3 : w.cell? ⟨q, 3, none⟩ = some (.slice oA oes.length ocap) := hB.cell 3
  have s4 : w.cell? ⟨q, 4, none⟩ = some (.int .i64 ab) := hB.cell 4
  have s5 : w.cell? ⟨q, 5, none⟩ = some (.int .i64 ac) := hB.cell 5
  have s6 : w.cell? ⟨q, 6, none⟩ = some (.int .i64 ax) := hB.cell 6
  have s7 : w.cell? ⟨q, 7, none⟩ = some (.slice aA aes.length acap) := hB.cell 7
  have s8 : w.cell? ⟨q, 8, none⟩ = some (.bool has) := hB.cell 8
  have s9 : w.cell? ⟨q, 9, none⟩ = some (.bool waits) := hB.cell 9
  have s10 : w.cell? ⟨q, 10, none⟩ = some (.int .i64 due) := hB.cell 10
  clear h hB hg
  by_cases hwd : waits = true ∧ due ≤ t
  · obtain ⟨hw1, hd⟩ := hwd
    subst hw1
    have HV : Hid (Par.whole (⟨⟨ob, oc, ox, oA, ocap, oes⟩, ⟨ab, ac, ax, aA, acap, aes⟩, has, true, due⟩ : Par) begun t = decide (ac ≤ t - (if begun < due then due else begun))) := if_pos ⟨rfl, hd⟩
    have g := HG.out.admin rfl
    have g0 := g.b0
    have g1 := g.b1
    simp only at g0 g1
    clear g
    by_cases hb : begun < due
    · have HV2 := HV.out
      rw [if_pos hb] at HV2
      have HV3 := Lib.hid HV2
      have hwr : IntKind.i64.wrap (t - due) = t - due := by rw [IntKind.wrap_i64]; omega
      clear HV HV2
      go_enter Try.func67, Try.ntmps67
      go_wp2_with fail
      go_ret
      exact ⟨by rw [HV3.out]; rfl, by first | exact (Keeps.refl _ _).alloc _ | exact ((Keeps.refl _ _).alloc _).drew | exact ((Keeps.refl _ _).alloc _).drewN _⟩
    · have HV2 := HV.out
      rw [if_neg hb] at HV2
      have HV3 := Lib.hid HV2
      have hb' : decide (begun < due) = false := by simpa using hb
      have hwr : IntKind.i64.wrap (t - begun) = t - begun := by rw [IntKind.wrap_i64]; omega
      clear HV HV2
      go_enter Try.func67, Try.ntmps67
      go_wp2_with fail
      go_ret
      exact ⟨by rw [HV3.out]; rfl, by first | exact (Keeps.refl _ _).alloc _ | exact ((Keeps.refl _ _).alloc _).drew | exact ((Keeps.refl _ _).alloc _).drewN _⟩
  · have HV : Hid (Par.whole (⟨⟨ob, oc, ox, oA, ocap, oes⟩, ⟨ab, ac, ax, aA, acap, aes⟩, has, waits, due⟩ : Par) begun t = if has = true then decide (oc ≤ t - (if begun < ob then ob else begun)) else false) := if_neg hwd
    have HWD : Hid (waits = true → ¬ due ≤ t) := fun x y => hwd ⟨x, y⟩
    have hwf : waits = false ∨ (waits = true ∧ decide (due ≤ t) = false) := by
      cases waits
      · exact .inl rfl
      · exact .inr ⟨rfl, by simpa using HWD.out rfl⟩
    clear hwd HWD
    cases has
    · have HV3 := Lib.hid (HV.out.trans (if_neg (by decide)))
      clear HV
      rcases hwf with hwf | ⟨hwf, hwf2⟩
      · rw [hwf] at s9
        clear hwf
        go_enter Try.func67, Try.ntmps67
        go_wp2_with fail
        go_ret
        exact ⟨by rw [HV3.out]; try rfl, by first | exact (Keeps.refl _ _).alloc _ | exact ((Keeps.refl _ _).alloc _).drew | exact ((Keeps.refl _ _).alloc _).drewN _⟩
      · rw [hwf] at s9
        clear hwf
        go_enter Try.func67, Try.ntmps67
        go_wp2_with fail
        go_ret
        exact ⟨by rw [HV3.out]; try rfl, by first | exact (Keeps.refl _ _).alloc _ | exact ((Keeps.refl _ _).alloc _).drew | exact ((Keeps.refl _ _).alloc _).drewN _⟩
    · have HV2 := HV.out.trans (if_pos rfl)
      have g := HG.out.oper rfl
      have g0 := g.b0
      have g1 := g.b1
      simp only at g0 g1
      clear g HV
      by_cases hb : begun < ob
      · rw [if_pos hb] at HV2
        have hwr : IntKind.i64.wrap (t - ob) = t - ob := by rw [IntKind.wrap_i64]; omega
        have HV3 := Lib.hid HV2
        clear HV2
        rcases hwf with hwf | ⟨hwf, hwf2⟩
        · rw [hwf] at s9
          clear hwf
          go_enter Try.func67, Try.ntmps67
          go_wp2_with fail
          go_ret
          exact ⟨by rw [HV3.out]; try rfl, by first | exact (Keeps.refl _ _).alloc _ | exact ((Keeps.refl _ _).alloc _).drew | exact ((Keeps.refl _ _).alloc _).drewN _⟩
        · rw [hwf] at s9
          clear hwf
          go_enter Try.func67, Try.ntmps67
          go_wp2_with fail
          go_ret
          exact ⟨by rw [HV3.out]; try rfl, by first | exact (Keeps.refl _ _).alloc _ | exact ((Keeps.refl _ _).alloc _).drew | exact ((Keeps.refl _ _).alloc _).drewN _⟩
      · rw [if_neg hb] at HV2
        have hb' : decide (begun < ob) = false := by simpa using hb
        have hwr : IntKind.i64.wrap (t - begun) = t - begun := by rw [IntKind.wrap_i64]; omega
        have HV3 := Lib.hid HV2
        clear HV2
        rcases hwf with hwf | ⟨hwf, hwf2⟩
        · rw [hwf] at s9
          clear hwf
          go_enter Try.func67, Try.ntmps67
          go_wp2_with fail
          go_ret
          exact ⟨by rw [HV3.out]; try rfl, by first | exact (Keeps.refl _ _).alloc _ | exact ((Keeps.refl _ _).alloc _).drew | exact ((Keeps.refl _ _).alloc _).drewN _⟩
        · rw [hwf] at s9
          clear hwf
          go_enter Try.func67, Try.ntmps67
          go_wp2_with fail
          go_ret
          exact ⟨by rw [HV3.out]; try rfl, by first | exact (Keeps.refl _ _).alloc _ | exact ((Keeps.refl _ _).alloc _).drew | exact ((Keeps.refl _ _).alloc _).drewN _⟩

end Go.Proofs.Ytpgmkekdgchkfaa
