/- EgressFirst: the walk. -/
import Derived.Test.YtimgmobmagpmlaaPlay28
import Derived.Test.YtimgmobmagpmlaaYields
import Derived.Test.YtimgmobmagpmlaaActs
namespace Go.Proofs.Ytimgmobmagpmlaa
open Go.RowKit

def noList (a : EAct) : Bool := decide (a.kind < 2) || decide (3 < a.kind)

set_option maxRecDepth 100000 in
set_option maxHeartbeats 8000000 in
theorem first_ok {w : World} {A : Option Addr} {acts : List EAct} {c : Nat} (h : EActs w (fun k => k < w.heap.size) A acts c) (hl : acts.length ≤ 9223372036854775807) (speed : Int) :
    Calls Try.prog 6 #[.int .i64 speed, .slice A acts.length c] w (TrueKept w) := by
  obtain ⟨i0, hi0, hz0, hz1, hz2⟩ := info_parts (P := Try.prog) (e := 58) (z := .agg #[.int .i64 0, .int .i64 0, .int .i64 0, .int .i64 0, .int .i64 0, .int .i64 0, .int .i64 0, .slice none 0 0, .int .i64 0]) (size := 9) (bytes := 88) (by kernel_rfl)
  have hmf : ∀ (fn : Fn) (first cap : Array Value) (w : World), (Instr.makeFunc fn first cap).run Try.prog w = .ok (.func fn first cap) w := fun _ _ _ _ => rfl
  have HA := Lib.hid h
  clear h
  go_enter Try.func6, Try.ntmps6
  go_upto_region 3 with (go_at_call 8; refine (sends_ok _).mono ?_; rintro e w1 ⟨rfl, k1⟩)
  have HK1 := Lib.hid k1
  clear k1
  by_cases hs : SmE acts
  · have C21 := smallE_yes (HA.out.same HK1.out) hl hs
    have hl60 := hs.1
    go_upto_region 5 with (go_at_call 21; refine C21.mono ?_; rintro e w2 ⟨rfl, k2⟩; clear C21)
    have HK2 := Lib.hid (HK1.out.same k2)
    have HA2 := Lib.hid (HA.out.same HK2.out)
    clear k2 hs
    go_wp2_with fail
    go_loopg [5, 15] acts.length (fun k v i wr => SubInv w2 acts noList k v i wr)
    case atStart => exact ⟨0, by omega, rfl, OwnS.nil _ _ _ _, Keeps.refl _ _⟩
    case round =>
      obtain ⟨j, hj, rfl, ho, hk⟩ := hrel
      have HO := Lib.hid ho
      have HK := Lib.hid hk
      by_cases hlt : j < acts.length
      · obtain ⟨b, o, kind, later, cls, bytes, base, cyc, ext, A2, cap, es, rate, rfl, hact, a0, a1, a2, a3, a4, a5, a6, a7, a8, -, -⟩ := (HA2.out.same hk).at_ hlt
        have HT := Lib.hid (take_snoc9 hact)
        clear ho hk hact
        by_cases hk1 : kind < 2
        · have hk1' : decide (kind < 2) = true := decide_eq_true hk1
          have hyes : ((acts.take (j + 1)).filter noList) = ((acts.take j).filter noList) ++ [⟨kind, later, cls, bytes, base, cyc, ext, A2, cap, es, rate⟩] := by
            rw [HT.out, List.filter_append]; simp [noList, hk1]; try omega
          have HYES := Lib.hid hyes
          have hn : ((acts.take j).filter noList).length ≤ j := by
            have h1 := List.length_filter_le noList (acts.take j)
            have h2 := List.length_take_le j acts
            omega
          have hB : Blk ((wr.alloc (.cells #[.int .i64 kind, .int .i64 later, .int .i64 cls, .int .i64 bytes, .int .i64 base, .int .i64 cyc, .int .i64 ext, .slice A2 es.length cap, .int .i64 rate] 58)).alloc (.cells #[.int .i64 kind, .int .i64 later, .int .i64 cls, .int .i64 bytes, .int .i64 base, .int .i64 cyc, .int .i64 ext, .slice A2 es.length cap, .int .i64 rate] 58)) (wr.heap.size + 1) [.int .i64 kind, .int .i64 later, .int .i64 cls, .int .i64 bytes, .int .i64 base, .int .i64 cyc, .int .i64 ext, .slice A2 es.length cap, .int .i64 rate] 58 := by
            have := Blk.new (wr.alloc (.cells #[.int .i64 kind, .int .i64 later, .int .i64 cls, .int .i64 bytes, .int .i64 base, .int .i64 cyc, .int .i64 ext, .slice A2 es.length cap, .int .i64 rate] 58)) [.int .i64 kind, .int .i64 later, .int .i64 cls, .int .i64 bytes, .int .i64 base, .int .i64 cyc, .int .i64 ext, .slice A2 es.length cap, .int .i64 rate] 58
            simpa using this
          have HB := Lib.hid hB
          clear hB hyes
          go_wp2_with (at_builtin; refine wpList_app rfl (.tmp 27) (.tmp 29) 47 rfl 58 i0 (.agg #[.int .i64 0, .int .i64 0, .int .i64 0, .int .i64 0, .int .i64 0, .int .i64 0, .int .i64 0, .slice none 0 0, .int .i64 0]) 9 88 Try.underlying47 hi0 hz0 hz1 hz2 rfl (by decide) (fun k => w2.heap.size ≤ k) _ _ _ rfl ((HO.out.keeps (((Keeps.refl Nothing _).alloc _).alloc _) (fun _ _ h => h))) ⟨wr.heap.size + 1, 0, none⟩ 1 1 [.int .i64 kind, .int .i64 later, .int .i64 cls, .int .i64 bytes, .int .i64 base, .int .i64 cyc, .int .i64 ext, .slice A2 es.length cap, .int .i64 rate] rfl rfl (news9 HB.out rfl rfl) (fun u hu => acells_one [⟨kind, later, cls, bytes, base, cyc, ext, A2, cap, es, rate⟩] u (by simpa [acells, EAct.cells] using hu)) (by decide) ?h63 ?hby ?_)
          case h63 => omega
          case hby => omega
          intro g cap2 w3 ho3 hk3
          have HO3 := Lib.hid ho3
          have HK3 := Lib.hid (((HK.out.alloc (.cells #[.int .i64 kind, .int .i64 later, .int .i64 cls, .int .i64 bytes, .int .i64 base, .int .i64 cyc, .int .i64 ext, .slice A2 es.length cap, .int .i64 rate] 58)).alloc (.cells #[.int .i64 kind, .int .i64 later, .int .i64 cls, .int .i64 bytes, .int .i64 base, .int .i64 cyc, .int .i64 ext, .slice A2 es.length cap, .int .i64 rate] 58)).up hk3 (fun k hk => HO.out.2 k hk))
          clear ho3 hk3 HB HO
          go_wp2_with fail
          go_roundg (gk - 1)
          case measure => omega
          case rel =>
            refine ⟨j + 1, by omega, by go_num, ?_, HK3.out⟩
            rw [HYES.out, acells_app, List.length_append]
            have h := HO3.out.mono (G := fun k => w2.heap.size ≤ k) (fun k hk => by
              have := HK.out.size
              rcases hk with hk | hk
              · exact hk
              · omega)
            simpa [acells, EAct.cells] using h
        · have hk1' : decide (kind < 2) = false := decide_eq_false hk1
          by_cases hk3 : 3 < kind
          · have hk2 : decide (3 < kind) = true := decide_eq_true hk3
            have hyes : ((acts.take (j + 1)).filter noList) = ((acts.take j).filter noList) ++ [⟨kind, later, cls, bytes, base, cyc, ext, A2, cap, es, rate⟩] := by
              rw [HT.out, List.filter_append]; simp [noList, hk3]; try omega
            have HYES := Lib.hid hyes
            have hn : ((acts.take j).filter noList).length ≤ j := by
              have h1 := List.length_filter_le noList (acts.take j)
              have h2 := List.length_take_le j acts
              omega
            have hB : Blk ((wr.alloc (.cells #[.int .i64 kind, .int .i64 later, .int .i64 cls, .int .i64 bytes, .int .i64 base, .int .i64 cyc, .int .i64 ext, .slice A2 es.length cap, .int .i64 rate] 58)).alloc (.cells #[.int .i64 kind, .int .i64 later, .int .i64 cls, .int .i64 bytes, .int .i64 base, .int .i64 cyc, .int .i64 ext, .slice A2 es.length cap, .int .i64 rate] 58)) (wr.heap.size + 1) [.int .i64 kind, .int .i64 later, .int .i64 cls, .int .i64 bytes, .int .i64 base, .int .i64 cyc, .int .i64 ext, .slice A2 es.length cap, .int .i64 rate] 58 := by
              have := Blk.new (wr.alloc (.cells #[.int .i64 kind, .int .i64 later, .int .i64 cls, .int .i64 bytes, .int .i64 base, .int .i64 cyc, .int .i64 ext, .slice A2 es.length cap, .int .i64 rate] 58)) [.int .i64 kind, .int .i64 later, .int .i64 cls, .int .i64 bytes, .int .i64 base, .int .i64 cyc, .int .i64 ext, .slice A2 es.length cap, .int .i64 rate] 58
              simpa using this
            have HB := Lib.hid hB
            clear hB hyes
            go_wp2_with (at_builtin; refine wpList_app rfl (.tmp 27) (.tmp 29) 47 rfl 58 i0 (.agg #[.int .i64 0, .int .i64 0, .int .i64 0, .int .i64 0, .int .i64 0, .int .i64 0, .int .i64 0, .slice none 0 0, .int .i64 0]) 9 88 Try.underlying47 hi0 hz0 hz1 hz2 rfl (by decide) (fun k => w2.heap.size ≤ k) _ _ _ rfl ((HO.out.keeps (((Keeps.refl Nothing _).alloc _).alloc _) (fun _ _ h => h))) ⟨wr.heap.size + 1, 0, none⟩ 1 1 [.int .i64 kind, .int .i64 later, .int .i64 cls, .int .i64 bytes, .int .i64 base, .int .i64 cyc, .int .i64 ext, .slice A2 es.length cap, .int .i64 rate] rfl rfl (news9 HB.out rfl rfl) (fun u hu => acells_one [⟨kind, later, cls, bytes, base, cyc, ext, A2, cap, es, rate⟩] u (by simpa [acells, EAct.cells] using hu)) (by decide) ?h63 ?hby ?_)
            case h63 => omega
            case hby => omega
            intro g cap2 w3 ho3 hk3
            have HO3 := Lib.hid ho3
            have HK3 := Lib.hid (((HK.out.alloc (.cells #[.int .i64 kind, .int .i64 later, .int .i64 cls, .int .i64 bytes, .int .i64 base, .int .i64 cyc, .int .i64 ext, .slice A2 es.length cap, .int .i64 rate] 58)).alloc (.cells #[.int .i64 kind, .int .i64 later, .int .i64 cls, .int .i64 bytes, .int .i64 base, .int .i64 cyc, .int .i64 ext, .slice A2 es.length cap, .int .i64 rate] 58)).up hk3 (fun k hk => HO.out.2 k hk))
            clear ho3 hk3 HB HO
            go_wp2_with fail
            go_roundg (gk - 1)
            case measure => omega
            case rel =>
              refine ⟨j + 1, by omega, by go_num, ?_, HK3.out⟩
              rw [HYES.out, acells_app, List.length_append]
              have h := HO3.out.mono (G := fun k => w2.heap.size ≤ k) (fun k hk => by
                have := HK.out.size
                rcases hk with hk | hk
                · exact hk
                · omega)
              simpa [acells, EAct.cells] using h
          · skip
            have hno : ((acts.take (j + 1)).filter noList) = ((acts.take j).filter noList) := by
              rw [HT.out, List.filter_append]; simp [noList]; omega
            have HNO := Lib.hid hno
            have hk2 : decide (3 < kind) = false := decide_eq_false (by omega)
            clear hno
            go_wp2_with fail
            go_roundg (gk - 1)
            case measure => omega
            case rel =>
              refine ⟨j + 1, by omega, by go_num, ?_, HK.out.alloc _⟩
              rw [HNO.out]
              exact HO.out.keeps ((Keeps.refl Nothing _).alloc _) (fun _ _ h => h)
      · obtain rfl : j = acts.length := by omega
        have ho' := ho
        rw [List.take_length] at ho'
        have hsub : (acts.filter noList).length ≤ 60 := Nat.le_trans (List.length_filter_le _ _) hl60
        obtain ⟨B, cb, rfl, hB⟩ := EActs.ofS (N := fun k => k < wr.heap.size) ho' (fun k _ hk => hk) (fun a ha => by
          obtain ⟨n, hn⟩ := List.mem_iff_getElem?.1 (List.mem_filter.1 ha).1
          obtain ⟨h1, h2⟩ := (HA2.out.same hk).ents hn
          exact ⟨h1, fun h0 b o e => by have := h2 h0 b o e; have := HK2.out.size; have := hk.size; omega⟩)
        have HSB := Lib.hid hB
        have HSL := Lib.hid hsub
        clear ho ho' hB hk hsub
        have HSZ := Lib.hid (HK2.out.same HK.out).size
        have C28 := play28 (w := wr) (F := Nothing) (N := fun k => k < wr.heap.size) (nl := False) (ns := True) (speed := speed) y28 (fun _ _ _ _ _ => trivial) trivial (fun k x => x.elim) (fun k hk => ⟨hk, fun x => x⟩) HSB.out HSL.out (fun x => x.elim)
          (fun _ a ha => by have := (List.mem_filter.1 ha).2; simp [noList] at this; omega)
        go_wp2_with (go_at_call 22; refine C28.mono ?_; rintro e w5 ⟨rfl, k5⟩; clear C28)
        go_ret
        exact ⟨rfl, (HK2.out.same HK.out).same k5⟩
  · have C21 := smallE_no (HA.out.same HK1.out) hl hs
    clear hs
    go_wp2_with (go_at_call 21; refine C21.mono ?_; rintro e w2 ⟨rfl, k2⟩; clear C21)
    go_ret
    exact ⟨rfl, HK1.out.same k2⟩

end Go.Proofs.Ytimgmobmagpmlaa
