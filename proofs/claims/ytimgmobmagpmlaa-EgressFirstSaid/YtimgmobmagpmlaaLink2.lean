/- The link comes up, or goes down. When a port is to be asked next. A port that is made; a class that is shaped. A class is shaped: the walk. -/
import Derived.Test.YtimgmobmagpmlaaStart
namespace Go.Proofs.Ytimgmobmagpmlaa

section
open Go.RowKit

def Eg.gone (E : Eg) : List Int := allTo E.rs 8 ++ (if E.busy = true then [E.id] else [])
def Eg.linked (E : Eg) (up : Bool) : Eg := if E.up = up then E else { E with up := up, rs := E.rs.map emptied, busy := false, ps := E.gone.foldl dropP E.ps }
def Eg.linkN (E : Eg) (up : Bool) : Int := if E.up = up then 0 else (E.gone.length : Nat)

structure DropAt (w : World) (B : Nat) (G : Geo) (E : Eg) (l : List Int) (v : Value) (j : Nat) (wr : World) : Prop where
  eg : EgIn wr G { E with ps := (l.take j).foldl dropP E.ps }
  own : OwnF wr (fun k => B ≤ k) 3 v (icells l)
  keeps : Keeps (fun x => G.own x = 4) w wr

def DropInv (w : World) (B : Nat) (G : Geo) (E : Eg) (l : List Int) (v : Value) (k : Nat) (i : Value) (wr : World) : Prop := ∃ j : Nat, j + k = l.length ∧ i = .int .i64 (j : Nat) ∧ DropAt w B G E l v j wr

theorem allTo_le {w : World} {p : Nat} {F : Nat → Prop} {rs : List RSt} (h : RingAt w p F rs) : (allTo rs 8).length ≤ 8192 := by
  rw [allTo_length]
  have := h.total_le
  have := totalOf_take_le rs 8
  omega

set_option maxRecDepth 100000 in
set_option maxHeartbeats 8000000 in
theorem link_ok {w : World} {G : Geo} {E : Eg} (h : EgIn w G E) (hh : ∀ i, heldOf E.ps i ≤ 1000000000) (up : Bool) (now : Int) (hn : now ≤ 1000000000000000) :
    Calls Try.prog 11 #[.pointer (some ⟨G.p, 0, none⟩), .bool up, .int .i64 now] w (PushDid w G (E.linkN up) (E.linked up)) := by
  obtain ⟨i0, hi0, hz0, hz1, hz2⟩ := info_parts Try.info3
  have HE := Lib.hid h
  have b12 : w.cell? ⟨G.p, 12, none⟩ = some (.bool E.up) := h.blk.cell 12
  have g12 : w.frozen? ⟨G.p, 12, none⟩ = false := h.blk.frozen 12
  have HH := Lib.hid hh
  clear h hh
  by_cases hu : E.up = up
  · have e1 : E.linkN up = 0 := if_pos hu
    have e2 : E.linked up = E := if_pos hu
    rw [e1, e2]
    rw [hu] at b12
    clear hu e1 e2
    go_enter Try.func11, Try.ntmps11
    go_wp2_with fail
    all_goals go_ret
    all_goals exact ⟨rfl, Went.refl HE.out⟩
  · have e1 : E.linkN up = (E.gone.length : Nat) := if_neg hu
    have e2 : E.linked up = { E with up := up, rs := E.rs.map emptied, busy := false, ps := E.gone.foldl dropP E.ps } := if_neg hu
    rw [e1, e2]
    clear e1 e2
    have hne : (E.up == up) = false := by simpa using hu
    have HB1 : Hid (Blk (w.setCell ⟨G.p, 12, none⟩ (.bool up)) G.p (({ E with up := up } : Eg).cells G) 68) := HE.out.blk.set 12 _
    have HK1 := Lib.hid ((Keeps.refl (fun k => k = G.p) w).setCell (p := ⟨G.p, 12, none⟩) (fun _ => rfl) (.bool up))
    have HE1 : Hid (EgIn (w.setCell ⟨G.p, 12, none⟩ (.bool up)) G { E with up := up }) := HE.out.head HK1.out HB1.out rfl rfl rfl rfl HE.out.cnt8
    have HW1 : Hid (Went w G { E with up := up } (w.setCell ⟨G.p, 12, none⟩ (.bool up)) G) := Went.of HE1.out HK1.out (fun k hk => by subst hk; exact own_T (n := 1) (by decide) (by decide) _ HE.out.op)
    clear hu
    go_enter Try.func11, Try.ntmps11
    go_upto_region 4 with fail
    generalize (w.setCell ⟨G.p, 12, none⟩ (.bool up)) = w1 at *
    have C39 := flush_any HE1.out.ring
    have a1 : w1.cell? ⟨G.p, 1, none⟩ = some (.pointer (some ⟨G.rp, 0, none⟩)) := HE1.out.blk.cell 1
    clear b12 g12
    go_upto_region 5 with (go_at_call 39; refine C39.mono ?_; rintro e w2 ⟨v, rfl, ho, hR, k2⟩; clear C39)
    have HE2 := Lib.hid (HE1.out.rows k2 hR)
    have HW2 := Lib.hid (HW1.out.trans (Went.of HE2.out k2 (own_T (by decide) (by decide))))
    have hal := allTo_le HE1.out.ring
    have hal' : (allTo E.rs 8).length ≤ 8192 := hal
    have hsz1 : w.heap.size ≤ w1.heap.size := HK1.out.size
    have hsz2 : w1.heap.size ≤ w2.heap.size := k2.size
    have HSZ := Lib.hid (And.intro hsz1 hsz2)
    have b13 : w2.cell? ⟨G.p, 13, none⟩ = some (.bool E.busy) := HE2.out.blk.cell 13
    clear k2 hR a1 hal
    have ho : OwnF w2 (fun k => w1.heap.size ≤ k) 3 v (icells (allTo E.rs 8)) := ho
    obtain ⟨A0, c0, hv⟩ := ho.lenG
    subst hv
    rw [icells_length] at ho ⊢
    by_cases hb : E.busy = true
    · rw [hb] at b13
      have b15 : w2.cell? ⟨G.p, 15, none⟩ = some (.int .i64 E.id) := HE2.out.blk.cell 15
      have HB3 := Lib.hid (Blk.new w2 [.int .i64 E.id] 3)
      have HK3 := Lib.hid ((Keeps.refl Nothing w2).alloc (.cells #[.int .i64 E.id] 3))
      have hs3 : (w2.alloc (.cells #[.int .i64 E.id] 3)).heap.size = w2.heap.size + 1 := by simp
      have HE3 := Lib.hid (HE2.out.same HK3.out)
      have hO3 := ho.keeps HK3.out (fun _ _ h => h)
      have hgone : E.gone = allTo E.rs 8 ++ [E.id] := by unfold Eg.gone; rw [if_pos hb]
      have HG := Lib.hid hgone
      have HW3 := Lib.hid (HW2.out.same HK3.out)
      have HS3 := Lib.hid hs3
      clear ho hb hgone hs3
      have hnews : Hid (∀ (j : Nat) (u : Value), [Value.int .i64 E.id][j]? = some u → (w2.alloc (.cells #[.int .i64 E.id] 3)).cell? ((⟨w2.heap.size, 0, none⟩ : Addr).add j) = some u) := by
        intro j u hu
        have : (⟨w2.heap.size, 0, none⟩ : Addr).add j = ⟨w2.heap.size, j, none⟩ := by simp [Addr.add_lit]
        rw [this, HB3.out.cell j]
        exact hu
      have h1c : Hid (∀ u ∈ [Value.int .i64 E.id], u.oneCell' = true) := by
        intro u hu
        simp at hu
        subst hu
        rfl
      have hO3' : OwnS (w2.alloc (.cells #[.int .i64 E.id] 3)) (fun k => w1.heap.size ≤ k) 3 1 (.slice A0 (allTo E.rs 8).length c0) (allTo E.rs 8).length (icells (allTo E.rs 8)) := by
        have := hO3.toS
        rwa [icells_length] at this
      clear hO3
      go_wp2_with (at_builtin; go_loud (refine wpList_app rfl (.tmp 29) (.tmp 35) 22 rfl 3 i0 (.int .i64 0) 1 8 Try.underlying22 hi0 hz0 hz1 hz2 rfl (by decide) (fun k => w1.heap.size ≤ k) (.slice A0 (allTo E.rs 8).length c0) _ _ rfl hO3' ⟨w2.heap.size, 0, none⟩ 1 1 [.int .i64 E.id] rfl rfl hnews.out h1c.out (by decide) ?h63 ?hby ?_))
      case h63 => omega
      case hby => omega
      intro g4 cap4 w4 hO4 hk4
      have hE4 := HE3.out.keeps hk4 (fun k hk e => by have := hO3'.2 k e; have := HE.out.lt k hk; have := HSZ.out; omega)
      have hO4' : OwnF w4 (fun k => w.heap.size ≤ k) 3 (.slice (some ⟨g4, 0, none⟩) (allTo E.rs 8 ++ [E.id]).length cap4) (icells (allTo E.rs 8 ++ [E.id])) := by
        have := hO4.toF
        have e : icells (allTo E.rs 8) ++ [Value.int .i64 E.id] = icells (allTo E.rs 8 ++ [E.id]) := by simp [icells]
        rw [e] at this
        rw [List.length_append]
        exact this.mono (fun k hk => by have := HSZ.out; have := HS3.out; omega)
      have HO4 := Lib.hid hO4'
      have c13 : w4.cell? ⟨G.p, 13, none⟩ = some (.bool true) := by
        have := hE4.blk.cell 13
        have hb : E.busy = true := by
          have h1 := HE2.out.blk.cell 13
          rw [b13] at h1
          injection h1 with h1
          injection h1 with h1
          exact h1.symm
        rw [← hb]
        exact this
      have g13 : w4.frozen? ⟨G.p, 13, none⟩ = false := hE4.blk.frozen 13
      have HE4 := Lib.hid hE4
      have HK4 : Hid (Keeps (fun k => w.heap.size ≤ k) w2 w4) := (HK3.out.mono (G := fun k => w.heap.size ≤ k) (fun _ h _ => h.elim)).trans hk4 (fun k hk _ => by have := hO3'.2 k hk; have := HSZ.out; omega)
      have HW4 : Hid (Went w G { E with up := up, rs := E.rs.map emptied } w4 G) := ⟨HE4.out, Ext2.refl _ _, HW2.out.keeps.trans HK4.out (fun x hx hl => by omega)⟩
      clear hO4 hO4' hk4 hE4 hO3' b13 b15
      have HK5 := Lib.hid ((Keeps.refl (fun k => k = G.p) w4).setCell (p := ⟨G.p, 13, none⟩) (fun _ => rfl) (.bool false))
      have HE5 : Hid (EgIn (w4.setCell ⟨G.p, 13, none⟩ (.bool false)) G { E with up := up, rs := E.rs.map emptied, busy := false }) := HE4.out.head HK5.out (HE4.out.blk.set 13 _) rfl rfl rfl rfl HE4.out.cnt8
      have HW5 : Hid (Went w G { E with up := up, rs := E.rs.map emptied, busy := false } (w4.setCell ⟨G.p, 13, none⟩ (.bool false)) G) := HW4.out.trans (Went.of HE5.out HK5.out (fun k hk => by subst hk; exact own_T (n := 1) (by decide) (by decide) _ HE.out.op))
      have hO5 : OwnF (w4.setCell ⟨G.p, 13, none⟩ (.bool false)) (fun k => w.heap.size ≤ k) 3 (.slice (some ⟨g4, 0, none⟩) (allTo E.rs 8 ++ [E.id]).length cap4) (icells (allTo E.rs 8 ++ [E.id])) := HO4.out.keeps HK5.out (fun k hk e => by have := HE.out.lt k (by rw [e, HE.out.op]; decide); omega)
      have hl5 : (allTo E.rs 8 ++ [E.id]).length ≤ 8193 := by rw [List.length_append]; show _ + 1 ≤ _; omega
      obtain ⟨gl, hgl⟩ : ∃ gl, gl = allTo E.rs 8 ++ [E.id] := ⟨_, rfl⟩
      rw [← hgl] at hO5 hl5 HG
      have HGL := Lib.hid hgl
      have hglen : (allTo E.rs 8).length + 1 = gl.length := by rw [hgl, List.length_append]; rfl
      clear hgl HO4
      go_upto_region 8 with fail
      generalize (w4.setCell ⟨G.p, 13, none⟩ (.bool false)) = w5 at *
      clear c13 g13
      try rw [hglen]
      clear hglen

      have HO5 := Lib.hid hO5
      have HL5 := Lib.hid hl5
      clear hO5
      go_wp2_with fail
      go_loopg [42] (gl.length) (fun k i wr => DropInv w5 w.heap.size G { E with up := up, rs := E.rs.map emptied, busy := false } gl (.slice (some ⟨g4, 0, none⟩) gl.length cap4) k i wr)
      case atStart => exact ⟨0, by omega, rfl, ⟨HE5.out, HO5.out, Keeps.refl _ _⟩⟩
      case round =>
        obtain ⟨j, hj, rfl, hD⟩ := hrel
        have HD := Lib.hid hD
        clear hD
        by_cases hlt : j < (gl.length)
        · obtain ⟨x, hx⟩ : ∃ x, (gl)[j]? = some x := ⟨_, List.getElem?_eq_getElem hlt⟩
          have hcx : (icells (gl))[j]? = some (.int .i64 x) := by unfold icells; rw [List.getElem?_map, hx]; rfl
          have hr : SlR wr (.slice (some ⟨g4, 0, none⟩) gl.length cap4) (icells (gl)) := HD.out.own.slR
          have hrd : wr.cell? ((⟨g4, 0, none⟩ : Addr).add j) = some (.int .i64 x) := by
            rcases hr with ⟨c', hc, hn⟩ | ⟨ad, c', hc, hcl, hc2⟩
            · rw [hn] at hcx; simp at hcx
            · injection hc with hc _ _
              injection hc with hc
              rw [hc]
              exact hc2 j _ hcx
          have hadd : (⟨g4, 0, none⟩ : Addr).add j = ⟨g4, j, none⟩ := by simp [Addr.add_lit]
          rw [hadd] at hrd
          have a2 : wr.cell? ⟨G.p, 2, none⟩ = some (.pointer (some ⟨G.pp, 0, none⟩)) := HD.out.eg.blk.cell 2
          have C14 := drop_ok HD.out.eg.pool x (Nat.le_trans (heldOf_drops_le _ _ _) (HH.out x))
          have hle : (j : Int) < (gl.length : Nat) := by omega
          have ht : ((gl).take (j + 1)).foldl dropP E.ps = dropP (((gl).take j).foldl dropP E.ps) x := by rw [List.take_add_one, hx, List.foldl_append]; rfl
          have HT := Lib.hid ht
          clear hx hcx hr hadd ht
          go_wp2_with (go_at_call 14; refine C14.mono ?_; rintro e w6 ⟨rfl, hP6, k6⟩; clear C14)
          go_roundg (gk - 1)
          case measure => omega
          case rel =>
            refine ⟨j + 1, by omega, by go_num, ⟨?_, HD.out.own.keeps k6 (fun k hk e => by have := HE.out.lt k (by rw [e]; decide); have := HSZ.out; omega), HD.out.keeps.trans k6 (fun _ h _ => h)⟩⟩
            rw [HT.out]
            exact HD.out.eg.frames k6 hP6
        · obtain rfl : j = (gl.length) := by omega
          have hE7 := HD.out.eg
          rw [List.take_length] at hE7
          have HE7 := Lib.hid hE7
          have C40 := modes_ok hE7 now (by omega)
          clear hE7
          go_wp2_with (go_at_call 40; refine C40.mono ?_; rintro e w8 ⟨rfl, hE8, k8⟩; clear C40)
          go_ret
          refine ⟨by rw [HG.out]; rfl, ?_⟩
          rw [HG.out]
          have := (HW5.out.trans (Went.of HE7.out HD.out.keeps (own_T (by decide) (by decide)))).trans (Went.of hE8 k8 (own_T (by decide) (by decide)))
          exact this
  
    · have hb' : E.busy = false := by simpa using hb
      rw [hb'] at b13
      have hgone : E.gone = allTo E.rs 8 := by unfold Eg.gone; rw [if_neg hb, List.append_nil]
      have HG := Lib.hid hgone
      have HE5 : Hid (EgIn w2 G { E with up := up, rs := E.rs.map emptied, busy := false }) := by
        have := HE2.out
        show EgIn w2 G { E with up := up, rs := E.rs.map emptied, busy := false }
        rw [← hb']
        exact this
      have HW5 : Hid (Went w G { E with up := up, rs := E.rs.map emptied, busy := false } w2 G) := by
        have := HW2.out
        show Went w G { E with up := up, rs := E.rs.map emptied, busy := false } w2 G
        rw [← hb']
        exact this
      have hO5 : OwnF w2 (fun k => w.heap.size ≤ k) 3 (.slice A0 (allTo E.rs 8).length c0) (icells (allTo E.rs 8)) := ho.mono (fun k hk => by have := HSZ.out; omega)
      have hl5 : (allTo E.rs 8).length ≤ 8193 := by omega
      clear hb hb' hgone ho
      obtain ⟨gl, hgl⟩ : ∃ gl, gl = allTo E.rs 8 := ⟨_, rfl⟩
      rw [← hgl] at hO5 hl5 HG hal' ⊢
      clear hgl
      go_upto_region 8 with fail
      rcases hO5.blk with ⟨hv, hnil⟩ | ⟨g4, cap4, cur4, hv, -⟩
      · injection hv with h1 h2 h3
        have hgn : gl = [] := List.eq_nil_of_length_eq_zero h2
        subst h1 h3 hgn

        have HO5 := Lib.hid hO5
        have HL5 := Lib.hid hl5
        clear hO5
        go_wp2_with fail
        go_loopg [42] (([] : List Int).length) (fun k i wr => DropInv w2 w.heap.size G { E with up := up, rs := E.rs.map emptied, busy := false } ([] : List Int) (.slice none 0 0) k i wr)
        case atStart => exact ⟨0, by omega, rfl, ⟨HE5.out, HO5.out, Keeps.refl _ _⟩⟩
        case round =>
          obtain ⟨j, hj, rfl, hD⟩ := hrel
          have HD := Lib.hid hD
          clear hD
          by_cases hlt : j < (([] : List Int).length)
          · exact absurd hlt (Nat.not_lt_zero j)
          · obtain rfl : j = (([] : List Int).length) := by omega
            have hE7 := HD.out.eg
            rw [List.take_length] at hE7
            have HE7 := Lib.hid hE7
            have C40 := modes_ok hE7 now (by omega)
            clear hE7
            go_wp2_with (go_at_call 40; refine C40.mono ?_; rintro e w8 ⟨rfl, hE8, k8⟩; clear C40)
            go_ret
            refine ⟨by rw [HG.out]; rfl, ?_⟩
            rw [HG.out]
            have := (HW5.out.trans (Went.of HE7.out HD.out.keeps (own_T (by decide) (by decide)))).trans (Went.of hE8 k8 (own_T (by decide) (by decide)))
            exact this
    
      · injection hv with h1 h2 h3
        subst h1 h3
        clear h2

        have HO5 := Lib.hid hO5
        have HL5 := Lib.hid hl5
        clear hO5
        go_wp2_with fail
        go_loopg [42] (gl.length) (fun k i wr => DropInv w2 w.heap.size G { E with up := up, rs := E.rs.map emptied, busy := false } gl (.slice (some ⟨g4, 0, none⟩) gl.length c0) k i wr)
        case atStart => exact ⟨0, by omega, rfl, ⟨HE5.out, HO5.out, Keeps.refl _ _⟩⟩
        case round =>
          obtain ⟨j, hj, rfl, hD⟩ := hrel
          have HD := Lib.hid hD
          clear hD
          by_cases hlt : j < (gl.length)
          · obtain ⟨x, hx⟩ : ∃ x, (gl)[j]? = some x := ⟨_, List.getElem?_eq_getElem hlt⟩
            have hcx : (icells (gl))[j]? = some (.int .i64 x) := by unfold icells; rw [List.getElem?_map, hx]; rfl
            have hr : SlR wr (.slice (some ⟨g4, 0, none⟩) gl.length c0) (icells (gl)) := HD.out.own.slR
            have hrd : wr.cell? ((⟨g4, 0, none⟩ : Addr).add j) = some (.int .i64 x) := by
              rcases hr with ⟨c', hc, hn⟩ | ⟨ad, c', hc, hcl, hc2⟩
              · rw [hn] at hcx; simp at hcx
              · injection hc with hc _ _
                injection hc with hc
                rw [hc]
                exact hc2 j _ hcx
            have hadd : (⟨g4, 0, none⟩ : Addr).add j = ⟨g4, j, none⟩ := by simp [Addr.add_lit]
            rw [hadd] at hrd
            have a2 : wr.cell? ⟨G.p, 2, none⟩ = some (.pointer (some ⟨G.pp, 0, none⟩)) := HD.out.eg.blk.cell 2
            have C14 := drop_ok HD.out.eg.pool x (Nat.le_trans (heldOf_drops_le _ _ _) (HH.out x))
            have hle : (j : Int) < (gl.length : Nat) := by omega
            have ht : ((gl).take (j + 1)).foldl dropP E.ps = dropP (((gl).take j).foldl dropP E.ps) x := by rw [List.take_add_one, hx, List.foldl_append]; rfl
            have HT := Lib.hid ht
            clear hx hcx hr hadd ht
            go_wp2_with (go_at_call 14; refine C14.mono ?_; rintro e w6 ⟨rfl, hP6, k6⟩; clear C14)
            go_roundg (gk - 1)
            case measure => omega
            case rel =>
              refine ⟨j + 1, by omega, by go_num, ⟨?_, HD.out.own.keeps k6 (fun k hk e => by have := HE.out.lt k (by rw [e]; decide); have := HSZ.out; omega), HD.out.keeps.trans k6 (fun _ h _ => h)⟩⟩
              rw [HT.out]
              exact HD.out.eg.frames k6 hP6
          · obtain rfl : j = (gl.length) := by omega
            have hE7 := HD.out.eg
            rw [List.take_length] at hE7
            have HE7 := Lib.hid hE7
            have C40 := modes_ok hE7 now (by omega)
            clear hE7
            go_wp2_with (go_at_call 40; refine C40.mono ?_; rintro e w8 ⟨rfl, hE8, k8⟩; clear C40)
            go_ret
            refine ⟨by rw [HG.out]; rfl, ?_⟩
            rw [HG.out]
            have := (HW5.out.trans (Went.of HE7.out HD.out.keeps (own_T (by decide) (by decide)))).trans (Went.of hE8 k8 (own_T (by decide) (by decide)))
            exact this
    
end

section
open Go.RowKit

def earlier (wk t : Int) : Int := if 0 ≤ t ∧ (wk < 0 ∨ t < wk) then t else wk

def EarDid (w : World) (b : Nat) (v : Int) (e : Ending) (w' : World) : Prop := e = .returned (.tuple #[]) ∧ Blk w' b [.int .i64 v] 2 ∧ Keeps (fun k => k = b) w w'

set_option maxRecDepth 100000 in
theorem earlier_ok (w : World) (b : Nat) (wk t : Int) (hB : Blk w b [.int .i64 wk] 2) :
    Calls Try.prog 49 #[.int .i64 t, .pointer (some ⟨b, 0, none⟩)] w (EarDid w b (earlier wk t)) := by
  have HB := Lib.hid hB
  have s0 : w.cell? ⟨b, 0, none⟩ = some (.int .i64 wk) := hB.cell 0
  have f0 : w.frozen? ⟨b, 0, none⟩ = false := hB.frozen 0
  clear hB
  have hc : (0 ≤ t ∧ wk < 0 ∧ earlier wk t = t) ∨ (0 ≤ t ∧ decide (wk < 0) = false ∧ t < wk ∧ earlier wk t = t) ∨ (0 ≤ t ∧ decide (wk < 0) = false ∧ decide (t < wk) = false ∧ earlier wk t = wk) ∨ (decide (0 ≤ t) = false ∧ earlier wk t = wk) := by
    unfold earlier
    by_cases h1 : 0 ≤ t
    · by_cases h2 : wk < 0
      · exact .inl ⟨h1, h2, if_pos ⟨h1, .inl h2⟩⟩
      · by_cases h3 : t < wk
        · exact .inr (.inl ⟨h1, decide_eq_false h2, h3, if_pos ⟨h1, .inr h3⟩⟩)
        · exact .inr (.inr (.inl ⟨h1, decide_eq_false h2, decide_eq_false h3, if_neg (fun h => h.2.elim h2 h3)⟩))
    · exact .inr (.inr (.inr ⟨decide_eq_false h1, if_neg (fun h => h1 h.1)⟩))
  rcases hc with ⟨c1, c2, c3⟩ | ⟨c1, c2, c3, c4⟩ | ⟨c1, c2, c3, c4⟩ | ⟨c1, c2⟩
  · rw [c3]; clear c3
    go_enter Try.func49, Try.ntmps49
    go_wp2
    go_end0
    exact ⟨rfl, HB.out.set 0 _, (Keeps.refl (fun k => k = b) w).setCell (p := ⟨b, 0, none⟩) (fun _ => rfl) _⟩
  · rw [c4]; clear c4
    go_enter Try.func49, Try.ntmps49
    go_wp2
    go_end0
    exact ⟨rfl, HB.out.set 0 _, (Keeps.refl (fun k => k = b) w).setCell (p := ⟨b, 0, none⟩) (fun _ => rfl) _⟩
  · rw [c4]; clear c4
    go_enter Try.func49, Try.ntmps49
    go_wp2
    go_end0
    exact ⟨rfl, HB.out, Keeps.refl _ _⟩
  · rw [c2]; clear c2
    go_enter Try.func49, Try.ntmps49
    go_wp2
    go_end0
    exact ⟨rfl, HB.out, Keeps.refl _ _⟩

def Eg.wk1 (E : Eg) : Int := if E.S.waits = true then earlier (-1) E.S.due else -1

inductive Wakes (E : Eg) (now : Int) : Int → Prop
  | busy : E.busy = true → Wakes E now (earlier E.wk1 E.till)
  | down : E.busy = false → E.up = false → Wakes E now E.wk1
  | up (hs : List Hd) : E.busy = false → E.up = true → HeadsIs E now hs → Wakes E now (earlier E.wk1 (wakeOf now hs))

def WakeDid (w : World) (G : Geo) (E : Eg) (now : Int) (e : Ending) (w' : World) : Prop := ∃ t, e = .returned (.int .i64 t) ∧ Wakes E now t ∧ Went w G E w' G

set_option maxRecDepth 100000 in
set_option maxHeartbeats 8000000 in
theorem wake_ok {w : World} {G : Geo} {E : Eg} (h : EgIn w G E) {now : Int} (hk : EgOk E now) :
    Calls Try.prog 20 #[.pointer (some ⟨G.p, 0, none⟩), .int .i64 now] w (WakeDid w G E now) := by
  have hmf : ∀ (fn : Fn) (first cap : Array Value) (w : World), (Instr.makeFunc fn first cap).run Try.prog w = .ok (.func fn first cap) w := fun _ _ _ _ => rfl
  have HE := Lib.hid h
  have HOK := Lib.hid hk
  have hpl := h.blk.lt
  have nr : ∀ k, G.own k ≠ 0 → k ≠ w.heap.size := fun k hk e => by have := HE.out.lt k hk; omega
  have HB1 : Hid (Blk (w.alloc (.cells #[.int .i64 (-1)] 2)) w.heap.size [.int .i64 (-1)] 2) := Blk.new w _ 2
  have HK1 : Hid (Keeps Nothing w (w.alloc (.cells #[.int .i64 (-1)] 2))) := (Keeps.refl Nothing w).alloc _
  clear h hk
  go_enter Try.func20, Try.ntmps20
  go_upto_region 3 with fail
  generalize (w.alloc (.cells #[.int .i64 (-1)] 2)) = w1 at *
  have HE1 := Lib.hid (HE.out.same HK1.out)
  have a0 : w1.cell? ⟨G.p, 0, none⟩ = some (.pointer (some ⟨G.sp, 0, none⟩)) := HE1.out.blk.cell 0
  have C50 := waits_ok HE1.out.sched
  have HW1 : Hid (Went w G E w1 G) := (Went.refl HE.out).same HK1.out
  cases hw : E.S.waits with
  | true =>
    rw [hw] at C50
    have hk1 : E.wk1 = earlier (-1) E.S.due := if_pos hw
    have HK := Lib.hid hk1
    clear hw hk1
    go_upto_region 6 with (first
      | (go_at_call 50; refine C50.mono ?_; rintro e w2 ⟨rfl, k2⟩; clear C50; have C49 := earlier_ok w2 w.heap.size (-1) E.S.due (HB1.out.keeps k2 (fun h => h)))
      | (go_at_call 49; refine C49.mono ?_; rintro e w3 ⟨rfl, hB3, k3⟩; clear C49))
    rw [← HK.out] at hB3
    have HW3 := Lib.hid ((HW1.out.same k2).local k3 (Nat.le_refl _) (HE.out.own0 (Nat.le_refl _)))
    have HEx := Lib.hid HW3.out.at_
    have HBx := Lib.hid hB3
    have HWx := Lib.hid HW3.out
    have b12 : w3.cell? ⟨G.p, 12, none⟩ = some (.bool E.up) := HEx.out.blk.cell 12
    have b13 : w3.cell? ⟨G.p, 13, none⟩ = some (.bool E.busy) := HEx.out.blk.cell 13
    have b17 : w3.cell? ⟨G.p, 17, none⟩ = some (.int .i64 E.till) := HEx.out.blk.cell 17
    cases hb : E.busy with
    | true =>
      rw [hb] at b13
      have C49b := earlier_ok w3 w.heap.size _ E.till HBx.out
      have HBs := Lib.hid hb
      clear hb
      go_upto_region 8 with (go_at_call 49; refine C49b.mono ?_; rintro e w6 ⟨rfl, hB6, k6⟩; clear C49b)
      have c0 : w6.cell? ⟨w.heap.size, 0, none⟩ = _ := hB6.cell 0
      simp only [List.getElem?_cons_zero] at c0
      go_wp2_with fail
      go_ret
      exact ⟨_, rfl, .busy HBs.out, HWx.out.local k6 (Nat.le_refl _) (HE.out.own0 (Nat.le_refl _))⟩
    | false =>
      rw [hb] at b13
      have HBs := Lib.hid hb
      clear hb
      cases hu : E.up with
      | false =>
        rw [hu] at b12
        have HUs := Lib.hid hu
        clear hu
        have c0 : w3.cell? ⟨w.heap.size, 0, none⟩ = _ := HBx.out.cell 0
        simp only [List.getElem?_cons_zero] at c0
        go_wp2_with fail
        go_ret
        exact ⟨_, rfl, .down HBs.out HUs.out, HWx.out⟩
      | true =>
        rw [hu] at b12
        have HUs := Lib.hid hu
        clear hu
        have C47 := heads_ok HEx.out HOK.out
        go_upto_region 11 with (first
          | (go_at_call 47; refine C47.mono ?_; rintro e w6 ⟨hs, rfl, hHs, hE6, k6⟩; clear C47; have hB6 := HBx.out.keeps k6 (fun e => nr _ (by rw [e]; decide) rfl); have HW6 := Lib.hid (HWx.out.trans (Went.of hE6 k6 (own_T (by decide) (by decide)))); have HHs := Lib.hid hHs; have C51 := hwake_ok w6 hs hHs.1 now)
          | (go_at_call 51; refine C51.mono ?_; rintro e w7 ⟨rfl, k7⟩; clear C51; have hB7 := hB6.keeps k7 (fun h => h); have C49b := earlier_ok w7 w.heap.size _ (wakeOf now hs) hB7)
          | (go_at_call 49; refine C49b.mono ?_; rintro e w8 ⟨rfl, hB8, k8⟩; clear C49b))
        have c0 : w8.cell? ⟨w.heap.size, 0, none⟩ = _ := hB8.cell 0
        simp only [List.getElem?_cons_zero] at c0
        go_wp2_with fail
        go_ret
        exact ⟨_, rfl, .up hs HBs.out HUs.out HHs.out, (HW6.out.same k7).local k8 (Nat.le_refl _) (HE.out.own0 (Nat.le_refl _))⟩
  | false =>
    rw [hw] at C50
    have hk1 : E.wk1 = -1 := if_neg (by rw [hw]; decide)
    have HK := Lib.hid hk1
    clear hw hk1
    go_upto_region 6 with (go_at_call 50; refine C50.mono ?_; rintro e w2 ⟨rfl, k2⟩; clear C50)
    have hB3 := HB1.out.keeps k2 (fun h => h)
    rw [← HK.out] at hB3
    have HW3 := Lib.hid (HW1.out.same k2)
    have HEx := Lib.hid HW3.out.at_
    have HBx := Lib.hid hB3
    have HWx := Lib.hid HW3.out
    have b12 : w2.cell? ⟨G.p, 12, none⟩ = some (.bool E.up) := HEx.out.blk.cell 12
    have b13 : w2.cell? ⟨G.p, 13, none⟩ = some (.bool E.busy) := HEx.out.blk.cell 13
    have b17 : w2.cell? ⟨G.p, 17, none⟩ = some (.int .i64 E.till) := HEx.out.blk.cell 17
    cases hb : E.busy with
    | true =>
      rw [hb] at b13
      have C49b := earlier_ok w2 w.heap.size _ E.till HBx.out
      have HBs := Lib.hid hb
      clear hb
      go_upto_region 8 with (go_at_call 49; refine C49b.mono ?_; rintro e w6 ⟨rfl, hB6, k6⟩; clear C49b)
      have c0 : w6.cell? ⟨w.heap.size, 0, none⟩ = _ := hB6.cell 0
      simp only [List.getElem?_cons_zero] at c0
      go_wp2_with fail
      go_ret
      exact ⟨_, rfl, .busy HBs.out, HWx.out.local k6 (Nat.le_refl _) (HE.out.own0 (Nat.le_refl _))⟩
    | false =>
      rw [hb] at b13
      have HBs := Lib.hid hb
      clear hb
      cases hu : E.up with
      | false =>
        rw [hu] at b12
        have HUs := Lib.hid hu
        clear hu
        have c0 : w2.cell? ⟨w.heap.size, 0, none⟩ = _ := HBx.out.cell 0
        simp only [List.getElem?_cons_zero] at c0
        go_wp2_with fail
        go_ret
        exact ⟨_, rfl, .down HBs.out HUs.out, HWx.out⟩
      | true =>
        rw [hu] at b12
        have HUs := Lib.hid hu
        clear hu
        have C47 := heads_ok HEx.out HOK.out
        go_upto_region 11 with (first
          | (go_at_call 47; refine C47.mono ?_; rintro e w6 ⟨hs, rfl, hHs, hE6, k6⟩; clear C47; have hB6 := HBx.out.keeps k6 (fun e => nr _ (by rw [e]; decide) rfl); have HW6 := Lib.hid (HWx.out.trans (Went.of hE6 k6 (own_T (by decide) (by decide)))); have HHs := Lib.hid hHs; have C51 := hwake_ok w6 hs hHs.1 now)
          | (go_at_call 51; refine C51.mono ?_; rintro e w7 ⟨rfl, k7⟩; clear C51; have hB7 := hB6.keeps k7 (fun h => h); have C49b := earlier_ok w7 w.heap.size _ (wakeOf now hs) hB7)
          | (go_at_call 49; refine C49b.mono ?_; rintro e w8 ⟨rfl, hB8, k8⟩; clear C49b))
        have c0 : w8.cell? ⟨w.heap.size, 0, none⟩ = _ := hB8.cell 0
        simp only [List.getElem?_cons_zero] at c0
        go_wp2_with fail
        go_ret
        exact ⟨_, rfl, .up hs HBs.out HUs.out HHs.out, (HW6.out.same k7).local k8 (Nat.le_refl _) (HE.out.own0 (Nat.le_refl _))⟩
end

section
open Go.RowKit
open Classical in
/-- Where a new port lies. -/
noncomputable def newGeo (p sp rp pp : Nat) (FR F : Nat → Prop) : Geo :=
  { p := p, sp := sp, rp := rp, pp := pp, g := fun _ => Option.none, own := fun k => if k = p then 1 else if k = sp then 2 else if FR k then 3 else if F k then 4 else 0 }

def Sch.none : Sch := ⟨Lst.zero, Lst.zero, false, false, 0, 0, 0⟩

def Eg.new (speed : Int) (bl : List Int) (ps : PSt) : Eg :=
  { S := Sch.none, rs := bl.map fun b => ⟨bnd b, [], 0⟩, ps := ps, shaped := false, speed := speed, up := false, busy := false, cls := 0, id := 0, frm := 0, till := 0, cnt := List.replicate 8 0 }

def NewDid (w : World) (pp : Nat) (F : Nat → Prop) (E : Eg) (e : Ending) (w' : World) : Prop :=
  ∃ G, e = .returned (.tuple #[.pointer (some ⟨G.p, 0, none⟩), .int .i64 0]) ∧ G.pp = pp ∧ EgIn w' G E ∧ (∀ k, k < w.heap.size → G.own k ≠ 0 → F k) ∧ (fun k => G.own k = 4) = F ∧ Keeps Nothing w w'

set_option maxRecDepth 100000 in
theorem new_bad (w : World) (n : Int) (q : Option Addr) (h : ¬ SpeedOk n) (b0 b1 b2 b3 b4 b5 b6 b7 : Int) : Calls Try.prog 10 #[.int .i64 n, .agg #[.int .i64 b0, .int .i64 b1, .int .i64 b2, .int .i64 b3, .int .i64 b4, .int .i64 b5, .int .i64 b6, .int .i64 b7], .pointer q] w (fun e w' => e = .returned (.tuple #[.pointer none, .int .i64 30]) ∧ Keeps Nothing w w') := by
  have HK := Lib.hid ((Keeps.refl Nothing w).alloc (.cells #[.int .i64 b0, .int .i64 b1, .int .i64 b2, .int .i64 b3, .int .i64 b4, .int .i64 b5, .int .i64 b6, .int .i64 b7] 30))
  have C := fun w => speed_no w n h
  clear h
  go_enter Try.func10, Try.ntmps10
  go_wp2_with (go_at_call 37; refine (C _).mono ?_; rintro e w1 ⟨rfl, rfl⟩; clear C)
  go_ret2
  exact ⟨rfl, HK.out⟩

set_option maxRecDepth 100000 in
set_option maxHeartbeats 4000000 in
theorem new_eg {w : World} {pp : Nat} {F : Nat → Prop} {ps : PSt} (hP : PoolAt w pp F ps) (n : Int) (h : SpeedOk n) (b0 b1 b2 b3 b4 b5 b6 b7 : Int) :
    Calls Try.prog 10 #[.int .i64 n, .agg #[.int .i64 b0, .int .i64 b1, .int .i64 b2, .int .i64 b3, .int .i64 b4, .int .i64 b5, .int .i64 b6, .int .i64 b7], .pointer (some ⟨pp, 0, none⟩)] w (NewDid w pp F (Eg.new n [b0, b1, b2, b3, b4, b5, b6, b7] ps)) := by
  have HP := Lib.hid hP
  have C := fun w => speed_yes w n h
  have CR := fun w => new_ring b0 b1 b2 b3 b4 b5 b6 b7 w
  clear hP h
  go_enter Try.func10, Try.ntmps10
  go_upto_region 3 with (go_at_call 37; refine (C _).mono ?_; rintro e w1 ⟨rfl, rfl⟩; clear C)
  have hK1 : Hid (Keeps Nothing w ((w.alloc (.cells #[.int .i64 b0, .int .i64 b1, .int .i64 b2, .int .i64 b3, .int .i64 b4, .int .i64 b5, .int .i64 b6, .int .i64 b7] 30)).alloc (.cells Sch.none.cells.toArray 77))) := ((Keeps.refl _ _).alloc _).alloc _
  have hB1 : Hid (Blk ((w.alloc (.cells #[.int .i64 b0, .int .i64 b1, .int .i64 b2, .int .i64 b3, .int .i64 b4, .int .i64 b5, .int .i64 b6, .int .i64 b7] 30)).alloc (.cells Sch.none.cells.toArray 77)) (w.heap.size + 1) Sch.none.cells 77) := by
    have := Blk.new (w.alloc (.cells #[.int .i64 b0, .int .i64 b1, .int .i64 b2, .int .i64 b3, .int .i64 b4, .int .i64 b5, .int .i64 b6, .int .i64 b7] 30)) Sch.none.cells 77
    rwa [show (w.alloc (.cells #[.int .i64 b0, .int .i64 b1, .int .i64 b2, .int .i64 b3, .int .i64 b4, .int .i64 b5, .int .i64 b6, .int .i64 b7] 30)).heap.size = w.heap.size + 1 by simp] at this
  have hs1 : Hid (((w.alloc (.cells #[.int .i64 b0, .int .i64 b1, .int .i64 b2, .int .i64 b3, .int .i64 b4, .int .i64 b5, .int .i64 b6, .int .i64 b7] 30)).alloc (.cells Sch.none.cells.toArray 77)).heap.size = w.heap.size + 2) := by
    show _ = _
    simp
  change Hid (Keeps Nothing w ((w.alloc (.cells #[.int .i64 b0, .int .i64 b1, .int .i64 b2, .int .i64 b3, .int .i64 b4, .int .i64 b5, .int .i64 b6, .int .i64 b7] 30)).alloc (.cells #[.int .i64 0, .int .i64 0, .int .i64 0, .slice none 0 0, .int .i64 0, .int .i64 0, .int .i64 0, .slice none 0 0, .bool false, .bool false, .int .i64 0, .int .i64 0, .int .i64 0] 77))) at hK1
  change Hid (Blk ((w.alloc (.cells #[.int .i64 b0, .int .i64 b1, .int .i64 b2, .int .i64 b3, .int .i64 b4, .int .i64 b5, .int .i64 b6, .int .i64 b7] 30)).alloc (.cells #[.int .i64 0, .int .i64 0, .int .i64 0, .slice none 0 0, .int .i64 0, .int .i64 0, .int .i64 0, .slice none 0 0, .bool false, .bool false, .int .i64 0, .int .i64 0, .int .i64 0] 77)) (w.heap.size + 1) Sch.none.cells 77) at hB1
  change Hid (((w.alloc (.cells #[.int .i64 b0, .int .i64 b1, .int .i64 b2, .int .i64 b3, .int .i64 b4, .int .i64 b5, .int .i64 b6, .int .i64 b7] 30)).alloc (.cells #[.int .i64 0, .int .i64 0, .int .i64 0, .slice none 0 0, .int .i64 0, .int .i64 0, .int .i64 0, .slice none 0 0, .bool false, .bool false, .int .i64 0, .int .i64 0, .int .i64 0] 77)).heap.size = w.heap.size + 2) at hs1
  go_wp2_with (go_at_call 38; refine (CR _).mono ?_; rintro e w3 ⟨rp, FR, rfl, hR, hF, k3⟩; clear CR; generalize ((w.alloc (.cells #[.int .i64 b0, .int .i64 b1, .int .i64 b2, .int .i64 b3, .int .i64 b4, .int .i64 b5, .int .i64 b6, .int .i64 b7] 30)).alloc (.cells #[.int .i64 0, .int .i64 0, .int .i64 0, .slice none 0 0, .int .i64 0, .int .i64 0, .int .i64 0, .slice none 0 0, .bool false, .bool false, .int .i64 0, .int .i64 0, .int .i64 0] 77)) = w2 at *)
  go_ret2
  have k13 := hK1.out.same k3
  have hp4 := (PoolAt.keeps HP.out k13 (fun _ _ h => h))
  have hplt : ∀ k, F k → k < w.heap.size := by obtain ⟨_, _, hI⟩ := HP.out; exact hI.lt
  have hRlt := hR.lt
  have h23 := k3.size
  have hs1' := hs1.out
  obtain ⟨cs3, hcs⟩ : ∃ cs3 : List Value, cs3 = (Eg.new n [b0, b1, b2, b3, b4, b5, b6, b7] ps).cells (newGeo w3.heap.size (w.heap.size + 1) rp pp FR F) := ⟨_, rfl⟩
  have hkf : Keeps Nothing w3 (w3.alloc (.cells cs3.toArray 68)) := (Keeps.refl _ _).alloc _
  have hBf := Blk.new w3 cs3 68
  have hG1 : ∀ k, (newGeo w3.heap.size (w.heap.size + 1) rp pp FR F).own k = 3 ↔ FR k := by
    intro k
    unfold newGeo
    simp only
    by_cases e1 : k = w3.heap.size
    · rw [if_pos e1]; exact ⟨fun h => by omega, fun h => by have := hRlt k h; omega⟩
    · rw [if_neg e1]
      by_cases e2 : k = w.heap.size + 1
      · rw [if_pos e2]; exact ⟨fun h => by omega, fun h => by have := hF k h; omega⟩
      · rw [if_neg e2]
        by_cases e3 : FR k
        · rw [if_pos e3]; exact ⟨fun _ => e3, fun _ => rfl⟩
        · rw [if_neg e3]; refine ⟨fun h => ?_, fun h => absurd h e3⟩; split at h <;> omega
  have hG2 : ∀ k, (newGeo w3.heap.size (w.heap.size + 1) rp pp FR F).own k = 4 ↔ F k := by
    intro k
    unfold newGeo
    simp only
    by_cases e1 : k = w3.heap.size
    · rw [if_pos e1]; exact ⟨fun h => by omega, fun h => by have := hplt k h; omega⟩
    · rw [if_neg e1]
      by_cases e2 : k = w.heap.size + 1
      · rw [if_pos e2]; exact ⟨fun h => by omega, fun h => by have := hplt k h; omega⟩
      · rw [if_neg e2]
        by_cases e3 : FR k
        · rw [if_pos e3]; exact ⟨fun h => by omega, fun h => by have := hplt k h; have := hF k e3; omega⟩
        · rw [if_neg e3]
          by_cases e4 : F k
          · rw [if_pos e4]; exact ⟨fun _ => e4, fun _ => rfl⟩
          · rw [if_neg e4]; exact ⟨fun h => by omega, fun h => absurd h e4⟩
  have hne0 : ∀ k, (newGeo w3.heap.size (w.heap.size + 1) rp pp FR F).own k ≠ 0 → k = w3.heap.size ∨ k = w.heap.size + 1 ∨ FR k ∨ F k := by
    intro k
    unfold newGeo
    simp only
    by_cases e1 : k = w3.heap.size
    · exact fun _ => .inl e1
    · rw [if_neg e1]
      by_cases e2 : k = w.heap.size + 1
      · exact fun _ => .inr (.inl e2)
      · rw [if_neg e2]
        by_cases e3 : FR k
        · exact fun _ => .inr (.inr (.inl e3))
        · rw [if_neg e3]
          by_cases e4 : F k
          · exact fun _ => .inr (.inr (.inr e4))
          · rw [if_neg e4]; exact fun h => absurd rfl h
  refine ⟨newGeo w3.heap.size (w.heap.size + 1) rp pp FR F, rfl, rfl, ?_, ?_, funext fun k => propext (hG2 k), k13.same ((Keeps.refl _ _).alloc _)⟩
  · rw [hcs] at hkf hBf
    exact
      { blk := hBf
        sched := ⟨(hB1.out.keeps k3 (fun h => h)).alloc _, Lst.zero_ok _ _, Lst.zero_ok _ _⟩
        ring := by rw [show (fun k => (newGeo w3.heap.size (w.heap.size + 1) rp pp FR F).own k = 3) = FR from funext fun k => propext (hG1 k)]; exact hR.same hkf
        pool := by rw [show (fun k => (newGeo w3.heap.size (w.heap.size + 1) rp pp FR F).own k = 4) = F from funext fun k => propext (hG2 k)]; exact PoolAt.keeps hp4 hkf (fun _ _ h => h)
        sh := fun c k _ hg => by cases hg
        op := if_pos rfl
        os := by
          show (newGeo w3.heap.size (w.heap.size + 1) rp pp FR F).own (w.heap.size + 1) = 2
          unfold newGeo
          simp only
          rw [if_neg (by omega), if_pos trivial]
        lo := fun b o e => by cases e
        la := fun b o e => by cases e
        lt := fun k hk => by
          rcases hne0 k hk with h | h | h | h
          · rw [h]; exact hBf.lt
          · exact Nat.lt_of_lt_of_le (by omega : k < w3.heap.size) hkf.size
          · exact Nat.lt_of_lt_of_le (hRlt k h) hkf.size
          · exact Nat.lt_of_lt_of_le (by have := hplt k h; omega : k < w3.heap.size) hkf.size
        none := fun _ c _ => rfl
        cnt8 := rfl }
  · intro k hk h
    rcases hne0 k h with h | h | h | h
    · omega
    · omega
    · have := hF k h; omega
    · exact h

/-! ## Shape -/

def ShapeDid (w : World) (G : Geo) (E : Eg) (e : Ending) (w' : World) : Prop :=
  ∃ v E' G', e = .returned (.int .i64 v) ∧ (E' = E ∨ E' = { E with shaped := true }) ∧ Went w G E' w' G'

/-- Class c's shaper is another one. -/
def Geo.shape (G : Geo) (c : Nat) (k : Option Nat) : Geo :=
  { G with g := fun d => if d = c then k else G.g d, own := fun x => if some x = k then 5 else G.own x }

theorem cells_shape (G : Geo) (E : Eg) (c : Nat) (hc : c < 8) (k : Option Nat) (b : Bool) :
    (E.cells G).set (3 + c) (shv (fun d => if d = c then k else G.g d) c) = ({ E with shaped := b } : Eg).cells (G.shape c k) := by
  rcases c with _ | _ | _ | _ | _ | _ | _ | _ | c
  all_goals first | rfl | omega

theorem EgIn.shape {w w' : World} {G : Geo} {E : Eg} (h : EgIn w G E) {c : Nat} (hc : c < 8) {k : Option Nat} {b : Bool} (hk : Keeps (fun x => x = G.p) w w') (hb : Blk w' G.p ((E.cells G).set (3 + c) (shv (fun d => if d = c then k else G.g d) c)) 68)
    (hn : ∀ x, k = some x → ShAt w' x ∧ G.own x = 0 ∧ x < w'.heap.size) (hs : b = false → E.shaped = false ∧ k = Option.none) : EgIn w' (G.shape c k) { E with shaped := b } := by
  have ne : ∀ x, G.own x ≠ 1 → ¬ x = G.p := fun x hx e => hx (by rw [e]; exact h.op)
  have ow : ∀ x, G.own x ≠ 0 → (G.shape c k).own x = G.own x := fun x hx => by
    show (if some x = k then 5 else G.own x) = _
    rw [if_neg (fun e => hx (hn x e.symm).2.1)]
  have ow3 : ∀ n, n ≠ 0 → n ≠ 5 → (fun x => (G.shape c k).own x = n) = (fun x => G.own x = n) := fun n h0 h5 => funext fun x => propext (by
    show (if some x = k then 5 else G.own x) = n ↔ _
    by_cases e : some x = k
    · rw [if_pos e]; exact ⟨fun h => absurd h.symm h5, fun h => absurd ((hn x e.symm).2.1.symm.trans h).symm h0⟩
    · rw [if_neg e])
  exact
    { blk := by rw [cells_shape G E c hc k b] at hb; exact hb
      sched := ⟨h.sched.blk.keeps hk (ne _ (by rw [h.os]; decide)), ⟨h.sched.oper.1.keeps hk (fun b o e => ne _ (by rw [h.lo b o e]; decide)), h.sched.oper.2⟩, ⟨h.sched.admin.1.keeps hk (fun b o e => ne _ (by rw [h.la b o e]; decide)), h.sched.admin.2⟩⟩
      ring := by rw [ow3 3 (by decide) (by decide)]; exact h.ring.keeps hk (fun x hx => ne x (by rw [hx]; decide))
      pool := by rw [ow3 4 (by decide) (by decide)]; exact PoolAt.keeps h.pool hk (fun x hx => ne x (by rw [hx]; decide))
      sh := fun d x hd hx => by
        have hx : (if d = c then k else G.g d) = some x := hx
        by_cases e : d = c
        · rw [if_pos e] at hx
          exact ⟨(hn x hx).1, if_pos hx.symm⟩
        · rw [if_neg e] at hx
          have h5 := (h.sh d x hd hx).2
          exact ⟨(h.sh d x hd hx).1.keeps hk (ne x (by rw [h5]; decide)), by rw [ow x (by rw [h5]; decide)]; exact h5⟩
      op := by rw [show (G.shape c k).p = G.p from rfl, ow _ (by rw [h.op]; decide)]; exact h.op
      os := by rw [show (G.shape c k).sp = G.sp from rfl, ow _ (by rw [h.os]; decide)]; exact h.os
      lo := fun b o e => by rw [ow _ (by rw [h.lo b o e]; decide)]; exact h.lo b o e
      la := fun b o e => by rw [ow _ (by rw [h.la b o e]; decide)]; exact h.la b o e
      lt := fun x hx => by
        have hx : (if some x = k then 5 else G.own x) ≠ 0 := hx
        by_cases e : some x = k
        · exact (hn x e.symm).2.2
        · rw [if_neg e] at hx
          exact Nat.lt_of_lt_of_le (h.lt x hx) hk.size
      none := fun hf d hd => by
        obtain ⟨h1, h2⟩ := hs hf
        show (if d = c then k else G.g d) = Option.none
        by_cases e : d = c
        · rw [if_pos e]; exact h2
        · rw [if_neg e]; exact h.none h1 d hd
      cnt8 := h.cnt8 }
end

section
open Go.RowKit

set_option maxRecDepth 100000 in
set_option maxHeartbeats 4000000 in
theorem shape_ok {w : World} {G : Geo} {E : Eg} (h : EgIn w G E) (hsp : SpeedOk E.speed) (c idle now : Int) (hn : now ≤ 1000000000000000) :
    Calls Try.prog 36 #[.pointer (some ⟨G.p, 0, none⟩), .int .i64 c, .int .i64 idle, .int .i64 now] w (ShapeDid w G E) := by
  have HE := Lib.hid h
  have HS := Lib.hid hsp
  have b11 : w.cell? ⟨G.p, 11, none⟩ = some (.int .i64 E.speed) := h.blk.cell 11
  clear h hsp
  by_cases h1 : c < 0
  · go_enter Try.func36, Try.ntmps36
    go_wp2_with fail
    go_ret
    exact ⟨1, E, G, rfl, .inl rfl, Went.refl HE.out⟩
  · have h1' : decide (c < 0) = false := by simpa using h1
    by_cases h2 : 8 ≤ c
    · go_enter Try.func36, Try.ntmps36
      go_wp2_with fail
      go_ret
      exact ⟨1, E, G, rfl, .inl rfl, Went.refl HE.out⟩
    · have h2' : decide (8 ≤ c) = false := by simpa using h2
      obtain ⟨j, rfl⟩ : ∃ j : Nat, c = j := ⟨c.toNat, by omega⟩
      have hj : j < 8 := by omega
      have hji : (j : Int) < 8 := by omega
      have hgc : ∀ v, Blk v G.p (E.cells G) 68 → v.cell? ⟨G.p, 3 + j, none⟩ = some (shv G.g j) ∧ v.frozen? ⟨G.p, 3 + j, none⟩ = false := fun v hv => ⟨by
        rw [hv.cell (3 + j)]
        clear hv h1 h1' h2 h2' hji b11
        rcases j with _ | _ | _ | _ | _ | _ | _ | _ | j
        all_goals first | rfl | omega, hv.frozen _⟩
      by_cases h3 : idle = 0
      · subst h3
        obtain ⟨m1, m2⟩ := hgc w HE.out.blk
        have HK := Lib.hid ((Keeps.refl (fun k => k = G.p) w).setCell (p := ⟨G.p, 3 + j, none⟩) (fun _ => rfl) (.pointer none))
        have HB : Hid (Blk (w.setCell ⟨G.p, 3 + j, none⟩ (.pointer none)) G.p ((E.cells G).set (3 + j) (shv (fun d => if d = j then Option.none else G.g d) j)) 68) := by
          have := HE.out.blk.set (3 + j) (.pointer none)
          have e : shv (fun d => if d = j then Option.none else G.g d) j = .pointer none := by unfold shv; simp only [if_true]
          show Blk _ _ _ _
          rw [e]
          exact this
        have HE2 := Lib.hid (HE.out.shape hj (k := Option.none) (b := E.shaped) HK.out HB.out (fun x e => by cases e) (fun e => ⟨e, rfl⟩))
        go_enter Try.func36, Try.ntmps36
        go_wp2_with fail
        go_ret
        refine ⟨0, E, G.shape j Option.none, rfl, .inl rfl, HE2.out, ⟨rfl, rfl, rfl, rfl, fun k _ => (by show (if some k = Option.none then 5 else G.own k) = G.own k; rw [if_neg (fun e => by cases e)])⟩, HK.out.mono (fun k hk _ => by subst hk; exact own_T (n := 1) (by decide) (by decide) _ HE.out.op)⟩
      · have h3' : (idle == 0) = false := by simpa using h3
        have hsp : 10 ≤ E.speed ∧ E.speed ≤ 10000 := by have := HS.out; unfold SpeedOk at this; omega
        obtain ⟨sp0, sp1⟩ := hsp
        have C65 := fun p => snew_ok w idle p
        obtain ⟨spd, hspd⟩ : ∃ spd, spd = E.speed := ⟨_, rfl⟩
        rw [← hspd] at b11 sp0 sp1
        have HSP := Lib.hid hspd
        clear hspd
        have hwm : IntKind.i64.wrap (spd * 1000000) = spd * 1000000 := by rw [IntKind.wrap_i64]; omega
        go_enter Try.func36, Try.ntmps36
        go_upto_region 7 with (go_at_call 65; refine (C65 _).mono ?_; intro e w1 hX; rcases hX with ⟨rfl, rfl⟩ | ⟨rfl, hS, hk⟩)
        · go_wp2_with fail
          go_ret
          exact ⟨30, E, G, rfl, .inl rfl, Went.refl HE.out⟩
        · have C66 := smode_ok w1 w.heap.size 0 now hS (by decide) (by decide) (by omega)
          have HE1 := Lib.hid (HE.out.same hk)
          have HK1 := Lib.hid hk
          clear hS hk C65
          go_upto_region 10 with (go_at_call 66; refine C66.mono ?_; rintro e w2 ⟨rfl, hS2, k2⟩; clear C66)
          have ho0 := HE.out.own0 (Nat.le_refl w.heap.size)
          have HE2 := Lib.hid (HE1.out.keeps k2 (fun k hk e => hk (by rw [e]; exact ho0)))
          have HS2 := Lib.hid hS2
          have HK2 := Lib.hid k2
          clear hS2 k2
          obtain ⟨m1, m2⟩ := hgc w2 HE2.out.blk
          have HK := Lib.hid ((Keeps.refl (fun k => k = G.p) w2).setCell (p := ⟨G.p, 3 + j, none⟩) (fun _ => rfl) (.pointer (some ⟨w.heap.size, 0, none⟩)))
          have HB : Hid (Blk (w2.setCell ⟨G.p, 3 + j, none⟩ (.pointer (some ⟨w.heap.size, 0, none⟩))) G.p ((E.cells G).set (3 + j) (shv (fun d => if d = j then some w.heap.size else G.g d) j)) 68) := by
            have := HE2.out.blk.set (3 + j) (.pointer (some ⟨w.heap.size, 0, none⟩))
            have e : shv (fun d => if d = j then some w.heap.size else G.g d) j = .pointer (some ⟨w.heap.size, 0, none⟩) := by unfold shv; simp only [if_true]
            show Blk _ _ _ _
            rw [e]
            exact this
          have hpne : w.heap.size ≠ G.p := fun e => by have := HE.out.blk.lt; omega
          have HE3 : Hid (EgIn (w2.setCell ⟨G.p, 3 + j, none⟩ (.pointer (some ⟨w.heap.size, 0, none⟩))) (G.shape j (some w.heap.size)) { E with shaped := true }) :=
            HE2.out.shape hj (k := some w.heap.size) (b := true) HK.out HB.out (fun x e => by
              injection e with e
              subst e
              exact ⟨HS2.out.keeps HK.out hpne, ho0, Nat.lt_of_lt_of_le HS2.out.lt HK.out.size⟩) (fun e => by cases e)
          have HW3 : Hid (Went w G { E with shaped := true } (w2.setCell ⟨G.p, 3 + j, none⟩ (.pointer (some ⟨w.heap.size, 0, none⟩))) (G.shape j (some w.heap.size))) :=
            ⟨HE3.out, ⟨rfl, rfl, rfl, rfl, fun k hk => (by show (if some k = some w.heap.size then 5 else G.own k) = G.own k; rw [if_neg (fun e => by injection e with e; omega)])⟩,
              (((HK1.out.mono (G := G.T) (fun _ h _ => h.elim)).trans HK2.out (fun x hx hl => by omega)).trans HK.out (fun x hx _ => by subst hx; exact own_T (n := 1) (by decide) (by decide) _ HE.out.op))⟩
          clear hpne ho0
          go_upto_region 11 with fail
          generalize (w2.setCell ⟨G.p, 3 + j, none⟩ (.pointer (some ⟨w.heap.size, 0, none⟩))) = w3 at *
          have C40 : Calls Try.prog 40 #[.pointer (some ⟨G.p, 0, none⟩), .int .i64 now] w3 (ModesDid w3 (G.shape j (some w.heap.size)) { E with shaped := true }) := modes_ok HE3.out now (by omega)
          go_wp2_with (go_at_call 40; refine C40.mono ?_; rintro e w4 ⟨rfl, hE4, k4⟩; clear C40)
          go_ret
          exact ⟨0, _, _, rfl, .inr rfl, HW3.out.trans (Went.of hE4 k4 (own_T (by decide) (by decide)))⟩
end

end Go.Proofs.Ytimgmobmagpmlaa
