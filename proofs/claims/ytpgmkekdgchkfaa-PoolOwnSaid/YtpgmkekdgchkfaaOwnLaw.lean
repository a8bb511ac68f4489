/- PoolOwn: for all bytes the law returns true, and what was there is as it was. -/
import Derived.Test.YtpgmkekdgchkfaaKeep6
namespace Go.Proofs.Ytpgmkekdgchkfaa
open Go.RowKit

set_option maxRecDepth 100000 in
theorem own_long (A : Option Addr) (n c : Nat) (w : World) (hn : 300 < n) (hm : n ≤ 9223372036854775807) : Calls Try.prog 4 #[.slice A n c] w (TrueKept w) := by
  go_enter Try.func4, Try.ntmps4
  go_wp2_with (go_at_call 13; refine (keeps6 _).mono ?_; rintro e w1 ⟨rfl, hk1⟩)
  go_ret
  exact ⟨rfl, hk1⟩

def FillInv (g cap n : Nat) (w : World) (k : Nat) (i : Value) (wr : World) : Prop :=
  ∃ j : Nat, j + k = n ∧ i = .int .i64 j ∧ (∃ cur, Blk wr g cur 5 ∧ cur.length = cap) ∧ Keeps (fun x => x = g) w wr

set_option maxRecDepth 100000 in
theorem own_some (ad : Addr) (bs : Bytes) (c : Nat) (w : World) (hn : bs.length ≤ 300) (h0 : 0 < bs.length) (hcap : bs.length ≤ c) (hr : ∀ j u, (bcells bs)[j]? = some u → w.cell? (ad.add j) = some u) :
    Calls Try.prog 4 #[.slice (some ad) bs.length c] w (TrueKept w) := by
  obtain ⟨i0, hi0, hz0, hz1, hz2⟩ := info_parts Try.info5
  have hR := Lib.hid hr
  clear hr
  have h1 := Lib.hid (bcells_one bs)
  have hbl : Hid ((bcells bs).length = bs.length * 1) := by rw [Nat.mul_one]; exact bcells_length bs
  have hbl2 : Hid ((bcells bs).length = bs.length) := bcells_length bs
  go_enter Try.func4, Try.ntmps4
  go_wp2_with (go_at_call 13; refine (keeps6 _).mono ?_; rintro e w1 ⟨rfl, hk1⟩)
  go_wp2_with (first | (go_at_call 14; refine (new_any 3 _ 3 (by omega)).mono ?_; rintro e w2 ⟨p, F, rfl, hP, hF, hk⟩) | (at_builtin; refine wpList_app rfl (.tmp 19) (.tmp 20) 29 rfl 5 i0 (.int .u8 0) 1 1 Try.underlying29 hi0 hz0 hz1 hz2 rfl (by decide) (fun k => w2.heap.size ≤ k) (.slice (some ⟨w2.heap.size, 0, none⟩) 0 0) 0 [] rfl (OwnF.lit w2 [] 5 (by decide)) ad bs.length c (bcells bs) rfl hbl.out ?hnews h1.out h0 ?hm ?hb ?_))
  case hnews => exact news_keeps hR.out ((hk1.same hk).alloc _)
  case hm => omega
  case hb => omega
  intro g cap w3 ho hk3
  have hg1 : w2.heap.size ≤ g := (ho.2 g rfl).elim id (fun h => by omega)
  have hg2 : g < w3.heap.size := ho.lt rfl
  have hP3 : PoolAt w3 p F (List.replicate 3 ([], 0)) := (hP.alloc _).keeps hk3 (fun k hf h => by have := hP.lt k hf; simp [Value.ownBlock] at h; omega)
  have ho3 : OwnF w3 (fun k => k = g) 5 (.slice (some ⟨g, 0, none⟩) bs.length cap) (bcells bs) := by
    have ho := ho.toF
    try rw [Nat.zero_add] at ho
    try rw [List.nil_append] at ho
    exact ⟨ho.1, fun k hk => by simpa [Value.ownBlock] using hk.symm⟩
  have hn3 := ho3.slR
  have lt2 := hP.lt
  clear ho hP
  rcases hn3 with ⟨_, h, _⟩ | ⟨ad3, c3, he3, -, hr3⟩
  · cases h
  obtain ⟨rfl, rfl⟩ : (⟨g, 0, none⟩ : Addr) = ad3 ∧ cap = c3 := by simpa using he3
  clear he3
  have hr3 := Lib.hid hr3
  try rw [Nat.zero_add]
  go_wp2_with (go_at_call 16; refine (take_free hP3 0 [] bs ⟨g, 0, none⟩ cap rfl (fun j _ h => absurd h (Nat.not_lt_zero j)) h0 (by omega) hr3.out).mono ?_; rintro e w4 ⟨rfl, F4, hP4, hF4, hk4⟩)
  have hF4' : ∀ x, F4 x → x ≠ g := fun x hx => (hF4 x hx).elim (fun h => by have := lt2 x h; omega) (fun h => by omega)
  have hF4w : ∀ x, F4 x → w.heap.size ≤ x := fun x hx => by
    have := hk1.size; have := hk.size; have := hk3.size
    exact (hF4 x hx).elim (fun h => by have := hF x h; omega) (fun h => by simp at this; omega)
  have hgw : w.heap.size ≤ g := by have := hk1.size; have := hk.size; omega
  have K4 : Keeps Nothing w w4 := by
    have a := ((hk1.same hk).alloc (.cells #[] 5)).up hk3 (fun x hx => by have := hk1.size; have := hk.size; simp [Value.ownBlock] at hx; omega)
    exact a.up hk4 (fun x hx => by have := hF x hx; have := hk1.size; omega)
  have ho4 := ho3.keeps hk4 (fun k hk' h => by have := lt2 k h; omega)
  obtain ⟨cur, hcb, hcl, hcm⟩ : ∃ cur, Blk w4 g cur 5 ∧ cur.length = cap ∧ bs.length ≤ cap := by
    rcases ho4.blk with ⟨h, _⟩ | ⟨g', cap', cur, he, _, hb, hc, _, hl, _⟩
    · cases h
    · injection he with e1 _ e3
      injection e1 with e1
      injection e1 with e1
      subst e1 e3
      exact ⟨cur, hb, hl, by simpa using hc⟩
  have hcb := Lib.hid hcb
  have hcl := Lib.hid hcl
  clear hP3 ho3 hr3 ho4 hk3 hk4 hk1 hk hF hF4 lt2
  go_loopg [30] bs.length (fun n i wr => FillInv g cap bs.length w4 n i wr)
  case atStart => exact ⟨0, by omega, rfl, ⟨cur, hcb.out, hcl.out⟩, Keeps.refl _ _⟩
  case round =>
    obtain ⟨j, hj, rfl, ⟨cur', hb', hl'⟩, hk'⟩ := hrel
    have hbH := Lib.hid hb'
    have hlH := Lib.hid hl'
    by_cases hlt : j < bs.length
    · have hfz := hb'.frozen j
      obtain ⟨u, hu⟩ : ∃ u, cur'[j]? = some u := ⟨_, List.getElem?_eq_getElem (by omega)⟩
      have hcu := (hb'.cell j).trans hu
      clear hu hb' hl'
      go_wp2
      go_roundg (gk - 1)
      case measure => omega
      case rel => exact ⟨j + 1, by omega, by go_num, ⟨_, hbH.out.set j _, by rw [List.length_set]; exact hlH.out⟩, hk'.setCell (fun _ => rfl) _⟩
    · clear hb' hl'
      have hP5 : PoolAt wr p F4 ((List.replicate 3 ([], 0)).set 0 (bs, 1)) := hP4.keeps hk' hF4'
      have K5 : Keeps Nothing w wr := K4.up hk' (fun x hx => by omega)
      go_wp2_with (go_at_call 19; refine (get_some hP5 0 bs 1 rfl (by decide) (by omega)).mono ?_; rintro e w6 ⟨v, rfl, hv, hk6⟩; (obtain ⟨g8, cap8, cur8, rfl, hg8, hb8, hc8, -, hl8⟩ := hv.pos h0); clear hv; have hP6 : PoolAt w6 p F4 ((List.replicate 3 ([], 0)).set 0 (bs, 1)) := hP5.same hk6; have hlt5 := hP5.lt; clear hP5)
      have hF8 : ∀ x, F4 x → x ≠ g8 := fun x hx => by have := hlt5 x hx; omega
      have K6 : Keeps Nothing w w6 := K5.same hk6
      have hb8 := Lib.hid hb8
      have hl8 := Lib.hid hl8
      clear hk6 hlt5
      go_loopg [45] bs.length (fun n i wr => FillInv g8 cap8 bs.length w6 n i wr)
      case atStart => exact ⟨0, by omega, rfl, ⟨cur8, hb8.out, hl8.out⟩, Keeps.refl _ _⟩
      case round =>
        obtain ⟨j2, hj2, rfl, ⟨cur', hb', hl'⟩, hk'2⟩ := hrel
        have hbH2 := Lib.hid hb'
        have hlH2 := Lib.hid hl'
        by_cases hlt2 : j2 < bs.length
        · have hfz := hb'.frozen j2
          obtain ⟨u, hu⟩ : ∃ u, cur'[j2]? = some u := ⟨_, List.getElem?_eq_getElem (by omega)⟩
          have hcu := (hb'.cell j2).trans hu
          clear hu hb' hl'
          go_wp2
          go_roundg (gk - 1)
          case measure => omega
          case rel => exact ⟨j2 + 1, by omega, by go_num, ⟨_, hbH2.out.set j2 _, by rw [List.length_set]; exact hlH2.out⟩, hk'2.setCell (fun _ => rfl) _⟩
        · clear hb' hl'
          have hP7 : PoolAt wr p F4 ((List.replicate 3 ([], 0)).set 0 (bs, 1)) := hP6.keeps hk'2 hF8
          have K7 : Keeps Nothing w wr := K6.up hk'2 (fun x hx => by have := K5.size; omega)
          go_wp2_with (go_at_call 19; refine (get_some hP7 0 bs 1 rfl (by decide) (by omega)).mono ?_; rintro e w9 ⟨v9, rfl, hv9, hk9⟩; have q1 : (convert 29 9 v9).run Try.prog w9 = .ok (.string ⟨bs.toArray⟩) w9 := conv_str Try.underlying29 Try.underlying5 Try.underlying9 hv9.slR; have q2 : (convert 29 9 (.slice (some ad) bs.length c)).run Try.prog w9 = .ok (.string ⟨bs.toArray⟩) w9 := conv_str Try.underlying29 Try.underlying5 Try.underlying9 (.inr ⟨ad, c, by rw [hbl2.out], by rw [hbl2.out]; exact hcap, news_keeps hR.out (K7.same hk9)⟩))
          go_ret
          exact ⟨rfl, K7.same hk9⟩

def NoRound (w : World) (k : Nat) (i : Value) (wr : World) : Prop := k = 0 ∧ i = .int .i64 0 ∧ wr = w

set_option maxRecDepth 100000 in
theorem own_none (A : Option Addr) (c : Nat) (w : World) : Calls Try.prog 4 #[.slice A 0 c] w (TrueKept w) := by
  obtain ⟨i0, hi0, hz0, hz1, hz2⟩ := info_parts Try.info5
  go_enter Try.func4, Try.ntmps4
  go_wp2_with (go_at_call 13; refine (keeps6 _).mono ?_; rintro e w1 ⟨rfl, hk1⟩)
  go_wp2_with (first | (go_at_call 14; refine (new_any 3 _ 3 (by omega)).mono ?_; rintro e w2 ⟨p, F, rfl, hP, hF, hk⟩) | (at_builtin; refine wpList_app0 rfl (.tmp 19) (.tmp 20) 29 rfl 5 i0 1 Try.underlying29 hi0 (.slice (some ⟨w2.heap.size, 0, none⟩) 0 0) 0 [] rfl (OwnF.lit w2 [] 5 (by decide)).1 A c rfl ?_))
  go_wp2_with (go_at_call 16; refine (take_empty (hP.alloc _) 0 [] _ _ rfl (fun j _ h => absurd h (Nat.not_lt_zero j))).mono ?_; rintro e w4 ⟨rfl, F4, hP4, hF4, hk4⟩)
  have K4 : Keeps Nothing w w4 := ((hk1.same hk).alloc (.cells #[] 5)).up hk4 (fun x hx => by have := hF x hx; have := hk1.size; omega)
  go_loopg [30] 0 (fun n i wr => NoRound w4 n i wr)
  case atStart => exact ⟨rfl, rfl, rfl⟩
  case round =>
    obtain ⟨-, rfl, rfl⟩ := hrel
    go_wp2_with (go_at_call 19; refine (get_some hP4 0 [] 1 rfl (by decide) (by decide)).mono ?_; rintro e w6 ⟨v, rfl, hv, hk6⟩; (obtain ⟨A6, c6, rfl⟩ := hv.zero); clear hv; have hP6 : PoolAt w6 p F4 ((List.replicate 3 ([], 0)).set 0 ([], 1)) := hP4.same hk6; clear hP4)
    go_loopg [45] 0 (fun n i wr => NoRound w6 n i wr)
    case atStart => exact ⟨rfl, rfl, rfl⟩
    case round =>
      obtain ⟨-, rfl, rfl⟩ := hrel
      go_wp2_with (go_at_call 19; refine (get_some hP6 0 [] 1 rfl (by decide) (by decide)).mono ?_; rintro e w9 ⟨v9, rfl, hv9, hk9⟩; have q1 : (convert 29 9 v9).run Try.prog w9 = .ok (.string ⟨#[]⟩) w9 := conv_str Try.underlying29 Try.underlying5 Try.underlying9 hv9.slR; have q2 : (convert 29 9 (.slice A 0 c)).run Try.prog w9 = .ok (.string ⟨#[]⟩) w9 := conv_str (bs := []) Try.underlying29 Try.underlying5 Try.underlying9 (SlR.empty _ _ _))
      go_ret
      exact ⟨rfl, (K4.same hk6).same hk9⟩

end Go.Proofs.Ytpgmkekdgchkfaa
