/- The pool's functions, on: what loops, or makes memory. -/
import Derived.Test.YtpgmkekdgchkfaaPool
namespace Go.Proofs.Ytpgmkekdgchkfaa
open Go.RowKit

theorem drop_more {w : World} {p : Nat} {F : Nat → Prop} {ps : PSt} (hP : PoolAt w p F ps) (i : Nat) (bs : Bytes) (h : Nat) (hi : ps[i]? = some (bs, h + 2)) (hb : h ≤ 1000000000) :
    Calls Try.prog 18 #[.pointer (some ⟨p, 0, none⟩), .int .i64 i] w (Did (.int .i64 0) (fun w' => PoolAt w' p F (ps.set i (bs, h + 1))) w F) := by
  obtain ⟨q, cs, hP⟩ := hP
  have hil : i < ps.length := (List.getElem?_eq_some_iff.1 hi).1
  have hm := hP.many
  have hc := (hP.row.cell _).trans (hP.holds i bs _ hi)
  have hf := hP.row.frozen (i * 2 + 1)
  have C := at_some p q _ i ((h + 2 : Nat) : Int) w hm hil (by simp; omega) (hP.head.cell 0) hc
  have E := hP.setHolds (b := h + 1) hi (countP_set_same _ _ _ _ _ hi (by simp))
  have hk : Keeps F w (w.setCell ⟨q, i * 2 + 1, none⟩ (.int .i64 ((h + 1 : Nat) : Int))) := (Keeps.refl F w).setCell (fun _ => hP.fq) _
  have e : (((h + 2 : Nat) : Int) - 1) = ((h + 1 : Nat) : Int) := by omega
  generalize hx : ((h + 2 : Nat) : Int) = x at *
  generalize hy : ((h + 1 : Nat) : Int) = y at *
  have b1 : 2 ≤ x := by omega
  have b2 : x ≤ 2000000000 := by omega
  have t : (x - 1 == 0) = false := by simp; omega
  subst e
  clear hP hx hy
  go_enter Try.func18, Try.ntmps18
  go_wp2_with (go_at_call 49; refine C.mono ?_; rintro e w' ⟨rfl, rfl⟩)
  go_ret
  exact ⟨rfl, ⟨q, _, E⟩, hk⟩

theorem holdsOf_take_succ (ps : PSt) (k : Nat) (h : k < ps.length) : holdsOf (ps.take (k + 1)) = holdsOf (ps.take k) + ps[k].2 := by
  unfold holdsOf
  rw [List.take_succ_eq_append_getElem h, List.map_append, List.sum_append_nat]
  simp

theorem holdsOf_take_le (ps : PSt) (k : Nat) : holdsOf (ps.take k) ≤ holdsOf ps := by
  have : holdsOf ps = holdsOf (ps.take k) + holdsOf (ps.drop k) := by
    rw [holdsOf, holdsOf, holdsOf, ← List.sum_append_nat, ← List.map_append, List.take_append_drop]
  omega

def HoldsInv (w : World) (p : Nat) (F : Nat → Prop) (ps : PSt) (k : Nat) (s i : Value) (wr : World) : Prop :=
  ∃ j : Nat, j + k = ps.length ∧ i = .int .i64 j ∧ s = .int .i64 (holdsOf (ps.take j)) ∧ Keeps Nothing w wr

theorem OwnF.form {w : World} {F : Nat → Prop} {T : TypeId} {v : Value} {xs : List Value} (h : OwnF w F T v xs) : ∃ A n c, v = .slice A n c := by
  rcases h.1.2 with ⟨rfl, hn⟩ | ⟨g, cap, cur, rfl, r⟩
  · exact ⟨_, _, _, rfl⟩
  · exact ⟨_, _, _, rfl⟩

theorem holds_any {w : World} {p : Nat} {F : Nat → Prop} {ps : PSt} (hP : PoolAt w p F ps) (hb : holdsOf ps ≤ 1000000000000) :
    Calls Try.prog 22 #[.pointer (some ⟨p, 0, none⟩)] w (Did (.int .i64 (holdsOf ps)) (fun w' => PoolAt w' p F ps) w Nothing) := by
  have hA := Lib.hid hP
  obtain ⟨q, cs, hP⟩ := hP
  have hc := hP.head.cell 0
  have hm := hP.many
  have hr := Lib.hid hP
  clear hP
  go_enter Try.func22, Try.ntmps22
  go_wp2
  go_loopg [3, 11] (ps.length) (fun k s i wr => HoldsInv w p F ps k s i wr)
  case atStart => exact ⟨0, by omega, rfl, rfl, Keeps.refl _ _⟩
  case round =>
    obtain ⟨j, hj, rfl, rfl, hk⟩ := hrel
    have hH := Lib.hid hk
    have hl := holdsOf_take_le ps j
    by_cases hlt : j < ps.length
    · have hx : ps[j]? = some (ps[j].1, ps[j].2) := List.getElem?_eq_getElem hlt
      have hsum := Lib.hid (holdsOf_take_succ ps j hlt)
      have hle := holdsOf_take_le ps (j + 1)
      rw [hsum.out] at hle
      have hh := hr.out.holds j _ _ hx
      obtain ⟨v, hv, ho⟩ := hr.out.bytes j _ _ hx
      obtain ⟨va, vn, vc, rfl⟩ := ho.form
      have row := hr.out.row.keeps hk (fun h => h)
      have c1 := (row.cell _).trans hh
      have c0 := (row.cell _).trans hv
      generalize holdsOf (ps.take j) = S at *
      generalize ps[j].2 = x at *
      clear hh hv ho row hx hk
      go_wp2
      go_roundg (gk - 1)
      case measure => omega
      case rel => exact ⟨j + 1, by omega, by go_num, by rw [hsum.out]; go_num, hH.out.alloc _⟩
    · have hE : Hid (holdsOf (ps.take j) = holdsOf ps) := by
        rw [List.take_of_length_le (by omega)]; rfl
      generalize holdsOf (ps.take j) = S at *
      go_wp2
      go_ret
      exact ⟨ret_int (by have := hE.out; omega), hA.out.keeps hH.out (fun _ _ h => h), hH.out⟩

theorem Try.info5 : (Try.prog.info? 5).map (fun i => (i.zero, i.size, i.bytes)) = some (some (.int .u8 0), 1, 1) := by kernel_rfl
theorem Try.info93 : (Try.prog.info? 93).map (fun i => (i.zero, i.size, i.bytes)) = some (some (.agg #[.slice none 0 0, .int .i64 0]), 2, 32) := by kernel_rfl

theorem bcells_one (l : Bytes) : ∀ u ∈ bcells l, u.oneCell' = true := by
  intro u hu
  obtain ⟨x, _, rfl⟩ := List.mem_map.1 hu
  rfl

theorem OwnF.pos {w : World} {F : Nat → Prop} {T : TypeId} {v : Value} {bs : Bytes} (h : OwnF w F T v (bcells bs)) (h0 : 0 < bs.length) :
    ∃ g cap cur, v = .slice (some ⟨g, 0, none⟩) bs.length cap ∧ F g ∧ Blk w g cur T ∧ bs.length ≤ cap ∧ cap ≤ maxLen ∧ cur.length = cap := by
  rcases h.blk with ⟨rfl, hn⟩ | ⟨g, cap, cur, rfl, hF, hb, hc, hm, hl, _⟩
  · have := bcells_length bs
    rw [hn] at this
    simp at this
    omega
  · exact ⟨g, cap, cur, by rw [bcells_length], hF, hb, by simpa using hc, hm, hl⟩

theorem OwnF.zero {w : World} {F : Nat → Prop} {T : TypeId} {v : Value} (h : OwnF w F T v (bcells [])) : ∃ A c, v = .slice A 0 c := by
  rcases h.blk with ⟨rfl, hn⟩ | ⟨g, cap, cur, rfl, r⟩
  · exact ⟨_, _, rfl⟩
  · exact ⟨_, _, rfl⟩

theorem get_some {w : World} {p : Nat} {F : Nat → Prop} {ps : PSt} (hP : PoolAt w p F ps) (i : Nat) (bs : Bytes) (h : Nat) (hi : ps[i]? = some (bs, h)) (hh : 0 < h) (hlen : bs.length ≤ 140737488355328) :
    Calls Try.prog 19 #[.pointer (some ⟨p, 0, none⟩), .int .i64 i] w fun e w' => ∃ v, e = .returned (.tuple #[v, .int .i64 0]) ∧ OwnF w' (fun k => w.heap.size ≤ k) 5 v (bcells bs) ∧ Keeps Nothing w w' := by
  obtain ⟨i0, hi0, hz0, hz1, hz2⟩ := info_parts Try.info5
  obtain ⟨q, cs, hP⟩ := hP
  have hil : i < ps.length := (List.getElem?_eq_some_iff.1 hi).1
  have hc := (hP.row.cell _).trans (hP.holds i bs h hi)
  have C := at_some p q _ i h w hP.many hil (by simpa using (by omega : h ≠ 0)) (hP.head.cell 0) hc
  obtain ⟨v, hv, ho⟩ := hP.bytes i bs h hi
  have hcv := (hP.row.cell _).trans hv
  clear hP
  rcases ho.slR with ⟨c, rfl, hn⟩ | ⟨ad, c, rfl, -, hr⟩
  · have HB : Hid (bcells bs = []) := hn
    clear hn
    have ho2 := Lib.hid ho
    clear ho hv
    go_enter Try.func19, Try.ntmps19
    go_wp2_with (go_at_call 49; refine C.mono ?_; rintro e w' ⟨rfl, rfl⟩)
    go_ret2
    exact ⟨_, rfl, by rw [HB.out]; exact OwnF.nil _ _ _, Keeps.refl _ _⟩
  · have hr := Lib.hid hr
    have h1 := Lib.hid (bcells_one bs)
    have hbl : Hid ((bcells bs).length = bs.length) := bcells_length bs
    generalize bcells bs = xs at *
    rw [hbl.out] at hcv
    clear ho hv
    go_enter Try.func19, Try.ntmps19
    go_wp2_with (first | (go_at_call 49; refine C.mono ?_; rintro e w' ⟨rfl, rfl⟩) | (at_builtin; refine wpList_clone rfl _ 29 rfl 5 i0 (.int .u8 0) 1 Try.underlying29 hi0 hz0 hz1 hz2 rfl ad bs.length c xs rfl hbl.out hr.out h1.out ?hm ?hb ?_))
    case hm => unfold maxLen; omega
    case hb => omega
    intro v' w' ho hk
    have ho := Lib.hid ho
    go_wp2
    go_ret2
    exact ⟨_, rfl, ho.out, hk⟩

end Go.Proofs.Ytpgmkekdgchkfaa
