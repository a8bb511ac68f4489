/- The rows of a port: New. -/
import Derived.Test.YtpgmkekdgchkfaaRing3
namespace Go.Proofs.Ytpgmkekdgchkfaa
open Go.RowKit

def bnd (b : Int) : Nat := (min (max b 0) 1024).toNat
theorem bnd_le (b : Int) : bnd b ≤ 1024 := by unfold bnd; omega

structure NewAt (bl : List Int) (w : World) (p j : Nat) (cs : List Value) (gs : Nat → Nat) (wr : World) : Prop where
  head : Blk wr p cs 100
  size : cs.length = 32
  made : ∀ l, l < j → ∀ b, bl[l]? = some b → cs[l * 4]? = some (.slice (some ⟨gs l, 0, none⟩) (bnd b) (bnd b)) ∧ Blk wr (gs l) (List.replicate (bnd b) (.int .i64 0)) 3 ∧ p < gs l
  inj : ∀ l m, l < j → m < j → gs l = gs m → l = m
  rest : ∀ l, j ≤ l → l < 8 → cs[l * 4]? = some (.slice none 0 0)
  zero : ∀ l, l < 8 → cs[l * 4 + 1]? = some (.int .i64 0) ∧ cs[l * 4 + 2]? = some (.int .i64 0) ∧ cs[l * 4 + 3]? = some (.int .i64 0)
  keeps : Keeps Nothing w wr
  own : w.heap.size ≤ p

def NewInv (bl : List Int) (w : World) (p : Nat) (k : Nat) (i : Value) (wr : World) : Prop := ∃ j cs gs, j + k = 8 ∧ i = .int .i64 (j : Nat) ∧ NewAt bl w p j cs gs wr

def MadeRing (bl : List Int) (w : World) (e : Ending) (w' : World) : Prop :=
  ∃ p F, e = .returned (.pointer (some ⟨p, 0, none⟩)) ∧ RingAt w' p F (bl.map fun b => ⟨bnd b, [], 0⟩) ∧ (∀ x, F x → w.heap.size ≤ x) ∧ Keeps Nothing w w'

theorem NewAt.step {bl : List Int} {w : World} {p j : Nat} {cs : List Value} {gs : Nat → Nat} {wr : World} (h : NewAt bl w p j cs gs wr) (hj : j < 8) (b : Int) (hb : bl[j]? = some b) {w' : World} (g : Nat) (hg : wr.heap.size ≤ g)
    (hB : Blk w' g (List.replicate (bnd b) (.int .i64 0)) 3) (hH : Blk w' p (cs.set (j * 4) (.slice (some ⟨g, 0, none⟩) (bnd b) (bnd b))) 100) (hk : Keeps (fun x => x = p) wr w') :
    NewAt bl w p (j + 1) (cs.set (j * 4) (.slice (some ⟨g, 0, none⟩) (bnd b) (bnd b))) (fun l => if l = j then g else gs l) w' := by
  have hpl := h.head.lt
  refine ⟨hH, by simpa using h.size, ?_, ?_, ?_, ?_, h.keeps.up hk (fun x hx => by have := h.own; omega), h.own⟩
  · intro l hl b' hb'
    by_cases e : l = j
    · subst e
      rw [hb] at hb'
      injection hb' with hb'
      subst hb'
      simp only [if_true]
      exact ⟨List.getElem?_set_self (by rw [h.size]; omega), hB, by omega⟩
    · simp only [if_neg e]
      obtain ⟨h1, h2, h3⟩ := h.made l (by omega) b' hb'
      exact ⟨by rw [List.getElem?_set_ne (by omega)]; exact h1, h2.keeps hk (fun e => by omega), h3⟩
  · intro l m hl hm he
    by_cases e1 : l = j <;> by_cases e2 : m = j
    · omega
    · rw [if_pos e1, if_neg e2] at he
      exfalso
      cases hb' : bl[m]? with
      | none =>
        have := List.getElem?_eq_none_iff.1 hb'
        have := (List.getElem?_eq_some_iff.1 hb).1
        omega
      | some b' =>
        have := (h.made m (by omega) b' hb').2.1.lt
        omega
    · rw [if_neg e1, if_pos e2] at he
      exfalso
      cases hb' : bl[l]? with
      | none =>
        have := List.getElem?_eq_none_iff.1 hb'
        have := (List.getElem?_eq_some_iff.1 hb).1
        omega
      | some b' =>
        have := (h.made l (by omega) b' hb').2.1.lt
        omega
    · rw [if_neg e1, if_neg e2] at he
      exact h.inj l m (by omega) (by omega) he
  · intro l hl hl8
    rw [List.getElem?_set_ne (by omega)]
    exact h.rest l (by omega) hl8
  · intro l hl
    obtain ⟨h1, h2, h3⟩ := h.zero l hl
    exact ⟨by rw [List.getElem?_set_ne (by omega)]; exact h1, by rw [List.getElem?_set_ne (by omega)]; exact h2, by rw [List.getElem?_set_ne (by omega)]; exact h3⟩

theorem NewAt.fin {bl : List Int} {w : World} {p : Nat} {cs : List Value} {gs : Nat → Nat} {wr : World} (h : NewAt bl w p 8 cs gs wr) (hbl : bl.length = 8) :
    RingAt wr p (fun x => p ≤ x ∧ x < wr.heap.size) (bl.map fun b => ⟨bnd b, [], 0⟩) := by
  have hb : ∀ i, i < 8 → ∃ b, bl[i]? = some b := fun i hi => ⟨_, List.getElem?_eq_getElem (by omega)⟩
  refine ⟨cs, gs, fun _ => 0, fun i => List.replicate (bnd (bl.getD i 0)) (.int .i64 0), ⟨Nat.le_refl _, h.head.lt⟩, ?_, fun k hk => hk.2, h.inj, h.head, h.size, by simpa using hbl, ?_, ?_⟩
  · intro i hi
    obtain ⟨b, hb⟩ := hb i hi
    obtain ⟨-, h2, h3⟩ := h.made i hi b hb
    exact ⟨Nat.le_of_lt h3, h2.lt⟩
  · intro i r hr
    simp only [List.getElem?_map, Option.map_eq_some_iff] at hr
    obtain ⟨b, hbi, rfl⟩ := hr
    have hi : i < 8 := by have := (List.getElem?_eq_some_iff.1 hbi).1; omega
    obtain ⟨h1, h2, h3⟩ := h.made i hi b hbi
    obtain ⟨z1, z2, z3⟩ := h.zero i hi
    have hd : bl.getD i 0 = b := by simp [List.getD, hbi]
    simp only [hd]
    exact ⟨h1, z1, z2, z3, by simp, bnd_le b, by simp, (Nat.eq_zero_or_pos (bnd b)).elim (fun h => .inr ⟨h, rfl⟩) .inl, fun l hl => ⟨0, by simp [hl]⟩, fun l x hx => by simp at hx⟩
  · intro i hi
    obtain ⟨b, hbi⟩ := hb i hi
    obtain ⟨h1, h2, h3⟩ := h.made i hi b hbi
    have hd : bl.getD i 0 = b := by simp [List.getD, hbi]
    simp only [hd]
    exact h2

def zeroPort : List Value := [.slice none 0 0, .int .i64 0, .int .i64 0, .int .i64 0, .slice none 0 0, .int .i64 0, .int .i64 0, .int .i64 0, .slice none 0 0, .int .i64 0, .int .i64 0, .int .i64 0, .slice none 0 0, .int .i64 0, .int .i64 0, .int .i64 0,
  .slice none 0 0, .int .i64 0, .int .i64 0, .int .i64 0, .slice none 0 0, .int .i64 0, .int .i64 0, .int .i64 0, .slice none 0 0, .int .i64 0, .int .i64 0, .int .i64 0, .slice none 0 0, .int .i64 0, .int .i64 0, .int .i64 0]

set_option maxRecDepth 100000 in
set_option maxHeartbeats 2000000 in
theorem new_ring (b0 b1 b2 b3 b4 b5 b6 b7 : Int) (w : World) :
    Calls Try.prog 24 #[.agg #[.int .i64 b0, .int .i64 b1, .int .i64 b2, .int .i64 b3, .int .i64 b4, .int .i64 b5, .int .i64 b6, .int .i64 b7]] w (MadeRing [b0, b1, b2, b3, b4, b5, b6, b7] w) := by
  obtain ⟨i0, hi0, hz0, hz1, hz2⟩ := info_parts Try.info3
  go_enter Try.func24, Try.ntmps24
  go_wp2
  generalize hbl : [b0, b1, b2, b3, b4, b5, b6, b7] = bl at *
  have HBL := Lib.hid hbl
  go_loopg [9] 8 (fun k i wr => NewInv bl w (w.heap.size + 1) k i wr)
  case atStart =>
    refine ⟨0, zeroPort, fun _ => 0, by omega, rfl, ?_⟩
    refine ⟨?_, rfl, fun l h => absurd h (Nat.not_lt_zero l), fun l m h => absurd h (Nat.not_lt_zero l), ?_, ?_, ((Keeps.refl _ _).alloc _).alloc _, by omega⟩
    · have := Blk.new (w.alloc (.cells #[.int .i64 b0, .int .i64 b1, .int .i64 b2, .int .i64 b3, .int .i64 b4, .int .i64 b5, .int .i64 b6, .int .i64 b7] 43)) zeroPort 100
      simp at this
      exact this
    · intro l _ hl
      obtain rfl | rfl | rfl | rfl | rfl | rfl | rfl | rfl : l = 0 ∨ l = 1 ∨ l = 2 ∨ l = 3 ∨ l = 4 ∨ l = 5 ∨ l = 6 ∨ l = 7 := by omega
      all_goals rfl
    · intro l hl
      obtain rfl | rfl | rfl | rfl | rfl | rfl | rfl | rfl : l = 0 ∨ l = 1 ∨ l = 2 ∨ l = 3 ∨ l = 4 ∨ l = 5 ∨ l = 6 ∨ l = 7 := by omega
      all_goals exact ⟨rfl, rfl, rfl⟩
  case round =>
    obtain ⟨j, cs, gs, hj, rfl, hN⟩ := hrel
    have HN := Lib.hid hN
    clear hN
    by_cases hlt : j < 8
    · have hl8 : bl.length = 8 := by rw [← HBL.out]; rfl
      obtain ⟨b, hb⟩ : ∃ b, bl[j]? = some b := ⟨_, List.getElem?_eq_getElem (by omega)⟩
      have hix : ∀ w, (Instr.index 43 (.agg #[.int .i64 b0, .int .i64 b1, .int .i64 b2, .int .i64 b3, .int .i64 b4, .int .i64 b5, .int .i64 b6, .int .i64 b7]) (.int .i64 (j : Nat))).run Try.prog w = .ok (.int .i64 b) w := fun w => by
        refine run_index_arr w Try.underlying43 (by kernel_rfl) (by kernel_rfl) hlt ?_ (by omega)
        rw [show (#[.int .i64 b0, .int .i64 b1, .int .i64 b2, .int .i64 b3, .int .i64 b4, .int .i64 b5, .int .i64 b6, .int .i64 b7] : Array Value) = ([b0, b1, b2, b3, b4, b5, b6, b7].map (Value.int .i64)).toArray from rfl, HBL.out]
        simp [hb]
      have hB := Lib.hid hb
      clear hb hl8
      have e6 : (if 1024 < (if b < 0 then 0 else b) then 1024 else (if b < 0 then 0 else b) : Int) = (bnd b : Nat) := by
        unfold bnd
        by_cases h : b < 0
        · simp only [h, if_true]; rw [if_neg (by omega)]; omega
        · simp only [h, if_false]; split <;> omega
      have hbn := bnd_le b
      have hmk : ∀ w, (Instr.makeSlice 47 (.int .i64 (bnd b : Nat)) (.int .i64 (bnd b : Nat))).run Try.prog w = .ok (.slice (some ⟨w.heap.size, 0, none⟩) (bnd b) (bnd b)) (w.alloc (.cells (List.replicate (bnd b) (.int .i64 0)).toArray 3)) := fun w => by
        have := run_make (P := Try.prog) w 47 3 i0 (.int .i64 0) Try.underlying47 hi0 hz0 .i64 .i64 (bnd b : Nat) (bnd b : Nat) (by omega) (Int.le_refl _) (by rw [hz2]; omega) (by omega)
        rw [this]
        simp only [Int.toNat_natCast, hz1, Nat.mul_one]
        have e := toList_madeCells_one (.int .i64 0) (bnd b)
        rw [← e]
        rfl
      have hhd := HN.out.head
      have c0 := (hhd.cell (j * 4)).trans (HN.out.rest j (Nat.le_refl _) hlt)
      have f0 := hhd.frozen (j * 4)
      have hpl := hhd.lt
      clear hhd
      generalize hm : bnd b = m at *
      go_wp2_with fail
      go_region
      all_goals go_wp2_with fail
      all_goals
        go_roundg (gk - 1)
        case measure => omega
        case rel =>
          subst hm
          have hA : Blk (((wr.setCell ⟨w.heap.size + 1, j * 4, none⟩ (.slice (some ⟨wr.heap.size, 0, none⟩) (bnd b) (bnd b))).alloc (.cells (Array.replicate (bnd b) (.int .i64 0)) 3)).drew) wr.heap.size (List.replicate (bnd b) (.int .i64 0)) 3 := by
            have := Blk.new (wr.setCell ⟨w.heap.size + 1, j * 4, none⟩ (.slice (some ⟨wr.heap.size, 0, none⟩) (bnd b) (bnd b))) (List.replicate (bnd b) (.int .i64 0)) 3
            simp at this
            exact this
          exact ⟨j + 1, _, _, by omega, by go_num, HN.out.step hlt b hB.out wr.heap.size (Nat.le_refl _) hA ((HN.out.head.set _ _).alloc _).drew ((((Keeps.refl (fun x => x = w.heap.size + 1) wr).setCell (p := ⟨w.heap.size + 1, j * 4, none⟩) (fun _ => rfl) _).alloc _).drew)⟩
    · obtain rfl : j = 8 := by omega
      have hl8 : bl.length = 8 := by rw [← HBL.out]; rfl
      go_wp2_with fail
      go_ret
      exact ⟨_, _, rfl, HN.out.fin hl8, fun x hx => by have := HN.out.own; omega, HN.out.keeps⟩

/-! Flush. -/
def emptied (r : RSt) : RSt := { r with q := [] }
def flushTo (rs : List RSt) (j : Nat) : List RSt := (rs.take j).map emptied ++ rs.drop j
def allTo (rs : List RSt) (j : Nat) : List Int := ((rs.take j).map (·.q)).flatten

theorem flushTo_get {rs : List RSt} {j : Nat} {r : RSt} (h : rs[j]? = some r) : (flushTo rs j)[j]? = some r := by
  have hl := (List.getElem?_eq_some_iff.1 h).1
  unfold flushTo
  rw [List.getElem?_append_right (by simp; omega)]
  simp [Nat.min_eq_left (Nat.le_of_lt hl), h]

theorem flushTo_succ {rs : List RSt} {j : Nat} {r : RSt} (h : rs[j]? = some r) : (flushTo rs j).set j (emptied r) = flushTo rs (j + 1) := by
  obtain ⟨hl, he⟩ := List.getElem?_eq_some_iff.1 h
  apply List.ext_getElem?
  intro i
  unfold flushTo
  by_cases e : j = i
  · subst e
    rw [List.getElem?_set_self (by simp; omega), List.getElem?_append_left (by simp; omega)]
    simp [hl, he, List.getElem?_take]
  · rw [List.getElem?_set_ne e]
    by_cases hi : i < j
    · rw [List.getElem?_append_left (by simp; omega), List.getElem?_append_left (by simp; omega)]
      simp [List.getElem?_take, hi, show i < j + 1 by omega]
    · rw [List.getElem?_append_right (by simp; omega), List.getElem?_append_right (by simp; omega)]
      simp only [List.length_map, List.length_take, List.getElem?_drop]
      congr 1
      omega

theorem allTo_succ {rs : List RSt} {j : Nat} {r : RSt} (h : rs[j]? = some r) : allTo rs (j + 1) = allTo rs j ++ r.q := by
  obtain ⟨hl, he⟩ := List.getElem?_eq_some_iff.1 h
  unfold allTo
  rw [List.take_succ_eq_append_getElem hl, List.map_append, List.flatten_append]
  simp [he]

theorem allTo_length (rs : List RSt) (j : Nat) : (allTo rs j).length = totalOf (rs.take j) := by
  unfold allTo totalOf
  rw [List.length_flatten, List.map_map]
  rfl

theorem icells_append (a b : List Int) : icells (a ++ b) = icells a ++ icells b := by simp [icells]
theorem icells_one (l : List Int) : ∀ u ∈ icells l, u.oneCell' = true := by
  intro u hu
  obtain ⟨x, _, rfl⟩ := List.mem_map.1 hu
  rfl

/-- A row is emptied: its first, and how many. -/
theorem RingIn.empty {w : World} {p : Nat} {F : Nat → Prop} {rs : List RSt} {cs : List Value} {gs fs : Nat → Nat} {ts : Nat → List Value} (h : RingIn w p F rs cs gs fs ts) (c : Nat) (r : RSt) (hr : rs[c]? = some r) :
    RingIn ((w.setCell ⟨p, c * 4 + 1, none⟩ (.int .i64 0)).setCell ⟨p, c * 4 + 2, none⟩ (.int .i64 0)) p F (rs.set c (emptied r)) ((cs.set (c * 4 + 1) (.int .i64 0)).set (c * 4 + 2) (.int .i64 0)) gs (fun i => if i = c then 0 else fs i) ts := by
  have hc : c < 8 := by have := (List.getElem?_eq_some_iff.1 hr).1; have := h.eight; omega
  have R := h.rows c r hr
  have hs := h.size
  refine ⟨h.fp, h.fg, by simpa [World.setCell] using h.lt, h.inj, (h.head.set _ _).set _ _, by simpa using h.size, by simpa using h.eight, ?_, fun i hi => ((h.blks i hi).set_ne _ _ (Ne.symm (h.ne hi))).set_ne _ _ (Ne.symm (h.ne hi))⟩
  intro i r2 hi
  by_cases e : c = i
  · subst e
    rw [List.getElem?_set_self (by rw [h.eight]; exact hc)] at hi
    simp at hi
    subst hi
    simp only [if_true]
    exact ⟨by rw [List.getElem?_set_ne (by omega), List.getElem?_set_ne (by omega)]; exact R.c0, by rw [List.getElem?_set_ne (by omega), List.getElem?_set_self (by omega)]; rfl, by rw [List.getElem?_set_self (by simp; omega)]; rfl,
      by rw [List.getElem?_set_ne (by omega), List.getElem?_set_ne (by omega)]; exact R.c3, R.len, R.cap, by simp [emptied], (Nat.eq_zero_or_pos r.n).elim (fun h => .inr ⟨h, rfl⟩) .inl, R.ints, fun j x hj => by simp [emptied] at hj⟩
  · rw [List.getElem?_set_ne e] at hi
    simp only [if_neg (Ne.symm e)]
    exact ((h.rows i r2 hi).other c 1 (by omega) (Ne.symm e) _).other c 2 (by omega) (Ne.symm e) _

structure FlushAt (w : World) (p : Nat) (F : Nat → Prop) (rs : List RSt) (j : Nat) (v : Value) (wr : World) : Prop where
  ring : RingAt wr p F (flushTo rs j)
  out : OwnS wr (fun k => w.heap.size ≤ k) 3 1 v (allTo rs j).length (icells (allTo rs j))
  form : ∃ A n c, v = .slice A n c
  keeps : Keeps F w wr

def FlushInv (w : World) (p : Nat) (F : Nat → Prop) (rs : List RSt) (k : Nat) (v i : Value) (wr : World) : Prop := ∃ j : Nat, j + k = 8 ∧ i = .int .i64 (j : Nat) ∧ FlushAt w p F rs j v wr

def Flushed (w : World) (p : Nat) (F : Nat → Prop) (rs : List RSt) (e : Ending) (w' : World) : Prop :=
  ∃ v, e = .returned v ∧ OwnF w' (fun k => w.heap.size ≤ k) 3 v (icells (allTo rs 8)) ∧ RingAt w' p F (rs.map emptied) ∧ Keeps F w w'

set_option maxRecDepth 100000 in
set_option maxHeartbeats 2000000 in
theorem flush_any {w : World} {p : Nat} {F : Nat → Prop} {rs : List RSt} (h : RingAt w p F rs) :
    Calls Try.prog 28 #[.pointer (some ⟨p, 0, none⟩)] w (Flushed w p F rs) := by
  obtain ⟨i0, hi0, hz0, hz1, hz2⟩ := info_parts Try.info3
  have h8 : Hid (rs.length = 8) := by obtain ⟨_, _, _, _, h⟩ := h; exact h.eight
  have htot := h.total_le
  have HR := Lib.hid h
  have hFl := h.lt
  clear h
  go_enter Try.func28, Try.ntmps28
  go_wp2_with fail
  go_loopg [3, 5] 8 (fun k v i wr => FlushInv w p F rs k v i wr)
  case atStart => exact ⟨0, by omega, rfl, by simpa [flushTo] using HR.out, OwnS.nil _ _ _ _, ⟨_, _, _, rfl⟩, Keeps.refl _ _⟩
  case round =>
    obtain ⟨j, hj, rfl, hF⟩ := hrel
    have HF := Lib.hid hF
    obtain ⟨A0, n0, c0, hv⟩ := hF.form
    subst hv
    clear hF
    by_cases hlt : j < 8
    · obtain ⟨r, hr⟩ : ∃ r, rs[j]? = some r := ⟨_, List.getElem?_eq_getElem (by rw [h8.out]; exact hlt)⟩
      have hrf := Lib.hid (flushTo_get hr)
      have hrs := Lib.hid (flushTo_succ hr)
      have has := Lib.hid (allTo_succ hr)
      have hlen := allTo_length rs (j + 1)
      have htk := totalOf_take_le rs (j + 1)
      rw [has.out, List.length_append] at hlen
      have C := list_in HF.out.ring j r hrf.out
      clear hr
      have hbound : (allTo rs j).length + r.q.length ≤ 8192 := by omega
      have hF8 : (allTo rs j).length ≤ 8192 := by omega
      clear hlen htk
      by_cases hq : 0 < r.q.length
      · have hnb : Hid ((icells r.q).length = r.q.length * 1) := by show _ = _; simp
        have h1c := Lib.hid (icells_one r.q)
        go_wp2_with (first
          | (go_at_call 32; refine C.mono ?_; rintro e w2 ⟨g, cap, rfl, ho, hk2⟩; have hO2 := HF.out.out.keeps hk2 (fun _ _ h => h); have hnews := Lib.hid (ho.1.cells (g := g) rfl); clear C)
          | (at_builtin; refine wpList_app rfl (.tmp 8) (.tmp 11) 47 rfl 3 i0 (.int .i64 0) 1 8 Try.underlying47 hi0 hz0 hz1 hz2 rfl (by decide) (fun k => w.heap.size ≤ k) (.slice A0 n0 c0) _ _ rfl hO2 ⟨g, 0, none⟩ r.q.length cap (icells r.q) rfl hnb.out hnews.out h1c.out hq ?h63 ?hby ?_))
        case h63 => omega
        case hby => omega
        intro g2 cap2 w3 ho3 hk3
        have hR3 : RingAt w3 p F (flushTo rs j) := (HF.out.ring.same hk2).keeps hk3 (fun k hk h => by have := hO2.2 k h; have := hFl k hk; omega)
        obtain ⟨cs, gs, fs, ts, hI⟩ := hR3
        have R := hI.rows j r hrf.out
        have a1 := (hI.head.cell _).trans R.c1
        have a2 := (hI.head.cell _).trans R.c2
        have f1 := hI.head.frozen (j * 4 + 1)
        have f2 := hI.head.frozen (j * 4 + 2)
        have HI := Lib.hid hI
        have HO3 := Lib.hid ho3
        clear hI R ho3 ho hO2
        go_wp2_with fail
        go_region
        all_goals go_wp2_with fail
        all_goals go_roundg (gk - 1)
        all_goals
          first
          | omega
          | (have hpw : p < w.heap.size := hFl p HI.out.fp
             have K : Keeps (fun x => x = p) w3 (((w3.setCell ⟨p, j * 4 + 1, none⟩ (.int .i64 0)).setCell ⟨p, j * 4 + 2, none⟩ (.int .i64 0)).drew) := ((((Keeps.refl (fun x => x = p) w3).setCell (p := ⟨p, j * 4 + 1, none⟩) (fun _ => rfl) _).setCell (p := ⟨p, j * 4 + 2, none⟩) (fun _ => rfl) _).drew)
             refine ⟨j + 1, by omega, by go_num, ⟨?_, ?_, ⟨_, _, _, rfl⟩, ?_⟩⟩
             · rw [← hrs.out]
               exact ⟨_, gs, _, ts, (HI.out.empty j r hrf.out).drewN 1⟩
             · rw [has.out, icells_append, List.length_append]
               have hle := HF.out.keeps.size
               have hle2 := hk2.size
               exact (HO3.out.keeps K (fun k hk h => by omega)).mono (fun k hk => by omega)
             · exact ((HF.out.keeps.trans hk2 (fun _ h _ => h.elim)).trans hk3 (fun x hx hl => absurd (HF.out.out.2 x hx) (by omega))).trans K (fun x hx _ => hx ▸ HI.out.fp))
      · have hqe : r.q.length = 0 := by omega
        have hqn : Hid (r.q = []) := List.eq_nil_of_length_eq_zero hqe
        rw [hqn.out] at C
        clear hqe
        go_wp2_with (first
          | (go_at_call 32; refine C.mono ?_; rintro e w2 ⟨g, cap, rfl, ho, hk2⟩; have hO2 := HF.out.out.keeps hk2 (fun _ _ h => h); clear C)
          | (at_builtin; refine wpList_app0 rfl (.tmp 8) (.tmp 11) 47 rfl 3 i0 1 Try.underlying47 hi0 (.slice A0 n0 c0) _ _ rfl hO2.1 (some ⟨g, 0, none⟩) cap rfl ?_))
        have hR3 : RingAt w2 p F (flushTo rs j) := (HF.out.ring.same hk2)
        obtain ⟨cs, gs, fs, ts, hI⟩ := hR3
        have R := hI.rows j r hrf.out
        have a1 := (hI.head.cell _).trans R.c1
        have a2 := (hI.head.cell _).trans R.c2
        have f1 := hI.head.frozen (j * 4 + 1)
        have f2 := hI.head.frozen (j * 4 + 2)
        have HI := Lib.hid hI
        have HO3 := Lib.hid hO2
        clear hI R ho hO2
        go_wp2_with fail
        go_region
        all_goals go_wp2_with fail
        all_goals go_roundg (gk - 1)
        all_goals
          first
          | omega
          | (have hpw : p < w.heap.size := hFl p HI.out.fp
             have K : Keeps (fun x => x = p) w2 (((w2.setCell ⟨p, j * 4 + 1, none⟩ (.int .i64 0)).setCell ⟨p, j * 4 + 2, none⟩ (.int .i64 0)).drew) := ((((Keeps.refl (fun x => x = p) w2).setCell (p := ⟨p, j * 4 + 1, none⟩) (fun _ => rfl) _).setCell (p := ⟨p, j * 4 + 2, none⟩) (fun _ => rfl) _).drew)
             refine ⟨j + 1, by omega, by go_num, ⟨?_, ?_, ⟨_, _, _, rfl⟩, ?_⟩⟩
             · rw [← hrs.out]
               exact ⟨_, gs, _, ts, (HI.out.empty j r hrf.out).drewN 1⟩
             · rw [has.out, hqn.out, List.append_nil]
               exact (HO3.out.keeps K (fun k hk h => by omega))
             · exact (HF.out.keeps.trans hk2 (fun _ h _ => h.elim)).trans K (fun x hx _ => hx ▸ HI.out.fp))
    · obtain rfl : j = 8 := by omega
      go_wp2_with fail
      go_ret
      refine ⟨_, rfl, HF.out.out.toF, ?_, HF.out.keeps⟩
      have := HF.out.ring
      have e : flushTo rs 8 = rs.map emptied := by
        unfold flushTo
        rw [List.take_of_length_le (by rw [h8.out]; omega), List.drop_eq_nil_of_le (by rw [h8.out]; omega), List.append_nil]
      rwa [e] at this

end Go.Proofs.Ytpgmkekdgchkfaa
