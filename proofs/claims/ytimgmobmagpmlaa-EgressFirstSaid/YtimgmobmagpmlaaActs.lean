/- Acts that come in: they are read; are they few; some of them, in a row of their own. -/
import Derived.Test.YtimgmobmagpmlaaPlayG
import Derived.Test.YtimgmobmagpmlaaArg9
namespace Go.Proofs.Ytimgmobmagpmlaa
open Go.ChangeShapes Go.WideShapes Go.ChangeAt Go.RowKit

set_option maxRecDepth 100000 in
theorem open_eacts {H : Type} {enc : TypeId × Value → H} {base : Nat} {v : Value} {d : DataW H} {p : List MemPlace} {W : World}
    (o : Value.okWide Try.prog W .any base 47 v) (h : DataW.Trod enc Try.prog W 0 (fun _ => true) true 47 v d p) :
    ∃ acts A c, v = .slice A acts.length c ∧ acts.length ≤ 9223372036854775807 ∧ EActs W (fun k => k < W.heap.size) A acts c := by
  obtain ⟨a0, len0, cap0, rfl⟩ := okWide_slice Try.underlying47 o
  obtain ⟨l, hr, ⟨A, c, hv⟩, hm, hel⟩ := tr_slice (sz := 9) Try.underlying47 (by kernel_rfl) (by omega) (tr_of h)
  have hact : ∀ cs ∈ l, ∃ a : EAct, cs = a.cells ∧ EntsR W a.A a.cap a.es := by
    intro cs hcs
    obtain ⟨hl, hf⟩ := tr_struct Try.underlying58 (hel cs hcs)
    have hl9 : cs.length = 9 := hl.trans (by kernel_rfl)
    match cs, hl9 with
    | [x0, x1, x2, x3, y0, y1, y2, y3, x4], _ =>
      have c2 : Try.prog.cellsOf 2 = 1 := by kernel_rfl
      have c3 : Try.prog.cellsOf 3 = 1 := by kernel_rfl
      have c54 : Try.prog.cellsOf 54 = 1 := by kernel_rfl
      have c56 : Try.prog.cellsOf 56 = 4 := by kernel_rfl
      have f0 : Tr enc Try.prog W 3 ([x0, x1, x2, x3, y0, y1, y2, y3, x4].take (Try.prog.cellsOf 3)) := hf 0 _ rfl
      have f1 : Tr enc Try.prog W 2 ([x1, x2, x3, y0, y1, y2, y3, x4].take (Try.prog.cellsOf 2)) := hf 1 _ rfl
      have f2 : Tr enc Try.prog W 3 ([x2, x3, y0, y1, y2, y3, x4].take (Try.prog.cellsOf 3)) := hf 2 _ rfl
      have f3 : Tr enc Try.prog W 3 ([x3, y0, y1, y2, y3, x4].take (Try.prog.cellsOf 3)) := hf 3 _ rfl
      have f4 : Tr enc Try.prog W 56 ([y0, y1, y2, y3, x4].take (Try.prog.cellsOf 56)) := hf 4 _ rfl
      have f5 : Tr enc Try.prog W 2 ([x4].take (Try.prog.cellsOf 2)) := hf 5 _ rfl
      rw [c3] at f0 f2 f3
      rw [c2] at f1 f5
      rw [c56] at f4
      obtain ⟨i0, e0, -⟩ := tr_int Try.underlying3 f0
      obtain ⟨i1, e1, -⟩ := tr_int Try.underlying2 f1
      obtain ⟨i2, e2, -⟩ := tr_int Try.underlying3 f2
      obtain ⟨i3, e3, -⟩ := tr_int Try.underlying3 f3
      obtain ⟨i4, e4, -⟩ := tr_int Try.underlying2 f5
      obtain ⟨-, hf2⟩ := tr_struct Try.underlying56 f4
      have g0 : Tr enc Try.prog W 2 ([y0, y1, y2, y3].take (Try.prog.cellsOf 2)) := hf2 0 _ rfl
      have g1 : Tr enc Try.prog W 2 ([y1, y2, y3].take (Try.prog.cellsOf 2)) := hf2 1 _ rfl
      have g2 : Tr enc Try.prog W 2 ([y2, y3].take (Try.prog.cellsOf 2)) := hf2 2 _ rfl
      have g3 : Tr enc Try.prog W 54 ([y3].take (Try.prog.cellsOf 54)) := hf2 3 _ rfl
      rw [c2] at g0 g1 g2
      rw [c54] at g3
      obtain ⟨b, e5, -⟩ := tr_int Try.underlying2 g0
      obtain ⟨y, e6, -⟩ := tr_int Try.underlying2 g1
      obtain ⟨xx, e7, -⟩ := tr_int Try.underlying2 g2
      obtain ⟨es, A2, c2', e8, hlen, hes⟩ := tr_ents (v := y3) g3
      simp at e0 e1 e2 e3 e4 e5 e6 e7
      subst e0 e1 e2 e3 e4 e5 e6 e7 e8
      exact ⟨⟨i0, i1, i2, i3, b, y, xx, A2, c2', es, i4⟩, rfl, hes⟩
  obtain ⟨acts, hl, hp⟩ := list_of_each (n := l.length) (p := fun i a => l[i]? = some (EAct.cells a) ∧ EntsR W a.A a.cap a.es) (fun i hi => by
    obtain ⟨a, h1, h2⟩ := hact l[i] (List.getElem_mem hi)
    exact ⟨a, by rw [List.getElem?_eq_getElem hi, h1], h2⟩)
  injection hv with e1 e2 e3
  subst e1 e2 e3
  refine ⟨acts, a0, cap0, by rw [hl], by omega, ?_⟩
  rcases hr with ⟨h1, -⟩ | ⟨b, o', c', h1, h2, h3⟩
  · exact .inl (List.eq_nil_of_length_eq_zero (by rw [hl, h1]; rfl))
  · injection h1 with e1 e2 e3
    subst e3
    by_cases h0 : acts = []
    · exact .inl h0
    · have hpos : 0 < acts.length := List.length_pos_iff.2 h0
      have hb : b < W.heap.size := by
        obtain ⟨a, ha⟩ : ∃ a, acts[0]? = some a := ⟨_, List.getElem?_eq_getElem hpos⟩
        obtain ⟨hp1, -⟩ := hp 0 a ha
        exact World.block_lt_of_cell? _ _ ((h3 0 _ hp1).2 0 _ rfl)
      refine .inr ⟨b, o', e1, hb, by omega, fun j a hj => ?_⟩
      obtain ⟨hp1, hp2⟩ := hp j a hj
      refine ⟨(h3 j _ hp1).2, hp2, fun hpos' b2 o2 e2 => ?_⟩
      rcases hp2 with hp2 | ⟨b3, o3, e3, -, hr3⟩
      · rw [hp2] at hpos'; cases hpos'
      · rw [e3] at e2
        injection e2 with e2
        injection e2 with e2
        subst e2
        obtain ⟨e, he⟩ : ∃ e, a.es[0]? = some e := ⟨_, List.getElem?_eq_getElem hpos'⟩
        exact World.block_lt_of_cell? _ _ (hr3 0 e he).1

/-! ## are they few? -/

def SmE (acts : List EAct) : Prop := acts.length ≤ 60 ∧ ∀ (l : Nat) (a : EAct), acts[l]? = some a → a.es.length ≤ 70

def SmallE (w : World) (acts : List EAct) (e : Ending) (w' : World) : Prop := ∃ b, e = .returned (.bool b) ∧ (b = true ↔ SmE acts) ∧ Keeps Nothing w w'

def SmEInv (w : World) (acts : List EAct) (k : Nat) (i : Value) (wr : World) : Prop := ∃ j : Nat, j + k = acts.length ∧ i = .int .i64 (j : Nat) ∧ (∀ (l : Nat) (a : EAct), l < j → acts[l]? = some a → a.es.length ≤ 70) ∧ Keeps Nothing w wr

theorem EActs.same {w w' : World} {N : Nat → Prop} {A : Option Addr} {acts : List EAct} {c : Nat} (h : EActs w N A acts c) (hk : Keeps Nothing w w') : EActs w' N A acts c := h.keeps hk (fun _ _ x => x)

set_option maxRecDepth 100000 in
set_option maxHeartbeats 2000000 in
theorem smallE_ok {w : World} {N : Nat → Prop} {A : Option Addr} {acts : List EAct} {c : Nat} (h : EActs w N A acts c) (hl : acts.length ≤ 9223372036854775807) :
    Calls Try.prog 21 #[.slice A acts.length c] w (SmallE w acts) := by
  have HA := Lib.hid h
  clear h
  go_enter Try.func21, Try.ntmps21
  go_wp2_with fail
  go_loopg [7] acts.length (fun k i wr => SmEInv w acts k i wr)
  case atStart => exact ⟨0, by omega, rfl, fun l a h => by omega, Keeps.refl _ _⟩
  case round =>
    obtain ⟨j, hj, rfl, hsm, hk⟩ := hrel
    have HK := Lib.hid hk
    have HM := Lib.hid hsm
    clear hk hsm
    by_cases hlt : j < acts.length
    · obtain ⟨b, o, kind, later, cls, bytes, base, cyc, ext, A2, cap, es, rate, rfl, hact, a0, a1, a2, a3, a4, a5, a6, a7, a8, -, -⟩ := (HA.out.same HK.out).at_ hlt
      have HC := Lib.hid hact
      clear hact
      by_cases hbig : (70 : Int) < es.length
      · go_wp2_with fail
        go_ret
        exact ⟨false, rfl, ⟨(fun x => by cases x), fun x => by have h1 : es.length ≤ 70 := x.2 j _ HC.out; omega⟩, HK.out.alloc _⟩
      · have hbig' : decide ((70 : Int) < es.length) = false := by simpa using hbig
        go_wp2_with fail
        go_roundg (gk - 1)
        case measure => omega
        case rel =>
          refine ⟨j + 1, by omega, by go_num, fun l a h1 h2 => ?_, HK.out.alloc _⟩
          by_cases e1 : l = j
          · subst e1
            rw [HC.out] at h2
            injection h2 with h2
            subst h2
            show es.length ≤ 70
            omega
          · exact HM.out l a (by omega) h2
    · by_cases hs : (acts.length : Int) ≤ 60
      · go_wp2_with fail
        go_ret
        exact ⟨true, by simp [hs], ⟨fun _ => ⟨by omega, fun l a h => HM.out l a (by have := (List.getElem?_eq_some_iff.1 h).1; omega) h⟩, fun _ => rfl⟩, HK.out⟩
      · go_wp2_with fail
        go_ret
        exact ⟨false, by simp; try omega, ⟨(fun x => by cases x), fun x => by have := x.1; omega⟩, HK.out⟩

theorem smallE_yes {w : World} {N : Nat → Prop} {A : Option Addr} {acts : List EAct} {c : Nat} (h : EActs w N A acts c) (hl : acts.length ≤ 9223372036854775807) (hs : SmE acts) :
    Calls Try.prog 21 #[.slice A acts.length c] w (fun e w' => e = .returned (.bool true) ∧ Keeps Nothing w w') :=
  (smallE_ok h hl).mono fun e w' ⟨b, he, hb, hk⟩ => by
    have : b = true := hb.2 hs
    subst this
    exact ⟨he, hk⟩

theorem smallE_no {w : World} {N : Nat → Prop} {A : Option Addr} {acts : List EAct} {c : Nat} (h : EActs w N A acts c) (hl : acts.length ≤ 9223372036854775807) (hs : ¬ SmE acts) :
    Calls Try.prog 21 #[.slice A acts.length c] w (fun e w' => e = .returned (.bool false) ∧ Keeps Nothing w w') :=
  (smallE_ok h hl).mono fun e w' ⟨b, he, hb, hk⟩ => by
    have : b = false := by cases b with | true => exact absurd (hb.1 rfl) hs | false => rfl
    subst this
    exact ⟨he, hk⟩

/-! ## some of them, in a row of their own -/

def acells (l : List EAct) : List Value := (l.map EAct.cells).flatten

theorem acells_len (l : List EAct) : (acells l).length = l.length * 9 := by
  induction l with
  | nil => rfl
  | cons f l ih =>
    have : acells (f :: l) = f.cells ++ acells l := rfl
    rw [this, List.length_append, ih]
    simp [EAct.cells]
    omega

theorem acells_app (l k : List EAct) : acells (l ++ k) = acells l ++ acells k := by simp [acells]

theorem acells_one (l : List EAct) : ∀ u ∈ acells l, u.oneCell' = true := by
  intro u hu
  simp only [acells, List.mem_flatten, List.mem_map] at hu
  obtain ⟨_, ⟨f, _, rfl⟩, hu⟩ := hu
  simp [EAct.cells] at hu
  rcases hu with rfl | rfl | rfl | rfl | rfl | rfl | rfl | rfl | rfl <;> rfl

theorem acells_get : ∀ (l : List EAct) (j : Nat) (f : EAct), l[j]? = some f → ∀ i u, f.cells[i]? = some u → (acells l)[j * 9 + i]? = some u
  | [], j, f, h, _, _, _ => by simp at h
  | x :: l, 0, f, h, i, u, hi => by
    simp at h
    subst h
    have : acells (x :: l) = x.cells ++ acells l := rfl
    rw [this, List.getElem?_append_left (by have := (List.getElem?_eq_some_iff.1 hi).1; omega)]
    simpa using hi
  | x :: l, j + 1, f, h, i, u, hi => by
    have := acells_get l j f (by simpa using h) i u hi
    have e : acells (x :: l) = x.cells ++ acells l := rfl
    rw [e, List.getElem?_append_right (by simp [EAct.cells]; omega)]
    rw [← this]
    congr 1
    simp [EAct.cells]
    omega

/-- An own row of acts reads as those acts. -/
theorem EActs.ofS {w : World} {F N : Nat → Prop} {v : Value} {l : List EAct} (h : OwnS w F 58 9 v l.length (acells l)) (hF : ∀ k, F k → k < w.heap.size → N k) (hr : ∀ a ∈ l, EntsR w a.A a.cap a.es ∧ (0 < a.es.length → ∀ b' o', a.A = some ⟨b', o', none⟩ → N b')) :
    ∃ A c, v = .slice A l.length c ∧ EActs w N A l c := by
  rcases h.1.2 with ⟨hv, hn⟩ | ⟨g, cap, cur, hv, -, hh, hc, -, -, ht⟩
  · have : l = [] := List.eq_nil_of_length_eq_zero hn
    subst this
    exact ⟨none, 0, hv, .inl rfl⟩
  · have hg : v.ownBlock = some g := by rw [hv]; rfl
    refine ⟨_, _, hv, .inr ⟨g, 0, rfl, hF g (h.2 g hg) (h.1.lt g hg).2, hc, fun j f hj => ⟨fun i u hi => ?_, hr f (List.mem_of_getElem? hj)⟩⟩⟩
    have d := acells_get l j f hj i u hi
    rw [← ht, List.getElem?_take] at d
    split at d
    · simpa [World.cell?, hh] using d
    · cases d

theorem news9 {w : World} {ad : Addr} {xs : List Value} {T : TypeId} (h : Blk w ad.block xs T) (h0 : ad.off = 0) (hs : ad.spot = none) : ∀ j u, xs[j]? = some u → w.cell? (ad.add j) = some u := by
  intro j u hj
  obtain ⟨b, o, s⟩ := ad
  subst h0 hs
  rw [Addr.add_lit, Nat.zero_add, h.cell, hj]

theorem take_snoc9 {α : Type} {l : List α} {j : Nat} {f : α} (h : l[j]? = some f) : l.take (j + 1) = l.take j ++ [f] := by
  rw [List.take_add_one, h]; rfl

def SubInv (w : World) (l : List EAct) (f : EAct → Bool) (k : Nat) (v i : Value) (wr : World) : Prop :=
  ∃ (j : Nat), j + k = l.length ∧ i = .int .i64 (j : Nat) ∧ OwnS wr (fun k => w.heap.size ≤ k) 58 9 v ((l.take j).filter f).length (acells ((l.take j).filter f)) ∧ Keeps Nothing w wr

end Go.Proofs.Ytimgmobmagpmlaa
