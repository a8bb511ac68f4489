/- The frames within a window; how long a port is busy. -/
import Derived.Test.YtmmeloklnkfjjaaCap
namespace Go.Proofs.Ytmmeloklnkfjjaa
open Go.RowKit

def fcells (l : List Fr) : List Value := (l.map Fr.cells).flatten

theorem fcells_len (l : List Fr) : (fcells l).length = l.length * 5 := by
  induction l with
  | nil => rfl
  | cons f l ih =>
    have : fcells (f :: l) = f.cells ++ fcells l := rfl
    rw [this, List.length_append, ih]
    simp [Fr.cells]
    omega

theorem fcells_app (l k : List Fr) : fcells (l ++ k) = fcells l ++ fcells k := by simp [fcells]

theorem fcells_one (l : List Fr) : ∀ u ∈ fcells l, u.oneCell' = true := by
  intro u hu
  simp only [fcells, List.mem_flatten, List.mem_map] at hu
  obtain ⟨_, ⟨f, _, rfl⟩, hu⟩ := hu
  simp [Fr.cells] at hu
  rcases hu with rfl | rfl | rfl | rfl | rfl <;> rfl

theorem fcells_get : ∀ (l : List Fr) (j : Nat) (f : Fr), l[j]? = some f → ∀ i u, f.cells[i]? = some u → (fcells l)[j * 5 + i]? = some u
  | [], j, f, h, _, _, _ => by simp at h
  | x :: l, 0, f, h, i, u, hi => by
    simp at h
    subst h
    have : fcells (x :: l) = x.cells ++ fcells l := rfl
    rw [this, List.getElem?_append_left (by have := (List.getElem?_eq_some_iff.1 hi).1; omega)]
    simpa using hi
  | x :: l, j + 1, f, h, i, u, hi => by
    have := fcells_get l j f (by simpa using h) i u hi
    have e : fcells (x :: l) = x.cells ++ fcells l := rfl
    rw [e, List.getElem?_append_right (by simp [Fr.cells]; omega)]
    rw [← this]
    congr 1
    simp [Fr.cells]
    omega

/-- An own row of frames reads as those frames. -/
theorem FrsR.ofS {w : World} {F : Nat → Prop} {v : Value} {l : List Fr} (h : OwnS w F 27 5 v l.length (fcells l)) (hr : ∀ f ∈ l, f.Rd w) : ∃ A c, v = .slice A l.length c ∧ FrsR w A c l := by
  rcases h.1.2 with ⟨hv, hn⟩ | ⟨g, cap, cur, hv, -, hh, hc, -, -, ht⟩
  · have : l = [] := List.eq_nil_of_length_eq_zero hn
    subst this
    exact ⟨none, 0, hv, .inl rfl, hr⟩
  · refine ⟨_, _, hv, .inr ⟨g, 0, rfl, hc, fun j f hj i u hi => ?_⟩, hr⟩
    have d := fcells_get l j f hj i u hi
    rw [← ht, List.getElem?_take] at d
    split at d
    · simpa [World.cell?, hh] using d
    · cases d

theorem news5 {w : World} {ad : Addr} {xs : List Value} {T : TypeId} (h : Blk w ad.block xs T) (h0 : ad.off = 0) (hs : ad.spot = none) : ∀ j u, xs[j]? = some u → w.cell? (ad.add j) = some u := by
  intro j u hj
  obtain ⟨b, o, s⟩ := ad
  simp only at h0 hs h
  subst h0 hs
  rw [Addr.add_lit, Nat.zero_add, h.cell, hj]

def inWin (a b : Int) (f : Fr) : Bool := decide (a ≤ f.frm ∧ f.frm < b)

def WinInv (w : World) (l : List Fr) (a b : Int) (k : Nat) (v i : Value) (wr : World) : Prop :=
  ∃ (j : Nat), j + k = l.length ∧ i = .int .i64 (j : Nat) ∧ OwnS wr (fun k => w.heap.size ≤ k) 27 5 v ((l.take j).filter (inWin a b)).length (fcells ((l.take j).filter (inWin a b))) ∧ Keeps Nothing w wr

def WinRes (w : World) (l : List Fr) (a b : Int) (e : Ending) (w' : World) : Prop :=
  ∃ A c, e = .returned (.slice A (l.filter (inWin a b)).length c) ∧ Keeps Nothing w w'

theorem take_snoc' {α : Type} {l : List α} {j : Nat} {f : α} (h : l[j]? = some f) : l.take (j + 1) = l.take j ++ [f] := by
  rw [List.take_add_one, h]; rfl

set_option maxRecDepth 100000 in
set_option maxHeartbeats 4000000 in
theorem window_ok {w : World} {A : Option Addr} {c : Nat} {l : List Fr} (hr : FrsR w A c l) (hl : l.length ≤ 65535) (a b : Int) :
    Calls Try.prog 16 #[.slice A l.length c, .int .i64 a, .int .i64 b] w (WinRes w l a b) := by
  obtain ⟨i0, hi0, hz0, hz1, hz2⟩ := info_parts (P := Try.prog) (e := 27) (z := .agg #[.int .i64 0, .int .i64 0, .int .i64 0, .int .i64 0, .slice none 0 0]) (size := 5) (bytes := 56) (by kernel_rfl)
  have HR := Lib.hid hr
  clear hr
  go_enter Try.func16, Try.ntmps16
  go_wp2_with fail
  go_loopg [7, 12] l.length (fun k v i wr => WinInv w l a b k v i wr)
  case atStart => exact ⟨0, by omega, rfl, OwnS.nil _ _ _ _, Keeps.refl _ _⟩
  case round =>
    obtain ⟨j, hj, rfl, ho, hk⟩ := hrel
    have HO := Lib.hid ho
    have HK := Lib.hid hk
    by_cases hlt : j < l.length
    · obtain ⟨port, cls, frm, till, B, cap, bs, bl, o, hf, rfl, f0, f1, f2, f3, f4, hs⟩ := (HR.out.same hk).get hlt
      have HT := Lib.hid (take_snoc' hf)
      clear ho hk hf hs
      have hno : ¬ (a ≤ frm ∧ frm < b) → ((l.take (j + 1)).filter (inWin a b)) = ((l.take j).filter (inWin a b)) := fun h => by
        rw [HT.out, List.filter_append]; simp [inWin]; omega
      have hyes : (a ≤ frm ∧ frm < b) → ((l.take (j + 1)).filter (inWin a b)) = ((l.take j).filter (inWin a b)) ++ [⟨port, cls, frm, till, B, cap, bs⟩] := fun h => by
        rw [HT.out, List.filter_append]; simp [inWin, h]
      have HNO := Lib.hid hno
      have HYES := Lib.hid hyes
      clear hno hyes
      by_cases h1 : a ≤ frm
      · by_cases h2 : frm < b
        · have hn : ((l.take j).filter (inWin a b)).length ≤ j := by
            have h1 := List.length_filter_le (inWin a b) (l.take j)
            have h2 := List.length_take_le j l
            omega
          have hB : Blk ((wr.alloc (.cells #[.int .i64 port, .int .i64 cls, .int .i64 frm, .int .i64 till, .slice B bs.length cap] 27)).alloc (.cells #[.int .i64 port, .int .i64 cls, .int .i64 frm, .int .i64 till, .slice B bs.length cap] 27)) (wr.heap.size + 1) [.int .i64 port, .int .i64 cls, .int .i64 frm, .int .i64 till, .slice B bs.length cap] 27 := by
            have := Blk.new (wr.alloc (.cells #[.int .i64 port, .int .i64 cls, .int .i64 frm, .int .i64 till, .slice B bs.length cap] 27)) [.int .i64 port, .int .i64 cls, .int .i64 frm, .int .i64 till, .slice B bs.length cap] 27
            simpa using this
          have HB := Lib.hid hB
          clear hB
          go_wp2_with (at_builtin; refine wpList_app rfl (.tmp 26) (.tmp 28) 22 rfl 27 i0 (.agg #[.int .i64 0, .int .i64 0, .int .i64 0, .int .i64 0, .slice none 0 0]) 5 56 Try.underlying22 hi0 hz0 hz1 hz2 rfl (by decide) (fun k => w.heap.size ≤ k) _ _ _ rfl ((HO.out.keeps (((Keeps.refl Nothing _).alloc _).alloc _) (fun _ _ h => h))) ⟨wr.heap.size + 1, 0, none⟩ 1 1 [.int .i64 port, .int .i64 cls, .int .i64 frm, .int .i64 till, .slice B bs.length cap] rfl rfl (news5 HB.out rfl rfl) (fun u hu => fcells_one [⟨port, cls, frm, till, B, cap, bs⟩] u (by simpa [fcells, Fr.cells] using hu)) (by decide) ?h63 ?hby ?_)
          case h63 => omega
          case hby => omega
          intro g cap2 w3 ho3 hk3
          have HO3 := Lib.hid ho3
          have HK3 := Lib.hid (((HK.out.alloc (.cells #[.int .i64 port, .int .i64 cls, .int .i64 frm, .int .i64 till, .slice B bs.length cap] 27)).alloc (.cells #[.int .i64 port, .int .i64 cls, .int .i64 frm, .int .i64 till, .slice B bs.length cap] 27)).up hk3 (fun k hk => HO.out.2 k hk))
          clear ho3 hk3 HB HO
          go_wp2_with fail
          go_roundg (gk - 1)
          case measure => omega
          case rel =>
            refine ⟨j + 1, by omega, by go_num, ?_, HK3.out⟩
            rw [HYES.out ⟨h1, h2⟩, fcells_app, List.length_append]
            have h := HO3.out.mono (G := fun k => w.heap.size ≤ k) (fun k hk => by
              have := HK.out.size
              rcases hk with hk | hk
              · exact hk
              · omega)
            simpa [fcells, Fr.cells] using h
        · have h2' : decide (frm < b) = false := by simpa using h2
          go_wp2_with fail
          go_roundg (gk - 1)
          case measure => omega
          case rel =>
            refine ⟨j + 1, by omega, by go_num, ?_, HK.out.alloc _⟩
            rw [HNO.out (fun h => by omega)]
            exact HO.out.keeps ((Keeps.refl Nothing _).alloc _) (fun _ _ h => h)
      · have h1' : decide (a ≤ frm) = false := by simpa using h1
        go_wp2_with fail
        go_roundg (gk - 1)
        case measure => omega
        case rel =>
          refine ⟨j + 1, by omega, by go_num, ?_, HK.out.alloc _⟩
          rw [HNO.out (fun h => by omega)]
          exact HO.out.keeps ((Keeps.refl Nothing _).alloc _) (fun _ _ h => h)
    · obtain rfl : j = l.length := by omega
      clear ho hk
      go_wp2_with fail
      go_ret
      have h := HO.out
      rw [List.take_length] at h
      rcases h.1.2 with ⟨rfl, hn⟩ | ⟨g, cap, cur, rfl, -⟩
      · exact ⟨none, 0, by rw [hn]; rfl, HK.out⟩
      · exact ⟨some ⟨g, 0, none⟩, cap, rfl, HK.out⟩

end Go.Proofs.Ytmmeloklnkfjjaa
