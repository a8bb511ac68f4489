/- slices.Insert of one string among strings: laid; what it comes to. -/
import Derived.Test.YtdncojofilnhnaaGreatDoorProg
import Derived.Test.YtdncojofilnhnaaGreatDoorChecked
import Derived.Test.YtdncojofilnhnaaGreatDoorCmd1
import Derived.Shelf.Spec.SlicesInsertGrow
import Derived.Shelf.Spec.SlicesInsert
namespace Go.Proofs.YtdncojofilnhnaaGreatDoor
open Go.RowKit Go.Lib Go.Shelf

def Tryz.laysIns_ren : Go.Shelf.Ren := ⟨fun | 22 => 39 | 17 => 124 | 29 => 72 | 30 => 73 | 36 => 99 | n => n, fun | 24 => 43 | 9 => 9 | 3 => 3 | 4 => 4 | 0 => 0 | n => n, fun | n => n⟩
theorem Tryz.laysIns : Go.Proofs.Lays2.n22 Tryz.prog Tryz.laysIns_ren := {
  mixed := by kernel_rfl
  f17 := Tryz.func124.trans (congrArg some (by kernel_rfl))
  f22 := Tryz.func39.trans (congrArg some (by kernel_rfl))
  f29 := Tryz.func72.trans (congrArg some (by kernel_rfl))
  f30 := Tryz.func73.trans (congrArg some (by kernel_rfl))
  f36 := Tryz.func99.trans (congrArg some (by kernel_rfl))
  t0 := Tryz.underlying0
  a0 := Tryz.isAgg0
  z0 := Tryz.sizeOf0
  v0 := Tryz.zeroValue0
  t3 := Tryz.underlying3
  a3 := Tryz.isAgg3
  z3 := Tryz.sizeOf3
  v3 := Tryz.zeroValue3
  t4 := Tryz.underlying4
  a4 := Tryz.isAgg4
  z4 := Tryz.sizeOf4
  v4 := Tryz.zeroValue4
  t9 := Tryz.underlying9
  a9 := Tryz.isAgg9
  z9 := Tryz.sizeOf9
  v9 := Tryz.zeroValue9
  t24 := Tryz.underlying43
  a24 := Tryz.isAgg43
  z24 := Tryz.sizeOf43
  v24 := Tryz.zeroValue43
  i9 := by kernel_rfl
}

theorem keeps_setCells {F : Nat → Prop} {w0 : World} {b : Nat} (hb : F b) : ∀ (vs : List Value) (o : Nat) (w : World), Keeps F w0 w → Keeps F w0 (w.setCells b o vs)
  | [], _, _, h => h
  | v :: r, o, w, h => keeps_setCells hb r (o + 1) _ (h.setCell (p := ⟨b, o, none⟩) (fun _ => hb) v)

theorem size_setCells (b : Nat) : ∀ (vs : List Value) (o : Nat) (w : World), (w.setCells b o vs).heap.size = w.heap.size
  | [], _, _ => rfl
  | v :: r, o, w => by rw [World.setCells, size_setCells b r]; simp [World.setCell]

/-- What lies there when v was put in at i, in whatever order. -/
theorem put_in (b i : Nat) (x : Value) (cs : List Value) (w w1 : World) (hi : i < cs.length) (hsome : ∀ j, j < cs.length + 1 → (w.cell? ⟨b, j, none⟩).isSome = true) (hcs : ∀ j u, j < i → cs[j]? = some u → w.cell? ⟨b, j, none⟩ = some u)
    (h1 : ∀ a, (a.spot = none → a.block = b → a.off < i ∨ i + 1 + (cs.drop i).length ≤ a.off) → w1.cell? a = w.cell? a) (h2 : w1.cell? ⟨b, i, none⟩ = some x) (h3 : ∀ j (hj : j < (cs.drop i).length), w1.cell? ⟨b, i + 1 + j, none⟩ = some (cs.drop i)[j]) :
    ∀ j u, (cs.take i ++ x :: cs.drop i)[j]? = some u → w1.cell? ⟨b, j, none⟩ = some u := by
  intro j u hj
  have hti : (cs.take i).length = i := by rw [List.length_take]; omega
  by_cases hlt : j < i
  · rw [List.getElem?_append_left (by omega), List.getElem?_take, if_pos hlt] at hj
    rw [h1 ⟨b, j, none⟩ (fun _ _ => .inl hlt)]
    exact hcs j u hlt hj
  · rw [List.getElem?_append_right (by omega), hti] at hj
    by_cases he : j = i
    · subst he
      rw [Nat.sub_self] at hj
      simp at hj
      subst hj
      exact h2
    · obtain ⟨k, rfl⟩ : ∃ k, j = i + 1 + k := ⟨j - i - 1, by omega⟩
      rw [show i + 1 + k - i = k + 1 by omega, List.getElem?_cons_succ] at hj
      obtain ⟨hk, hk2⟩ := List.getElem?_eq_some_iff.1 hj
      rw [h3 k hk, hk2]

/-- A string put in at i. -/
theorem insert_ok (g i cap vb : Nat) (cs : List Value) (x : Value) {w : World} {F : Nat → Prop} (hi : i < cs.length) (hown : OwnF w F 9 (.slice (some ⟨g, 0, none⟩) cs.length cap) cs) (hvb : Blk w vb [x] 9) (hne : vb ≠ g) (h1 : ∀ v ∈ cs, v.oneCell' = true) (hx1 : x.oneCell' = true) (hbig : cs.length + 1 ≤ 1000) :
    Calls Tryz.prog 39 #[.slice (some ⟨g, 0, none⟩) cs.length cap, .int .i64 (i : Nat), .slice (some ⟨vb, 0, none⟩) 1 1] w fun e w' =>
      ∃ g' c', e = .returned (.slice (some ⟨g', 0, none⟩) (cs.length + 1) c') ∧ cs.length + 1 ≤ c' ∧ g' < w'.heap.size ∧ (∀ j u, (cs.take i ++ x :: cs.drop i)[j]? = some u → w'.cell? ⟨g', j, none⟩ = some u) ∧ Keeps F w w' := by
  rcases hown.blk with ⟨hv, -⟩ | ⟨g2, cap2, cur, hv, hFg, hB, hc, hm, hcl, hct⟩
  · injection hv with hv; cases hv
  · injection hv with e1 e2 e3
    injection e1 with e1
    injection e1 with e1
    subst e1
    subst e3
    have hcell : ∀ j u, cs[j]? = some u → w.cell? ⟨g, j, none⟩ = some u := fun j u hj => by
      rw [hB.cell j]
      rw [← hct, List.getElem?_take] at hj
      split at hj
      · exact hj
      · cases hj
    have hxs : ∀ j v, [x][j]? = some v → w.cell? ⟨vb, 0 + j, none⟩ = some v := fun j v hj => by
      rw [Nat.zero_add, hvb.cell j]; exact hj
    have hdl : (cs.drop i).length = cs.length - i := List.length_drop
    by_cases hroom : cs.length + 1 ≤ cap
    · have hsome : ∀ j, j < cs.length + 1 → (w.cell? ⟨g, j, none⟩).isSome = true := fun j hj => by
        rw [hB.cell j, List.getElem?_eq_getElem (by omega)]; rfl
      have hsa : w.shape? vb = some (9, 1) := by simp [World.shape?, show w.heap[vb]? = _ from hvb]
      have hsb : w.shape? g = some (9, cap) := by simp [World.shape?, show w.heap[g]? = _ from hB, hcl]
      refine (Any2.slices_Insert_string_shift Tryz.laysIns g 0 cs.length cap i vb 0 1 1 cs [x] w hi (by decide) hroom (by unfold maxLen at hm; omega) hne rfl rfl (fun j v hj => by rw [Nat.zero_add]; exact hcell j v hj)
        (fun j hj => by rw [Nat.zero_add]; exact hsome j hj) (fun j hj => hB.frozen _) hxs h1 (fun v hv => by simp at hv; subst hv; exact hx1) 9 9 1 cap hsa hsb (by omega) (hvb.frozen _) (hvb.frozen _)).mono ?_
      rintro e w' ⟨rfl, rfl⟩
      refine ⟨g, cap, rfl, hroom, ?_, ?_, ?_⟩
      · rw [size_setCells, size_setCells]; exact hB.lt
      · simp only [Nat.zero_add]
        refine put_in g i x cs w _ hi hsome (fun j u _ hj => hcell j u hj) ?_ ?_ ?_
        · intro a ha
          rw [World.cell?_setCells_out g [x] i _ a (fun h1 h2 => (ha h2 h1).imp id (fun h => by simp; omega)),
            World.cell?_setCells_out g (cs.drop i) (i + 1) _ a (fun h1 h2 => (ha h2 h1).imp (fun h => by omega) id)]
          rfl
        · have := World.cell?_setCells_in g [x] i (w.drew.setCells g (i + 1) (cs.drop i)) (fun j hj => by
            simp at hj; subst hj
            rw [Nat.add_zero, World.cell?_setCells_out g (cs.drop i) (i + 1) _ _ (fun _ _ => .inl (by simp))]
            exact hsome i (by omega)) 0 (by simp)
          simpa using this
        · intro j hj
          rw [World.cell?_setCells_out g [x] i _ _ (fun _ _ => .inr (by simp))]
          exact World.cell?_setCells_in g (cs.drop i) (i + 1) w.drew (fun k hk => by
            exact hsome (i + 1 + k) (by omega)) j hj
      · exact keeps_setCells hFg _ _ _ (keeps_setCells hFg _ _ _ (Keeps.refl F w).drew)
    · refine (Any2.slices_Insert_string_grow Tryz.laysIns g 0 cs.length cap i vb 0 1 1 cs [x] w hi (by decide) hc (by omega) (by omega) rfl rfl (fun j v hj => by rw [Nat.zero_add]; exact hcell j v hj) hxs h1 (fun v hv => by simp at hv; subst hv; exact hx1)).mono ?_
      rintro e w' ⟨rfl, rfl⟩
      have hti : (cs.take i).length = i := by rw [List.length_take]; omega
      simp only [show Tryz.laysIns_ren.t 9 = 9 from rfl]
      have hsz : (Value.string ⟨#[]⟩).cells.size = 1 := rfl
      generalize hZ : ((cs.take i).toArray ++ Builtin.zeroCells (Value.string ⟨#[]⟩).cells (cs.length + 1 - i) ++ Builtin.zeroCells (Value.string ⟨#[]⟩).cells (grownCap w (cs.length + 1) cap 9 - (cs.length + 1)) : Array Value) = Z
      have hz1 : ∀ j, j < cs.length + 1 → Z[j]?.isSome = true := fun j hj => by
        have hs : cs.length + 1 ≤ Z.size := by
          rw [← hZ]
          simp only [Array.size_append, size_zeroCells, hsz, List.size_toArray, hti]
          omega
        rw [Array.getElem?_eq_getElem (by omega)]; rfl
      have hz2 : ∀ j u, j < i → cs[j]? = some u → Z[j]? = some u := fun j u hj hu => by
        rw [← hZ, Array.append_assoc, Array.getElem?_append_left (by simp [hti]; omega)]
        simp only [List.getElem?_toArray, List.getElem?_take, if_pos hj]
        exact hu
      have hgc : cs.length + 1 ≤ grownCap w (cs.length + 1) cap 9 := grownCap_ge _ _ _ _
      refine ⟨w.heap.size, _, rfl, hgc, ?_, ?_, ?_⟩
      · rw [size_setCells]
        show w.heap.size < ((w.alloc _).drew.setCells w.heap.size i [x]).heap.size
        rw [size_setCells]
        show w.heap.size < (w.alloc _).heap.size
        simp
      · have hb2 : Blk (w.alloc (.cells Z 9)) w.heap.size Z.toList 9 := by
          have := Blk.new w Z.toList 9
          simpa using this
        have hcw : ∀ j, (w.alloc (.cells Z 9)).cell? ⟨w.heap.size, j, none⟩ = Z[j]? := fun j => by rw [hb2.cell j]; simp
        refine put_in w.heap.size i x cs (w.alloc (.cells Z 9)) _ hi (fun j hj => by rw [hcw]; exact hz1 j hj) (fun j u hj hu => by rw [hcw]; exact hz2 j u hj hu) ?_ ?_ ?_
        · intro a ha
          rw [World.cell?_setCells_out w.heap.size (cs.drop i) (i + 1) _ a (fun h1 h2 => (ha h2 h1).imp (fun h => by omega) id)]
          show ((w.alloc (.cells Z 9)).drew.setCells w.heap.size i [x]).cell? a = _
          rw [World.cell?_setCells_out w.heap.size [x] i _ a (fun h1 h2 => (ha h2 h1).imp id (fun h => by simp; omega))]
          rfl
        · rw [World.cell?_setCells_out w.heap.size (cs.drop i) (i + 1) _ _ (fun _ _ => .inl (by simp))]
          have := World.cell?_setCells_in w.heap.size [x] i (w.alloc (.cells Z 9)).drew (fun j hj => by
            simp at hj; subst hj
            show ((w.alloc (.cells Z 9)).cell? _).isSome = true
            rw [hcw]; exact hz1 _ (by omega)) 0 (by simp)
          simpa using this
        · intro j hj
          refine World.cell?_setCells_in w.heap.size (cs.drop i) (i + 1) _ (fun k hk => ?_) j hj
          show (((w.alloc (.cells Z 9)).drew.setCells w.heap.size i [x]).cell? _).isSome = true
          rw [World.cell?_setCells_out w.heap.size [x] i _ _ (fun _ _ => .inr (by simp))]
          show ((w.alloc (.cells Z 9)).cell? _).isSome = true
          rw [hcw]; exact hz1 _ (by omega)
      · have k1 : Keeps (fun k => k = w.heap.size) (w.alloc (.cells Z 9)) ((((w.alloc (.cells Z 9)).drew.setCells w.heap.size i [x]).drew).setCells w.heap.size (i + 1) (cs.drop i)) :=
          keeps_setCells (F := fun k => k = w.heap.size) rfl _ _ _ ((keeps_setCells (F := fun k => k = w.heap.size) rfl _ _ _ (Keeps.refl _ _).drew).drew)
        exact (((Keeps.refl Nothing w).alloc _).up k1 (fun k hk => by omega)).mono (fun _ x _ => x.elim)
end Go.Proofs.YtdncojofilnhnaaGreatDoor
