/- The package variables as this seat's walks read them; the library's contracts over lists of bytes. -/
import Derived.Test.YtdncojofilnhnaaGreatDoorShelf
import Derived.Test.YtdncojofilnhnaaGreatDoorBase
import Derived.Test.YtdncojofilnhnaaGreatDoorMacP
namespace Go.Proofs.YtdncojofilnhnaaGreatDoor
open Go.RowKit Go.Lib Go.Sort

/-- What the package variables hold. -/
structure Gl (w : World) : Prop where
  et : w.cell? ⟨0, 0, none⟩ = some (.iface 144 (.agg #[.pointer (some ⟨10, 29, none⟩)]))
  ml : ∃ m, w.cell? ⟨1, 0, none⟩ = some (.int .i64 m)
  es : ∃ t p, w.cell? ⟨4, 0, none⟩ = some (.iface t p)
  er : ∃ t p, w.cell? ⟨5, 0, none⟩ = some (.iface t p)
  tab : TabIs Tryz.prog w "internal/strconv.uint64pow10" .u64 pow10Tab
  big : 10 ≤ w.heap.size

theorem pow_at : Tryz.prog.globalNamed "internal/strconv.uint64pow10" = some 3 := by kernel_rfl

theorem Gl.keeps {F : Nat → Prop} {w w' : World} (h : Gl w) (hk : Keeps F w w') (hF : ∀ k, k < 10 → ¬ F k) : Gl w' := by
  have hb := h.big
  have hc : ∀ k, k < 10 → w'.cell? ⟨k, 0, none⟩ = w.cell? ⟨k, 0, none⟩ := fun k hl => hk.cell (show k < w.heap.size by omega) (hF k hl)
  refine ⟨by rw [hc 0 (by decide)]; exact h.et, ?_, ?_, ?_, ?_, Nat.le_trans hb hk.size⟩
  · rw [hc 1 (by decide)]; exact h.ml
  · rw [hc 4 (by decide)]; exact h.es
  · rw [hc 5 (by decide)]; exact h.er
  · have := h.tab
    unfold TabIs World.var? at this ⊢
    rw [pow_at] at this ⊢
    simp only [Option.bind_some] at this ⊢
    rw [hk.block 3 (by omega) (hF 3 (by decide))]
    exact this

theorem Gl.same {w w' : World} (h : Gl w) (hk : Keeps Nothing w w') : Gl w' := h.keeps hk (fun _ _ x => x)

theorem keeps_below {w w' : World} (h : Below w.heap.size w w') : Keeps Nothing w w' := (Keeps.ofBelow h).mono (fun x h1 h2 => by omega)

theorem keeps_grow (w : World) (k : Nat) (os : Array Obj) : Keeps Nothing w (grow (w.drewN k) os) :=
  ⟨rfl, rfl, rfl, by simp [grow], fun i hi _ => by show (w.heap ++ os)[i]? = _; rw [Array.getElem?_append_left hi]⟩

theorem keeps_bytes (w : World) (e : TypeId) (s : ByteArray) : Keeps Nothing w (bytesWorld w e s) := keeps_below (bytesWorld_below w e s)

abbrev strV (l : List UInt8) : Value := .string ⟨l.toArray⟩

theorem strV_eta (s : ByteArray) : (.string s : Value) = strV s.data.toList := by cases s; simp [strV]

theorem strV_inj {a b : List UInt8} (h : (⟨a.toArray⟩ : ByteArray) = ⟨b.toArray⟩) : a = b := by
  injection h with h
  have := congrArg Array.toList h
  simpa using this

theorem str_size (l : List UInt8) : (ByteArray.mk l.toArray).size = l.length := by simp [ByteArray.size]

theorem splitB_ws (c : UInt8) (l : List UInt8) : (splitB ⟨[c].toArray⟩ 0 (countB ⟨l.toArray⟩ ⟨[c].toArray⟩) ⟨l.toArray⟩).map Value.string = (splitOn c l).map strV := by
  have h := splitB_data ⟨[c].toArray⟩ 0 (countB ⟨l.toArray⟩ ⟨[c].toArray⟩) ⟨l.toArray⟩
  have hc : countB ⟨l.toArray⟩ ⟨[c].toArray⟩ = count l [c] := rfl
  have h2 : splitK [c] 0 (countB ⟨l.toArray⟩ ⟨[c].toArray⟩) l = splitOn c l := by rw [hc]; exact split_on c l
  have h3 : (splitB ⟨[c].toArray⟩ 0 (countB ⟨l.toArray⟩ ⟨[c].toArray⟩) ⟨l.toArray⟩).map (·.data.toList) = splitOn c l := by
    rw [h]; simpa using h2
  rw [← h3, List.map_map]
  apply List.map_congr_left
  intro s _
  exact strV_eta s

theorem split_ok (l : List UInt8) (c : UInt8) (hl : l.length < 4294967281) {w : World} (hg : Gl w) :
    Calls Tryz.prog 19 #[strV l, strV [c]] w fun e w' => e = .returned (.slice (some ⟨w.heap.size, 0, none⟩) (splitOn c l).length (splitOn c l).length) ∧ Blk w' w.heap.size ((splitOn c l).map strV) 9 ∧ Keeps Nothing w w' := by
  obtain ⟨m, hm⟩ := hg.ml
  refine (Tryz.strings_Split ⟨l.toArray⟩ ⟨[c].toArray⟩ m w (by rw [str_size]; exact hl) hm (by rw [str_size]; exact Nat.le_refl _)).mono ?_
  rintro e w' ⟨rfl, rfl⟩
  have h1 := splitB_ws c l
  have h2 : countB ⟨l.toArray⟩ ⟨[c].toArray⟩ + 1 = (splitOn c l).length := by
    rw [← splitB_all ⟨[c].toArray⟩ (by rw [str_size]; exact Nat.le_refl _) 0 (countB ⟨l.toArray⟩ ⟨[c].toArray⟩) ⟨l.toArray⟩ rfl]
    have := congrArg List.length h1
    simpa using this
  rw [h2, h1]
  exact ⟨rfl, Blk.new w _ 9, (Keeps.refl _ _).alloc _⟩

theorem join_ok (b n c : Nat) (ws : List (List UInt8)) (sep : UInt8) {w : World} (hn : n = ws.length) (hc : n ≤ c) (hcells : ∀ j x, ws[j]? = some x → w.cell? ⟨b, j, none⟩ = some (strV x)) (hb : b < w.heap.size) (hN : n ≤ 140737488355328) (hlen : (joinOn sep ws).length ≤ 140737488355328) :
    Calls Tryz.prog 41 #[.slice (some ⟨b, 0, none⟩) n c, strV [sep]] w fun e w' => e = .returned (strV (joinOn sep ws)) ∧ Keeps Nothing w w' := by
  subst hn
  have hm : (ws.map fun l => (ByteArray.mk l.toArray)).map (·.data.toList) = ws := by
    rw [List.map_map]
    conv => rhs; rw [← List.map_id ws]
    apply List.map_congr_left
    intro x _
    simp
  have := Tryz.strings_Join b 0 c (ws.map fun l => ⟨l.toArray⟩) ⟨[sep].toArray⟩ w (fun j x hj => by
    rw [List.getElem?_map, Option.map_eq_some_iff] at hj
    obtain ⟨y, hy, rfl⟩ := hj
    rw [Nat.zero_add]
    exact hcells j y hy) hb (by rw [List.length_map]; exact hN) (by rw [List.length_map]; exact hc) (by rw [hm]; simpa [join_on] using hlen)
  rw [hm, List.length_map] at this
  have hs : (ByteArray.mk [sep].toArray).data.toList = [sep] := by simp
  rw [hs, join_on] at this
  refine this.mono ?_
  rintro e w' ⟨rfl, h⟩
  exact ⟨rfl, keeps_below h⟩

theorem fmt_ok (n : Int) (h0 : -9223372036854775808 ≤ n) (h1 : n ≤ 9223372036854775807) {w : World} (hg : Gl w) :
    Calls Tryz.prog 37 #[.int .i64 n, .int .i64 10] w fun e w' => e = .returned (strV (itoa n)) ∧ Keeps Nothing w w' := by
  refine (Tryz.strconv_FormatInt_10 n h0 h1 w hg.tab).mono ?_
  rintro e w' ⟨rfl, k, os, rfl⟩
  exact ⟨rfl, keeps_grow w k os⟩

theorem itoa_ok (n : Int) (h0 : -9223372036854775808 ≤ n) (h1 : n ≤ 9223372036854775807) {w : World} (hg : Gl w) :
    Calls Tryz.prog 53 #[.int .i64 n] w fun e w' => e = .returned (strV (itoa n)) ∧ Keeps Nothing w w' := by
  refine (Tryz.strconv_Itoa n h0 h1 w hg.tab).mono ?_
  rintro e w' ⟨rfl, k, os, rfl⟩
  exact ⟨rfl, keeps_grow w k os⟩

/-- What strconv.ParseInt comes to: the number, or some error. -/
def ParsedInt (l : List UInt8) (e : Ending) : Prop := match parseIntB 64 l with
  | .ok v => e = .returned (.tuple #[.int .i64 v, .nilIface])
  | _ => ∃ x N, e = .returned (.tuple #[.int .i64 x, .iface 183 (.pointer (some ⟨N, 0, none⟩))])

theorem parseInt_ok (l : List UInt8) (hl : l.length ≤ 281474976710656) {w : World} (hg : Gl w) :
    Calls Tryz.prog 45 #[strV l, .int .i64 10, .int .i64 64] w fun e w' => ParsedInt l e ∧ Keeps Nothing w w' := by
  have hd : (ByteArray.mk l.toArray).data.toList = l := by simp
  unfold ParsedInt
  cases h : parseIntB 64 l
  next v =>
    refine (Tryz.strconv_ParseInt_10_at64_ok ⟨l.toArray⟩ (by rw [str_size]; omega) v (by rw [hd]; exact h) w).mono ?_
    rintro e w' ⟨rfl, rfl | ⟨t, rfl⟩⟩
    · exact ⟨rfl, Keeps.refl _ _⟩
    · exact ⟨rfl, keeps_bytes _ _ _⟩
  next =>
    obtain ⟨t, p, hv⟩ := hg.es
    refine (Tryz.strconv_ParseInt_10_at64_syntax ⟨l.toArray⟩ (by rw [str_size]; omega) (by rw [hd]; exact h) _ w hv (.inr ⟨t, p, rfl⟩)).mono ?_
    rintro e w' ⟨N, rfl, -, -, hb⟩
    exact ⟨⟨_, N, rfl⟩, keeps_below hb⟩
  next =>
    obtain ⟨t, p, hv⟩ := hg.er
    refine (Tryz.strconv_ParseInt_10_at64_range ⟨l.toArray⟩ (by rw [str_size]; omega) (by rw [hd]; exact h) _ w hv (.inr ⟨t, p, rfl⟩)).mono ?_
    rintro e w' ⟨N, rfl, -, -, hb⟩
    exact ⟨⟨_, N, rfl⟩, keeps_below hb⟩

theorem idx_list (x : List UInt8) : ∀ (ws : List (List UInt8)) (i : Nat), idxFromS (ws.map fun l => ⟨l.toArray⟩) ⟨x.toArray⟩ i = if idxL x ws = -1 then -1 else idxL x ws + i
  | [], i => by simp [idxFromS, idxL]
  | w :: ws, i => by
    have hge := idxL_ge x ws
    rw [List.map_cons, idxFromS, idx_list x ws (i + 1)]
    by_cases e : w = x
    · subst e; simp [idxL]
    · have : (⟨w.toArray⟩ : ByteArray) ≠ ⟨x.toArray⟩ := fun h => e (strV_inj h)
      have eu : idxL x (w :: ws) = if idxL x ws = -1 then -1 else idxL x ws + 1 := by rw [idxL, if_neg e]
      rw [if_neg this, eu]
      by_cases h1 : idxL x ws = -1
      · simp [h1]
      · rw [if_neg h1, if_neg h1, if_neg (by omega)]; omega

theorem index_ok (x : List UInt8) (ws : List (List UInt8)) (b c : Nat) {w : World} (hb : Blk w b (ws.map strV) 9) (hl : ws.length ≤ 9223372036854775807) :
    Calls Tryz.prog 43 #[.slice (some ⟨b, 0, none⟩) ws.length c, strV x] w fun e w' => e = .returned (.int .i64 (idxL x ws)) ∧ w' = w := by
  have := Tryz.slices_Index_string b 0 ws.length c (ws.map fun l => ⟨l.toArray⟩) ⟨x.toArray⟩ w (by simp) hl (fun j hj => by
    rw [List.length_map] at hj
    rw [Nat.zero_add, hb.cell j]
    simp [List.getD, List.getElem?_eq_getElem hj])
  refine this.mono ?_
  rintro e w' ⟨rfl, rfl⟩
  refine ⟨?_, rfl⟩
  rw [List.take_of_length_le (by simp)]
  congr 2
  unfold idxOfS
  rw [idx_list]
  split
  · rename_i h; exact h.symm
  · simp

theorem hasPrefix_ok (a p : List UInt8) (w : World) :
    Calls Tryz.prog 25 #[strV a, strV p] w fun e w' => e = .returned (.bool (Lib.hasPrefix a p)) ∧ w' = w := by
  have := Tryz.strings_HasPrefix ⟨a.toArray⟩ ⟨p.toArray⟩ w
  simpa using this

end Go.Proofs.YtdncojofilnhnaaGreatDoor
