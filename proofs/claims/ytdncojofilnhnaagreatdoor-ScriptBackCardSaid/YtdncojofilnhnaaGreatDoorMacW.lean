/- An address in words: the walk. -/
import Derived.Test.YtdncojofilnhnaaGreatDoorBase
import Derived.Test.YtdncojofilnhnaaGreatDoorMacP
import Derived.Deep.DeepCutAuto
import Derived.Deep.RegionLaw
import Derived.Deep.CutRange
import Derived.Deep.CutBlock
namespace Go.Proofs.YtdncojofilnhnaaGreatDoor
open Go.RowKit

theorem run_index_arr {P : Program} {T e n : Nat} {cs : Array Value} {j : Nat} {v : Value} (w : World) (hT : P.underlying T = some (.array n e)) (hs : (sizeOf e).run P w = .ok 1 w) (ha : (isAgg e).run P w = .ok false w)
    (hj : j < n) (hv : cs[j]? = some v) (hjb : j < 9223372036854775808) : (Instr.index T (.agg cs) (.int .i64 (j : Nat))).run P w = .ok v w := by
  have h1 : (0 : Int) ≤ (j : Int) ∧ (j : Int) < (n : Int) := by omega
  have hw : IntKind.i64.wrap (j : Int) = (j : Int) := by rw [IntKind.wrap_i64]; omega
  simp [Instr.index, asIntOf, run_underlying hT, hw, hj, hs, part, ha, hv, Result.andThen]

theorem info5 : (Tryz.prog.info? 5).map (fun i => (i.zero, i.size, i.bytes)) = some (some (.int .u8 0), 1, 1) := by kernel_rfl

abbrev macV (m : List Int) : Value := .agg (m.map (Value.int .u8)).toArray

/-- An address as far as number j. -/
def macPre (m : List Int) (j : Nat) : Str := joinOn 58 ((m.take j).map hex2)

theorem joinOn_snoc (c : UInt8) (x : Str) : ∀ ws : List Str, ws ≠ [] → joinOn c (ws ++ [x]) = joinOn c ws ++ c :: x
  | [], h => absurd rfl h
  | [w], _ => rfl
  | w :: v :: ws, _ => by
    have := joinOn_snoc c x (v :: ws) (by simp)
    rw [List.cons_append, joinOn_cons c w (by simp), this, joinOn_cons c w (by simp)]
    simp

theorem macPre_zero {m : List Int} {x : Int} (hx : m[0]? = some x) : macPre m 1 = hex2 x := by
  cases m with
  | nil => simp at hx
  | cons y r => simp at hx; subst hx; simp [macPre, joinOn]

theorem macPre_succ {m : List Int} {j : Nat} {x : Int} (h0 : 0 < j) (hx : m[j]? = some x) : macPre m (j + 1) = (macPre m j ++ [58]) ++ hex2 x := by
  unfold macPre
  obtain ⟨hl, -⟩ := List.getElem?_eq_some_iff.1 hx
  rw [List.take_add_one, hx]
  simp only [Option.toList_some, List.map_append, List.map_cons, List.map_nil]
  rw [joinOn_snoc]
  · simp
  · intro e
    rw [List.map_eq_nil_iff, List.take_eq_nil_iff] at e
    rcases e with e | e
    · omega
    · rw [e] at hl; simp at hl

def MacInv (w : World) (m : List Int) (k : Nat) (v i : Value) (wr : World) : Prop :=
  ∃ j : Nat, j + k = 6 ∧ i = .int .i64 (j : Nat) ∧ (macPre m j).length ≤ 3 * j ∧ OwnS wr (fun k => w.heap.size ≤ k) 5 1 v (macPre m j).length (bcells (macPre m j)) ∧ (∃ A n c, v = .slice A n c) ∧ Keeps Nothing w wr

theorem and15 : ∀ k : Fin 256, bits .and .u8 (k.val : Int) 15 = ((k.val % 16 : Nat) : Int) := by decide +kernel

theorem hexAt : ∀ k : Fin 16, (#[48, 49, 50, 51, 52, 53, 54, 55, 56, 57, 97, 98, 99, 100, 101, 102] : Array UInt8)[k.val]? = some (hexD k.val) := by decide +kernel

/-- A digit out of the row of digits. -/
theorem hex_index (n : Nat) (h : n < 16) (w : World) : (Instr.index 9 (.string ⟨#[48, 49, 50, 51, 52, 53, 54, 55, 56, 57, 97, 98, 99, 100, 101, 102]⟩) (.int .u8 (n : Int))).run Tryz.prog w = .ok (.int .u8 ((hexD n).toNat : Nat)) w := by
  rw [run_index_string w 9 _ .u8 (n : Int) Tryz.underlying9, dif_pos ⟨by omega, by show (n : Int) < 16; omega⟩]
  congr 3
  have := hexAt ⟨n, h⟩
  obtain ⟨h1, h2⟩ := Array.getElem?_eq_some_iff.1 this
  rw [← h2]
  rfl

theorem size5 (w : World) : (sizeOf 5).run Tryz.prog w = .ok 1 w := by kernel_rfl
theorem isAgg5 (w : World) : (isAgg 5).run Tryz.prog w = .ok false w := by kernel_rfl

theorem lit1 (w : World) (v : Value) (T : TypeId) : ∀ (j : Nat) (u : Value), [v][j]? = some u → (w.alloc (.cells #[v] T)).cell? ((⟨w.heap.size, 0, none⟩ : Addr).add j) = some u := by
  intro j u hj
  cases j with
  | zero => simp at hj; subst hj; rw [Addr.add_lit]; exact (Blk.new w [v] T).cell 0
  | succ j => simp at hj

theorem lit2 (w : World) (v v' : Value) (T : TypeId) : ∀ (j : Nat) (u : Value), [v, v'][j]? = some u → (w.alloc (.cells #[v, v'] T)).cell? ((⟨w.heap.size, 0, none⟩ : Addr).add j) = some u := by
  intro j u hj
  rw [Addr.add_lit]
  match j with
  | 0 => simp at hj; subst hj; exact (Blk.new w [v, v'] T).cell 0
  | 1 => simp at hj; subst hj; exact (Blk.new w [v, v'] T).cell 1
  | j + 2 => simp at hj

set_option maxRecDepth 100000 in
set_option maxHeartbeats 8000000 in
theorem macText_ok (m : List Int) (hm : MacIs m) (w : World) :
    Calls Tryz.prog 40 #[macV m] w fun ev w' => ev = .returned (.string ⟨(macText m).toArray⟩) ∧ Keeps Nothing w w' := by
  obtain ⟨i0, hi0, hz0, hz1, hz2⟩ := info_parts info5
  obtain ⟨hl, hb⟩ := hm
  have HB := Lib.hid hb
  clear hb
  match m, hl with
  | [q0, q1, q2, q3, q4, q5], _ =>
    have K1 := Lib.hid ((Keeps.refl Nothing w).alloc (.cells #[.int .u8 q0, .int .u8 q1, .int .u8 q2, .int .u8 q3, .int .u8 q4, .int .u8 q5] 23))
    have HSZ : Hid (w.heap.size < (w.alloc (.cells #[.int .u8 q0, .int .u8 q1, .int .u8 q2, .int .u8 q3, .int .u8 q4, .int .u8 q5] 23)).heap.size) := by show w.heap.size < _; simp
    go_enter Tryz.func40, Tryz.ntmps40
    go_wp2
    generalize (w.alloc (.cells #[.int .u8 q0, .int .u8 q1, .int .u8 q2, .int .u8 q3, .int .u8 q4, .int .u8 q5] 23)) = w1 at *
    go_loopg [3, 7] 6 (fun k v i wr => MacInv w1 [q0, q1, q2, q3, q4, q5] k v i wr)
    case atStart => exact ⟨0, by omega, rfl, by simp [macPre, joinOn], (OwnF.nil w1 _ 5).toS, ⟨_, _, _, rfl⟩, Keeps.refl _ _⟩
    case round =>
      obtain ⟨j, hj, rfl, hln, hO, ⟨A0, n0, c0, rfl⟩, hk⟩ := hrel
      have HO := Lib.hid hO
      have HK := Lib.hid hk
      have hown : ∀ k, (Value.slice A0 n0 c0).ownBlock = some k → w1.heap.size ≤ k := fun k hk => hO.2 k hk
      have HLN := Lib.hid hln
      clear hO hk hln
      by_cases hlt : j < 6
      · obtain ⟨x, hx⟩ : ∃ x, [q0, q1, q2, q3, q4, q5][j]? = some x := ⟨_, List.getElem?_eq_getElem hlt⟩
        have hxb := HB.out x (List.mem_of_getElem? hx)
        have hv : (#[Value.int .u8 q0, .int .u8 q1, .int .u8 q2, .int .u8 q3, .int .u8 q4, .int .u8 q5] : Array Value)[j]? = some (.int .u8 x) := by
          have : (#[Value.int .u8 q0, .int .u8 q1, .int .u8 q2, .int .u8 q3, .int .u8 q4, .int .u8 q5] : Array Value) = ([q0, q1, q2, q3, q4, q5].map (Value.int .u8)).toArray := rfl
          rw [this, List.getElem?_toArray, List.getElem?_map, hx]; rfl
        have hix := fun w => run_index_arr (P := Tryz.prog) w Tryz.underlying23 (size5 w) (isAgg5 w) hlt hv (by omega)
        have HX := Lib.hid hx
        clear hx hv
        obtain ⟨hx0, hx1⟩ := hxb
        have hI1 : ∀ w, (Instr.index 9 (.string ⟨#[48, 49, 50, 51, 52, 53, 54, 55, 56, 57, 97, 98, 99, 100, 101, 102]⟩) (.int .u8 (x / 16))).run Tryz.prog w = .ok (.int .u8 ((hexD (x.toNat / 16)).toNat : Nat)) w := fun w => by
          have := hex_index (x.toNat / 16) (by omega) w
          rw [show ((x.toNat / 16 : Nat) : Int) = x / 16 by omega] at this
          exact this
        have hI2 : ∀ w, (Instr.index 9 (.string ⟨#[48, 49, 50, 51, 52, 53, 54, 55, 56, 57, 97, 98, 99, 100, 101, 102]⟩) (.int .u8 (bits .and .u8 x 15))).run Tryz.prog w = .ok (.int .u8 ((hexD (x.toNat % 16)).toNat : Nat)) w := fun w => by
          have := hex_index (x.toNat % 16) (by omega) w
          rw [show ((x.toNat % 16 : Nat) : Int) = bits .and .u8 x 15 by
            have := and15 ⟨x.toNat, by omega⟩
            simp only at this
            rw [show ((x.toNat : Nat) : Int) = x by omega] at this
            exact this.symm] at this
          exact this
        have hd1 : ∃ d1, d1 = (hexD (x.toNat / 16)).toNat := ⟨_, rfl⟩
        have hd2 : ∃ d2, d2 = (hexD (x.toNat % 16)).toNat := ⟨_, rfl⟩
        obtain ⟨d1, hd1⟩ := hd1
        obtain ⟨d2, hd2⟩ := hd2
        rw [← hd1] at hI1
        rw [← hd2] at hI2
        have hxc : bcells (hex2 x) = [.int .u8 (d1 : Nat), .int .u8 (d2 : Nat)] := by rw [hd1, hd2]; rfl
        have HXC := Lib.hid hxc
        have hxl : (hex2 x).length = 2 := rfl
        clear hd1 hd2 hxc
        have hln := HLN.out
        by_cases h0 : j = 0
        · have hj0 : ¬ (0 : Int) < (j : Int) := by omega
          have hpre : macPre [q0, q1, q2, q3, q4, q5] (j + 1) = macPre [q0, q1, q2, q3, q4, q5] j ++ hex2 x := by
            subst h0
            rw [macPre_zero HX.out]; rfl
          have HP := Lib.hid hpre
          clear h0 hpre
          generalize macPre [q0, q1, q2, q3, q4, q5] j = pre at *
          have HOA : ∀ o, OwnS (wr.drew.alloc o) (fun k => w1.heap.size ≤ k) 5 1 (.slice A0 n0 c0) pre.length (bcells pre) := fun o => HO.out.keeps ((Keeps.refl Nothing wr).drew.alloc o) (fun _ _ h => h)
          go_wp2_with fail
          go_region_law (refine step_append_lies _ rfl (.tmp 16) (.tmp 23) 71 rfl 0 5 i0 (.int .u8 0) 1 1 Tryz.underlying71 hi0 hz0 hz1 hz2 rfl (by decide) (.slice A0 n0 c0) pre.length (bcells pre) (by simp [Act.eval, Act.put]) (HOA (.cells #[.int .u8 (d1 : Nat), .int .u8 (d2 : Nat)] 5)).1 ⟨wr.heap.size, 0, none⟩ 2 2 [.int .u8 (d1 : Nat), .int .u8 (d2 : Nat)] (by simp [Act.eval, Act.put]) rfl (lit2 wr.drew _ _ 5) (fun u hu => by simp at hu; rcases hu with rfl | rfl <;> rfl) (by decide) (by unfold maxLen; omega) (by omega) (Nat.zero_le _) _ rfl ?_; intro g cap w3 hown3 hgrow hat hlt3)
          all_goals
            have HO3 := Lib.hid hown3
            have hfr : w1.heap.size ≤ g := by
              rcases hat with h | h
              · exact hown g h
              · have := HK.out.size
                have h2 : wr.heap.size ≤ g := by rw [h]; show wr.heap.size ≤ (wr.alloc _).heap.size; simp
                omega
            have HK3 : Hid (Keeps Nothing w1 w3) := HK.out.up (((Keeps.refl _ wr).drew.alloc _).trans (keeps_grown hgrow) (fun x hx hl => hx)) (fun k hk => hown k hk)
            clear hown3 hgrow hat
            go_wp2_with fail
            go_roundg (gk - 1)
            case measure => omega
            case rel =>
              refine ⟨j + 1, by omega, by go_num, by rw [HP.out, List.length_append, hxl]; omega, ?_, ⟨_, _, _, rfl⟩, HK3.out⟩
              rw [HP.out, List.length_append, hxl]
              refine ⟨?_, fun k hk => ?_⟩
              · have := HO3.out
                have e : bcells (pre ++ hex2 x) = bcells pre ++ bcells (hex2 x) := by simp [bcells]
                rw [e, HXC.out]
                exact this
              · simp [Value.ownBlock] at hk; omega
        · have hj0 : (0 : Int) < (j : Int) := by omega
          have hpre := macPre_succ (by omega) HX.out
          have HP := Lib.hid hpre
          clear h0 hpre
          generalize macPre [q0, q1, q2, q3, q4, q5] j = pre at *
          go_wp2_with (at_builtin; refine wpList_app rfl (.tmp 13) (.tmp 14) 71 rfl 5 i0 (.int .u8 0) 1 1 Tryz.underlying71 hi0 hz0 hz1 hz2 rfl (by decide) (fun k => w1.heap.size ≤ k) (.slice A0 n0 c0) pre.length (bcells pre) rfl (HO.out.keeps ((Keeps.refl Nothing wr).alloc _) (fun _ _ h => h)) ⟨wr.heap.size, 0, none⟩ 1 1 [.int .u8 58] rfl rfl (lit1 wr _ 5) (fun u hu => by simp at hu; subst hu; rfl) (by decide) (by omega) (by omega) ?_)
          intro g cap w2 hO2 hk2
          have HK2 : Hid (Keeps Nothing w1 w2) := HK.out.up (((Keeps.refl _ wr).alloc _).trans hk2 (fun x hx hl => hx)) (fun k hk => hown k hk)
          have hown2 : w1.heap.size ≤ g := by
            rcases hO2.2 g rfl with h | h
            · exact h
            · have := HK.out.size
              have h2 : wr.heap.size + 1 ≤ g := by simpa using h
              omega
          have HO2 : Hid (OwnS w2 (fun k => w1.heap.size ≤ k) 5 1 (.slice (some ⟨g, 0, none⟩) (pre.length + 1) cap) (pre.length + 1) (bcells pre ++ [Value.int .u8 58])) := ⟨hO2.1, fun k hk => by simp [Value.ownBlock] at hk; omega⟩
          have HOA : ∀ o, OwnS (w2.drew.alloc o) (fun k => w1.heap.size ≤ k) 5 1 (.slice (some ⟨g, 0, none⟩) (pre.length + 1) cap) (pre.length + 1) (bcells pre ++ [Value.int .u8 58]) := fun o => HO2.out.keeps ((Keeps.refl Nothing w2).drew.alloc o) (fun _ _ h => h)
          clear hO2 hk2
          go_wp2_with fail
          go_region_law (refine step_append_lies _ rfl (.tmp 16) (.tmp 23) 71 rfl 0 5 i0 (.int .u8 0) 1 1 Tryz.underlying71 hi0 hz0 hz1 hz2 rfl (by decide) (.slice (some ⟨g, 0, none⟩) (pre.length + 1) cap) (pre.length + 1) (bcells pre ++ [Value.int .u8 58]) (by simp [Act.eval, Act.put]) (HOA (.cells #[.int .u8 (d1 : Nat), .int .u8 (d2 : Nat)] 5)).1 ⟨w2.heap.size, 0, none⟩ 2 2 [.int .u8 (d1 : Nat), .int .u8 (d2 : Nat)] (by simp [Act.eval, Act.put]) rfl (lit2 w2.drew _ _ 5) (fun u hu => by simp at hu; rcases hu with rfl | rfl <;> rfl) (by decide) (by unfold maxLen; omega) (by omega) (Nat.zero_le _) _ rfl ?_; intro g3 cap3 w3 hown3 hgrow hat hlt3)
          all_goals
            have HO3 := Lib.hid hown3
            have hfr : w1.heap.size ≤ g3 := by
              rcases hat with h | h
              · simp [Value.ownBlock] at h; omega
              · have := HK2.out.size
                have h2 : w2.heap.size ≤ g3 := by rw [h]; show w2.heap.size ≤ (w2.alloc _).heap.size; simp
                omega
            have HK3 : Hid (Keeps Nothing w1 w3) := HK2.out.up (((Keeps.refl _ w2).drew.alloc _).trans (keeps_grown hgrow) (fun x hx hl => hx)) (fun k hk => by simp [Value.ownBlock] at hk; omega)
            clear hown3 hgrow hat
            go_wp2_with fail
            go_roundg (gk - 1)
            case measure => omega
            case rel =>
              have e1 : ((pre ++ [58]) ++ hex2 x).length = pre.length + 1 + 2 := by simp [hxl]
              refine ⟨j + 1, by omega, by go_num, by rw [HP.out, e1]; omega, ?_, ⟨_, _, _, rfl⟩, HK3.out⟩
              rw [HP.out, e1]
              refine ⟨?_, fun k hk => ?_⟩
              · have := HO3.out
                have e : bcells ((pre ++ [58]) ++ hex2 x) = (bcells pre ++ [Value.int .u8 58]) ++ bcells (hex2 x) := by simp [bcells]
                rw [e, HXC.out]
                exact this
              · simp [Value.ownBlock] at hk; omega
      · have hj6 : j = 6 := by omega
        subst hj6
        have hcv := conv_str (P := Tryz.prog) Tryz.underlying71 Tryz.underlying5 Tryz.underlying9 HO.out.toF.slR
        go_wp2_with fail
        go_ret
        exact ⟨rfl, K1.out.same HK.out⟩
end Go.Proofs.YtdncojofilnhnaaGreatDoor
