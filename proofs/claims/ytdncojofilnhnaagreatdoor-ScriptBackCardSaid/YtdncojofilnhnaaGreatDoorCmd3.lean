/- Parse: the walk. -/
import Derived.Test.YtdncojofilnhnaaGreatDoorCmd2
import Derived.Test.YtdncojofilnhnaaGreatDoorAddrW
import Derived.WalkMore
import Derived.Deep.RegionWith
namespace Go.Proofs.YtdncojofilnhnaaGreatDoor
open Go.RowKit Go.Lib

theorem results_cell26 {fn : Func} {p u : Tmp} (h : fn.results = #[.cell p 26, .tmp u]) (tmps : Array Value) (w : World) (g : Nat) (cs : List Value) (T : TypeId) (hp : tmps.getD p undef = .pointer (some ⟨g, 0, none⟩)) (hB : Blk w g cs T) (h4 : cs.length = 8) :
    (results fn tmps).run Tryz.prog w = .ok (.tuple #[.agg cs.toArray, tmps.getD u undef]) w := by
  rw [results_cell_tmp h, hp]
  have hi : (Tryz.prog.info? 26).map (·.size) = some 8 := by kernel_rfl
  have hl := run_loadVar_row (P := Tryz.prog) w g T 26 cs.toArray (0, 0) _ hB Tryz.underlying26 rfl (by rw [List.size_toArray, h4]; exact hi)
  simp [asAddr, hl]

theorem Blk.eight {w : World} {b T : Nat} {a0 a1 a2 a3 a4 a5 a6 a7 : Value} (h : Blk w b [a0, a1, a2, a3, a4, a5, a6, a7] T) :
    w.cell? ⟨b, 0, none⟩ = some a0 ∧ w.cell? ⟨b, 1, none⟩ = some a1 ∧ w.cell? ⟨b, 2, none⟩ = some a2 ∧ w.cell? ⟨b, 3, none⟩ = some a3 ∧ w.cell? ⟨b, 4, none⟩ = some a4 ∧ w.cell? ⟨b, 5, none⟩ = some a5 ∧ w.cell? ⟨b, 6, none⟩ = some a6 ∧ w.cell? ⟨b, 7, none⟩ = some a7 :=
  ⟨h.cell 0, h.cell 1, h.cell 2, h.cell 3, h.cell 4, h.cell 5, h.cell 6, h.cell 7⟩

theorem Blk.fr8 {w : World} {b T : Nat} {l : List Value} (h : Blk w b l T) :
    w.frozen? ⟨b, 0, none⟩ = false ∧ w.frozen? ⟨b, 1, none⟩ = false ∧ w.frozen? ⟨b, 2, none⟩ = false ∧ w.frozen? ⟨b, 3, none⟩ = false ∧ w.frozen? ⟨b, 4, none⟩ = false ∧ w.frozen? ⟨b, 5, none⟩ = false ∧ w.frozen? ⟨b, 6, none⟩ = false ∧ w.frozen? ⟨b, 7, none⟩ = false :=
  ⟨h.frozen 0, h.frozen 1, h.frozen 2, h.frozen 3, h.frozen 4, h.frozen 5, h.frozen 6, h.frozen 7⟩

theorem Blk.put8 {w : World} {b T : Nat} {l : List Value} (h : Blk w b l T) (hl : l.length = 8) (a0 a1 a2 a3 a4 a5 a6 a7 : Value) :
    Blk ((((((((w.setCell ⟨b, 0, none⟩ a0).setCell ⟨b, 1, none⟩ a1).setCell ⟨b, 2, none⟩ a2).setCell ⟨b, 3, none⟩ a3).setCell ⟨b, 4, none⟩ a4).setCell ⟨b, 5, none⟩ a5).setCell ⟨b, 6, none⟩ a6).setCell ⟨b, 7, none⟩ a7) b [a0, a1, a2, a3, a4, a5, a6, a7] T := by
  have := ((((((((h.set 0 a0).set 1 a1).set 2 a2).set 3 a3).set 4 a4).set 5 a5).set 6 a6).set 7 a7)
  match l, hl with
  | [_, _, _, _, _, _, _, _], _ => exact this

theorem keeps_put8 {F : Nat → Prop} {w0 w : World} (h : Keeps F w0 w) {b : Nat} (hb : F b) (a0 a1 a2 a3 a4 a5 a6 a7 : Value) :
    Keeps F w0 ((((((((w.setCell ⟨b, 0, none⟩ a0).setCell ⟨b, 1, none⟩ a1).setCell ⟨b, 2, none⟩ a2).setCell ⟨b, 3, none⟩ a3).setCell ⟨b, 4, none⟩ a4).setCell ⟨b, 5, none⟩ a5).setCell ⟨b, 6, none⟩ a6).setCell ⟨b, 7, none⟩ a7) :=
  (((((((h.setCell (p := ⟨b, 0, none⟩) (fun _ => hb) _).setCell (p := ⟨b, 1, none⟩) (fun _ => hb) _).setCell (p := ⟨b, 2, none⟩) (fun _ => hb) _).setCell (p := ⟨b, 3, none⟩) (fun _ => hb) _).setCell (p := ⟨b, 4, none⟩) (fun _ => hb) _).setCell (p := ⟨b, 5, none⟩) (fun _ => hb) _).setCell (p := ⟨b, 6, none⟩) (fun _ => hb) _).setCell (p := ⟨b, 7, none⟩) (fun _ => hb) _

def cmd0V : Value := .agg #[.int .i64 0, .int .u8 0, .int .u8 0, .int .u8 0, .int .u8 0, .int .u8 0, .int .u8 0, .slice none 0 0]

/-- What Parse comes to. -/
def ParseIs (w' : World) (B : Nat) (line : Str) (ev : Ending) : Prop := match parseP addrP line with
  | .ok c => MacIs c.mac ∧ (∀ a ∈ c.args, -9223372036854775808 ≤ a ∧ a ≤ 9223372036854775807) ∧ c.args.length ≤ line.length + 1 ∧ ∃ v, OwnF w' (fun k => B ≤ k) 2 v (icells c.args) ∧ ev = .returned (.tuple #[cmdV c v, .nilIface])
  | .error e => ∃ v, WrErr w' v (some e) ∧ ev = .returned (.tuple #[cmd0V, v])

theorem parse_err {line : Str} {n k : Int} {w : World} {B rb b : Nat} {l : List Value} (hpp : parseP addrP line = .error (n, k)) (hrb : Blk w rb l 26) (hbk : Blk w b [.int .i64 n, .iface 33 (.int .i64 k)] 48) (hb0 : 10 ≤ b) :
    ParseIs ((((((((w.setCell ⟨rb, 0, none⟩ (.int .i64 0)).setCell ⟨rb, 1, none⟩ (.int .u8 0)).setCell ⟨rb, 2, none⟩ (.int .u8 0)).setCell ⟨rb, 3, none⟩ (.int .u8 0)).setCell ⟨rb, 4, none⟩ (.int .u8 0)).setCell ⟨rb, 5, none⟩ (.int .u8 0)).setCell ⟨rb, 6, none⟩ (.int .u8 0)).setCell ⟨rb, 7, none⟩ (.slice none 0 0)) B line
      (.returned (.tuple #[.agg #[.int .i64 0, .int .u8 0, .int .u8 0, .int .u8 0, .int .u8 0, .int .u8 0, .int .u8 0, .slice none 0 0], .iface 42 (.pointer (some ⟨b, 0, none⟩))])) := by
  unfold ParseIs
  rw [hpp]
  have hne : ¬ b = rb := fun e => by subst e; exact absurd (hbk.inj hrb) (by decide)
  exact ⟨_, ⟨b, hb0, rfl, hbk.keeps (keeps_put8 (F := fun k => k = rb) (Keeps.refl _ _) rfl _ _ _ _ _ _ _ _) hne⟩, rfl⟩

def PInv (w5 : World) (cb : Nat) (kd : Int) (AD : Bool) (R : List Str) (k : Nat) (i : Value) (wr : World) : Prop :=
  ∃ (j : Nat) (m xs : List Int) (A : Option Addr) (n c : Nat), j + k = R.length ∧ i = .int .i64 (j : Nat) ∧ MacIs m ∧ (∀ a ∈ xs, -9223372036854775808 ≤ a ∧ a ≤ 9223372036854775807) ∧ xs.length ≤ j ∧
    Blk wr cb (cmdCells ⟨kd, m, xs⟩ (.slice A n c)) 26 ∧ OwnS wr (fun k => cb < k) 2 1 (.slice A n c) xs.length (icells xs) ∧ readArgs AD addrP 0 R (mac0, []) = readArgs AD addrP j (R.drop j) (m, xs) ∧ Keeps (fun k => cb ≤ k) w5 wr

theorem info2 : (Tryz.prog.info? 2).map (fun i => (i.zero, i.size, i.bytes)) = some (some (.int .i64 0), 1, 8) := by kernel_rfl

theorem Blk.putMac {w : World} {b T : Nat} {v0 z0 z1 z2 z3 z4 z5 v7 : Value} (h : Blk w b [v0, z0, z1, z2, z3, z4, z5, v7] T) (a0 a1 a2 a3 a4 a5 : Value) :
    Blk ((((((w.setCell ⟨b, 1, none⟩ a0).setCell ⟨b, 2, none⟩ a1).setCell ⟨b, 3, none⟩ a2).setCell ⟨b, 4, none⟩ a3).setCell ⟨b, 5, none⟩ a4).setCell ⟨b, 6, none⟩ a5) b [v0, a0, a1, a2, a3, a4, a5, v7] T :=
  (((((h.set 1 a0).set 2 a1).set 3 a2).set 4 a3).set 5 a4).set 6 a5

theorem keeps_putMac {F : Nat → Prop} {w0 w : World} (h : Keeps F w0 w) {b : Nat} (hb : F b) (a0 a1 a2 a3 a4 a5 : Value) :
    Keeps F w0 ((((((w.setCell ⟨b, 1, none⟩ a0).setCell ⟨b, 2, none⟩ a1).setCell ⟨b, 3, none⟩ a2).setCell ⟨b, 4, none⟩ a3).setCell ⟨b, 5, none⟩ a4).setCell ⟨b, 6, none⟩ a5) :=
  (((((h.setCell (p := ⟨b, 1, none⟩) (fun _ => hb) _).setCell (p := ⟨b, 2, none⟩) (fun _ => hb) _).setCell (p := ⟨b, 3, none⟩) (fun _ => hb) _).setCell (p := ⟨b, 4, none⟩) (fun _ => hb) _).setCell (p := ⟨b, 5, none⟩) (fun _ => hb) _).setCell (p := ⟨b, 6, none⟩) (fun _ => hb) _

theorem six_of {m : List Int} (h : MacIs m) : ∃ q0 q1 q2 q3 q4 q5, m = [q0, q1, q2, q3, q4, q5] := by
  obtain ⟨h, -⟩ := h
  match m, h with
  | [a, b, c, d, e, f], _ => exact ⟨a, b, c, d, e, f, rfl⟩

theorem cell7 {w : World} {cb : Nat} {kd : Int} {m xs : List Int} {v : Value} (hm : MacIs m) (h : Blk w cb (cmdCells ⟨kd, m, xs⟩ v) 26) : w.cell? ⟨cb, 7, none⟩ = some v := by
  obtain ⟨q0, q1, q2, q3, q4, q5, rfl⟩ := six_of hm
  exact h.cell 7

theorem set7 {w : World} {cb : Nat} {kd : Int} {m xs ys : List Int} {v v' : Value} (hm : MacIs m) (h : Blk w cb (cmdCells ⟨kd, m, xs⟩ v) 26) : Blk (w.setCell ⟨cb, 7, none⟩ v') cb (cmdCells ⟨kd, m, ys⟩ v') 26 := by
  obtain ⟨q0, q1, q2, q3, q4, q5, rfl⟩ := six_of hm
  exact h.set 7 v'

set_option maxRecDepth 100000 in
set_option maxHeartbeats 8000000 in
theorem parse_ok (line : Str) (hl : line.length < 4294967280) {w : World} (hg : Gl w) :
    Calls Tryz.prog 17 #[strV line] w fun ev w' => ParseIs w' w.heap.size line ev ∧ Keeps Nothing w w' := by
  have k1 : Keeps Nothing w (w.alloc (.cells #[.int .i64 0, .int .u8 0, .int .u8 0, .int .u8 0, .int .u8 0, .int .u8 0, .int .u8 0, .slice none 0 0] 26)) := (Keeps.refl _ _).alloc _
  have hr1 := Blk.new w [.int .i64 0, .int .u8 0, .int .u8 0, .int .u8 0, .int .u8 0, .int .u8 0, .int .u8 0, .slice none 0 0] 26
  have hg1 := hg.same k1
  have hsp := split_ok line 32 (by omega) hg1
  have hsz1 : (w.alloc (.cells #[.int .i64 0, .int .u8 0, .int .u8 0, .int .u8 0, .int .u8 0, .int .u8 0, .int .u8 0, .slice none 0 0] 26)).heap.size = w.heap.size + 1 := by simp
  rw [hsz1] at hsp
  have K1 := Lib.hid k1
  have HR1 : Hid (Blk (w.alloc (.cells #[.int .i64 0, .int .u8 0, .int .u8 0, .int .u8 0, .int .u8 0, .int .u8 0, .int .u8 0, .slice none 0 0] 26)) w.heap.size [.int .i64 0, .int .u8 0, .int .u8 0, .int .u8 0, .int .u8 0, .int .u8 0, .int .u8 0, .slice none 0 0] 26) := hr1
  have HG1 := Lib.hid hg1
  have HBIG := Lib.hid hg.big
  have hwl := splitOn_len 32 line
  obtain ⟨w0, rest, hws⟩ : ∃ w0 rest, splitOn 32 line = w0 :: rest := by
    cases h : splitOn 32 line with
    | nil => exact absurd h (splitOn_ne 32 line)
    | cons a r => exact ⟨a, r, rfl⟩
  have hle : ∀ x ∈ w0 :: rest, x.length ≤ line.length := fun x hx => splitOn_le 32 line x (by rw [hws]; exact hx)
  rw [hws] at hsp hwl
  have HWS := Lib.hid hws
  have HLE := Lib.hid hle
  have hlen : (w0 :: rest).length = rest.length + 1 := rfl
  rw [hlen] at hsp hwl
  clear k1 hr1 hg1 hg hws hle hsz1 hlen
  go_enter Tryz.func17, Tryz.ntmps17
  go_wp2
  go_step3
  go_wp2_with (go_at_call 19; refine hsp.mono ?_; rintro e w2 ⟨rfl, hb, k2⟩; have HWB := Lib.hid hb; have K2 := Lib.hid (K1.out.same k2); have HR2 := Lib.hid (HR1.out.keeps k2 (fun h => h)); have HG2 := Lib.hid (HG1.out.same k2); clear k2 hb)
  have d0 : w2.drew.cell? ⟨w.heap.size + 1, 0, none⟩ = some (strV w0) := HWB.out.cell 0
  have hn0 : (0 : Int) < ((rest.length + 1 : Nat) : Int) := by omega
  have hsn := split_ok namesText 32 (by decide) (HG2.out.same (Keeps.refl Nothing w2).drew)
  rw [split_names] at hsn
  have hlen2 : namesL.length = 10 := rfl
  rw [hlen2] at hsn
  clear hsp HR1 HG1 K1
  go_region_held3 (fun v => v.cell? ⟨w.heap.size + 1, 0, none⟩ = some (strV w0)) (first | exact d0 | exact c0) (first | (go_at_call 19; refine hsn.mono ?_; rintro e w3 ⟨rfl, hb3, k3⟩; have hix := index_ok w0 namesL _ 10 hb3 (by decide); have c0 : w3.cell? ⟨w.heap.size + 1, 0, none⟩ = some (strV w0) := (HWB.out.drew.keeps k3 (fun h => h)).cell 0; have K3 := Lib.hid k3; clear k3 hb3) | (go_at_call 43; refine hix.mono ?_; rintro e w4 ⟨rfl, rfl⟩))
  have hKA : Keeps Nothing w w4 := K2.out.same ((Keeps.refl Nothing w2).drew.same K3.out)
  have hRB := (HR2.out.drew.keeps K3.out (fun h => h))
  have hWB := (HWB.out.drew.keeps K3.out (fun h => h))
  have hGL := HG2.out.same ((Keeps.refl Nothing w2).drew.same K3.out)
  have HKA := Lib.hid hKA
  have HRB := Lib.hid hRB
  have HWB3 := Lib.hid hWB
  have HGL := Lib.hid hGL
  clear hKA hRB hWB hGL hix hsn d0 c0 K2 K3 HR2 HG2 HWB
  have hixr := idxL_lt w0 namesL
  rw [hlen2] at hixr
  have hixn := @idx_named w0
  obtain ⟨kd, hkd⟩ : ∃ kd, kd = idxL w0 namesL := ⟨_, rfl⟩
  rw [← hkd] at hixr hixn ⊢
  by_cases hneg : kd < 0
  · have hpp : parseP addrP line = .error (0, 11) := by
      unfold parseP
      simp only [HWS.out, List.headD_cons, ← hkd, if_pos hneg]
    have HPP := Lib.hid hpp
    have hwr := wrong_ok 0 11 HGL.out.big
    clear hpp hixr hixn hkd
    go_wp2_with (go_at_call 42; refine hwr.mono ?_; rintro e w5 ⟨v, rfl, ⟨b, hb0, rfl, hbk⟩, k5⟩; have K5 := Lib.hid k5; have hrb := HRB.out.keeps k5 (fun h => h); obtain ⟨f0, f1, f2, f3, f4, f5, f6, f7⟩ := hrb.fr8; obtain ⟨r0, r1, r2, r3, r4, r5, r6, r7⟩ := hrb.eight; have HRB5 := Lib.hid hrb; have HBK := Lib.hid hbk; clear k5 hrb hbk)
    rw [Exit.noGoto_ret]
    (try simp only [Exit.inBlock, Exit.then])
    refine bodyPost_ret (results_cell26 rfl _ _ w.heap.size _ 26 rfl (HRB5.out.put8 rfl _ _ _ _ _ _ _ _) rfl) rfl ?_
    exact ⟨parse_err HPP.out HRB5.out HBK.out hb0, (HKA.out.same K5.out).up (keeps_put8 (F := fun k => k = w.heap.size) (Keeps.refl _ _) rfl _ _ _ _ _ _ _ _) (fun k h => by omega)⟩
  · have hkd0 : 0 ≤ kd := by omega
    obtain ⟨-, hkw⟩ := hixn hkd0
    have hsh := shape_ok kd
    have hpp : parseP addrP line = match readArgs (addrOf kd) addrP 0 rest (mac0, []) with
        | .error e => .error e
        | .ok (m, xs) => if addrOf kd = true ∧ rest.length + 1 < 3 then .error (rest.length + 1, 2) else match checkP ⟨kd, m, xs⟩ with
          | some e => .error e
          | none => .ok ⟨kd, m, xs⟩ := by
      unfold parseP
      simp only [HWS.out, List.headD_cons, List.tail_cons, ← hkd, if_neg hneg, List.length_cons]
      rfl
    have HPP := Lib.hid hpp
    clear hixn hkd hpp hkw
    go_wp2_with (go_at_call 38; refine (hsh _).mono ?_; rintro e w5 ⟨rfl, rfl⟩)
    have HC5 : Hid (Blk (w4.alloc (.cells #[.int .i64 kd, .int .u8 0, .int .u8 0, .int .u8 0, .int .u8 0, .int .u8 0, .int .u8 0, .slice none 0 0] 26)) w4.heap.size (cmdCells ⟨kd, mac0, []⟩ (.slice none 0 0)) 26) := Blk.new w4 _ 26
    have HO5 : Hid (OwnS (w4.alloc (.cells #[.int .i64 kd, .int .u8 0, .int .u8 0, .int .u8 0, .int .u8 0, .int .u8 0, .int .u8 0, .slice none 0 0] 26)) (fun k => w4.heap.size < k) 2 1 (.slice none 0 0) 0 (icells [])) := OwnS.nil _ _ _ _
    have kk : Keeps Nothing w4 (w4.alloc (.cells #[.int .i64 kd, .int .u8 0, .int .u8 0, .int .u8 0, .int .u8 0, .int .u8 0, .int .u8 0, .slice none 0 0] 26)) := (Keeps.refl _ _).alloc _
    have HK5 := Lib.hid (HKA.out.same kk)
    have HR5 := Lib.hid (HRB.out.keeps kk (fun h => h))
    have HW5 := Lib.hid (HWB3.out.keeps kk (fun h => h))
    have HG5 := Lib.hid (HGL.out.same kk)
    have hs5 : w4.heap.size < (w4.alloc (.cells #[.int .i64 kd, .int .u8 0, .int .u8 0, .int .u8 0, .int .u8 0, .int .u8 0, .int .u8 0, .slice none 0 0] 26)).heap.size := by simp
    have hwlt : w.heap.size + 1 < w4.heap.size := HWB3.out.lt
    clear HKA HRB HWB3 HGL kk
    generalize w4.alloc (.cells #[.int .i64 kd, .int .u8 0, .int .u8 0, .int .u8 0, .int .u8 0, .int .u8 0, .int .u8 0, .slice none 0 0] 26) = w5 at *
    generalize hcb : w4.heap.size = cb at *
    clear hcb
    generalize addrOf kd = AD at *
    have hrlt : w.heap.size < cb := by omega
    cases rest with
    | nil =>
      have HKW := HK5
      have hck := check_ok ⟨kd, mac0, []⟩ mac0_is (show -9223372036854775808 ≤ kd ∧ kd ≤ 9223372036854775807 from ⟨by omega, by omega⟩) (by simp) none 0 HG5.out.big
      have hl0 := least_range kd
      have hcp : checkP ⟨kd, mac0, []⟩ = some (1, 2) := by
        unfold checkP
        simp only
        rw [if_neg (by omega), if_pos (by simp; omega)]
        rfl
      rw [hcp] at hck
      have HCH : Hid (Calls Tryz.prog 14 #[.agg #[.int .i64 kd, .int .u8 0, .int .u8 0, .int .u8 0, .int .u8 0, .int .u8 0, .int .u8 0, .slice none 0 0]] w5 _) := hck
      have hpe : parseP addrP line = .error (1, 2) := by
        rw [HPP.out, readArgs]
        simp only
        rw [hcp]
        cases AD <;> simp
      have HPE := Lib.hid hpe
      obtain ⟨b0, b1, b2, b3, b4, b5, b6, b7⟩ := Blk.eight HC5.out
      clear hcp hck hpe hl0
      cases AD with
      | true =>
        go_step3
        go_wp2
        refine wp_loop_rounds 1 ?_
        rw [rounds_succ]
        go_wp2_with (go_at_call 42; refine (wrong_ok _ _ HG5.out.big).mono ?_; rintro e w6 ⟨v, rfl, ⟨b, hb0, rfl, hbk⟩, k6⟩; have K6 := Lib.hid k6; have hrb := HR5.out.keeps k6 (fun h => h); obtain ⟨f0, f1, f2, f3, f4, f5, f6, f7⟩ := hrb.fr8; obtain ⟨r0, r1, r2, r3, r4, r5, r6, r7⟩ := hrb.eight; have HRB6 := Lib.hid hrb; have HBK := Lib.hid hbk; clear k6 hrb hbk)
        rw [Exit.noGoto_ret]
        (try simp only [Exit.inBlock, Exit.then])
        refine bodyPost_ret (results_cell26 rfl _ _ w.heap.size _ 26 rfl (HRB6.out.put8 rfl _ _ _ _ _ _ _ _) rfl) rfl ?_
        exact ⟨parse_err HPE.out HRB6.out HBK.out hb0, (HKW.out.same K6.out).up (keeps_put8 (F := fun k => k = w.heap.size) (Keeps.refl _ _) rfl _ _ _ _ _ _ _ _) (fun k h => by omega)⟩
      | false =>
        go_step3
        go_wp2
        refine wp_loop_rounds 1 ?_
        rw [rounds_succ]
        go_wp2_with (go_at_call 14; refine HCH.out.mono ?_; rintro e w6 ⟨v, rfl, ⟨b, hb0, rfl, hbk⟩, k6⟩; have K6 := Lib.hid k6; have hrb := HR5.out.keeps k6 (fun h => h); obtain ⟨f0, f1, f2, f3, f4, f5, f6, f7⟩ := hrb.fr8; obtain ⟨r0, r1, r2, r3, r4, r5, r6, r7⟩ := hrb.eight; have HRB6 := Lib.hid hrb; have HBK := Lib.hid hbk; clear k6 hrb hbk)
        rw [Exit.noGoto_ret]
        (try simp only [Exit.inBlock, Exit.then])
        refine bodyPost_ret (results_cell26 rfl _ _ w.heap.size _ 26 rfl (HRB6.out.put8 rfl _ _ _ _ _ _ _ _) rfl) rfl ?_
        exact ⟨parse_err HPE.out HRB6.out HBK.out hb0, (HKW.out.same K6.out).up (keeps_put8 (F := fun k => k = w.heap.size) (Keeps.refl _ _) rfl _ _ _ _ _ _ _ _) (fun k h => by omega)⟩
    | cons y rest =>
      have hRp : 0 < (y :: rest).length := by simp
      have hRe : ¬ (y :: rest) = [] := by simp
      generalize y :: rest = R at *
      have hR1 : R.length + 1 ≤ line.length + 1 := by omega
      go_step3
      go_wp2
      go_loopg [39] R.length (fun k i wr => PInv w5 cb kd AD R k i wr)
      case atStart => exact ⟨0, mac0, [], none, 0, 0, by omega, rfl, mac0_is, fun a ha => by simp at ha, Nat.le_refl _, HC5.out, HO5.out, rfl, Keeps.refl _ _⟩
      case round =>
        obtain ⟨j, m, xs, A, n, c, hj, rfl, hm, hxs, hxl, hB, hO, hrd, hk⟩ := hrel
        have HM := Lib.hid hm
        have HXS := Lib.hid hxs
        have HBr := Lib.hid hB
        have HO := Lib.hid hO
        have HRD := Lib.hid hrd
        have HK := Lib.hid hk
        have HGr := Lib.hid (HG5.out.keeps hk (fun k h h2 => by have : cb ≤ k := h2; have := HBIG.out; omega))
        have HRr := Lib.hid (HR5.out.keeps hk (fun h => by have : cb ≤ w.heap.size := h; omega))
        have HWr := Lib.hid (HW5.out.keeps hk (fun h => by have : cb ≤ w.heap.size + 1 := h; omega))
        have HKW := Lib.hid (HK5.out.up hk (fun k h => by have : cb ≤ k := h; omega))
        clear hm hxs hB hO hrd hk
        by_cases hlt : j < R.length
        · obtain ⟨x, hx⟩ : ∃ x, R[j]? = some x := ⟨_, List.getElem?_eq_getElem hlt⟩
          have hxlen := HLE.out x (List.mem_cons_of_mem _ (List.mem_of_getElem? hx))
          have hdrop : R.drop j = x :: R.drop (j + 1) := by rw [List.drop_eq_getElem?_toList_append, hx]; rfl
          have hrd := HRD.out
          rw [hdrop, readArgs] at hrd
          have c0 : wr.cell? ⟨w.heap.size + 1, j + 1, none⟩ = some (strV x) := by
            have := HWr.out.cell (j + 1)
            rw [List.getElem?_map, List.getElem?_cons_succ, hx] at this
            exact this
          have c1 : wr.cell? ⟨w.heap.size + 1, 1 + j, none⟩ = some (strV x) := by rw [Nat.add_comm 1 j]; exact c0
          have hjl : (j : Int) < (R.length : Int) := by omega
          clear hx hdrop
          by_cases hadr : AD = true ∧ j = 1
          · obtain ⟨rfl, hj1⟩ := hadr
            rw [if_pos ⟨rfl, hj1⟩] at hrd
            have hj1a : (j : Int) ≤ 1 := by omega
            have hj1b : 1 ≤ (j : Int) := by omega
            have hac := addr_ok x (by omega) HGr.out
            unfold AddrIs at hac
            clear hj1
            cases hap : addrP x with
            | none =>
              rw [hap] at hac hrd
              simp only at hac hrd
              have hpe : parseP addrP line = .error ((j : Int) + 1, 4) := by rw [HPP.out, hrd]
              have HPE := Lib.hid hpe
              clear hap hrd hpe
              go_wp2_with (first | (go_at_call 44; refine hac.mono ?_; rintro e w7 ⟨⟨m', hm', rfl⟩, ka⟩; obtain ⟨q0, q1, q2, q3, q4, q5, rfl⟩ := six_of hm'; have ka := ka.alloc (.cells #[.int .u8 q0, .int .u8 q1, .int .u8 q2, .int .u8 q3, .int .u8 q4, .int .u8 q5] 23); have KA := Lib.hid ka; have HGA := Lib.hid (HGr.out.same ka); have HRA := Lib.hid (HRr.out.keeps ka (fun h => h)); have HBA := Lib.hid (HBr.out.keeps ka (fun h => h)); clear ka hm') | (go_at_call 42; refine (wrong_ok _ _ HGA.out.big).mono ?_; rintro e w6 ⟨v, rfl, ⟨b, hb0, rfl, hbk⟩, k6⟩; have K6 := Lib.hid k6; have hrb := HRA.out.keeps k6 (fun h => h); obtain ⟨f0, f1, f2, f3, f4, f5, f6, f7⟩ := hrb.fr8; obtain ⟨r0, r1, r2, r3, r4, r5, r6, r7⟩ := hrb.eight; have HRB6 := Lib.hid hrb; have HBK := Lib.hid hbk; clear k6 hrb hbk))
              rw [Exit.noGoto_ret]
              (try simp only [Exit.inBlock, Exit.then])
              refine bodyPost_ret (results_cell26 rfl _ _ w.heap.size _ 26 rfl (HRB6.out.put8 rfl _ _ _ _ _ _ _ _) rfl) rfl ?_
              exact ⟨parse_err HPE.out HRB6.out HBK.out hb0, ((HKW.out.same KA.out).same K6.out).up (keeps_put8 (F := fun k => k = w.heap.size) (Keeps.refl _ _) rfl _ _ _ _ _ _ _ _) (fun k h => by omega)⟩
            | some m2 =>
              obtain ⟨q0, q1, q2, q3, q4, q5, rfl⟩ := six_of (addr_is hap)
              obtain ⟨z0, z1, z2, z3, z4, z5, rfl⟩ := six_of HM.out
              rw [hap] at hac hrd
              simp only at hac hrd
              have HM2 := Lib.hid (addr_is hap)
              have HRD2 := Lib.hid hrd
              clear hap hrd
              go_wp2_with (go_at_call 44; refine hac.mono ?_; rintro e w7 ⟨⟨m', hm', rfl, rfl⟩, ka⟩; have KA := Lib.hid ka; have HGA := Lib.hid (HGr.out.same ka); have HRA := Lib.hid (HRr.out.keeps ka (fun h => h)); have HBA := Lib.hid (HBr.out.keeps ka (fun h => h)); obtain ⟨f0, f1, f2, f3, f4, f5, f6, f7⟩ := (HBA.out.alloc (.cells #[.int .u8 q0, .int .u8 q1, .int .u8 q2, .int .u8 q3, .int .u8 q4, .int .u8 q5] 23)).fr8; obtain ⟨r0, r1, r2, r3, r4, r5, r6, r7⟩ := Blk.eight (HBA.out.alloc (.cells #[.int .u8 q0, .int .u8 q1, .int .u8 q2, .int .u8 q3, .int .u8 q4, .int .u8 q5] 23)); clear ka hm')
              have kfin := keeps_putMac (F := fun k => k = cb) ((KA.out.alloc (.cells #[.int .u8 q0, .int .u8 q1, .int .u8 q2, .int .u8 q3, .int .u8 q4, .int .u8 q5] 23)).mono (fun _ x _ => x.elim)) (b := cb) rfl (.int .u8 q0) (.int .u8 q1) (.int .u8 q2) (.int .u8 q3) (.int .u8 q4) (.int .u8 q5)
              have KF := Lib.hid kfin
              clear kfin
              go_roundg (gk - 1)
              case measure => omega
              case rel => exact ⟨j + 1, [q0, q1, q2, q3, q4, q5], xs, A, n, c, by omega, by go_num, HM2.out, HXS.out, by omega, Blk.putMac (HBA.out.alloc _) _ _ _ _ _ _, HO.out.keeps KF.out (fun k h e => by have : cb < k := h; have : k = cb := e; omega), HRD2.out, HK.out.trans KF.out (fun k h _ => by have : k = cb := h; show cb ≤ k; omega)⟩
          · rw [if_neg hadr] at hrd
            have hp := parseInt_ok x (by omega) HGr.out
            unfold ParsedInt at hp
            obtain ⟨i0, hi0, hz0, hz1, hz2⟩ := info_parts info2
            have hthree : AD = false ∨ (AD = true ∧ (j : Int) < 1) ∨ (AD = true ∧ 1 < (j : Int)) := by
              cases AD with
              | false => exact .inl rfl
              | true =>
                have : j ≠ 1 := fun e => hadr ⟨rfl, e⟩
                exact .inr (by rcases (by omega : j < 1 ∨ 1 < j) with h | h; exact .inl ⟨rfl, by omega⟩; exact .inr ⟨rfl, by omega⟩)
            clear hadr
            cases hpi : parseIntB 64 x
            next v0 =>
              rw [hpi] at hp hrd
              simp only at hp hrd
              have hvb := parseIntB_bounds hpi
              have e64 : ((2 ^ (64 - 1) : Nat) : Int) = 9223372036854775808 := by decide
              rw [e64] at hvb
              obtain ⟨hv0, hv1⟩ := hvb
              have hv1' : v0 ≤ 9223372036854775807 := by omega
              by_cases he : itoa v0 = x
              · rw [if_pos he] at hrd
                have hq1 : (itoa v0 == x) = true := by simp [he]
                have hq2 : (itoa v0 != x) = false := by simp [he]
                have HRD2 := Lib.hid hrd
                clear he hpi hrd e64
                rcases hthree with rfl | ⟨rfl, hj3⟩ | ⟨rfl, hj3⟩
                all_goals
                  go_wp2_with (first | (go_at_call 45; refine hp.mono ?_; rintro e w7 ⟨rfl, k45⟩; have HG7 := Lib.hid (HGr.out.same k45); have K45 := Lib.hid k45; clear k45) | (go_at_call 37; refine (fmt_ok v0 hv0 hv1' HG7.out).mono ?_; rintro e w8 ⟨rfl, k37⟩; have ka := K45.out.same k37; have KA := Lib.hid ka; have HGA := Lib.hid (HGr.out.same ka); have HRA := Lib.hid (HRr.out.keeps ka (fun h => h)); have HBA := Lib.hid (HBr.out.keeps ka (fun h => h)); have c7 : w8.cell? ⟨cb, 7, none⟩ = some (.slice A n c) := cell7 HM.out HBA.out; clear ka k37) | (at_builtin; refine wpList_app rfl (.tmp 80) (.tmp 82) 24 rfl 2 i0 (.int .i64 0) 1 8 Tryz.underlying24 hi0 hz0 hz1 hz2 rfl (by decide) (fun k => cb < k) (.slice A n c) xs.length (icells xs) rfl (HO.out.keeps (KA.out.alloc _) (fun _ _ h => h)) ⟨w8.heap.size, 0, none⟩ 1 1 [.int .i64 v0] rfl rfl (lit1 w8 _ 2) (fun u hu => by simp at hu; subst hu; rfl) (by decide) (by omega) (by omega) ?_))
                  intro g cap w9 hO9 hk9
                  have hcb : ¬ (Value.slice A n c).ownBlock = some cb := fun h => by have : cb < cb := HO.out.2 cb h; omega
                  have HB9 := Lib.hid ((HBA.out.alloc (.cells #[.int .i64 v0] 2)).keeps hk9 hcb)
                  have d7 : w9.cell? ⟨cb, 7, none⟩ = some (.slice A n c) := cell7 HM.out HB9.out
                  have g7 : w9.frozen? ⟨cb, 7, none⟩ = false := HB9.out.frozen 7
                  have hs8 := (HKW.out.same KA.out).size
                  have hs9 := HBA.out.lt
                  have HO9 : Hid (OwnS w9 (fun k => cb < k) 2 1 (.slice (some ⟨g, 0, none⟩) (xs.length + 1) cap) (xs.length + 1) (icells xs ++ [Value.int .i64 v0])) := hO9.mono (fun k h => by
                    rcases h with h | h
                    · exact h
                    · have h2 : w8.heap.size + 1 ≤ k := by simpa using h
                      show cb < k
                      omega)
                  have HK9 := Lib.hid (((KA.out.alloc (.cells #[.int .i64 v0] 2)).mono (G := fun k => cb ≤ k) (fun _ x _ => x.elim)).trans hk9 (fun k h _ => by have : cb < k := HO.out.2 k h; show cb ≤ k; omega))
                  clear hO9 hk9
                  go_wp2_with fail
                  go_roundg (gk - 1)
                  case measure => omega
                  case rel =>
                    refine ⟨j + 1, m, xs ++ [v0], some ⟨g, 0, none⟩, xs.length + 1, cap, by omega, by go_num, HM.out, fun a ha => ?_, by simp; omega, ?_, ?_, HRD2.out, HK.out.trans (HK9.out.setCell (p := ⟨cb, 7, none⟩) (fun _ => Nat.le_refl _) _) (fun k h _ => h)⟩
                    · rcases List.mem_append.1 ha with ha | ha
                      · exact HXS.out a ha
                      · simp at ha; subst ha; exact ⟨hv0, hv1'⟩
                    · exact set7 HM.out HB9.out
                    · have e : icells (xs ++ [v0]) = icells xs ++ [Value.int .i64 v0] := by simp [icells]
                      rw [List.length_append, List.length_singleton, e]
                      exact HO9.out.keeps (((Keeps.refl (fun k => k = cb) w9).setCell (p := ⟨cb, 7, none⟩) (fun _ => rfl) _)) (fun k h e => by have : cb < k := h; have : k = cb := e; omega)
              · rw [if_neg he] at hrd
                have hpe : parseP addrP line = .error ((j : Int) + 1, 4) := by rw [HPP.out, hrd]
                have HPE := Lib.hid hpe
                have hq1 : (itoa v0 == x) = false := by simp [he]
                have hq2 : (itoa v0 != x) = true := by simp [he]
                clear he hpi hrd hpe e64
                rcases hthree with rfl | ⟨rfl, hj3⟩ | ⟨rfl, hj3⟩
                all_goals
                  go_wp2_with (first | (go_at_call 45; refine hp.mono ?_; rintro e w7 ⟨rfl, k45⟩; have HG7 := Lib.hid (HGr.out.same k45); have K45 := Lib.hid k45; clear k45) | (go_at_call 37; refine (fmt_ok v0 hv0 hv1' HG7.out).mono ?_; rintro e w8 ⟨rfl, k37⟩; have ka := K45.out.same k37; have KA := Lib.hid ka; have HGA := Lib.hid (HGr.out.same ka); have HRA := Lib.hid (HRr.out.keeps ka (fun h => h)); have HBA := Lib.hid (HBr.out.keeps ka (fun h => h)); clear ka k37) | (go_at_call 42; refine (wrong_ok _ _ HGA.out.big).mono ?_; rintro e w6 ⟨v, rfl, ⟨b, hb0, rfl, hbk⟩, k6⟩; have K6 := Lib.hid k6; have hrb := HRA.out.keeps k6 (fun h => h); obtain ⟨f0, f1, f2, f3, f4, f5, f6, f7⟩ := hrb.fr8; obtain ⟨r0, r1, r2, r3, r4, r5, r6, r7⟩ := hrb.eight; have HRB6 := Lib.hid hrb; have HBK := Lib.hid hbk; clear k6 hrb hbk))
                  rw [Exit.noGoto_ret]
                  (try simp only [Exit.inBlock, Exit.then])
                  refine bodyPost_ret (results_cell26 rfl _ _ w.heap.size _ 26 rfl (HRB6.out.put8 rfl _ _ _ _ _ _ _ _) rfl) rfl ?_
                  exact ⟨parse_err HPE.out HRB6.out HBK.out hb0, ((HKW.out.same KA.out).same K6.out).up (keeps_put8 (F := fun k => k = w.heap.size) (Keeps.refl _ _) rfl _ _ _ _ _ _ _ _) (fun k h => by omega)⟩
            next =>
              rw [hpi] at hp hrd
              simp only at hp hrd
              have hpe : parseP addrP line = .error ((j : Int) + 1, 4) := by rw [HPP.out, hrd]
              have HPE := Lib.hid hpe
              clear hpi hrd hpe
              rcases hthree with rfl | ⟨rfl, hj3⟩ | ⟨rfl, hj3⟩
              all_goals
                go_wp2_with (first | (go_at_call 45; refine hp.mono ?_; rintro e w7 ⟨⟨xx, N, rfl⟩, ka⟩; have KA := Lib.hid ka; have HGA := Lib.hid (HGr.out.same ka); have HRA := Lib.hid (HRr.out.keeps ka (fun h => h)); have HBA := Lib.hid (HBr.out.keeps ka (fun h => h)); clear ka) | (go_at_call 42; refine (wrong_ok _ _ HGA.out.big).mono ?_; rintro e w6 ⟨v, rfl, ⟨b, hb0, rfl, hbk⟩, k6⟩; have K6 := Lib.hid k6; have hrb := HRA.out.keeps k6 (fun h => h); obtain ⟨f0, f1, f2, f3, f4, f5, f6, f7⟩ := hrb.fr8; obtain ⟨r0, r1, r2, r3, r4, r5, r6, r7⟩ := hrb.eight; have HRB6 := Lib.hid hrb; have HBK := Lib.hid hbk; clear k6 hrb hbk))
                rw [Exit.noGoto_ret]
                (try simp only [Exit.inBlock, Exit.then])
                refine bodyPost_ret (results_cell26 rfl _ _ w.heap.size _ 26 rfl (HRB6.out.put8 rfl _ _ _ _ _ _ _ _) rfl) rfl ?_
                exact ⟨parse_err HPE.out HRB6.out HBK.out hb0, ((HKW.out.same KA.out).same K6.out).up (keeps_put8 (F := fun k => k = w.heap.size) (Keeps.refl _ _) rfl _ _ _ _ _ _ _ _) (fun k h => by omega)⟩
            next =>
              rw [hpi] at hp hrd
              simp only at hp hrd
              have hpe : parseP addrP line = .error ((j : Int) + 1, 4) := by rw [HPP.out, hrd]
              have HPE := Lib.hid hpe
              clear hpi hrd hpe
              rcases hthree with rfl | ⟨rfl, hj3⟩ | ⟨rfl, hj3⟩
              all_goals
                go_wp2_with (first | (go_at_call 45; refine hp.mono ?_; rintro e w7 ⟨⟨xx, N, rfl⟩, ka⟩; have KA := Lib.hid ka; have HGA := Lib.hid (HGr.out.same ka); have HRA := Lib.hid (HRr.out.keeps ka (fun h => h)); have HBA := Lib.hid (HBr.out.keeps ka (fun h => h)); clear ka) | (go_at_call 42; refine (wrong_ok _ _ HGA.out.big).mono ?_; rintro e w6 ⟨v, rfl, ⟨b, hb0, rfl, hbk⟩, k6⟩; have K6 := Lib.hid k6; have hrb := HRA.out.keeps k6 (fun h => h); obtain ⟨f0, f1, f2, f3, f4, f5, f6, f7⟩ := hrb.fr8; obtain ⟨r0, r1, r2, r3, r4, r5, r6, r7⟩ := hrb.eight; have HRB6 := Lib.hid hrb; have HBK := Lib.hid hbk; clear k6 hrb hbk))
                rw [Exit.noGoto_ret]
                (try simp only [Exit.inBlock, Exit.then])
                refine bodyPost_ret (results_cell26 rfl _ _ w.heap.size _ 26 rfl (HRB6.out.put8 rfl _ _ _ _ _ _ _ _) rfl) rfl ?_
                exact ⟨parse_err HPE.out HRB6.out HBK.out hb0, ((HKW.out.same KA.out).same K6.out).up (keeps_put8 (F := fun k => k = w.heap.size) (Keeps.refl _ _) rfl _ _ _ _ _ _ _ _) (fun k h => by omega)⟩
        · obtain rfl : j = R.length := by omega
          have hdr : readArgs AD addrP R.length (R.drop R.length) (m, xs) = .ok (m, xs) := by rw [List.drop_length, readArgs]
          have hpp := HPP.out
          rw [HRD.out, hdr] at hpp
          simp only at hpp
          have HPP2 := Lib.hid hpp
          obtain ⟨z0, z1, z2, z3, z4, z5, rfl⟩ := six_of HM.out
          obtain ⟨b0, b1, b2, b3, b4, b5, b6, b7⟩ := Blk.eight HBr.out
          have hnn : n = xs.length := by
            obtain ⟨A', c', h⟩ := (HO.out.toF).lenG
            injection h with _ h2 _
            rw [h2]; simp [icells]
          subst hnn
          have hck := check_ok ⟨kd, [z0, z1, z2, z3, z4, z5], xs⟩ HM.out (show -9223372036854775808 ≤ kd ∧ kd ≤ 9223372036854775807 from ⟨by omega, by omega⟩) (by simp only; omega) A c HGr.out.big
          have hq : ¬ (R.length : Int) < (R.length : Int) := by omega
          clear hdr hpp hlt
          by_cases hsh3 : AD = true ∧ R.length + 1 < 3
          · have hpe := HPP2.out
            rw [if_pos hsh3] at hpe
            obtain ⟨rfl, hs3⟩ := hsh3
            have hs3i : (R.length : Int) + 1 < 3 := by omega
            have hs3j : ((R.length + 1 : Nat) : Int) < 3 := by omega
            have HPE := Lib.hid hpe
            clear hpe hck
            go_wp2_with (go_at_call 42; refine (wrong_ok _ _ HGr.out.big).mono ?_; rintro e w6 ⟨v, rfl, ⟨b, hb0, rfl, hbk⟩, k6⟩; have K6 := Lib.hid k6; have hrb := HRr.out.keeps k6 (fun h => h); obtain ⟨f0, f1, f2, f3, f4, f5, f6, f7⟩ := hrb.fr8; obtain ⟨r0, r1, r2, r3, r4, r5, r6, r7⟩ := hrb.eight; have HRB6 := Lib.hid hrb; have HBK := Lib.hid hbk; clear k6 hrb hbk)
            rw [Exit.noGoto_ret]
            (try simp only [Exit.inBlock, Exit.then])
            refine bodyPost_ret (results_cell26 rfl _ _ w.heap.size _ 26 rfl (HRB6.out.put8 rfl _ _ _ _ _ _ _ _) rfl) rfl ?_
            exact ⟨parse_err HPE.out HRB6.out HBK.out hb0, (HKW.out.same K6.out).up (keeps_put8 (F := fun k => k = w.heap.size) (Keeps.refl _ _) rfl _ _ _ _ _ _ _ _) (fun k h => by omega)⟩
          · have hpe := HPP2.out
            rw [if_neg hsh3] at hpe
            have htwo : AD = false ∨ (AD = true ∧ 3 ≤ ((R.length + 1 : Nat) : Int) ∧ 3 ≤ (R.length : Int) + 1) := by
              cases AD with
              | false => exact .inl rfl
              | true => exact .inr ⟨rfl, by have : ¬ R.length + 1 < 3 := fun h => hsh3 ⟨rfl, h⟩; omega, by have : ¬ R.length + 1 < 3 := fun h => hsh3 ⟨rfl, h⟩; omega⟩
            have HCH : Hid (Calls Tryz.prog 14 #[.agg #[.int .i64 kd, .int .u8 z0, .int .u8 z1, .int .u8 z2, .int .u8 z3, .int .u8 z4, .int .u8 z5, .slice A xs.length c]] wr _) := hck
            clear hck hsh3
            cases hcp : checkP ⟨kd, [z0, z1, z2, z3, z4, z5], xs⟩ with
            | some e =>
              obtain ⟨en, ek⟩ := e
              rw [hcp] at HCH hpe
              have HPE : Hid (parseP addrP line = .error (en, ek)) := hpe
              clear hpe hcp
              rcases htwo with rfl | ⟨rfl, h3a, h3b⟩
              all_goals
                go_wp2_with (go_at_call 14; refine HCH.out.mono ?_; rintro e w6 ⟨v, rfl, ⟨b, hb0, rfl, hbk⟩, k6⟩; have K6 := Lib.hid k6; have hrb := HRr.out.keeps k6 (fun h => h); obtain ⟨f0, f1, f2, f3, f4, f5, f6, f7⟩ := hrb.fr8; obtain ⟨r0, r1, r2, r3, r4, r5, r6, r7⟩ := hrb.eight; have HRB6 := Lib.hid hrb; have HBK := Lib.hid hbk; clear k6 hrb hbk)
                rw [Exit.noGoto_ret]
                (try simp only [Exit.inBlock, Exit.then])
                refine bodyPost_ret (results_cell26 rfl _ _ w.heap.size _ 26 rfl (HRB6.out.put8 rfl _ _ _ _ _ _ _ _) rfl) rfl ?_
                exact ⟨parse_err HPE.out HRB6.out HBK.out hb0, (HKW.out.same K6.out).up (keeps_put8 (F := fun k => k = w.heap.size) (Keeps.refl _ _) rfl _ _ _ _ _ _ _ _) (fun k h => by omega)⟩
            | none =>
              rw [hcp] at HCH hpe
              have HPE : Hid (parseP addrP line = .ok ⟨kd, [z0, z1, z2, z3, z4, z5], xs⟩) := hpe
              clear hpe hcp
              rcases htwo with rfl | ⟨rfl, h3a, h3b⟩
              all_goals
                go_wp2_with (go_at_call 14; refine HCH.out.mono ?_; rintro e w6 ⟨v, rfl, he, k6⟩; obtain rfl : v = .nilIface := he; have K6 := Lib.hid k6; have hrb := HRr.out.keeps k6 (fun h => h); obtain ⟨f0, f1, f2, f3, f4, f5, f6, f7⟩ := hrb.fr8; obtain ⟨r0, r1, r2, r3, r4, r5, r6, r7⟩ := hrb.eight; have hcb6 := HBr.out.keeps k6 (fun h => h); obtain ⟨b0, b1, b2, b3, b4, b5, b6, b7⟩ := Blk.eight hcb6; have HRB6 := Lib.hid hrb; clear k6 hrb hcb6)
                rw [Exit.noGoto_ret]
                (try simp only [Exit.inBlock, Exit.then])
                refine bodyPost_ret (results_cell26 rfl _ _ w.heap.size _ 26 rfl (HRB6.out.put8 rfl _ _ _ _ _ _ _ _) rfl) rfl ?_
                refine ⟨?_, (HKW.out.same K6.out).up (keeps_put8 (F := fun k => k = w.heap.size) (Keeps.refl _ _) rfl _ _ _ _ _ _ _ _) (fun k h => by omega)⟩
                unfold ParseIs
                rw [HPE.out]
                refine ⟨HM.out, HXS.out, by simp only; omega, .slice A xs.length c, ?_, rfl⟩
                exact ((HO.out.keeps K6.out (fun _ _ h => h)).keeps (keeps_put8 (F := fun k => k = w.heap.size) (Keeps.refl _ _) rfl _ _ _ _ _ _ _ _) (fun k h e => by have : cb < k := h; have : k = w.heap.size := e; omega)).toF.mono (fun k h => by have : cb < k := h; omega)
end Go.Proofs.YtdncojofilnhnaaGreatDoor
