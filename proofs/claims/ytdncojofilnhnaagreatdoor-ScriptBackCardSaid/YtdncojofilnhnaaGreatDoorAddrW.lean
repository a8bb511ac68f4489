/- The address of a text: the walk. -/
import Derived.Test.YtdncojofilnhnaaGreatDoorHexW
import Derived.Test.YtdncojofilnhnaaGreatDoorMacW
import Derived.Laws.ResultCell
namespace Go.Proofs.YtdncojofilnhnaaGreatDoor
open Go.RowKit Go.Lib

theorem hexWs_snoc : ∀ (l : List Str) (w : Str), hexWs (l ++ [w]) = match hexWs l with
    | none => none
    | some r => match hexW w with
      | none => none
      | some n => some (r ++ [n])
  | [], w => by simp only [List.nil_append, hexWs]; cases hexW w <;> rfl
  | x :: l, w => by
    simp only [List.cons_append, hexWs]
    cases hexW x with
    | none => rfl
    | some n =>
      simp only
      rw [hexWs_snoc l w]
      cases hexWs l with
      | none => rfl
      | some r => cases hexW w <;> rfl

theorem hexWs_none : ∀ {l : List Str} {w : Str}, w ∈ l → hexW w = none → hexWs l = none
  | [], w, h, _ => by simp at h
  | x :: l, w, h, hn => by
    simp only [hexWs]
    rcases List.mem_cons.1 h with rfl | h
    · rw [hn]
    · cases hexW x with
      | none => rfl
      | some n => simp only; rw [hexWs_none h hn]

/-- The numbers read so far, nothing behind them. -/
def macPad (ms : List Int) : List Int := ms ++ List.replicate (6 - ms.length) 0

theorem splitOn_le (c : UInt8) : ∀ (s w : Str), w ∈ splitOn c s → w.length ≤ s.length
  | [], w, h => by simp [splitOn] at h; subst h; simp
  | x :: r, w, h => by
    have ih := splitOn_le c r
    unfold splitOn at h
    split at h
    · rcases List.mem_cons.1 h with rfl | h
      · simp
      · have := ih w h; simp; omega
    · split at h
      · simp at h; subst h; simp
      · rename_i v vs e
        rcases List.mem_cons.1 h with rfl | h
        · have := ih v (by rw [e]; exact List.mem_cons_self); simp; omega
        · have := ih w (by rw [e]; exact List.mem_cons_of_mem _ h); simp; omega

theorem macPad_len {ms : List Int} (h : ms.length ≤ 6) : (macPad ms).length = 6 := by simp [macPad]; omega

theorem macPad_set {ms : List Int} {n : Int} (h : ms.length < 6) : (macPad ms).set ms.length n = macPad (ms ++ [n]) := by
  unfold macPad
  obtain ⟨k, hk⟩ : ∃ k, 6 - ms.length = k + 1 := ⟨5 - ms.length, by omega⟩
  have h2 : 6 - (ms ++ [n]).length = k := by simp; omega
  rw [hk, h2, List.replicate_succ, List.set_append_right _ _ (Nat.le_refl _), Nat.sub_self, List.set_cons_zero, List.append_assoc]
  rfl

def AddrInv (w : World) (mb : Nat) (ws : List Str) (k : Nat) (i : Value) (wr : World) : Prop :=
  ∃ (j : Nat) (ms : List Int), j + k = ws.length ∧ i = .int .i64 (j : Nat) ∧ hexWs (ws.take j) = some ms ∧ Blk wr mb ((macPad ms).map (Value.int .u8)) 23 ∧ Keeps (fun k => k = mb) w wr

/-- What address comes to. -/
def AddrIs (s : Str) (ev : Ending) : Prop := ∃ m', MacIs m' ∧ match addrP s with
  | some m => ev = .returned (.tuple #[macV m, .bool true]) ∧ m' = m
  | none => ev = .returned (.tuple #[macV m', .bool false])

theorem mac0_is : MacIs mac0 := ⟨rfl, fun x hx => by simp [mac0] at hx; subst hx; exact ⟨by decide, by decide⟩⟩

theorem Blk.six {w : World} {b : Nat} {a0 a1 a2 a3 a4 a5 : Value} (h : Blk w b [a0, a1, a2, a3, a4, a5] 23) :
    w.cell? ⟨b, 0, none⟩ = some a0 ∧ w.cell? ⟨b, 1, none⟩ = some a1 ∧ w.cell? ⟨b, 2, none⟩ = some a2 ∧ w.cell? ⟨b, 3, none⟩ = some a3 ∧ w.cell? ⟨b, 4, none⟩ = some a4 ∧ w.cell? ⟨b, 5, none⟩ = some a5 :=
  ⟨h.cell 0, h.cell 1, h.cell 2, h.cell 3, h.cell 4, h.cell 5⟩

theorem Blk.fr6 {w : World} {b : Nat} {l : List Value} (h : Blk w b l 23) :
    w.frozen? ⟨b, 0, none⟩ = false ∧ w.frozen? ⟨b, 1, none⟩ = false ∧ w.frozen? ⟨b, 2, none⟩ = false ∧ w.frozen? ⟨b, 3, none⟩ = false ∧ w.frozen? ⟨b, 4, none⟩ = false ∧ w.frozen? ⟨b, 5, none⟩ = false :=
  ⟨h.frozen 0, h.frozen 1, h.frozen 2, h.frozen 3, h.frozen 4, h.frozen 5⟩

theorem results_cell23 {fn : Func} {p u : Tmp} (h : fn.results = #[.cell p 23, .tmp u]) (tmps : Array Value) (w : World) (g : Nat) (cs : List Value) (T : TypeId) (hp : tmps.getD p undef = .pointer (some ⟨g, 0, none⟩)) (hB : Blk w g cs T) (h4 : cs.length = 6) :
    (results fn tmps).run Tryz.prog w = .ok (.tuple #[.agg cs.toArray, tmps.getD u undef]) w := by
  rw [results_cell_tmp h, hp]
  have hi : (Tryz.prog.info? 23).map (·.size) = some 6 := by kernel_rfl
  have hl := run_loadVar_row (P := Tryz.prog) w g T 23 cs.toArray (0, 0) _ hB Tryz.underlying23 rfl (by rw [List.size_toArray, h4]; exact hi)
  simp [asAddr, hl]

/-- Six cells set to nothing. -/
theorem Blk.zero6 {w : World} {b : Nat} {l : List Value} (h : Blk w b l 23) (hl : l.length = 6) :
    Blk ((((((w.setCell ⟨b, 0, none⟩ (.int .u8 0)).setCell ⟨b, 1, none⟩ (.int .u8 0)).setCell ⟨b, 2, none⟩ (.int .u8 0)).setCell ⟨b, 3, none⟩ (.int .u8 0)).setCell ⟨b, 4, none⟩ (.int .u8 0)).setCell ⟨b, 5, none⟩ (.int .u8 0)) b (mac0.map (Value.int .u8)) 23 := by
  have := ((((((h.set 0 (.int .u8 0)).set 1 (.int .u8 0)).set 2 (.int .u8 0)).set 3 (.int .u8 0)).set 4 (.int .u8 0)).set 5 (.int .u8 0))
  match l, hl with
  | [_, _, _, _, _, _], _ => exact this

theorem Blk.put6 {w : World} {b : Nat} {l : List Value} (h : Blk w b l 23) (hl : l.length = 6) (a0 a1 a2 a3 a4 a5 : Value) :
    Blk ((((((w.setCell ⟨b, 0, none⟩ a0).setCell ⟨b, 1, none⟩ a1).setCell ⟨b, 2, none⟩ a2).setCell ⟨b, 3, none⟩ a3).setCell ⟨b, 4, none⟩ a4).setCell ⟨b, 5, none⟩ a5) b [a0, a1, a2, a3, a4, a5] 23 := by
  have := ((((((h.set 0 a0).set 1 a1).set 2 a2).set 3 a3).set 4 a4).set 5 a5)
  match l, hl with
  | [_, _, _, _, _, _], _ => exact this

theorem keeps_put6 {F : Nat → Prop} {w0 w : World} (h : Keeps F w0 w) {b : Nat} (hb : F b) (a0 a1 a2 a3 a4 a5 : Value) :
    Keeps F w0 ((((((w.setCell ⟨b, 0, none⟩ a0).setCell ⟨b, 1, none⟩ a1).setCell ⟨b, 2, none⟩ a2).setCell ⟨b, 3, none⟩ a3).setCell ⟨b, 4, none⟩ a4).setCell ⟨b, 5, none⟩ a5) :=
  (((((h.setCell (p := ⟨b, 0, none⟩) (fun _ => hb) _).setCell (p := ⟨b, 1, none⟩) (fun _ => hb) _).setCell (p := ⟨b, 2, none⟩) (fun _ => hb) _).setCell (p := ⟨b, 3, none⟩) (fun _ => hb) _).setCell (p := ⟨b, 4, none⟩) (fun _ => hb) _).setCell (p := ⟨b, 5, none⟩) (fun _ => hb) _

theorem addr_none {s : Str} (h : hexWs (splitOn 58 s) = none) : addrP s = none := by
  unfold addrP
  rw [h]
  split <;> rfl

theorem addr_len {s : Str} (h : (splitOn 58 s).length ≠ 6) : addrP s = none := by
  unfold addrP
  rw [if_neg h]

theorem fail_res {s : Str} {w w2 wr w3 : World} {rb : Nat} (hrb : w.heap.size = rb) (h1 : Keeps Nothing w w2) (h2 : Keeps (fun k => k = rb + 1) w2 wr) (h3 : Keeps Nothing wr w3) (hno : hexWs (splitOn 58 s) = none) :
    AddrIs s (.returned (.tuple #[.agg (mac0.map (Value.int .u8)).toArray, .bool false])) ∧
      Keeps Nothing w ((((((w3.setCell ⟨rb, 0, none⟩ (.int .u8 0)).setCell ⟨rb, 1, none⟩ (.int .u8 0)).setCell ⟨rb, 2, none⟩ (.int .u8 0)).setCell ⟨rb, 3, none⟩ (.int .u8 0)).setCell ⟨rb, 4, none⟩ (.int .u8 0)).setCell ⟨rb, 5, none⟩ (.int .u8 0)) := by
  refine ⟨⟨mac0, mac0_is, ?_⟩, ?_⟩
  · rw [addr_none hno]
  · exact ((h1.up h2 (fun x hx => by omega)).same h3).up (keeps_put6 (F := fun k => k = rb) (Keeps.refl _ _) rfl _ _ _ _ _ _) (fun x hx => by omega)

theorem done_res {s : Str} {w w2 wr w5 : World} {rb : Nat} {q0 q1 q2 q3 q4 q5 : Int} (hrb : w.heap.size = rb) (h1 : Keeps Nothing w w2) (h2 : Keeps (fun k => k = rb + 1) w2 wr) (h3 : Keeps Nothing wr.drew w5)
    (h6 : (splitOn 58 s).length = 6) (hm : hexWs (splitOn 58 s) = some [q0, q1, q2, q3, q4, q5]) (hi : MacIs [q0, q1, q2, q3, q4, q5]) :
    AddrIs s (.returned (.tuple #[.agg #[.int .u8 q0, .int .u8 q1, .int .u8 q2, .int .u8 q3, .int .u8 q4, .int .u8 q5], .bool (macText [q0, q1, q2, q3, q4, q5] == s)])) ∧
      Keeps Nothing w ((((((w5.setCell ⟨rb, 0, none⟩ (.int .u8 q0)).setCell ⟨rb, 1, none⟩ (.int .u8 q1)).setCell ⟨rb, 2, none⟩ (.int .u8 q2)).setCell ⟨rb, 3, none⟩ (.int .u8 q3)).setCell ⟨rb, 4, none⟩ (.int .u8 q4)).setCell ⟨rb, 5, none⟩ (.int .u8 q5)) := by
  refine ⟨⟨[q0, q1, q2, q3, q4, q5], hi, ?_⟩, ?_⟩
  · unfold addrP
    rw [if_pos h6, hm]
    have hb : (macText [q0, q1, q2, q3, q4, q5] == s) = decide (macText [q0, q1, q2, q3, q4, q5] = s) := by
      by_cases h : macText [q0, q1, q2, q3, q4, q5] = s <;> simp [h]
    rw [hb]
    by_cases h : macText [q0, q1, q2, q3, q4, q5] = s
    · simp only [if_pos h, decide_eq_true h]
      exact ⟨rfl, trivial⟩
    · simp only [if_neg h, decide_eq_false h]
      rfl
  · exact ((h1.up h2 (fun x hx => by omega)).same ((Keeps.refl Nothing wr).drew.same h3)).up (keeps_put6 (F := fun k => k = rb) (Keeps.refl _ _) rfl _ _ _ _ _ _) (fun x hx => by omega)

set_option maxRecDepth 100000 in
set_option maxHeartbeats 8000000 in
theorem addr_ok (s : Str) (hs : s.length < 4294967281) {w : World} (hg : Gl w) :
    Calls Tryz.prog 44 #[strV s] w fun ev w' => AddrIs s ev ∧ Keeps Nothing w w' := by
  have k1 : Keeps Nothing w ((w.alloc (.cells #[.int .u8 0, .int .u8 0, .int .u8 0, .int .u8 0, .int .u8 0, .int .u8 0] 23)).alloc (.cells #[.int .u8 0, .int .u8 0, .int .u8 0, .int .u8 0, .int .u8 0, .int .u8 0] 23)) := ((Keeps.refl _ _).alloc _).alloc _
  have hg1 := hg.same k1
  have hr1 := (Blk.new w [.int .u8 0, .int .u8 0, .int .u8 0, .int .u8 0, .int .u8 0, .int .u8 0] 23).alloc (.cells #[.int .u8 0, .int .u8 0, .int .u8 0, .int .u8 0, .int .u8 0, .int .u8 0] 23)
  have hm1 := Blk.new (w.alloc (.cells #[.int .u8 0, .int .u8 0, .int .u8 0, .int .u8 0, .int .u8 0, .int .u8 0] 23)) [.int .u8 0, .int .u8 0, .int .u8 0, .int .u8 0, .int .u8 0, .int .u8 0] 23
  have K1 := Lib.hid k1
  have HG1 := Lib.hid hg1
  have HR1 := Lib.hid hr1
  have HM1 := Lib.hid hm1
  have hsp := split_ok s 58 hs hg1
  have hsz : (w.alloc (.cells #[.int .u8 0, .int .u8 0, .int .u8 0, .int .u8 0, .int .u8 0, .int .u8 0] 23)).heap.size = w.heap.size + 1 := by simp
  have hsz2 : ((w.alloc (.cells #[.int .u8 0, .int .u8 0, .int .u8 0, .int .u8 0, .int .u8 0, .int .u8 0] 23)).alloc (.cells #[.int .u8 0, .int .u8 0, .int .u8 0, .int .u8 0, .int .u8 0, .int .u8 0] 23)).heap.size = w.heap.size + 1 + 1 := by simp
  rw [hsz] at HM1
  rw [hsz2] at hsp
  have HBIG := Lib.hid hg.big
  clear k1 hg1 hr1 hm1 hg hsz hsz2
  by_cases h6 : (splitOn 58 s).length = 6
  · have hne6 : (((splitOn 58 s).length : Int) != 6) = false := by rw [h6]; rfl
    have h6a : ((splitOn 58 s).length : Int) ≤ 6 := by omega
    have h6b : 6 ≤ ((splitOn 58 s).length : Int) := by omega
    have H6 := Lib.hid h6
    clear h6
    go_enter Tryz.func44, Tryz.ntmps44
    go_wp2_with (go_at_call 19; refine hsp.mono ?_; rintro e w2 ⟨rfl, hws, k2⟩; have HWS := Lib.hid hws; have K2 := Lib.hid k2; clear hws k2)
    have HMB := Lib.hid (HM1.out.keeps K2.out (fun h => h))
    have HRB := Lib.hid (HR1.out.keeps K2.out (fun h => h))
    have HG2 := Lib.hid (HG1.out.same K2.out)
    have HKW := Lib.hid (K1.out.same K2.out)
    clear hsp HR1 HM1 HG1 K1 K2
    generalize hRB : w.heap.size = rb at *
    have HBG := Lib.hid hRB
    clear hRB
    go_loopg [18] (splitOn 58 s).length (fun k i wr => AddrInv w2 (rb + 1) (splitOn 58 s) k i wr)
    case atStart => exact ⟨0, [], by omega, rfl, rfl, HMB.out, Keeps.refl _ _⟩
    case round =>
      obtain ⟨j, ms, hj, rfl, hms, hB, hk⟩ := hrel
      have hml : ms.length = j := by
        have := (hexWs_is hms).1
        rw [List.length_take] at this
        omega
      have HMS := Lib.hid hms
      have HMI := Lib.hid (hexWs_is hms).2
      have HBr := Lib.hid hB
      have HK := Lib.hid hk
      have HGr := Lib.hid (HG2.out.keeps hk (fun k h e => by have := HBIG.out; omega))
      have HRr := Lib.hid (HRB.out.keeps hk (fun e => by omega))
      clear hms hk hB
      by_cases hlt : j < (splitOn 58 s).length
      · obtain ⟨x, hx⟩ : ∃ x, (splitOn 58 s)[j]? = some x := ⟨_, List.getElem?_eq_getElem hlt⟩
        have hxm := List.mem_of_getElem? hx
        have hxl := splitOn_le 58 s x hxm
        have c0 : wr.cell? ⟨rb + 1 + 1, j, none⟩ = some (strV x) := by
          have h := (HWS.out.keeps HK.out (fun e => by omega)).cell j
          rw [List.getElem?_map, hx] at h
          exact h
        have hp := parseHex_ok x (by omega) HGr.out
        have htake : (splitOn 58 s).take (j + 1) = (splitOn 58 s).take j ++ [x] := by rw [List.take_add_one, hx]; rfl
        have hsn := hexWs_snoc ((splitOn 58 s).take j) x
        rw [HMS.out] at hsn
        simp only at hsn
        rw [← htake] at hsn
        have hjl : (j : Int) < ((splitOn 58 s).length : Int) := by omega
        have HX := Lib.hid hxm
        unfold ParsedHex at hp
        have hxw : hexW x = match hexR x with
          | .ok n => if x.length = 2 then some (n : Int) else none
          | _ => none := rfl
        cases hr : hexR x
        next n =>
          rw [hr] at hp hxw
          simp only at hp hxw
          by_cases h2 : x.length = 2
          · rw [if_pos h2] at hxw
            rw [hxw] at hsn
            have HSN := Lib.hid hsn
            have hnb := hexW_le hxw
            have hne2 : ((x.length : Int) != 2) = false := by rw [h2]; rfl
            have hn255 : n ≤ 255 := by omega
            obtain ⟨v0, hv0⟩ : ∃ v, ((macPad ms).map (Value.int .u8))[j]? = some v := ⟨_, List.getElem?_eq_getElem (by rw [List.length_map, macPad_len (by omega)]; omega)⟩
            clear hx hxm hxl htake hsn hr hxw h2 hnb
            go_wp2_with (go_at_call 74; refine hp.mono ?_; rintro e w3 ⟨rfl, k3⟩; have K3 := Lib.hid k3; have c3 := ((HBr.out.keeps k3 (fun h => h)).cell j).trans hv0; have f3 := (HBr.out.keeps k3 (fun h => h)).frozen j; clear k3)
            go_roundg (gk - 1)
            case measure => omega
            case rel =>
              refine ⟨j + 1, ms ++ [(n : Int)], by omega, by go_num, HSN.out, ?_, ?_⟩
              · rw [← macPad_set (by omega), hml, List.map_set]
                exact (HBr.out.keeps K3.out (fun h => h)).set j _
              · exact HK.out.trans ((K3.out.mono (fun _ x _ => x.elim)).setCell (F := fun k => k = rb + 1) (p := ⟨rb + 1, j, none⟩) (fun _ => rfl) _) (fun x hx hl => hx)
          · rw [if_neg h2] at hxw
            have hno := hexWs_none hxm hxw
            have HNO := Lib.hid hno
            have hne2 : ((x.length : Int) != 2) = true := by simp; omega
            clear hx hxm hxl htake hsn hr hxw hno h2
            go_wp2_with (go_at_call 74; refine hp.mono ?_; rintro e w3 ⟨rfl, k3⟩; have K3 := Lib.hid k3; have hrb := HRr.out.keeps k3 (fun h => h); obtain ⟨f0, f1, f2, f3, f4, f5⟩ := hrb.fr6; obtain ⟨r0, r1, r2, r3, r4, r5⟩ := Blk.six hrb; have HRB3 := Lib.hid hrb; clear k3 hrb)
            (try simp only [Exit.inBlock, Exit.then]); refine bodyPost_ret (results_cell23 rfl _ _ rb _ 23 rfl (HRB3.out.zero6 rfl) rfl) rfl ?_
            exact fail_res HBG.out HKW.out HK.out K3.out HNO.out
        next =>
          rw [hr] at hp hxw
          have HNO := Lib.hid (hexWs_none hxm hxw)
          clear hx hxm hxl htake hsn hr hxw
          go_wp2_with (go_at_call 74; refine hp.mono ?_; rintro e w3 ⟨⟨xx, N, rfl⟩, k3⟩; have K3 := Lib.hid k3; have hrb := HRr.out.keeps k3 (fun h => h); obtain ⟨f0, f1, f2, f3, f4, f5⟩ := hrb.fr6; obtain ⟨r0, r1, r2, r3, r4, r5⟩ := Blk.six hrb; have HRB3 := Lib.hid hrb; clear k3 hrb)
          (try simp only [Exit.inBlock, Exit.then]); refine bodyPost_ret (results_cell23 rfl _ _ rb _ 23 rfl (HRB3.out.zero6 rfl) rfl) rfl ?_
          exact fail_res HBG.out HKW.out HK.out K3.out HNO.out
        next =>
          rw [hr] at hp hxw
          have HNO := Lib.hid (hexWs_none hxm hxw)
          clear hx hxm hxl htake hsn hr hxw
          go_wp2_with (go_at_call 74; refine hp.mono ?_; rintro e w3 ⟨⟨xx, N, rfl⟩, k3⟩; have K3 := Lib.hid k3; have hrb := HRr.out.keeps k3 (fun h => h); obtain ⟨f0, f1, f2, f3, f4, f5⟩ := hrb.fr6; obtain ⟨r0, r1, r2, r3, r4, r5⟩ := Blk.six hrb; have HRB3 := Lib.hid hrb; clear k3 hrb)
          (try simp only [Exit.inBlock, Exit.then]); refine bodyPost_ret (results_cell23 rfl _ _ rb _ 23 rfl (HRB3.out.zero6 rfl) rfl) rfl ?_
          exact fail_res HBG.out HKW.out HK.out K3.out HNO.out
      · have hj6 : j = 6 := by have := H6.out; omega
        have hms6 : ms.length = 6 := by omega
        match ms, hms6 with
        | [q0, q1, q2, q3, q4, q5], _ =>
          have hmt := macText_ok [q0, q1, q2, q3, q4, q5] ⟨rfl, HMI.out⟩
          obtain ⟨c0, c1, c2, c3, c4, c5⟩ := Blk.six HBr.out
          obtain ⟨f0, f1, f2, f3, f4, f5⟩ := HRr.out.fr6
          obtain ⟨r0, r1, r2, r3, r4, r5⟩ := Blk.six HRr.out
          have hq : ¬ (j : Int) < ((splitOn 58 s).length : Int) := by omega
          go_wp2_with fail
          go_region_with (go_at_call 40; refine (hmt _).mono ?_; rintro e w5 ⟨rfl, k5⟩; have K5 := Lib.hid k5; obtain ⟨d0, d1, d2, d3, d4, d5⟩ := Blk.six (HBr.out.drew.keeps k5 (fun h => h)); have hrb5 := HRr.out.drew.keeps k5 (fun h => h); obtain ⟨g0, g1, g2, g3, g4, g5⟩ := hrb5.fr6; obtain ⟨s0, s1, s2, s3, s4, s5⟩ := Blk.six hrb5; have HRB5 := Lib.hid hrb5; clear k5 hrb5)
          all_goals go_wp2
          all_goals (try simp only [Exit.inBlock, Exit.then])
          all_goals refine bodyPost_ret (results_cell23 rfl _ _ rb _ 23 rfl (HRB5.out.put6 rfl _ _ _ _ _ _) rfl) rfl ?_
          all_goals simp [Act.put]
          all_goals exact done_res HBG.out HKW.out HK.out K5.out H6.out (by have := HMS.out; rwa [hj6, List.take_of_length_le (by have := H6.out; omega)] at this) ⟨rfl, HMI.out⟩
  · have hne6 : (((splitOn 58 s).length : Int) != 6) = true := by simp; omega
    have HNO := Lib.hid (addr_len h6)
    clear h6
    go_enter Tryz.func44, Tryz.ntmps44
    go_wp2_with (go_at_call 19; refine hsp.mono ?_; rintro e w2 ⟨rfl, hws, k2⟩; have K2 := Lib.hid k2; obtain ⟨c0, c1, c2, c3, c4, c5⟩ := Blk.six (HM1.out.keeps k2 (fun h => h)); have hrb := HR1.out.keeps k2 (fun h => h); obtain ⟨f0, f1, f2, f3, f4, f5⟩ := hrb.fr6; obtain ⟨r0, r1, r2, r3, r4, r5⟩ := Blk.six hrb; have HRB2 := Lib.hid hrb; clear k2 hrb hws)
    (try simp only [Exit.inBlock, Exit.then]); refine bodyPost_ret (results_cell23 rfl _ _ w.heap.size _ 23 rfl (HRB2.out.zero6 rfl) rfl) rfl ?_
    refine ⟨⟨mac0, mac0_is, ?_⟩, (K1.out.same K2.out).up (keeps_put6 (F := fun k => k = w.heap.size) (Keeps.refl _ _) rfl _ _ _ _ _ _) (fun x hx => by omega)⟩
    rw [HNO.out]
    rfl
end Go.Proofs.YtdncojofilnhnaaGreatDoor
