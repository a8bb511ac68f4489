/- Name, Text: the walks. -/
import Derived.Test.YtdncojofilnhnaaGreatDoorIns
import Derived.Test.YtdncojofilnhnaaGreatDoorMacW
namespace Go.Proofs.YtdncojofilnhnaaGreatDoor
open Go.RowKit Go.Lib

abbrev namesText : Str := [118, 108, 97, 110, 32, 112, 111, 114, 116, 32, 99, 108, 97, 115, 115, 32, 108, 105, 115, 116, 32, 115, 104, 97, 112, 101, 32, 115, 116, 114, 101, 97, 109, 32, 110, 111, 115, 116, 114, 101, 97, 109, 32, 103, 97, 116, 101, 32, 109, 101, 116, 101, 114, 32, 114, 117, 108, 101]

theorem split_names : splitOn 32 namesText = namesL := by decide +kernel

def nameOf (k : Int) : Str := if 0 ≤ k ∧ k < 10 then wordOf k.toNat else []

theorem names_get (k : Nat) (h : k < 10) : (namesL.map strV)[k]? = some (strV (wordOf k)) := by
  unfold namesL
  rw [List.getElem?_map, List.getElem?_map, List.getElem?_range h]
  rfl

set_option maxRecDepth 100000 in
set_option maxHeartbeats 8000000 in
theorem name_ok (k : Int) {w : World} (hg : Gl w) : Calls Tryz.prog 24 #[.int .i64 k] w fun ev w' => ev = .returned (strV (nameOf k)) ∧ Keeps Nothing w w' := by
  by_cases h : 0 ≤ k ∧ k < 10
  · have e : nameOf k = wordOf k.toNat := if_pos h
    rw [e]
    obtain ⟨n, rfl⟩ : ∃ n : Nat, k = (n : Int) := ⟨k.toNat, by omega⟩
    rw [Int.toNat_natCast]
    have hn : n < 10 := by omega
    have hn1 : (n : Int) < 10 := by omega
    have hn0 : ¬ (n : Int) < 0 := by omega
    have hsp := split_ok namesText 32 (by decide) hg
    rw [split_names] at hsp
    have hlen : namesL.length = 10 := rfl
    rw [hlen] at hsp
    have hget := names_get n hn
    clear h e hlen hg
    go_enter Tryz.func24, Tryz.ntmps24
    go_wp2_with (go_at_call 19; refine hsp.mono ?_; rintro e w2 ⟨rfl, hb, k2⟩; have c0 := (hb.cell n).trans hget; have K2 := Lib.hid k2; clear hb k2)
    go_ret
    exact ⟨rfl, K2.out⟩
  · have e : nameOf k = [] := if_neg h
    rw [e]
    clear e
    obtain h | h : k < 0 ∨ 10 ≤ k := by omega
    · go_enter Tryz.func24, Tryz.ntmps24
      go_wp2
      go_ret
      exact ⟨rfl, Keeps.refl _ _⟩
    · have h0 : ¬ k < 0 := by omega
      go_enter Tryz.func24, Tryz.ntmps24
      go_wp2
      go_ret
      exact ⟨rfl, Keeps.refl _ _⟩

/-! ## Text -/
def icells (l : List Int) : List Value := l.map (Value.int .i64)

/-- What Text comes to. -/
def TextIs (w' : World) (c : Cm) (ev : Ending) : Prop := match checkP c with
  | none => ev = .returned (.tuple #[strV (textP c), .nilIface])
  | some e => ∃ v, WrErr w' v (some e) ∧ ev = .returned (.tuple #[strV [], v])

def wordsV (k : Int) (args : List Int) (j : Nat) : List Value := strV (wordOf k.toNat) :: (args.take j).map fun a => strV (itoa a)

theorem wordsV_succ {k : Int} {args : List Int} {j : Nat} {x : Int} (h : args[j]? = some x) : wordsV k args (j + 1) = wordsV k args j ++ [strV (itoa x)] := by
  unfold wordsV
  rw [List.take_add_one, h]
  simp

theorem wordsV_full (k : Int) (args : List Int) : wordsV k args args.length = (wordOf k.toNat :: args.map itoa).map strV := by
  unfold wordsV
  rw [List.take_length, List.map_cons, List.map_map]
  rfl

def TextInv (w1 : World) (B : Nat) (k : Int) (args : List Int) (n : Nat) (v i : Value) (wr : World) : Prop :=
  ∃ j : Nat, j + n = args.length ∧ i = .int .i64 (j : Nat) ∧ OwnS wr (fun k => B ≤ k) 9 1 v (j + 1) (wordsV k args j) ∧ (∃ A n c, v = .slice A n c) ∧ Keeps (fun k => B ≤ k) w1 wr

theorem info9 : (Tryz.prog.info? 9).map (fun i => (i.zero, i.size, i.bytes)) = some (some (.string ⟨#[]⟩), 1, 16) := by kernel_rfl

theorem SlR.form {w : World} {v : Value} {xs : List Value} (h : SlR w v xs) : ∃ A cp, v = .slice A xs.length cp ∧ ∀ j u, xs[j]? = some u → ∃ ad, A = some ad ∧ w.cell? (ad.add j) = some u := by
  rcases h with ⟨c, rfl, rfl⟩ | ⟨ad, c, rfl, hc, hr⟩
  · exact ⟨none, c, rfl, fun j u hj => by simp at hj⟩
  · exact ⟨some ad, c, rfl, fun j u hj => ⟨ad, rfl, hr j u hj⟩⟩

theorem check_len {c : Cm} (h : checkP c = none) : c.args.length ≤ 200 ∧ 0 ≤ c.kind ∧ c.kind < 10 ∧ leastOf c.kind ≤ c.args.length := by
  unfold checkP at h
  split at h
  · cases h
  · split at h
    · cases h
    · split at h
      · cases h
      · refine ⟨by omega, by omega, by omega, by omega⟩

theorem Keeps.trans' {F : Nat → Prop} {a b c : World} (h : Keeps Nothing a b) (k : Keeps F b c) : Keeps F a c := (h.mono (fun _ x _ => x.elim)).trans k (fun _ x _ => x)

theorem joinOn_len (c : UInt8) (B : Nat) : ∀ ws : List Str, (∀ w ∈ ws, w.length ≤ B) → (joinOn c ws).length ≤ ws.length * (B + 1)
  | [], _ => by simp [joinOn]
  | [w], h => by have := h w List.mem_cons_self; simp only [joinOn, List.length_cons, List.length_nil]; omega
  | w :: v :: ws, h => by
    have h1 := h w List.mem_cons_self
    have h2 := joinOn_len c B (v :: ws) (fun x hx => h x (List.mem_cons_of_mem _ hx))
    rw [joinOn_cons c w (by simp), List.length_append, List.length_cons]
    rw [List.length_cons, Nat.succ_mul]
    omega

theorem word_len (k : Nat) : (wordOf k).length ≤ 8 := by
  unfold wordOf
  split <;> simp

theorem macText_len {m : List Int} (hm : MacIs m) : (macText m).length ≤ 17 := by
  obtain ⟨hl, -⟩ := hm
  match m, hl with
  | [a, b, c, d, e, f], _ => simp [macText, joinOn, hex2]

theorem join_len_ok (c : Cm) (hm : MacIs c.mac) (ha : ∀ a ∈ c.args, -9223372036854775808 ≤ a ∧ a ≤ 9223372036854775807) (h : c.args.length ≤ 200) : (joinOn 32 (wordsOf c)).length ≤ 140737488355328 := by
  have h1 := joinOn_len 32 21 (wordsOf c) (fun w hw => by
    unfold wordsOf at hw
    rcases List.mem_cons.1 hw with rfl | hw
    · have := word_len c.kind.toNat; omega
    · have hi : ∀ a ∈ c.args, (itoa a).length ≤ 21 := fun a h => itoa_length_le a (ha a h).1 (ha a h).2
      unfold argWords at hw
      split at hw
      · split at hw
        · simp at hw
        · rename_i a r e
          rcases List.mem_cons.1 hw with rfl | hw
          · exact hi a (by rw [e]; exact List.mem_cons_self)
          · rcases List.mem_cons.1 hw with rfl | hw
            · have := macText_len hm; omega
            · obtain ⟨x, hx, rfl⟩ := List.mem_map.1 hw
              exact hi x (by rw [e]; exact List.mem_cons_of_mem _ hx)
      · obtain ⟨x, hx, rfl⟩ := List.mem_map.1 hw
        exact hi x hx)
  have h2 : (wordsOf c).length ≤ 202 := by
    unfold wordsOf argWords
    split
    · split
      · simp
      · rename_i a r e
        rw [e] at h
        simp at h ⊢
        omega
    · simp; omega
  omega

theorem own_cap {w : World} {F : Nat → Prop} {g n cap : Nat} {cs : List Value} (h : OwnF w F 9 (.slice (some ⟨g, 0, none⟩) n cap) cs) (hl : cs.length = n) : n ≤ cap := by
  rcases h.blk with ⟨h, -⟩ | ⟨g2, cap2, cur, h, -, -, hc, -⟩
  · cases h
  · injection h with _ _ h3; subst h3; omega

theorem own_lt {w : World} {F : Nat → Prop} {g n cap : Nat} {cs : List Value} (h : OwnF w F 9 (.slice (some ⟨g, 0, none⟩) n cap) cs) (hl : cs.length = n) : g < w.heap.size := by
  rcases h.blk with ⟨h, -⟩ | ⟨g2, cap2, cur, h, -, hb, -⟩
  · cases h
  · injection h with h1; injection h1 with h1; injection h1 with h1; subst h1; exact hb.lt

theorem own_cell {w : World} {F : Nat → Prop} {g n cap : Nat} {cs : List Value} (h : OwnF w F 9 (.slice (some ⟨g, 0, none⟩) n cap) cs) (hl : cs.length = n) {j : Nat} {u : Value} (hj : cs[j]? = some u) : w.cell? ⟨g, j, none⟩ = some u := by
  rcases h.blk with ⟨h, -⟩ | ⟨g2, cap2, cur, h, -, hb, -, -, -, ht⟩
  · cases h
  · injection h with h1; injection h1 with h1; injection h1 with h1; subst h1
    rw [hb.cell j]
    rw [← ht, List.getElem?_take] at hj
    split at hj
    · exact hj
    · cases hj

set_option maxRecDepth 100000 in
set_option maxHeartbeats 8000000 in
theorem text_ok (c : Cm) (hm : MacIs c.mac) (hk : -9223372036854775808 ≤ c.kind ∧ c.kind ≤ 9223372036854775807) (hl : c.args.length ≤ 140737488355328) (ha : ∀ a ∈ c.args, -9223372036854775808 ≤ a ∧ a ≤ 9223372036854775807) {v : Value} {w : World} (hg : Gl w) (hs : SlR w v (icells c.args)) :
    Calls Tryz.prog 13 #[cmdV c v] w fun ev w' => TextIs w' c ev ∧ Keeps Nothing w w' := by
  obtain ⟨i0, hi0, hz0, hz1, hz2⟩ := info_parts info9
  obtain ⟨A, cp, rfl, hcells⟩ := hs.form
  have hil : (icells c.args).length = c.args.length := by simp [icells]
  rw [hil]
  have HC := Lib.hid hcells
  clear hs hcells
  have hch := fun (w : World) (h : 10 ≤ w.heap.size) => check_ok c hm hk hl A cp h
  obtain ⟨kind, mac, args⟩ := c
  have HM := Lib.hid hm
  obtain ⟨hm1, -⟩ := hm
  have HA := Lib.hid ha
  simp only at hm1 hk hl HC HM HA
  match mac, hm1 with
  | [q0, q1, q2, q3, q4, q5], _ =>
    have k1 : Keeps Nothing w (w.alloc (.cells #[.int .i64 kind, .int .u8 q0, .int .u8 q1, .int .u8 q2, .int .u8 q3, .int .u8 q4, .int .u8 q5, .slice A args.length cp] 26)) := (Keeps.refl _ _).alloc _
    have hB : Blk (w.alloc (.cells #[.int .i64 kind, .int .u8 q0, .int .u8 q1, .int .u8 q2, .int .u8 q3, .int .u8 q4, .int .u8 q5, .slice A args.length cp] 26)) w.heap.size [.int .i64 kind, .int .u8 q0, .int .u8 q1, .int .u8 q2, .int .u8 q3, .int .u8 q4, .int .u8 q5, .slice A args.length cp] 26 := Blk.new w _ 26
    have K1 := Lib.hid k1
    have HB := Lib.hid hB
    have HG := Lib.hid (hg.same k1)
    have hch1 := hch _ (hg.same k1).big
    have hch2 : Calls Tryz.prog 14 #[.agg #[.int .i64 kind, .int .u8 q0, .int .u8 q1, .int .u8 q2, .int .u8 q3, .int .u8 q4, .int .u8 q5, .slice A args.length cp]] (w.alloc (.cells #[.int .i64 kind, .int .u8 q0, .int .u8 q1, .int .u8 q2, .int .u8 q3, .int .u8 q4, .int .u8 q5, .slice A args.length cp] 26)) _ := hch1
    clear hch hch1 k1 hB hg
    show Calls Tryz.prog 13 #[.agg #[.int .i64 kind, .int .u8 q0, .int .u8 q1, .int .u8 q2, .int .u8 q3, .int .u8 q4, .int .u8 q5, .slice A args.length cp]] w _
    unfold TextIs
    cases hcp : checkP ⟨kind, [q0, q1, q2, q3, q4, q5], args⟩ with
    | some e =>
      obtain ⟨n, k⟩ := e
      rw [hcp] at hch2
      clear hcp
      go_enter Tryz.func13, Tryz.ntmps13
      go_wp2_with (go_at_call 14; refine hch2.mono ?_; rintro e w2 ⟨v, rfl, ⟨b, hb0, rfl, hbk⟩, k2⟩)
      go_ret2
      exact ⟨⟨_, ⟨b, hb0, rfl, hbk⟩, rfl⟩, K1.out.same k2⟩
    | none =>
      obtain ⟨l200, k0, k10, hleast⟩ := check_len hcp
      simp only at l200 k0 k10 hleast
      rw [hcp] at hch2
      clear hcp
      go_enter Tryz.func13, Tryz.ntmps13
      go_wp2_with (first | (go_at_call 14; refine hch2.mono ?_; rintro e w2 ⟨v, rfl, he, k2⟩; obtain rfl : v = .nilIface := he; have K2 := Lib.hid (K1.out.same k2); have HB2 := Lib.hid (HB.out.keeps k2 (fun h => h)); have HG2 := Lib.hid (HG.out.same k2); have c0 : w2.cell? ⟨w.heap.size, 0, none⟩ = some (.int .i64 kind) := HB2.out.cell 0; clear k2) | (go_at_call 24; refine (name_ok _ HG2.out).mono ?_; rintro e w3 ⟨rfl, k3⟩; have K3 := Lib.hid (K2.out.same k3); have HB3 := Lib.hid (HB2.out.keeps k3 (fun h => h)); have HG3 := Lib.hid (HG2.out.same k3); have c7 : (w3.alloc (.cells #[strV (nameOf kind)] 9)).cell? ⟨w.heap.size, 7, none⟩ = some (.slice A args.length cp) := (HB3.out.alloc _).cell 7; clear k3))
      have hname : nameOf kind = wordOf kind.toNat := if_pos ⟨k0, k10⟩
      have K4 : Hid (Keeps Nothing w (w3.alloc (.cells #[strV (nameOf kind)] 9))) := K3.out.alloc _
      have HB4 := Lib.hid (HB3.out.alloc (.cells #[strV (nameOf kind)] 9))
      have HG4 := Lib.hid (HG3.out.same ((Keeps.refl Nothing w3).alloc (.cells #[strV (nameOf kind)] 9)))
      have HO4 : Hid (OwnF (w3.alloc (.cells #[strV (nameOf kind)] 9)) (fun k => w3.heap.size ≤ k) 9 (.slice (some ⟨w3.heap.size, 0, none⟩) 1 1) [strV (wordOf kind.toNat)]) := by
        rw [hname]; exact OwnF.lit w3 [strV (wordOf kind.toNat)] 9 (by simp [maxLen])
      have hsz34 : w3.heap.size < (w3.alloc (.cells #[strV (nameOf kind)] 9)).heap.size := by simp
      have hbig3 := HG3.out.big
      have hws3 := K3.out.size
      have hblt := HB3.out.lt
      clear HB2 HG2 K2 HB3 HG3 K3 hname c0 HB HG K1
      generalize hw4 : w3.alloc (.cells #[strV (nameOf kind)] 9) = w4 at *
      clear hw4
      go_loopg [5, 23] args.length (fun n v i wr => TextInv w4 w3.heap.size kind args n v i wr)
      case atStart => exact ⟨0, by omega, rfl, HO4.out.toS, ⟨_, _, _, rfl⟩, Keeps.refl _ _⟩
      case round =>
        obtain ⟨j, hj, rfl, hO, ⟨A0, n0, c0, rfl⟩, hk⟩ := hrel
        have HO := Lib.hid hO
        have HK := Lib.hid hk
        have hown : ∀ k, (Value.slice A0 n0 c0).ownBlock = some k → w3.heap.size ≤ k := fun k hk => hO.2 k hk
        clear hO hk
        by_cases hlt : j < args.length
        · obtain ⟨x, hx⟩ : ∃ x, args[j]? = some x := ⟨_, List.getElem?_eq_getElem hlt⟩
          have hxb := HA.out x (List.mem_of_getElem? hx)
          obtain ⟨ad, hAd, hcell⟩ := HC.out j (.int .i64 x) (by simp [icells, hx])
          subst hAd
          have hlw := World.block_lt_of_cell? w _ hcell
          have f1 : w4.cell? (ad.add j) = some (.int .i64 x) := (K4.out.cell hlw (fun h => h)).trans hcell
          have f2 : wr.cell? (ad.add j) = some (.int .i64 x) := (HK.out.cell (World.block_lt_of_cell? w4 _ f1) (fun h => by have : w3.heap.size ≤ _ := h; omega)).trans f1
          have HGr := Lib.hid (HG4.out.keeps HK.out (fun k h h2 => by have := HG4.out.big; have : w3.heap.size ≤ k := h2; have := hbig3; omega))
          have hjl : (j : Int) < (args.length : Int) := by omega
          have HX := Lib.hid hx
          clear hx f1 hcell
          go_wp2_with (first | (go_at_call 37; refine (fmt_ok x hxb.1 hxb.2 HGr.out).mono ?_; rintro e w5 ⟨rfl, k5⟩; have K5 := Lib.hid k5; clear k5) | (at_builtin; refine wpList_app rfl (.tmp 27) (.tmp 30) 43 rfl 9 i0 (.string ⟨#[]⟩) 1 16 Tryz.underlying43 hi0 hz0 hz1 hz2 rfl (by decide) (fun k => w3.heap.size ≤ k) (.slice A0 n0 c0) _ _ rfl (HO.out.keeps (K5.out.alloc _) (fun _ _ h => h)) ⟨w5.heap.size, 0, none⟩ 1 1 [strV (itoa x)] rfl rfl (lit1 w5 _ 9) (fun u hu => by simp at hu; subst hu; rfl) (by decide) (by omega) (by omega) ?_))
          intro g cap w6 hO6 hk6
          have hsz5 := HK.out.size
          have hsz6 := K5.out.size
          have hsz4' := hsz34
          have HO6 : Hid (OwnS w6 (fun k => w3.heap.size ≤ k) 9 1 (.slice (some ⟨g, 0, none⟩) (j + 1 + 1) cap) (j + 1 + 1) (wordsV kind args (j + 1))) := by
            show OwnS _ _ _ _ _ _ _
            rw [wordsV_succ HX.out]
            refine hO6.mono (fun k h => ?_)
            rcases h with h | h
            · exact h
            · have h2 : w5.heap.size + 1 ≤ k := by simpa using h
              show w3.heap.size ≤ k
              omega
          have HK6 : Hid (Keeps (fun k => w3.heap.size ≤ k) w4 w6) := (HK.out.trans ((K5.out.alloc _).mono (fun _ x _ => x.elim)) (fun x h _ => h)).trans hk6 (fun k h _ => hown k h)
          clear hO6 hk6
          go_wp2_with fail
          go_roundg (gk - 1)
          case measure => omega
          case rel => exact ⟨j + 1, by omega, by go_num, HO6.out, ⟨_, _, _, rfl⟩, HK6.out⟩
        · obtain rfl : j = args.length := by omega
          have hq : ¬ (args.length : Int) < (args.length : Int) := by omega
          have hwl : (wordsV kind args args.length).length = args.length + 1 := by simp [wordsV]
          have hOF : OwnF wr (fun k => w3.heap.size ≤ k) 9 (.slice A0 n0 c0) (wordsV kind args args.length) := HO.out.toF
          obtain ⟨g, cap, hv, hFg⟩ : ∃ g cap, (Value.slice A0 n0 c0) = .slice (some ⟨g, 0, none⟩) (args.length + 1) cap ∧ w3.heap.size ≤ g := by
            rcases hOF.blk with ⟨-, h⟩ | ⟨g, cap, cur, h, hF, -⟩
            · rw [h] at hwl; simp at hwl
            · rw [hwl] at h; exact ⟨g, cap, h, hF⟩
          rw [hv] at hOF
          injection hv with e1 e2 e3
          subst e1 e2 e3
          have HOF := Lib.hid hOF
          have HBr : Hid (Blk wr w.heap.size [.int .i64 kind, .int .u8 q0, .int .u8 q1, .int .u8 q2, .int .u8 q3, .int .u8 q4, .int .u8 q5, .slice A args.length cp] 26) := HB4.out.keeps HK.out (fun h => by have : w3.heap.size ≤ w.heap.size := h; have := hblt; omega)
          have HGr := Lib.hid (HG4.out.keeps HK.out (fun k h h2 => by have : w3.heap.size ≤ k := h2; have := hbig3; omega))
          have HKr : Hid (Keeps Nothing w wr) := K4.out.up HK.out (fun k h => by have : w3.heap.size ≤ k := h; have := hws3; omega)
          have b0 : wr.cell? ⟨w.heap.size, 0, none⟩ = some (.int .i64 kind) := HBr.out.cell 0
          have b1 : wr.cell? ⟨w.heap.size, 1, none⟩ = some (.int .u8 q0) := HBr.out.cell 1
          have b2 : wr.cell? ⟨w.heap.size, 2, none⟩ = some (.int .u8 q1) := HBr.out.cell 2
          have b3 : wr.cell? ⟨w.heap.size, 3, none⟩ = some (.int .u8 q2) := HBr.out.cell 3
          have b4 : wr.cell? ⟨w.heap.size, 4, none⟩ = some (.int .u8 q3) := HBr.out.cell 4
          have b5 : wr.cell? ⟨w.heap.size, 5, none⟩ = some (.int .u8 q4) := HBr.out.cell 5
          have b6 : wr.cell? ⟨w.heap.size, 6, none⟩ = some (.int .u8 q5) := HBr.out.cell 6
          have hsh := shape_ok kind
          have hsz5 := HK.out.size
          have hgl := hOF.blk
          clear hOF HO hown hq
          cases had : addrOf kind with
          | false =>
            rw [had] at hsh
            have hws : wordsOf ⟨kind, [q0, q1, q2, q3, q4, q5], args⟩ = wordOf kind.toNat :: args.map itoa := by unfold wordsOf; simp only; rw [had]; rfl
            have hjl := join_len_ok ⟨kind, [q0, q1, q2, q3, q4, q5], args⟩ HM.out HA.out l200
            have HJ := Lib.hid (join_ok g (args.length + 1) c0 (wordOf kind.toNat :: args.map itoa) 32 (w := wr) (by simp) (own_cap HOF.out hwl) (fun j x hj => own_cell HOF.out hwl (j := j) (by rw [wordsV_full, List.getElem?_map, hj]; rfl)) (own_lt HOF.out hwl) (by omega) (by rw [← hws]; exact hjl))
            have HWS := Lib.hid hws
            clear had hws hjl hgl
            go_wp2_with (first | (go_at_call 38; refine (hsh _).mono ?_; rintro e w6 ⟨rfl, rfl⟩) | (go_at_call 41; refine HJ.out.mono ?_; rintro e w6 ⟨rfl, k6⟩; have K6 := Lib.hid k6; clear k6))
            go_ret2
            refine ⟨?_, HKr.out.same K6.out⟩
            have e : textP ⟨kind, [q0, q1, q2, q3, q4, q5], args⟩ = joinOn 32 (wordOf kind.toNat :: args.map itoa) := by unfold textP; rw [HWS.out]
            show _ = Ending.returned (.tuple #[strV (textP ⟨kind, [q0, q1, q2, q3, q4, q5], args⟩), .nilIface])
            rw [e]
            rfl
          | true =>
            rw [had] at hsh
            have h2 : 2 ≤ args.length := by
              have : leastOf kind = 3 ∨ leastOf kind = 2 := by
                unfold addrOf at had
                simp at had
                rcases had with h | h <;> rw [h] <;> decide
              omega
            obtain ⟨a, r, har⟩ : ∃ a r, args = a :: r := by
              cases args with
              | nil => simp at h2
              | cons a r => exact ⟨a, r, rfl⟩
            have hws : wordsOf ⟨kind, [q0, q1, q2, q3, q4, q5], args⟩ = wordOf kind.toNat :: itoa a :: macText [q0, q1, q2, q3, q4, q5] :: r.map itoa := by unfold wordsOf; simp only; rw [had, har]; rfl
            have hjl := join_len_ok ⟨kind, [q0, q1, q2, q3, q4, q5], args⟩ HM.out HA.out l200
            rw [hws] at hjl
            have hins : (wordsV kind args args.length).take 2 ++ strV (macText [q0, q1, q2, q3, q4, q5]) :: (wordsV kind args args.length).drop 2 = (wordOf kind.toNat :: itoa a :: macText [q0, q1, q2, q3, q4, q5] :: r.map itoa).map strV := by
              rw [wordsV_full, har]; simp
            have hwlen : (wordOf kind.toNat :: itoa a :: macText [q0, q1, q2, q3, q4, q5] :: r.map itoa).length = args.length + 1 + 1 := by rw [har]; simp
            have hone : ∀ v ∈ wordsV kind args args.length, v.oneCell' = true := fun v hv => by
              rw [wordsV_full] at hv
              obtain ⟨x, -, rfl⟩ := List.mem_map.1 hv
              rfl
            have HMT := Lib.hid (macText_ok [q0, q1, q2, q3, q4, q5] HM.out wr)
            have HIN : Hid (∀ w6 : World, Keeps Nothing wr w6 → Calls Tryz.prog 39 #[.slice (some ⟨g, 0, none⟩) (args.length + 1) c0, .int .i64 2, .slice (some ⟨w6.heap.size, 0, none⟩) 1 1] (w6.alloc (.cells #[strV (macText [q0, q1, q2, q3, q4, q5])] 9)) fun e w' =>
                ∃ g' c', e = .returned (.slice (some ⟨g', 0, none⟩) (args.length + 1 + 1) c') ∧ Keeps (fun k => w3.heap.size ≤ k) wr w' ∧ Calls Tryz.prog 41 #[.slice (some ⟨g', 0, none⟩) (args.length + 1 + 1) c', strV [32]] w' fun e w'' => e = .returned (strV (joinOn 32 (wordOf kind.toNat :: itoa a :: macText [q0, q1, q2, q3, q4, q5] :: r.map itoa))) ∧ Keeps Nothing w' w'') := fun w6 k6 => by
              have hgl := own_lt HOF.out hwl
              have hk7 : Keeps Nothing wr (w6.alloc (.cells #[strV (macText [q0, q1, q2, q3, q4, q5])] 9)) := k6.alloc _
              have := insert_ok g 2 c0 w6.heap.size (wordsV kind args args.length) (strV (macText [q0, q1, q2, q3, q4, q5])) (w := w6.alloc (.cells #[strV (macText [q0, q1, q2, q3, q4, q5])] 9)) (F := fun k => w3.heap.size ≤ k) (by omega) (by rw [hwl]; exact HOF.out.keeps hk7 (fun _ _ h => h)) (Blk.new w6 [strV (macText [q0, q1, q2, q3, q4, q5])] 9) (by have := k6.size; omega) hone rfl (by omega)
              rw [hwl, hins] at this
              refine this.mono ?_
              rintro e w' ⟨g', c', rfl, hc, hg', hcs, hk'⟩
              refine ⟨g', c', rfl, hk7.trans' hk', ?_⟩
              exact join_ok g' (args.length + 1 + 1) c' _ 32 hwlen.symm hc (fun j x hj => hcs j _ (by rw [List.getElem?_map, hj]; rfl)) hg' (by omega) hjl
            have HWS := Lib.hid hws
            clear had hws hjl hgl hins hwlen hone har
            go_wp2_with (first | (go_at_call 38; refine (hsh _).mono ?_; rintro e w6 ⟨rfl, rfl⟩) | (go_at_call 40; refine HMT.out.mono ?_; rintro e w6 ⟨rfl, k6⟩; have HI := Lib.hid (HIN.out w6 k6); clear k6) | (go_at_call 39; refine HI.out.mono ?_; rintro e w7 ⟨g', c', rfl, k7, hj⟩; have K7 := Lib.hid k7; have HJ := Lib.hid hj; clear k7 hj) | (go_at_call 41; refine HJ.out.mono ?_; rintro e w8 ⟨rfl, k8⟩; have K8 := Lib.hid k8; clear k8))
            go_ret2
            refine ⟨?_, (HKr.out.up K7.out (fun k h => by have : w3.heap.size ≤ k := h; have := hws3; omega)).same K8.out⟩
            have e : textP ⟨kind, [q0, q1, q2, q3, q4, q5], args⟩ = joinOn 32 (wordOf kind.toNat :: itoa a :: macText [q0, q1, q2, q3, q4, q5] :: r.map itoa) := by unfold textP; rw [HWS.out]
            show _ = Ending.returned (.tuple #[strV (textP ⟨kind, [q0, q1, q2, q3, q4, q5], args⟩), .nilIface])
            rw [e]
            rfl
end Go.Proofs.YtdncojofilnhnaaGreatDoor
