/- CommandCodes: the walk. -/
import Derived.Test.YtdncojofilnhnaaGreatDoorErrT
import Derived.Deep.DeepCutAuto
import Derived.Deep.CutRange
namespace Go.Proofs.YtdncojofilnhnaaGreatDoor
open Go.RowKit Go.Lib

def CInv (w1 : World) (words : List Int) (k : Int) (n : Nat) (v5 i : Value) (wr : World) : Prop :=
  ∃ (j : Nat) (l : List (Bool × Nat × Int)), j + n = words.length ∧ i = .int .i64 (j : Nat) ∧ v5 = valOf l (.num k) ∧ ChainAt wr l (.num k) ∧ l.map (fun x => x.2.2) = (words.take j).reverse ∧ (∀ x ∈ l, x.1 = false) ∧ Keeps Nothing w1 wr

theorem where_chain {l : List (Bool × Nat × Int)} {words : List Int} (h : l.map (fun x => x.2.2) = words.reverse) (hf : ∀ x ∈ l, x.1 = false) : whereOf l = (words.getLast?).getD (-1) := by
  cases l with
  | nil =>
    have : words = [] := by simpa using h.symm
    subst this
    rfl
  | cons x l =>
    obtain ⟨f, b, n⟩ := x
    have hx := hf (f, b, n) List.mem_cons_self
    simp only at hx
    subst hx
    have e : words = (l.map (fun x => x.2.2)).reverse ++ [n] := by
      have := congrArg List.reverse h
      simpa using this.symm
    rw [e]
    simp [whereOf, firstOf]

set_option maxRecDepth 100000 in
set_option maxHeartbeats 8000000 in
theorem codes_walk {A : Option Addr} {c : Nat} {words : List Int} (hl : words.length ≤ 9223372036854775807) (ha : ∀ a ∈ words, -9223372036854775808 ≤ a ∧ a ≤ 9223372036854775807) (k : Int) (hk : -9223372036854775808 ≤ k ∧ k ≤ 9223372036854775807) {w : World} (hg : Gl w) (hs : SlR w (.slice A words.length c) (icells words)) :
    Calls Tryz.prog 6 #[.slice A words.length c, .int .i64 k] w (TrueKept w) := by
  have HR := Lib.hid (reads_ok hg)
  have HG := Lib.hid hg
  have HS := Lib.hid hs
  have HA := Lib.hid ha
  have t1 : True := trivial
  have t2 : True := trivial
  clear hg hs ha
  by_cases hbig : 50 < (words.length : Int)
  · go_enter Tryz.func6, Tryz.ntmps6
    go_wp2_with (go_at_call 12; refine HR.out.mono ?_; rintro e w1 ⟨rfl, k1⟩; have K1 := Lib.hid k1; clear k1)
    go_ret
    exact ⟨rfl, K1.out⟩
  · have hd1 : decide (50 < (words.length : Int)) = false := by simp; omega
    go_enter Tryz.func6, Tryz.ntmps6
    go_wp2_with (go_at_call 12; refine HR.out.mono ?_; rintro e w1 ⟨rfl, k1⟩; have K1 := Lib.hid k1; have HG1 := Lib.hid (HG.out.same k1); have HS1 := Lib.hid (HS.out.same k1); clear k1)
    go_loopg [5, 19] words.length (fun n v i wr => CInv w1 words k n v i wr)
    case atStart => exact ⟨0, [], by omega, rfl, rfl, trivial, rfl, (fun x hx => by cases hx), Keeps.refl _ _⟩
    case round =>
      obtain ⟨j, l, hj, rfl, rfl, hch, hlw, hlf, hk⟩ := hrel
      have HKr := Lib.hid hk
      have HGr := Lib.hid (HG1.out.same hk)
      have HSr := Lib.hid (HS1.out.same hk)
      have HCH := Lib.hid hch
      have HLW := Lib.hid hlw
      have HLF := Lib.hid hlf
      clear hk hch hlw hlf
      by_cases hlt : j < words.length
      · obtain ⟨x, hx⟩ : ∃ x, words[j]? = some x := ⟨_, List.getElem?_eq_getElem hlt⟩
        have hxb := HA.out x (List.mem_of_getElem? hx)
        have hxi : (icells words)[j]? = some (.int .i64 x) := by simp [icells, hx]
        obtain ⟨ad, rfl, f1⟩ : ∃ ad, A = some ad ∧ wr.cell? (ad.add j) = some (.int .i64 x) := by
          rcases HSr.out with ⟨c', h1, h2⟩ | ⟨ad, c', h1, -, h3⟩
          · rw [h2] at hxi; simp at hxi
          · injection h1 with e1
            exact ⟨ad, e1, h3 j _ hxi⟩
        have hjl : (j : Int) < (words.length : Int) := by omega
        have HX := Lib.hid hx
        clear hx hxi
        obtain ⟨nt, nv, he⟩ := valOf_eq l (.num k)
        have ka : Keeps Nothing wr (wr.alloc (.cells #[.int .i64 x, .iface nt nv] 48)) := (Keeps.refl _ _).alloc _
        have hB : Blk (wr.alloc (.cells #[.int .i64 x, .iface nt nv] 48)) wr.heap.size [.int .i64 x, .iface nt nv] 48 := Blk.new wr _ 48
        have hU := unwrap_ok (l := l) (e := .num k) (by rw [he]; exact hB)
        have hE := wrong_text (l := l) (e := .num k) hxb.1 hxb.2 hk.1 hk.2 (HGr.out.same ka) (by rw [he]; exact hB) (HCH.out.same ka)
        rw [he] at hU ⊢
        have HE := Lib.hid he
        have HU := Lib.hid hU
        have HT := Lib.hid hE
        have HB := Lib.hid hB
        have HKA := Lib.hid (HKr.out.same ka)
        have HCA := Lib.hid (HCH.out.same ka)
        clear he hU hE hB ka hxb
        go_wp2_with (first | (go_at_call 22; refine HU.out.mono ?_; rintro e w2 ⟨rfl, rfl⟩) | (go_at_call 21; refine HT.out.mono ?_; rintro e w3 ⟨⟨t, rfl⟩, k3⟩; have K3 := Lib.hid (HKA.out.same k3); have HC3 := Lib.hid (HCA.out.same k3); have HB3 := Lib.hid (HB.out.keeps k3 (fun h => h)); clear k3))
        go_roundg (gk - 1)
        case measure => omega
        case rel => exact ⟨j + 1, (false, wr.heap.size, x) :: l, by omega, by go_num, rfl, ⟨by rw [HE.out]; exact HB3.out, HC3.out⟩, by rw [List.map_cons, HLW.out, List.take_add_one, HX.out]; simp, fun y hy => (List.mem_cons.1 hy).elim (fun e => by rw [e]) (HLF.out y), K3.out⟩
      · obtain rfl : j = words.length := by omega
        have hlw := HLW.out
        rw [List.take_length] at hlw
        have hwh := where_chain hlw HLF.out
        have hC := code_ok HGr.out HCH.out
        have hW := fun (w' : World) (hk : Keeps Nothing wr w') => where_ok (HGr.out.same hk) (HCH.out.same hk)
        have hI := fun (w' : World) (hk : Keeps Nothing wr w') => is_ok (HCH.out.same hk) k
        have hE := fun (w' : World) (hg : Gl w') (b : Nat) => code_ok (l := []) (e := .str b) hg trivial
        rw [hwh] at hW
        obtain ⟨nt, nv, he⟩ := valOf_eq l (.num k)
        rw [he] at hC hW hI ⊢
        have hnum : numOf (.num k) = some k := rfl
        simp only [hnum, decide_true] at hI
        have HC := Lib.hid hC
        have HW := Lib.hid hW
        have HI := Lib.hid hI
        have HE : Hid (∀ (w' : World) (hg : Gl w') (b : Nat), Calls Tryz.prog 15 #[.iface 112 (.pointer (some ⟨b, 0, none⟩))] w' fun ev w'' => ev = .returned (.int .i64 4) ∧ Keeps Nothing w' w'') := hE
        have hno := fun w => new_ok [111, 116, 104, 101, 114] w
        have HNO := Lib.hid hno
        clear hno hE hI hW hC hwh hlw he HLW HLF HCH hnum
        rcases Nat.eq_zero_or_pos words.length with h0 | h0
        · have hw0 : words = [] := List.eq_nil_of_length_eq_zero h0
          subst hw0
          clear h0
          go_wp2_with (first | (clear t1; go_at_call 15; refine HC.out.mono ?_; rintro e w2 ⟨rfl, k2⟩; have K2 := Lib.hid k2; clear k2) | (go_at_call 16; refine (HW.out _ K2.out).mono ?_; rintro e w3 ⟨rfl, k3⟩; have K3 := Lib.hid (K2.out.same k3); clear k3) | (go_at_call 18; refine (HI.out _ K3.out).mono ?_; rintro e w4 ⟨rfl, rfl⟩) | (go_at_call 23; refine (HNO.out _).mono ?_; rintro e w5 ⟨rfl, k5⟩; have K5 := Lib.hid (K3.out.same k5); have HG5 := Lib.hid (HGr.out.same (K3.out.same k5)); clear k5) | (clear t2; go_at_call 15; refine (HE.out _ HG5.out _).mono ?_; rintro e w6 ⟨rfl, k6⟩; have K6 := Lib.hid (K5.out.same k6); clear k6))
          go_ret
          exact ⟨rfl, K1.out.same (HKr.out.same K6.out)⟩
        · obtain ⟨m, hm⟩ : ∃ m, words.length = m + 1 := ⟨words.length - 1, by omega⟩
          obtain ⟨x, hx⟩ : ∃ x, words[m]? = some x := ⟨_, List.getElem?_eq_getElem (by omega)⟩
          have hlast : words.getLast? = some x := by rw [List.getLast?_eq_getElem?, hm]; exact hx
          rw [hlast] at HW
          have HW : Hid (∀ (w' : World) (hk : Keeps Nothing wr w'), Calls Tryz.prog 16 #[.iface nt nv] w' fun ev w'' => ev = .returned (.int .i64 x) ∧ Keeps Nothing w' w'') := HW
          have hxi : (icells words)[m]? = some (.int .i64 x) := by simp [icells, hx]
          obtain ⟨ad, rfl, f1⟩ : ∃ ad, A = some ad ∧ wr.cell? (ad.add m) = some (.int .i64 x) := by
            rcases HSr.out with ⟨c', h1, h2⟩ | ⟨ad, c', h1, -, h3⟩
            · rw [h2] at hxi; simp at hxi
            · injection h1 with e1
              exact ⟨ad, e1, h3 m _ hxi⟩
          clear hx hxi hlast
          have hp0 : (0 : Int) < (words.length : Int) := by omega
          have hsub : IntKind.i64.wrap ((words.length : Int) - 1) = (m : Int) := by rw [IntKind.wrap_i64]; omega
          have hsub2 : (words.length : Int) - 1 = (m : Int) := by omega
          have hml : (m : Int) < (words.length : Int) := by omega
          have hm0 : (0 : Int) ≤ (m : Int) := by omega
          clear h0
          generalize words.length = N at *
          clear hm
          go_wp2_with (first | (clear t1; go_at_call 15; refine HC.out.mono ?_; rintro e w2 ⟨rfl, k2⟩; have K2 := Lib.hid k2; clear k2) | (go_at_call 16; refine (HW.out _ K2.out).mono ?_; rintro e w3 ⟨rfl, k3⟩; have K3 := Lib.hid (K2.out.same k3); clear k3) | (go_at_call 18; refine (HI.out _ K3.out).mono ?_; rintro e w4 ⟨rfl, rfl⟩) | (go_at_call 23; refine (HNO.out _).mono ?_; rintro e w5 ⟨rfl, k5⟩; have K5 := Lib.hid (K3.out.same k5); have HG5 := Lib.hid (HGr.out.same (K3.out.same k5)); clear k5) | (clear t2; go_at_call 15; refine (HE.out _ HG5.out _).mono ?_; rintro e w6 ⟨rfl, k6⟩; have K6 := Lib.hid (K5.out.same k6); clear k6))
          go_ret
          exact ⟨rfl, K1.out.same (HKr.out.same K6.out)⟩
end Go.Proofs.YtdncojofilnhnaaGreatDoor
