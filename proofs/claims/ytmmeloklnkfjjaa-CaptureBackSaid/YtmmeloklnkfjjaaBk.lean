/- CaptureBack: the walk. -/
import Derived.Test.YtmmeloklnkfjjaaKeep
import Derived.Test.YtmmeloklnkfjjaaCrcLaw
import Derived.Test.YtmmeloklnkfjjaaArg28
namespace Go.Proofs.Ytmmeloklnkfjjaa
open Go.RowKit

def GdInv (w : World) (l : List Fr) (k : Nat) (v i : Value) (wr : World) : Prop :=
  ∃ (j : Nat) (x : Bool), j + k = l.length ∧ i = .int .i64 (j : Nat) ∧ v = .bool x ∧ (x = true ↔ ∀ (m : Nat) (f : Fr), m < j → l[m]? = some f → f.Ok) ∧ Keeps Nothing w wr

def BkO (w : World) (n : Nat) (k : Nat) (i : Value) (wr : World) : Prop := ∃ j : Nat, j + k = n ∧ i = .int .i64 (j : Nat) ∧ Keeps Nothing w wr

def OkTo (l : List Fr) (j : Nat) : Prop := ∀ (m : Nat) (f : Fr), m < j → l[m]? = some f → f.Ok

theorem gd_no {l : List Fr} {j : Nat} (h : ¬ OkTo l j) : (false = true ↔ ∀ (m : Nat) (f : Fr), m < j + 1 → l[m]? = some f → f.Ok) := by
  constructor
  · intro h; cases h
  · intro h2
    exact absurd (fun m f hm he => h2 m f (by omega) he) h

theorem gd_bad {l : List Fr} {j : Nat} {f : Fr} (hf : l[j]? = some f) (hb : ¬ f.Ok) : (false = true ↔ ∀ (m : Nat) (f : Fr), m < j + 1 → l[m]? = some f → f.Ok) := by
  constructor
  · intro h; cases h
  · intro h
    exact absurd (h j f (by omega) hf) hb

theorem gd_yes {l : List Fr} {j : Nat} {f : Fr} (hf : l[j]? = some f) (hok : f.Ok) (hx : OkTo l j) : (true = true ↔ ∀ (m : Nat) (f : Fr), m < j + 1 → l[m]? = some f → f.Ok) := by
  refine ⟨fun _ m g hm he => ?_, fun _ => rfl⟩
  by_cases e : m = j
  · subst e
    rw [hf] at he
    injection he with he
    rw [← he]
    exact hok
  · exact hx m g (by omega) he

theorem body_le {l : List Fr} (hl : l.length ≤ 100) (hok : ∀ f ∈ l, f.Ok) : (bodyB l).length ≤ 1000000 := by
  have h : ∀ k : List Fr, (∀ f ∈ k, f.Ok) → ((k.map encF).flatten).length ≤ k.length * 2000 := by
    intro k
    induction k with
    | nil => intro _; simp
    | cons f k ih =>
      intro hk
      have h1 := ih (fun x hx => hk x (by simp [hx]))
      have h2 := (hk f (by simp)).2.2.2.2.2.2
      have h3 : (encF f).length = 20 + f.bs.length := encK_len f.key
      simp only [List.map_cons, List.flatten_cons, List.length_append, List.length_cons]
      omega
  have h1 := h l hok
  unfold bodyB
  rw [List.length_append, List.length_append, beB_length]
  have : magicB.length = 4 := rfl
  omega

theorem seal_get {bs : Bytes} {cur : List Value} {N : Nat} (ht : cur.take N = bcells bs) (hN : N = bs.length) {i : Nat} (hi : i < N) : ∃ z, bs[i]? = some z ∧ cur[i]? = some (.int .u8 (z.toNat : Int)) := by
  refine ⟨bs[i]'(by omega), List.getElem?_eq_getElem (by omega), ?_⟩
  have h : (cur.take N)[i]? = (bcells bs)[i]? := by rw [ht]
  rw [List.getElem?_take, if_pos hi] at h
  rw [h]
  simp [bcells, show i < bs.length by omega]

theorem seal_set {w : World} {g cap N : Nat} {cur : List Value} {bs : Bytes} (hb : Blk w g cur 5) (ht : cur.take N = bcells bs) (hN : N = bs.length) (hc : N ≤ cap) (i : Nat) (y : UInt8) : SlR (w.setCell ⟨g, i, none⟩ (.int .u8 (y.toNat : Int))) (.slice (some ⟨g, 0, none⟩) (bs.set i y).length cap) (bcells (bs.set i y)) := by
  have hb2 := hb.set i (.int .u8 (y.toNat : Int))
  have e : bcells (bs.set i y) = (bcells bs).set i (.int .u8 (y.toNat : Int)) := by simp [bcells, List.map_set]
  refine .inr ⟨⟨g, 0, none⟩, cap, by simp [bcells], by simp [bcells]; omega, fun j u hj => ?_⟩
  rw [Addr.add_lit, Nat.zero_add, hb2.cell]
  rw [e, ← ht] at hj
  by_cases hij : i = j
  · subst hij
    have hlt := (List.getElem?_eq_some_iff.1 hj).1
    rw [List.length_set] at hlt
    rw [List.getElem?_set_self hlt] at hj
    rw [List.getElem?_set_self (by rw [List.length_take] at hlt; omega)]
    exact hj
  · rw [List.getElem?_set_ne hij] at hj ⊢
    rw [List.getElem?_take] at hj
    split at hj
    · exact hj
    · cases hj

set_option maxRecDepth 100000 in
set_option maxHeartbeats 32000000 in
theorem back_in {w : World} {A : Option Addr} {c : Nat} {l : List Fr} (hr : FrsR w A c l) (hfit : ∀ f ∈ l, f.Fit) (hsm : Small l) (at' : Int) (hat : at' ≤ 9223372036854775807) (t : Nat) (ht : t < 256) :
    Calls Try.prog 3 #[.slice A l.length c, .int .i64 at', .int .u8 (t : Nat)] w (TrueKept w) := by
  have HR := Lib.hid hr
  have HFit := Lib.hid hfit
  have hl100 : l.length ≤ 100 := hsm.2
  have S := fun (v : World) (hv : Keeps Nothing w v) => small_ok (HR.out.same hv) (by omega) true ⟨fun _ => hsm, fun _ => rfl⟩
  clear hr hfit hsm
  go_enter Try.func3, Try.ntmps3
  go_upto_region 6 with (first | (go_at_call 9; refine keeps_ok.mono ?_; rintro e w1 ⟨rfl, k1⟩; have K1 := Lib.hid k1; clear k1) | (go_at_call 10; refine (S _ K1.out).mono ?_; clear S; rintro e w2 ⟨rfl, k2⟩; have K2 := Lib.hid (K1.out.same k2); clear k2))
  go_wp2_with fail
  go_loopg [7, 22] l.length (fun k v i wr => GdInv w2 l k v i wr)
  case atStart => exact ⟨0, true, by omega, rfl, rfl, ⟨fun _ m f hm => by omega, fun _ => rfl⟩, Keeps.refl _ _⟩
  case round =>
    obtain ⟨j, x, hj, rfl, rfl, hx, hk⟩ := hrel
    have HK := Lib.hid hk
    by_cases hlt : j < l.length
    · obtain ⟨port, cls, frm, till, B, cap, bs, b, o, hf, rfl, f0, f1, f2, f3, f4, hs⟩ := (HR.out.same (K2.out.same hk)).get hlt
      have HF := Lib.hid hf
      clear hk hf hs
      cases x
      · have HX := Lib.hid (show ¬ OkTo l j from fun h => by have := hx.2 h; cases this)
        clear hx
        go_wp2_with fail
        go_roundg (gk - 1)
        case measure => omega
        case rel => exact ⟨j + 1, false, by omega, by go_num, rfl, gd_no HX.out, HK.out.alloc _⟩
      · have HX := Lib.hid (show OkTo l j from hx.1 rfl)
        clear hx
        by_cases p0 : 0 ≤ port
        rotate_left
        · have p0' : decide (0 ≤ port) = false := by simpa using p0
          have HBAD := Lib.hid (show ¬ (⟨port, cls, frm, till, B, cap, bs⟩ : Fr).Ok from fun h => by unfold Fr.Ok at h; simp only at h; omega)
          go_wp2_with fail
          go_roundg (gk - 1)
          case measure => omega
          case rel => exact ⟨j + 1, false, by omega, by go_num, rfl, gd_bad HF.out HBAD.out, HK.out.alloc _⟩
        by_cases p1 : port ≤ 255
        rotate_left
        · have p1' : decide (port ≤ 255) = false := by simpa using p1
          have HBAD := Lib.hid (show ¬ (⟨port, cls, frm, till, B, cap, bs⟩ : Fr).Ok from fun h => by unfold Fr.Ok at h; simp only at h; omega)
          go_wp2_with fail
          go_roundg (gk - 1)
          case measure => omega
          case rel => exact ⟨j + 1, false, by omega, by go_num, rfl, gd_bad HF.out HBAD.out, HK.out.alloc _⟩
        by_cases c0 : 0 ≤ cls
        rotate_left
        · have c0' : decide (0 ≤ cls) = false := by simpa using c0
          have HBAD := Lib.hid (show ¬ (⟨port, cls, frm, till, B, cap, bs⟩ : Fr).Ok from fun h => by unfold Fr.Ok at h; simp only at h; omega)
          go_wp2_with fail
          go_roundg (gk - 1)
          case measure => omega
          case rel => exact ⟨j + 1, false, by omega, by go_num, rfl, gd_bad HF.out HBAD.out, HK.out.alloc _⟩
        by_cases c1 : cls ≤ 7
        rotate_left
        · have c1' : decide (cls ≤ 7) = false := by simpa using c1
          have HBAD := Lib.hid (show ¬ (⟨port, cls, frm, till, B, cap, bs⟩ : Fr).Ok from fun h => by unfold Fr.Ok at h; simp only at h; omega)
          go_wp2_with fail
          go_roundg (gk - 1)
          case measure => omega
          case rel => exact ⟨j + 1, false, by omega, by go_num, rfl, gd_bad HF.out HBAD.out, HK.out.alloc _⟩
        by_cases r0 : 0 ≤ frm
        rotate_left
        · have r0' : decide (0 ≤ frm) = false := by simpa using r0
          have HBAD := Lib.hid (show ¬ (⟨port, cls, frm, till, B, cap, bs⟩ : Fr).Ok from fun h => by unfold Fr.Ok at h; simp only at h; omega)
          go_wp2_with fail
          go_roundg (gk - 1)
          case measure => omega
          case rel => exact ⟨j + 1, false, by omega, by go_num, rfl, gd_bad HF.out HBAD.out, HK.out.alloc _⟩
        by_cases t0 : frm ≤ till
        rotate_left
        · have t0' : decide (frm ≤ till) = false := by simpa using t0
          have HBAD := Lib.hid (show ¬ (⟨port, cls, frm, till, B, cap, bs⟩ : Fr).Ok from fun h => by unfold Fr.Ok at h; simp only at h; omega)
          go_wp2_with fail
          go_roundg (gk - 1)
          case measure => omega
          case rel => exact ⟨j + 1, false, by omega, by go_num, rfl, gd_bad HF.out HBAD.out, HK.out.alloc _⟩
        by_cases l0 : (bs.length : Int) ≤ 1522
        rotate_left
        · have l0' : decide ((bs.length : Int) ≤ 1522) = false := by simpa using l0
          have HBAD := Lib.hid (show ¬ (⟨port, cls, frm, till, B, cap, bs⟩ : Fr).Ok from fun h => by unfold Fr.Ok at h; simp only at h; omega)
          go_wp2_with fail
          go_roundg (gk - 1)
          case measure => omega
          case rel => exact ⟨j + 1, false, by omega, by go_num, rfl, gd_bad HF.out HBAD.out, HK.out.alloc _⟩
        have HOK := Lib.hid (show (⟨port, cls, frm, till, B, cap, bs⟩ : Fr).Ok from ⟨by simp only; omega, by simp only; omega, by simp only; omega, by simp only; omega, by simp only; omega, by simp only; omega, by simp only; omega⟩)
        go_wp2_with fail
        go_roundg (gk - 1)
        case measure => omega
        case rel => exact ⟨j + 1, true, by omega, by go_num, rfl, gd_yes HF.out HOK.out HX.out, HK.out.alloc _⟩
    · obtain rfl : j = l.length := by omega
      have hx2 : x = true ↔ ∀ f ∈ l, f.Ok := ⟨fun h f hf => by
        obtain ⟨m, hm⟩ := List.getElem?_of_mem hf
        exact hx.1 h m f (List.getElem?_eq_some_iff.1 hm).1 hm, fun h => hx.2 (fun m f _ he => h f (List.mem_of_getElem? he))⟩
      have HKw := Lib.hid (K2.out.same hk)
      clear hx hk
      cases x
      · have hno : ¬ ∀ f ∈ l, f.Ok := fun h => by have := hx2.2 h; cases this
        have h1 : (1 : Int) = checkR l := by
          unfold checkR
          rw [if_neg (by omega), if_neg hno]
        have W := write_bad (HR.out.same HKw.out) (by omega) 1 h1 (by decide)
        have C := fun (v : World) (hv : Keeps Nothing w v) => check_ok (HR.out.same hv) (by omega) 1 h1
        clear hx2 hno h1
        go_wp2_with (first | (go_at_call 11; refine W.mono ?_; clear W; rintro e w3 ⟨rfl, k3⟩) | (go_at_call 12; refine (C _ (HKw.out.same k3)).mono ?_; clear C; rintro e w4 ⟨rfl, k4⟩))
        go_ret
        exact ⟨rfl, (HKw.out.same k3).same k4⟩
      · have hok : ∀ f ∈ l, f.Ok := hx2.1 rfl
        have W := write_ok (HR.out.same HKw.out) (by omega) (checkR_good (by omega) hok) HFit.out (Nat.le_trans (body_le hl100 hok) (by omega))
        have hrw := read_write (l := l) (by omega) hok HFit.out
        have hbl := body_le hl100 hok
        have hN : (sealB (bodyB l)).length = (bodyB l).length + 4 := by unfold sealB; rw [List.length_append]; rfl
        have hflip := fun i z hz y hy => openB_flip (bodyB l) i z hz y hy
        clear hx2 hok
        unfold WriteRes at W
        generalize sealB (bodyB l) = bs at *
        generalize (bodyB l).length = M at *
        have HN := Lib.hid hN
        have hbs : bs.length ≤ 1000004 := by omega
        have hbp : 0 < bs.length := by omega
        have HRW := Lib.hid hrw
        have HFlip := Lib.hid hflip
        clear hrw hN hflip hbl
        go_upto_region 14 with (go_at_call 11; refine W.mono ?_; clear W; rintro e w3 ⟨g, cap, rfl, hg, ho, k3⟩)
        have hg0 : w.heap.size ≤ g := by have := HKw.out.size; omega
        have HO := Lib.hid ho
        have R := read_ok (w := w3) ho.slR (by omega)
        have K3 := Lib.hid (HKw.out.same k3)
        clear ho k3 hg
        go_upto_region 15 with (go_at_call 13; refine R.mono ?_; clear R; rintro e w4 ⟨k4, (⟨n, hn1, -, -⟩ | ⟨lst, A2, c2, hrd, rfl, hfr, -, -⟩)⟩; rw [HRW.out] at hn1; cases hn1)
        rw [HRW.out] at hrd
        injection hrd with hrd
        have hll : lst.length = l.length := by
          have := congrArg List.length hrd
          simpa using this.symm
        have hll2 : (((lst.length : Nat) : Int) != (l.length : Int)) = false := by rw [hll]; simp
        have HRD := Lib.hid hrd
        have HLL := Lib.hid hll
        have HFR := Lib.hid hfr
        have K4 := Lib.hid k4
        have K4w := Lib.hid (K3.out.same k4)
        clear hrd hll hfr k4
        go_wp2_with fail
        go_loopg [105] l.length (fun k i wr => BkO w4 l.length k i wr)
        case atStart => exact ⟨0, by omega, rfl, Keeps.refl _ _⟩
        case round =>
          obtain ⟨j, hj, rfl, hk⟩ := hrel
          have HKl := Lib.hid hk
          by_cases hlt : j < l.length
          · have hjl : j < lst.length := by rw [HLL.out]; exact hlt
            obtain ⟨fp, fc, ff, ft, fB, fcap, fbs, b1, o1, hf, rfl, f0, f1, f2, f3, f4, hsf⟩ := (HR.out.same (K4w.out.same hk)).get hlt
            obtain ⟨gp, gc, gf, gt, gB, gcap, gbs, b2, o2, hgj, rfl, g0, g1, g2, g3, g4, hsg⟩ := (HFR.out.same hk).get hjl
            have hsame : Fr.Same ⟨fp, fc, ff, ft, fB, fcap, fbs⟩ ⟨gp, gc, gf, gt, gB, gcap, gbs⟩ := by
              have h := congrArg (fun k => k[j]?) HRD.out
              simp only [List.getElem?_map, hf, hgj, Option.map_some, Option.some.injEq, Fr.key, Key.mk.injEq] at h
              exact h
            have D := same_ok (w := wr.drew) ⟨fp, fc, ff, ft, fB, fcap, fbs⟩ ⟨gp, gc, gf, gt, gB, gcap, gbs⟩ (SlR.same hsf (Keeps.refl _ _).drew) (SlR.same hsg (Keeps.refl _ _).drew) true ⟨fun _ => hsame, fun _ => rfl⟩
            unfold Fr.val at D
            simp only at D
            have hjl2 : (j : Int) < (lst.length : Int) := by omega
            have hjl3 : (j : Int) < (l.length : Int) := by omega
            clear hk hf hgj hsf hsg hsame
            go_upto_region 20 with fail
            go_still_tail 8, (by kernel_rfl)
            change wpList _ _ _ _ _ wr.drew
            have HKd := Lib.hid (HKl.out.drew)
            clear f0 f1 f2 f3 f4 g0 g1 g2 g3 g4
            generalize wr.drew = wd at *
            go_wp2_with (go_at_call 14; refine D.mono ?_; clear D; rintro e w5 ⟨rfl, k5⟩; have K5 := Lib.hid (HKd.out.same k5); clear k5)
            go_roundg (gk - 1)
            case measure => omega
            case rel => exact ⟨j + 1, by omega, by go_num, K5.out⟩
          · obtain rfl : j = l.length := by omega
            have Kl := Lib.hid (K4w.out.same hk)
            by_cases ha : at' < 0
            · clear hk
              go_wp2_with fail
              go_ret
              exact ⟨rfl, Kl.out⟩
            · have ha' : decide (at' < 0) = false := by simpa using ha
              by_cases ht0 : t = 0
              · subst ht0
                clear hk
                go_wp2_with fail
                go_ret
                exact ⟨rfl, Kl.out⟩
              · have ht0' : (((t : Nat) : Int) == 0) = false := by simpa using ht0
                obtain ⟨p, rfl⟩ : ∃ p : Nat, at' = (p : Int) := ⟨at'.toNat, by omega⟩
                obtain ⟨i, hi⟩ : ∃ i, i = p % bs.length := ⟨_, rfl⟩
                have hil : i < bs.length := by rw [hi]; exact Nat.mod_lt _ hbp
                have hir : (p : Int).tmod (bs.length : Int) = (i : Int) := by rw [Int.tmod_eq_emod_of_nonneg (by omega), hi]; rfl
                have hq0 : (bs.length : Int) ≠ 0 := by omega
                rcases HO.out.blk with ⟨h, -⟩ | ⟨g', cap', cur, h, -, hblk, hcap, -, hcl, htk⟩
                · cases h
                · injection h with h1 h2 h3
                  injection h1 with h1
                  injection h1 with h1
                  subst h1 h3
                  rw [bcells_length] at hcap htk
                  obtain ⟨z, hz, hcz⟩ := seal_get htk rfl hil
                  have hblk2 := (hblk.keeps K4.out (fun h => h)).keeps hk (fun h => h)
                  have b1 : wr.cell? ⟨g, i, none⟩ = some (.int .u8 (z.toNat : Int)) := by rw [hblk2.cell]; exact hcz
                  have b2 : wr.frozen? ⟨g, i, none⟩ = false := hblk2.frozen i
                  have hz8 := z.toNat_lt
                  obtain ⟨y, hy⟩ : ∃ y : UInt8, y = UInt8.ofNat (z.toNat ^^^ t) := ⟨_, rfl⟩
                  have hxl : z.toNat ^^^ t < 256 := Nat.xor_lt_two_pow (n := 8) (by omega) (by omega)
                  have hyn : y.toNat = z.toNat ^^^ t := by rw [hy, UInt8.toNat_ofNat']; exact Nat.mod_eq_of_lt hxl
                  have hxor : bits .xor .u8 (z.toNat : Int) (t : Int) = (y.toNat : Int) := by
                    rw [hyn]
                    exact bits_xor_u8 z.toNat t (by omega) ht
                  have hyz : y ≠ z := by
                    intro h
                    rw [h] at hyn
                    have : z.toNat ^^^ 0 = z.toNat ^^^ t := by rw [Nat.xor_zero]; exact hyn
                    exact ht0 (xor_cancel this).symm
                  have hopen := HFlip.out i z hz y hyz
                  have hslr := seal_set hblk2 htk rfl hcap i y
                  have R2 := read_ok hslr (by rw [List.length_set]; omega)
                  have hrf : readF (bs.set i y) = .inl 10 := by rw [readF_bad (by rw [hopen]; decide), hopen]
                  rw [List.length_set] at R2
                  have HRF := Lib.hid hrf
                  have KS := Lib.hid (Kl.out.up ((Keeps.refl (fun k => k = g) wr).setCell (p := ⟨g, i, none⟩) (fun _ => rfl) (.int .u8 (y.toNat : Int))) (fun x hx => by omega))
                  have hwi : IntKind.i64.wrap (i : Int) = (i : Int) := IntWalk.i64_in _ (by omega)
                  have hib : (i : Int) < (bs.length : Int) := by omega
                  clear hk hblk hblk2 hcz hz hy hyn hyz hopen hslr hrf hi htk hcl hcap ht0 h2
                  go_wp2_with (go_at_call 13; refine R2.mono ?_; clear R2; rintro e w6 ⟨k6, (⟨n, hn1, -, rfl⟩ | ⟨lst2, A3, c3, hrd, -, -, -, -⟩)⟩; rotate_left; exact absurd (HRF.out.symm.trans hrd) (by simp); rw [HRF.out] at hn1; injection hn1 with hn1; subst hn1)
                  go_ret
                  exact ⟨rfl, KS.out.same k6⟩

end Go.Proofs.Ytmmeloklnkfjjaa
