/- A frame that fits into no opening of its gate: the plain law. -/
import Derived.Test.YtimgmobmagpmlaaSetE
import Derived.Test.YtimgmobmagpmlaaAllP
namespace Go.Proofs.Ytimgmobmagpmlaa
open Go.RowKit

theorem fits_first {S : Sch} (hg : SchGood S) {now : Int} (h0 : 0 ≤ now) (hx : Ext S now) {c : Nat} {need r : Int} (hn : 1 ≤ need) (hr : now ≤ r)
    (h1 : ∀ x, r ≤ x → x < r + need → opn (wrap64 ((2 : Int) ^ c)) (S.state x) = true) (h2 : ∀ v, now ≤ v → v < r → ∃ x, v ≤ x ∧ x < v + need ∧ opn (wrap64 ((2 : Int) ^ c)) (S.state x) = false) : fitsOf S c now need = r := by
  obtain ⟨q, hq, hf⟩ := Fit.fits_ok (Sch.sys_ok hg h0 hx) (opn (wrap64 ((2 : Int) ^ c))) hn
  unfold fitsOf
  rw [show (S.sys now).fits (opn (wrap64 ((2 : Int) ^ c))) need now = some q from hq]
  show q = r
  have hall : Fit.Fits (S.sys now) (opn (wrap64 ((2 : Int) ^ c))) need r := h1
  have e : (S.sys now).now = now := rfl
  rcases hf with ⟨a, b, d⟩ | ⟨a, d⟩
  · rw [e] at a
    rcases Int.lt_trichotomy q r with h | h | h
    · obtain ⟨x, x1, x2, x3⟩ := h2 q a h
      have := b x x1 x2
      have x3 : opn (wrap64 ((2 : Int) ^ c)) ((S.sys now).st x) = false := x3
      rw [this] at x3; cases x3
    · exact h
    · exact absurd hall (d r (by rw [e]; exact hr) h)
  · exact absurd hall (d r (by rw [e]; exact hr))

theorem fits_never {S : Sch} (hg : SchGood S) {now : Int} (h0 : 0 ≤ now) (hx : Ext S now) {c : Nat} {need : Int} (hn : 1 ≤ need)
    (h2 : ∀ v, now ≤ v → ∃ x, v ≤ x ∧ x < v + need ∧ opn (wrap64 ((2 : Int) ^ c)) (S.state x) = false) : fitsOf S c now need = -1 := by
  obtain ⟨q, hq, hf⟩ := Fit.fits_ok (Sch.sys_ok hg h0 hx) (opn (wrap64 ((2 : Int) ^ c))) hn
  unfold fitsOf
  rw [show (S.sys now).fits (opn (wrap64 ((2 : Int) ^ c))) need now = some q from hq]
  show q = -1
  have e : (S.sys now).now = now := rfl
  rcases hf with ⟨a, b, -⟩ | ⟨a, -⟩
  · rw [e] at a
    obtain ⟨x, x1, x2, x3⟩ := h2 q a
    have := b x x1 x2
    have x3 : opn (wrap64 ((2 : Int) ^ c)) ((S.sys now).st x) = false := x3
    rw [this] at x3; cases x3
  · exact a

def es1 (o : Int) : List Ent := [⟨1, o⟩, ⟨0, 1⟩]

theorem gst_es {o : Int} (h1 : 1 ≤ o) (h2 : o ≤ 20000) {base t : Int} (ht : base ≤ t) : gst base 100000 (es1 o) t = if (t - base) % 100000 < o then 1 else 0 := by
  unfold gst es1
  rw [if_neg (by omega), Int.tmod_eq_emod_of_nonneg (by omega)]
  have hm := Int.emod_lt_of_pos (t - base) (b := 100000) (by decide)
  generalize (t - base) % 100000 = m at *
  by_cases h : m < o
  · rw [if_pos h]
    simp only [atGo]
    rw [if_pos (by refine ⟨by omega, by simp, by omega⟩)]
    rfl
  · rw [if_neg h]
    simp only [atGo]
    rw [if_neg (by omega), if_neg (by omega), if_neg (by rintro ⟨_, h, _⟩; exact absurd h (by simp)), if_neg (by omega)]
    rfl

theorem es_good {o base : Int} (h1 : 1 ≤ o) (h2 : o ≤ 20000) (h3 : 0 ≤ base) (h4 : base ≤ 1000000) : Good base 100000 0 (es1 o) :=
  ⟨by simp [es1], by simp [es1], h3, by omega, by decide, by decide, by decide, by decide, fun e he => by
    simp [es1] at he
    rcases he with rfl | rfl <;> simp <;> omega⟩

def nS1 (g cap : Nat) (o : Int) : Sch := ⟨⟨0, 100000, 0, some ⟨g, 0, none⟩, cap, es1 o⟩, Lst.zero, true, false, 0, 1, 0⟩
def nS2 (g cap g2 cap2 : Nat) (o t : Int) : Sch := ⟨⟨0, 100000, 0, some ⟨g, 0, none⟩, cap, es1 o⟩, ⟨0, 100000, 0, some ⟨g2, 0, none⟩, cap2, es1 t⟩, true, true, 100000, 1, 0⟩
def nS3 (g2 cap2 : Nat) (t : Int) : Sch := ⟨⟨100000, 100000, 0, some ⟨g2, 0, none⟩, cap2, es1 t⟩, Lst.zero, true, false, 100000, 2, 0⟩

theorem nS1_is (g cap : Nat) (o : Int) : Sch.none.setTo 0 100000 0 g cap (es1 o) 0 = nS1 g cap o := rfl
theorem nS2_is (g cap g2 cap2 : Nat) (o t : Int) : (nS1 g cap o).setTo 0 100000 0 g2 cap2 (es1 t) 5 = nS2 g cap g2 cap2 o t := rfl
theorem nS3_is (g cap g2 cap2 : Nat) (o t : Int) : (nS2 g cap g2 cap2 o t).pass 100000 = nS3 g2 cap2 t := rfl
theorem nS1_pass (g cap : Nat) (o : Int) : (nS1 g cap o).pass 0 = nS1 g cap o := rfl

theorem nS1_good {g cap : Nat} {o : Int} (h1 : 1 ≤ o) (h2 : o ≤ 20000) : SchGood (nS1 g cap o) := ⟨fun _ => (es_good (base := 0) h1 h2 (by decide) (by decide) : Good 0 100000 0 (es1 o)), fun h => by cases h⟩
theorem nS2_good {g cap g2 cap2 : Nat} {o t : Int} (h1 : 1 ≤ o) (h2 : o ≤ 20000) (h3 : 1 ≤ t) (h4 : t ≤ 20000) : SchGood (nS2 g cap g2 cap2 o t) := ⟨fun _ => (es_good (base := 0) h1 h2 (by decide) (by decide) : Good 0 100000 0 (es1 o)), fun _ => (es_good (base := 100000) h3 h4 (by decide) (by decide) : Good 100000 100000 0 (es1 t))⟩
theorem nS3_good {g2 cap2 : Nat} {t : Int} (h3 : 1 ≤ t) (h4 : t ≤ 20000) : SchGood (nS3 g2 cap2 t) := ⟨fun _ => (es_good (base := 100000) h3 h4 (by decide) (by decide) : Good 100000 100000 0 (es1 t)), fun h => by cases h⟩

theorem opn_one : opn (wrap64 ((2 : Int) ^ 0)) 1 = true := by decide +kernel
theorem opn_zero : opn (wrap64 ((2 : Int) ^ 0)) 0 = false := by decide +kernel

theorem closed_in {o need : Int} (h1 : 1 ≤ o) (h2 : o ≤ 20000) (hn : o < need) {v : Int} (hv : 0 ≤ v) : ∃ x, v ≤ x ∧ x < v + need ∧ x ≤ v + o ∧ gst 0 100000 (es1 o) x = 0 ∧ (x = v ∨ x / 100000 = v / 100000) := by
  have hm := Int.emod_lt_of_pos v (b := 100000) (by decide)
  have hm0 := Int.emod_nonneg v (b := 100000) (by decide)
  by_cases h : v % 100000 < o
  · refine ⟨v + (o - v % 100000), by omega, by omega, by omega, ?_, .inr (by omega)⟩
    rw [gst_es h1 h2 (by omega), if_neg (by omega)]
  · refine ⟨v, by omega, by omega, by omega, ?_, .inl rfl⟩
    rw [gst_es h1 h2 (by omega), if_neg (by simp; omega)]

theorem nS1_state (g cap : Nat) (o x : Int) : (nS1 g cap o).state x = gst 0 100000 (es1 o) x := by
  unfold Sch.state
  rw [if_neg (fun h => by cases h.1), show (nS1 g cap o).tail = none from rfl]
  rfl

theorem nS3_state (g2 cap2 : Nat) (t x : Int) : (nS3 g2 cap2 t).state x = gst 100000 100000 (es1 t) x := by
  unfold Sch.state
  rw [if_neg (fun h => by cases h.1), show (nS3 g2 cap2 t).tail = none from rfl]
  rfl

theorem nS2_state (g cap g2 cap2 : Nat) (o t x : Int) : (nS2 g cap g2 cap2 o t).state x = if 100000 ≤ x then gst 100000 100000 (es1 t) x else gst 0 100000 (es1 o) x := by
  unfold Sch.state
  by_cases h : 100000 ≤ x
  · rw [if_pos h, if_pos ⟨rfl, h⟩]; rfl
  · rw [if_neg h, if_neg (fun y => h y.2), show (nS2 g cap g2 cap2 o t).tail = none from rfl]
    rfl

theorem never1 {g cap : Nat} {o need : Int} (h1 : 1 ≤ o) (h2 : o ≤ 20000) (hn : o < need) : fitsOf (nS1 g cap o) 0 0 need = -1 := by
  refine fits_never (nS1_good h1 h2) (by decide) ⟨fun _ => by show (0 : Int) ≤ 0; decide, by show (2 : Nat) ≤ 64; decide, by show (0 : Nat) ≤ 64; decide⟩ (by omega) (fun v hv => ?_)
  obtain ⟨x, a, b, -, d, -⟩ := closed_in h1 h2 hn hv
  exact ⟨x, a, b, by rw [nS1_state, d]; exact opn_zero⟩

theorem open_t {t x : Int} (h3 : 1 ≤ t) (h4 : t ≤ 20000) (a : 100000 ≤ x) (b : x < 100000 + t) : gst 100000 100000 (es1 t) x = 1 := by
  rw [gst_es h3 h4 a, if_pos (by omega)]

theorem first2 {g cap g2 cap2 : Nat} {o t : Int} (h1 : 1 ≤ o) (hn : o < t) (h4 : t ≤ 20000) : fitsOf (nS2 g cap g2 cap2 o t) 0 5 t = 100000 := by
  refine fits_first (nS2_good h1 (by omega) (by omega) h4) (by decide) ⟨fun _ => by show (0 : Int) ≤ 5; decide, by show (2 : Nat) ≤ 64; decide, by show (2 : Nat) ≤ 64; decide⟩ (by omega) (by decide) (fun x a b => ?_) (fun v a b => ?_)
  · rw [nS2_state, if_pos a, open_t (by omega) h4 a b]; exact opn_one
  · obtain ⟨x, c1, c2, c3, c4, c5⟩ := closed_in h1 (by omega) hn (by omega : 0 ≤ v)
    have hx : ¬ 100000 ≤ x := by rcases c5 with rfl | h <;> omega
    exact ⟨x, c1, c2, by rw [nS2_state, if_neg hx, c4]; exact opn_zero⟩

theorem first3 {g2 cap2 : Nat} {t : Int} (h3 : 1 ≤ t) (h4 : t ≤ 20000) : fitsOf (nS3 g2 cap2 t) 0 100000 t = 100000 :=
  fits_first (nS3_good h3 h4) (by decide) ⟨fun _ => by show (100000 : Int) ≤ 100000; decide, by show (2 : Nat) ≤ 64; decide, by show (0 : Nat) ≤ 64; decide⟩ h3 (by decide) (fun x a b => by rw [nS3_state, open_t h3 h4 a b]; exact opn_one) (fun v a b => by omega)

/-! ## the port -/

def nE (S : Sch) (k h : Nat) (q : List Int) : Eg :=
  { S := S, rs := [⟨5, q, 0⟩, ⟨0, [], 0⟩, ⟨0, [], 0⟩, ⟨0, [], 0⟩, ⟨0, [], 0⟩, ⟨0, [], 0⟩, ⟨0, [], 0⟩, ⟨0, [], 0⟩], ps := [(zN k, h), ([], 0)], shaped := false, speed := 1000, up := true, busy := false, cls := 0, id := 0, frm := 0, till := 0, cnt := List.replicate 8 0 }

def n0 : Eg := Eg.new 1000 [5, 0, 0, 0, 0, 0, 0, 0] (List.replicate 2 ([], 0))

theorem n0_link : n0.linked true = nE Sch.none 0 0 [] := by kernel_rfl
theorem n0_pl : EgPl n0 0 := EgPl.of rfl rfl (by kernel_rfl) (by decide) (by decide)
theorem n0_val : n0.linkN true = 0 := by kernel_rfl

theorem nE_ok {S : Sch} {k h : Nat} {q : List Int} (hk : k ≤ 1522) (hh : h ≤ 2) (hq : q = [] ∨ (q = [0] ∧ 0 < h)) (hg : SchGood S) {now : Int} (hx : Ext S now) (h0 : 0 ≤ now) (h1 : now ≤ 1000000000000000) (c0 : 0 ≤ S.chg) (c1 : S.cnt ≤ 1000000000) : EgOk (nE S k h q) now where
  speed := .inr (.inr (.inl rfl))
  has := fun r hr x hxr => by
    have hr : r = ⟨5, q, 0⟩ ∨ r = ⟨0, [], 0⟩ := by simpa [nE] using hr
    rcases hr with rfl | rfl
    · rcases hq with rfl | ⟨rfl, hp⟩
      · simp at hxr
      · simp at hxr
        subst hxr
        have e : heldOf (nE S k h [0]).ps 0 = h := rfl
        refine ⟨by rw [e]; exact hp, ?_, ?_⟩
        all_goals
          unfold sizeP
          rw [e, if_neg (by omega)]
          show _ ≤ _
          simp [nE, zN]
          try omega
    · simp at hxr
  good := hg
  ext := hx
  n0 := h0
  n1 := h1
  chg0 := c0
  chg1 := c1
  cnts := fun c n hn => by
    have := List.mem_of_getElem? hn
    simp [nE] at this
    omega
  held := heldOf_le (fun x hx => by simp [nE] at hx; rcases hx with rfl | rfl <;> simp; omega)
  lost := fun r hr => by simp [nE] at hr; rcases hr with rfl | rfl <;> simp

theorem nE_head {S : Sch} {k h : Nat} (hh : 0 < h) (now cr : Int) (c : Nat) (hc : c < 8) : headOf (nE S k h [0]) now cr c = if c = 0 then ⟨k, fitsOf S 0 now (timeOf k 1000), cr⟩ else ⟨0, 0, 0⟩ := by
  have e : sizeP (nE S k h [0]).ps 0 = k := by
    unfold sizeP
    rw [show heldOf (nE S k h [0]).ps 0 = h from rfl, if_neg (by omega)]
    simp [nE, zN]
  rcases c with _ | _ | _ | _ | _ | _ | _ | _ | c
  · show (⟨sizeP (nE S k h [0]).ps 0, fitsOf S 0 now (timeOf (sizeP (nE S k h [0]).ps 0) 1000), cr⟩ : Hd) = _
    rw [e]; rfl
  all_goals first | rfl | omega

theorem nE_class {S : Sch} {k h : Nat} (hh : 0 < h) {now : Int} {hs : List Hd} (hH : HeadsIs (nE S k h [0]) now hs) : ∀ n, n ≤ 7 → classGo hs now (n + 1) = if (⟨k, fitsOf S 0 now (timeOf k 1000), 0⟩ : Hd).goes now = true then 0 else -1
  | 0, _ => by
    obtain ⟨cr, -, -, c2, e⟩ := hH.get (c := 0) (by omega)
    rw [classGo, e, nE_head hh now cr 0 (by omega), if_pos rfl, c2 rfl]
    rfl
  | n + 1, hn => by
    obtain ⟨cr, -, -, c2, e⟩ := hH.get (c := n + 1) (by omega)
    have hz : (⟨0, 0, 0⟩ : Hd).goes now = false := by simp [Hd.goes]
    rw [classGo, e, nE_head hh now cr (n + 1) (by omega), if_neg (show ¬ n + 1 = 0 by omega), hz, if_neg (show ¬ false = true by decide)]
    exact nE_class hh hH n (by omega)

theorem nE_wake {S : Sch} {k h : Nat} (hh : 0 < h) {now : Int} {hs : List Hd} (hH : HeadsIs (nE S k h [0]) now hs) : wakeOf now hs = wakeStep now (-1) ⟨k, fitsOf S 0 now (timeOf k 1000), 0⟩ := by
  have hg : ∀ c, c < 8 → hs[c]? = some (if c = 0 then ⟨k, fitsOf S 0 now (timeOf k 1000), 0⟩ else ⟨0, 0, 0⟩) := fun c hc => by
    have hl : c < hs.length := by have := hH.1; omega
    obtain ⟨cr, -, -, c2, e⟩ := hH.2 c hs[c] (List.getElem?_eq_getElem hl)
    rw [List.getElem?_eq_getElem hl, e, nE_head hh now cr c hc, c2 rfl]
  have hl : hs = [⟨k, fitsOf S 0 now (timeOf k 1000), 0⟩, ⟨0, 0, 0⟩, ⟨0, 0, 0⟩, ⟨0, 0, 0⟩, ⟨0, 0, 0⟩, ⟨0, 0, 0⟩, ⟨0, 0, 0⟩, ⟨0, 0, 0⟩] := by
    apply List.ext_getElem?
    intro c
    by_cases hc : c < 8
    · rw [hg c hc]
      rcases c with _ | _ | _ | _ | _ | _ | _ | _ | c
      all_goals first | rfl | omega
    · rw [List.getElem?_eq_none (by have := hH.1; omega), List.getElem?_eq_none (by simp; omega)]
  rw [hl]
  rfl

end Go.Proofs.Ytimgmobmagpmlaa
