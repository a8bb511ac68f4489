/- A row sorted, stably: slices.SortStableFunc at capture.order. -/
import Derived.Test.YtmmeloklnkfjjaaSym1
import Derived.Test.YtmmeloklnkfjjaaSym2
import Derived.Test.YtmmeloklnkfjjaaSym3
namespace Go.Proofs.Ytmmeloklnkfjjaa
open Go.RowKit

theorem sm_below {g n cap : Nat} (hn : n ≤ 1000000) : ∀ N, Below3 g n cap N := by
  intro N
  induction N using Nat.strongRecOn with
  | ind N ih =>
    intro w c a m b hN hr h1 h2 h3 hx hy
    by_cases e1 : m = a + 1
    · exact sm_one hr hn a m b e1 h2 h3 hy
    · by_cases e2 : b = m + 1
      · exact sm_last hr hn a m b e2 (by omega) h3 hx
      · exact sm_gen hr hn a m b (by omega) (by omega) h3 hx hy (ih (b - a) (by omega))

theorem sm_ok {w : World} {g n cap : Nat} {c : Con} (hr : RowC w g n c) (hn : n ≤ 1000000) (a m b : Nat) (h1 : a < m) (h2 : m < b) (h3 : b ≤ n) (hx : Srt a m c) (hy : Srt m b c) :
    Calls Try.prog 41 #[.slice (some ⟨g, 0, none⟩) n cap, .int .i64 (a : Nat), .int .i64 (m : Nat), .int .i64 (b : Nat), .func (.func 31) #[] #[]] w (SortRes w g n a b c) :=
  sm_below hn (b - a + 1) w c a m b (by omega) hr h1 h2 h3 hx hy

/-- Blocks of B frames each are sorted, t whole ones, and what is behind them. -/
structure St (n B t : Nat) (d : Con) : Prop where
  whole : ∀ q, q < t → Srt (q * B) (q * B + B) d
  rest : Srt (t * B) n d
  lo : t * B ≤ n
  hi : n < t * B + B

/-- So many blocks of 2 B frames are merged. -/
structure Half2 (n B t u : Nat) (d : Con) : Prop where
  done : ∀ q, q < u → Srt (q * (2 * B)) (q * (2 * B) + 2 * B) d
  whole : ∀ q, 2 * u ≤ q → q < t → Srt (q * B) (q * B + B) d
  rest : Srt (t * B) n d
  lo : t * B ≤ n
  hi : n < t * B + B
  at' : u * (2 * B) ≤ n

theorem St.half {n B t : Nat} {d : Con} (h : St n B t d) : Half2 n B t 0 d :=
  ⟨fun q hq => by omega, fun q _ hq => h.whole q hq, h.rest, h.lo, h.hi, by omega⟩

theorem two_mul_block (u B : Nat) : u * (2 * B) = (2 * u) * B ∧ (2 * u + 1) * B = u * (2 * B) + B ∧ (u + 1) * (2 * B) = u * (2 * B) + 2 * B := by
  have h1 : u * (2 * B) = (2 * u) * B := by rw [← Nat.mul_assoc, Nat.mul_comm u 2]
  refine ⟨h1, ?_, ?_⟩
  · rw [Nat.succ_mul, h1]
  · rw [Nat.succ_mul]

theorem mul_mono {q t B : Nat} (h : q < t) : q * B + B ≤ t * B := by
  have := Nat.mul_le_mul_right B (show q + 1 ≤ t from h)
  rw [Nat.succ_mul] at this
  exact this

/-- Both blocks that are merged next. -/
theorem Half2.pair {n B t u : Nat} {d : Con} (h : Half2 n B t u d) (hB : 0 < B) (hb : u * (2 * B) + 2 * B ≤ n) : Srt (u * (2 * B)) (u * (2 * B) + B) d ∧ Srt (u * (2 * B) + B) (u * (2 * B) + 2 * B) d := by
  obtain ⟨e1, e2, e3⟩ := two_mul_block u B
  have ht : 2 * u + 1 < t := by
    have h1 := h.hi
    have h2 : (2 * u + 2) * B ≤ n := by
      have : (2 * u + 2) * B = (2 * u + 1) * B + B := Nat.succ_mul _ _
      omega
    have h3 : (2 * u + 2) * B < (t + 1) * B := by rw [Nat.succ_mul t B]; omega
    have := Nat.lt_of_mul_lt_mul_right h3
    omega
  have w1 := h.whole (2 * u) (Nat.le_refl _) (by omega)
  have w2 := h.whole (2 * u + 1) (by omega) ht
  rw [← e1] at w1
  rw [e2] at w2
  exact ⟨w1, by rwa [show u * (2 * B) + B + B = u * (2 * B) + 2 * B by omega] at w2⟩

theorem Half2.next {n B t u : Nat} {d d2 : Con} (h : Half2 n B t u d) (hB : 0 < B) (hb : u * (2 * B) + 2 * B ≤ n) (hs : Sw (u * (2 * B)) (u * (2 * B) + 2 * B) d d2) (ho : Srt (u * (2 * B)) (u * (2 * B) + 2 * B) d2) : Half2 n B t (u + 1) d2 := by
  obtain ⟨e1, e2, e3⟩ := two_mul_block u B
  have ht : 2 * u + 1 < t := by
    have h1 := h.hi
    have h2 : (2 * u + 2) * B ≤ n := by
      have : (2 * u + 2) * B = (2 * u + 1) * B + B := Nat.succ_mul _ _
      omega
    have h3 : (2 * u + 2) * B < (t + 1) * B := by rw [Nat.succ_mul t B]; omega
    have := Nat.lt_of_mul_lt_mul_right h3
    omega
  refine ⟨fun q hq => ?_, fun q hq hqt => ?_, ?_, h.lo, h.hi, by rw [e3]; exact hb⟩
  · by_cases e : q = u
    · subst e; exact ho
    · refine (h.done q (by omega)).congr (fun k k1 k2 => hs.out (.inl ?_))
      have := mul_mono (B := 2 * B) (show q < u by omega)
      omega
  · refine (h.whole q (by omega) hqt).congr (fun k k1 k2 => hs.out (.inr ?_))
    have := mul_mono (B := B) (show 2 * u + 1 < q by omega)
    omega
  · refine h.rest.congr (fun k k1 k2 => hs.out (.inr ?_))
    have := mul_mono (B := B) ht
    omega

/-- What is left behind the last whole block of 2 B. -/
theorem Half2.last {n B t u : Nat} {d : Con} (h : Half2 n B t u d) (hB : 0 < B) (hb : n < u * (2 * B) + 2 * B) :
    (u * (2 * B) + B < n → Srt (u * (2 * B)) (u * (2 * B) + B) d ∧ Srt (u * (2 * B) + B) n d) ∧ (n ≤ u * (2 * B) + B → Srt (u * (2 * B)) n d) := by
  obtain ⟨e1, e2, e3⟩ := two_mul_block u B
  have hlo := h.lo
  have hhi := h.hi
  have hat := h.at'
  have t1 : t ≤ 2 * u + 1 := by
    have h3 : t * B < (2 * u + 2) * B := by
      have : (2 * u + 2) * B = (2 * u + 1) * B + B := Nat.succ_mul _ _
      omega
    have := Nat.lt_of_mul_lt_mul_right h3
    omega
  have t2 : 2 * u ≤ t := by
    have h3 : (2 * u) * B < (t + 1) * B := by rw [Nat.succ_mul t B]; omega
    have := Nat.lt_of_mul_lt_mul_right h3
    omega
  constructor
  · intro hm
    have t3 : t = 2 * u + 1 := by
      have h3 : (2 * u + 1) * B < (t + 1) * B := by rw [Nat.succ_mul t B]; omega
      have := Nat.lt_of_mul_lt_mul_right h3
      omega
    have w1 := h.whole (2 * u) (Nat.le_refl _) (by omega)
    have w2 := h.rest
    rw [t3, e2] at w2
    rw [← e1] at w1
    exact ⟨w1, w2⟩
  · intro hm
    by_cases t3 : t = 2 * u
    · have w2 := h.rest
      rw [t3, ← e1] at w2
      exact w2
    · have t4 : t = 2 * u + 1 := by omega
      have w1 := h.whole (2 * u) (Nat.le_refl _) (by omega)
      rw [← e1] at w1
      rw [t4, e2] at hlo
      have : u * (2 * B) + B = n := by omega
      rwa [this] at w1

theorem Half2.st {n B t u : Nat} {d d2 : Con} (h : Half2 n B t u d) (hb : n < u * (2 * B) + 2 * B) (hs : Sw (u * (2 * B)) n d d2) (ho : Srt (u * (2 * B)) n d2) : St n (2 * B) u d2 :=
  ⟨fun q hq => (h.done q hq).congr (fun k k1 k2 => hs.out (.inl (by have := mul_mono (B := 2 * B) hq; omega))), ho, h.at', hb⟩

theorem St.all {n B t : Nat} {d : Con} (h : St n B t d) (hB : n ≤ B) : Srt 0 n d := by
  by_cases e : t = 0
  · have := h.rest
    rw [e, Nat.zero_mul] at this
    exact this
  · have h1 := mul_mono (B := B) (show 0 < t by omega)
    have h2 := h.lo
    have h3 := h.whole 0 (by omega)
    rw [Nat.zero_mul, Nat.zero_add] at h3 h1
    have : B = n := by omega
    rwa [this] at h3

/-- The first blocks: t whole ones are sorted. -/
def Ins1 (w : World) (g n : Nat) (c : Con) (k : Nat) (a b : Value) (wr : World) : Prop :=
  ∃ (t x y : Nat) (d : Con), x = t * 20 ∧ y = x + 20 ∧ x ≤ n ∧ y + k = 2 * n + 40 ∧ a = .int .i64 (x : Nat) ∧ b = .int .i64 (y : Nat) ∧ (∀ q, q < t → Srt (q * 20) (q * 20 + 20) d) ∧ RowC wr g n d ∧ Sw 0 n c d ∧ (Srt 0 n c → d = c) ∧ Keeps (fun k => k = g) w wr

def Mer1 (w : World) (g n : Nat) (c : Con) (k : Nat) (B : Value) (wr : World) : Prop :=
  ∃ (x t : Nat) (d : Con), x + k = 2 * n + 40 ∧ 20 ≤ x ∧ B = .int .i64 (x : Nat) ∧ St n x t d ∧ RowC wr g n d ∧ Sw 0 n c d ∧ (Srt 0 n c → d = c) ∧ Keeps (fun k => k = g) w wr

def Mer2 (w : World) (g n x t : Nat) (c : Con) (k : Nat) (a b : Value) (wr : World) : Prop :=
  ∃ (u p q : Nat) (d : Con), p = u * (2 * x) ∧ q = p + 2 * x ∧ p + k = n ∧ a = .int .i64 (p : Nat) ∧ b = .int .i64 (q : Nat) ∧ Half2 n x t u d ∧ RowC wr g n d ∧ Sw 0 n c d ∧ (Srt 0 n c → d = c) ∧ Keeps (fun k => k = g) w wr

/-- A part's sorting leaves a sorted row as it is. -/
theorem same_of {n a b : Nat} {c d e : Con} (h1 : Srt 0 n c → d = c) (h2 : Srt a b d → e = d) (hb : b ≤ n) : Srt 0 n c → e = c := fun hs => by
  have e1 := h1 hs
  subst e1
  exact h2 (fun i j q1 q2 q3 => hs i j (by omega) q2 (by omega))

set_option maxRecDepth 100000 in
set_option maxHeartbeats 16000000 in
theorem stable_ok {w : World} {g n cap : Nat} {c : Con} (hr : RowC w g n c) (hn : n ≤ 1000000) :
    Calls Try.prog 35 #[.slice (some ⟨g, 0, none⟩) n cap, .int .i64 (n : Nat), .func (.func 31) #[] #[]] w (SortRes w g n 0 n c) := by
  have HR := Lib.hid hr
  clear hr
  go_enter Try.func35, Try.ntmps35
  go_wp2_with fail
  go_loopg [7, 8] (2 * n + 20) (fun k a b wr => Ins1 w g n c k a b wr)
  case atStart => exact ⟨0, 0, 20, c, by omega, by omega, by omega, by omega, rfl, rfl, fun q hq => by omega, HR.out, .refl _, fun _ => rfl, Keeps.refl _ _⟩
  case round =>
    clear HR
    obtain ⟨t, x, y, d, hx, hy, hxn, hyk, rfl, rfl, hd, hr, hsw, hid, hk⟩ := hrel
    have HRr := Lib.hid hr
    have HD := Lib.hid hd
    have HSw := Lib.hid hsw
    have HId := Lib.hid hid
    have HK := Lib.hid hk
    have HX := Lib.hid hx
    have hyi : (y : Int) = (x : Int) + 20 := by omega
    have HY := Lib.hid hy
    have HYK := Lib.hid hyk
    by_cases hlt : y ≤ n
    · have C := ins_ok (cap := cap) hr hn x y (by omega) hlt
      clear hr hd hsw hid hk hx hy hyk hyi
      go_wp2_with (go_at_call 40; refine C.mono ?_; clear C; rintro e w2 ⟨d2, rfl, hr2, hs2, ho2, hi2, hk2⟩; have HR2 := Lib.hid hr2; have HS2 := Lib.hid hs2; have HO2 := Lib.hid ho2; have HI2 := Lib.hid hi2; have HK2 := Lib.hid (HK.out.trans hk2 (fun _ h _ => h)); clear hr2 hs2 ho2 hi2 hk2)
      go_roundg (gk - 20)
      case measure => have := HYK.out; omega
      case rel =>
        have hx := HX.out
        have hy := HY.out
        refine ⟨t + 1, y, y + 20, d2, by omega, rfl, hlt, by have := HYK.out; omega, rfl, by go_num, fun q hq => ?_, HR2.out, HSw.out.trans (HS2.out.mono (by omega) hlt), same_of HId.out HI2.out hlt, HK2.out⟩
        by_cases e : q = t
        · subst e
          rw [← hx, ← hy]
          exact HO2.out
        · refine (HD.out q (by omega)).congr (fun k k1 k2 => HS2.out.out (.inl (by omega)))
    · have C := ins_ok (cap := cap) hr hn x n hxn (Nat.le_refl _)
      clear hr hd hsw hid hk hx hy hyk hyi
      go_wp2_with (go_at_call 40; refine C.mono ?_; clear C; rintro e w2 ⟨d2, rfl, hr2, hs2, ho2, hi2, hk2⟩; have HR2 := Lib.hid hr2; have HS2 := Lib.hid hs2; have HO2 := Lib.hid ho2; have HI2 := Lib.hid hi2; have HK2 := Lib.hid (HK.out.trans hk2 (fun _ h _ => h)); clear hr2 hs2 ho2 hi2 hk2)
      have hst : St n 20 t d2 := by
        have hx := HX.out
        have hy := HY.out
        refine ⟨fun q hq => (HD.out q hq).congr (fun k k1 k2 => HS2.out.out (.inl (by omega))), by rw [← hx]; exact HO2.out, by omega, by omega⟩
      have HSt := Lib.hid hst
      have HSw2 := Lib.hid (HSw.out.trans (HS2.out.mono (by omega) (Nat.le_refl _)))
      have HId2 := Lib.hid (same_of HId.out HI2.out (Nat.le_refl _))
      clear hst HSw HId HS2 HI2 HO2 HRr HK
      obtain ⟨wo, rfl⟩ : ∃ wo, wo = wr := ⟨_, rfl⟩
      obtain ⟨gO, rfl⟩ : ∃ g, g = gk := ⟨_, rfl⟩
      go_loopg [6] (2 * n + 20) (fun k B wr => Mer1 w g n c k B wr)
      case atStart => exact ⟨20, t, d2, by omega, by omega, rfl, HSt.out, HR2.out, HSw2.out, HId2.out, HK2.out⟩
      case round =>
        clear HSt HR2 HSw2 HId2 HK2
        obtain ⟨B, t, d, hBk, hB20, rfl, hst, hr, hsw, hid, hk⟩ := hrel
        have HRr := Lib.hid hr
        have HSt := Lib.hid hst
        have HSw := Lib.hid hsw
        have HId := Lib.hid hid
        have HK := Lib.hid hk
        have HBK := Lib.hid hBk
        clear hr hst hsw hid hk hBk
        by_cases hltB : B < n
        · obtain ⟨wo2, rfl⟩ : ∃ wo, wo = wr := ⟨_, rfl⟩
          obtain ⟨gP, rfl⟩ : ∃ g, g = gk := ⟨_, rfl⟩
          go_wp2_with fail
          go_loopg [7, 8] n (fun k a b wr => Mer2 w g n B t c k a b wr)
          case atStart => exact ⟨0, 0, 2 * B, d, by omega, by omega, by omega, rfl, by go_num, HSt.out.half, HRr.out, HSw.out, HId.out, HK.out⟩
          case round =>
            clear HRr HSt HSw HId HK
            obtain ⟨u, p, q, d, hp, hq, hpk, rfl, rfl, hhalf, hr, hsw, hid, hk⟩ := hrel
            have HRr := Lib.hid hr
            have HH := Lib.hid hhalf
            have HSw := Lib.hid hsw
            have HId := Lib.hid hid
            have HK := Lib.hid hk
            have HP := Lib.hid hp
            have HQ := Lib.hid hq
            have HPK := Lib.hid hpk
            obtain ⟨m, hm⟩ : ∃ m, m = p + B := ⟨_, rfl⟩
            have hmi : (p : Int) + (B : Int) = (m : Int) := by omega
            have HM := Lib.hid hm
            have hpm : p < m := by omega
            have hmq : m < q := by omega
            have hqi : (q : Int) ≤ 4000000 := by omega
            have hBi : (B : Int) ≤ 1000000 := by omega
            clear hr hhalf hsw hid hk
            by_cases hlt2 : q ≤ n
            · have hpr := HH.out.pair (by omega) (by rw [← hp, ← hq]; exact hlt2)
              rw [← hp, ← hm, ← hq] at hpr
              have C := sm_ok (cap := cap) HRr.out hn p m q hpm hmq hlt2 hpr.1 hpr.2
              clear hpr hp hq hpk hm
              go_wp2_with (go_at_call 41; refine C.mono ?_; clear C; rintro e w4 ⟨d3, rfl, hr2, hs2, ho2, hi2, hk2⟩; have HR4 := Lib.hid hr2; have HS4 := Lib.hid hs2; have HO4 := Lib.hid ho2; have HI4 := Lib.hid hi2; have HK4 := Lib.hid (HK.out.trans hk2 (fun _ h _ => h)); clear hr2 hs2 ho2 hi2 hk2)
              go_roundg (gk - 2 * B)
              case measure => have := HPK.out; have := HQ.out; omega
              case rel =>
                have hp := HP.out
                have hq := HQ.out
                refine ⟨u + 1, q, q + 2 * B, d3, by rw [(two_mul_block u B).2.2, ← hp, ← hq], rfl, by have := HPK.out; omega, rfl, by go_num, HH.out.next (by omega) (by rw [← hp, ← hq]; exact hlt2) (by rw [← hp, ← hq]; exact HS4.out) (by rw [← hp, ← hq]; exact HO4.out), HR4.out, HSw.out.trans (HS4.out.mono (by omega) hlt2), same_of HId.out HI4.out hlt2, HK4.out⟩
            · have hla := HH.out.last (by omega) (by rw [← hp, ← hq]; omega)
              rw [← hp, ← hm] at hla
              have HLa := Lib.hid hla
              clear hla hp hq hpk hm
              by_cases hmn : m < n
              · have C := sm_ok (cap := cap) HRr.out hn p m n hpm hmn (Nat.le_refl _) (HLa.out.1 hmn).1 (HLa.out.1 hmn).2
                go_wp2_with (go_at_call 41; refine C.mono ?_; clear C; rintro e w4 ⟨d3, rfl, hr2, hs2, ho2, hi2, hk2⟩; have HR4 := Lib.hid hr2; have HS4 := Lib.hid hs2; have HO4 := Lib.hid ho2; have HI4 := Lib.hid hi2; have HK4 := Lib.hid (HK.out.trans hk2 (fun _ h _ => h)); clear hr2 hs2 ho2 hi2 hk2)
                go_roundg (gP - B)
                case measure => have := HBK.out; omega
                case rel =>
                  have hp := HP.out
                  have hq := HQ.out
                  refine ⟨2 * B, u, d3, by have := HBK.out; omega, by omega, by go_num, HH.out.st (by rw [← hp, ← hq]; omega) (by rw [← hp]; exact HS4.out) (by rw [← hp]; exact HO4.out), HR4.out, HSw.out.trans (HS4.out.mono (by omega) (Nat.le_refl _)), same_of HId.out HI4.out (Nat.le_refl _), HK4.out⟩
              · go_wp2_with fail
                go_roundg (gP - B)
                case measure => have := HBK.out; omega
                case rel =>
                  have hp := HP.out
                  have hq := HQ.out
                  exact ⟨2 * B, u, d, by have := HBK.out; omega, by omega, by go_num, HH.out.st (by rw [← hp, ← hq]; omega) (.refl _) (by rw [← hp]; exact HLa.out.2 (by omega)), HRr.out, HSw.out, HId.out, HK.out⟩
        · have hall := HSt.out.all (by omega)
          have HAll := Lib.hid hall
          clear hall
          go_wp2_with fail
          go_end0
          exact ⟨d, rfl, HRr.out, HSw.out, HAll.out, HId.out, HK.out⟩

set_option maxRecDepth 100000 in
/-- 'slices.SortStableFunc(out, order)'. -/
theorem sort_ok {w : World} {g n cap : Nat} {c : Con} (hr : RowC w g n c) (hn : n ≤ 1000000) :
    Calls Try.prog 30 #[.slice (some ⟨g, 0, none⟩) n cap, .func (.func 31) #[] #[]] w (SortRes w g n 0 n c) := by
  have C := stable_ok (cap := cap) hr hn
  clear hr
  go_enter Try.func30, Try.ntmps30
  go_wp2_with (go_at_call 35; refine C.mono ?_; clear C; rintro e w2 ⟨d2, rfl, hr2, hs2, ho2, hi2, hk2⟩; have HR2 := Lib.hid hr2; have HS2 := Lib.hid hs2; have HO2 := Lib.hid ho2; have HI2 := Lib.hid hi2; have HK2 := Lib.hid hk2; clear hr2 hs2 ho2 hi2 hk2)
  go_end0
  exact ⟨d2, rfl, HR2.out, HS2.out, HO2.out, HI2.out, HK2.out⟩

end Go.Proofs.Ytmmeloklnkfjjaa
