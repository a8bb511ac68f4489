/- Two frames that are kept: 'keeps', with which each law of this seat begins. -/
import Derived.Test.YtmmeloklnkfjjaaCap3
import Derived.Test.YtmmeloklnkfjjaaCap5
import Derived.Test.YtmmeloklnkfjjaaCap6
import Derived.Test.YtmmeloklnkfjjaaRead2
import Derived.Test.YtmmeloklnkfjjaaMerge
import Derived.Test.YtmmeloklnkfjjaaBack
namespace Go.Proofs.Ytmmeloklnkfjjaa
open Go.RowKit

def kf1 (b : Nat) : Fr := ⟨1, 2, 5, 9, some ⟨b, 0, none⟩, 2, [97, 98]⟩
def kf2 : Fr := ⟨1, 0, 9, 11, none, 0, []⟩
def kl (b : Nat) : List Fr := [kf1 b, kf2]

theorem kl_ok (b : Nat) : ∀ f ∈ kl b, f.Ok := by
  intro f hf
  simp [kl] at hf
  rcases hf with rfl | rfl
  · simp [Fr.Ok, kf1]
  · simp [Fr.Ok, kf2]

theorem kl_fit (b : Nat) : ∀ f ∈ kl b, f.Fit := by
  intro f hf
  simp [kl] at hf
  rcases hf with rfl | rfl
  · simp [Fr.Fit, kf1]
  · simp [Fr.Fit, kf2]

theorem kl_check (b : Nat) : checkR (kl b) = 0 := checkR_good (by simp [kl]) (kl_ok b)

theorem kl_body (b : Nat) : (bodyB (kl b)).length = 48 := by
  simp [bodyB, kl, kf1, kf2, encF, magicB]

theorem kl_seal (b : Nat) : (sealB (bodyB (kl b))).length = 52 := by
  unfold sealB
  rw [List.length_append, kl_body]
  rfl

theorem kl_over (b : Nat) (i k : Nat) (f g : Fr) (h1 : i < k) (h2 : (kl b)[i]? = some f) (h3 : (kl b)[k]? = some g) : ¬ g.frm < f.till := by
  have hk : k < 2 := by have := (List.getElem?_eq_some_iff.1 h3).1; simpa [kl] using this
  have e1 : i = 0 := by omega
  have e2 : k = 1 := by omega
  subst e1 e2
  simp [kl] at h2 h3
  subst h2 h3
  simp [kf1, kf2]

theorem busy_kl (b : Nat) : busyS 1 6 10 (kl b) = 4 := by
  simp [busyS, kl, kf1, kf2, busy1, mxI, mnI]

theorem win_kl (b : Nat) : ((kl b).filter (inWin 5 9)).length = 1 := by
  simp [kl, kf1, kf2, inWin]

theorem bytes_kl (b : Nat) : (arrV .i64 8 fun c => ((bytesOf (kl b) c : Nat) : Int)) = [.int .i64 0, .int .i64 0, .int .i64 2, .int .i64 0, .int .i64 0, .int .i64 0, .int .i64 0, .int .i64 0] := by
  simp [arrV, bytesOf, kl, kf1, kf2, List.range, List.range.loop]

/-- The two frames, as they lie. -/
theorem kl_frs (w : World) : FrsR ((w.alloc (.cells #[.int .u8 97, .int .u8 98] 5 (2, 3))).alloc (.cells #[.int .i64 1, .int .i64 2, .int .i64 5, .int .i64 9, .slice (some ⟨w.heap.size, 0, none⟩) 2 2, .int .i64 1, .int .i64 0, .int .i64 9, .int .i64 11, .slice none 0 0] 27)) (some ⟨w.heap.size + 1, 0, none⟩) 2 (kl w.heap.size) := by
  have hn := heap_alloc_new (w.alloc (.cells #[.int .u8 97, .int .u8 98] 5 (2, 3))) (.cells #[.int .i64 1, .int .i64 2, .int .i64 5, .int .i64 9, .slice (some ⟨w.heap.size, 0, none⟩) 2 2, .int .i64 1, .int .i64 0, .int .i64 9, .int .i64 11, .slice none 0 0] 27)
  have hs : (w.alloc (.cells #[.int .u8 97, .int .u8 98] 5 (2, 3))).heap.size = w.heap.size + 1 := by simp
  rw [hs] at hn
  have hm : (w.alloc (.cells #[.int .u8 97, .int .u8 98] 5 (2, 3))).heap[w.heap.size]? = some (.cells #[.int .u8 97, .int .u8 98] 5 (2, 3)) := heap_alloc_new _ _
  have hm2 := (Below.heap_alloc (w.alloc (.cells #[.int .u8 97, .int .u8 98] 5 (2, 3))) (.cells #[.int .i64 1, .int .i64 2, .int .i64 5, .int .i64 9, .slice (some ⟨w.heap.size, 0, none⟩) 2 2, .int .i64 1, .int .i64 0, .int .i64 9, .int .i64 11, .slice none 0 0] 27) w.heap.size (by omega)).trans hm
  refine ⟨.inr ⟨w.heap.size + 1, 0, rfl, by simp [kl], fun j f hj i u hi => ?_⟩, fun f hf => ?_⟩
  · simp only [World.cell?, hn]
    match j, hj with
    | 0, hj =>
      simp [kl] at hj
      subst hj
      match i, hi with
      | 0, hi => simpa [Fr.cells, kf1] using hi
      | 1, hi => simpa [Fr.cells, kf1] using hi
      | 2, hi => simpa [Fr.cells, kf1] using hi
      | 3, hi => simpa [Fr.cells, kf1] using hi
      | 4, hi => simpa [Fr.cells, kf1] using hi
      | i + 5, hi => simp [Fr.cells] at hi
    | 1, hj =>
      simp [kl] at hj
      subst hj
      match i, hi with
      | 0, hi => simpa [Fr.cells, kf2] using hi
      | 1, hi => simpa [Fr.cells, kf2] using hi
      | 2, hi => simpa [Fr.cells, kf2] using hi
      | 3, hi => simpa [Fr.cells, kf2] using hi
      | 4, hi => simpa [Fr.cells, kf2] using hi
      | i + 5, hi => simp [Fr.cells] at hi
    | j + 2, hj => simp [kl] at hj
  · simp [kl] at hf
    rcases hf with rfl | rfl
    · refine .inr ⟨⟨w.heap.size, 0, none⟩, 2, rfl, by simp [bcells, kf1], fun i u hi => ?_⟩
      rw [Addr.add_lit, Nat.zero_add]
      simp only [World.cell?, hm2]
      match i, hi with
      | 0, hi => simpa [bcells, kf1] using hi
      | 1, hi => simpa [bcells, kf1] using hi
      | i + 2, hi => simp [bcells, kf1] at hi
    · exact SlR.empty _ _ _

/-- 'capture.Merge(a, b)'. -/
theorem merge2_ok {w : World} {A B : Option Addr} {c k : Nat} {a b : List Fr} (ha : FrsR w A c a) (hb : FrsR w B k b) (hl : a.length + b.length ≤ 1000000) :
    Calls Try.prog 15 #[.slice (some ⟨w.heap.size, 0, none⟩) 2 2] (w.alloc (.cells #[.slice A a.length c, .slice B b.length k] 22)) (MergeRes (w.alloc (.cells #[.slice A a.length c, .slice B b.length k] 22)) (a ++ b)) := by
  have hblk := Blk.new w [.slice A a.length c, .slice B b.length k] 22
  have h := merge_ok (w := w.alloc (.cells #[.slice A a.length c, .slice B b.length k] 22)) (g := w.heap.size) (ps := [⟨A, c, a⟩, ⟨B, k, b⟩]) (fun j p hp => by
    match j, hp with
    | 0, hp =>
      simp at hp
      subst hp
      exact ⟨hblk.cell 0, ha.same ((Keeps.refl _ _).alloc _)⟩
    | 1, hp =>
      simp at hp
      subst hp
      exact ⟨hblk.cell 1, hb.same ((Keeps.refl _ _).alloc _)⟩
    | j + 2, hp => simp at hp) (by simp) (by simp [catF]; omega)
  simpa [catF] using h

set_option maxRecDepth 100000 in
set_option maxHeartbeats 16000000 in
theorem keeps_ok {w : World} : Calls Try.prog 9 #[] w (TrueKept w) := by
  have kc := fun (w : World) (C : Array Value) (n c : Nat) => Lib.run_convert_bytes_const (P := Try.prog) w 25 5 C n c Try.underlying25 Try.underlying5
  go_enter Try.func9, Try.ntmps9
  go_upto_region 2 with fail
  have hfr := kl_frs w
  have HK := Lib.hid (((Keeps.refl Nothing w).alloc (.cells #[.int .u8 97, .int .u8 98] 5 (2, 3))).alloc (.cells #[.int .i64 1, .int .i64 2, .int .i64 5, .int .i64 9, .slice (some ⟨w.heap.size, 0, none⟩) 2 2, .int .i64 1, .int .i64 0, .int .i64 9, .int .i64 11, .slice none 0 0] 27))
  clear kc
  generalize ((w.alloc (.cells #[.int .u8 97, .int .u8 98] 5 (2, 3))).alloc (.cells #[.int .i64 1, .int .i64 2, .int .i64 5, .int .i64 9, .slice (some ⟨w.heap.size, 0, none⟩) 2 2, .int .i64 1, .int .i64 0, .int .i64 9, .int .i64 11, .slice none 0 0] 27)) = w1 at *
  have W := write_ok hfr (by simp [kl]) (kl_check _) (kl_fit _) (by rw [kl_body]; omega)
  have HRW := Lib.hid (read_write (l := kl w.heap.size) (by simp [kl]) (kl_ok _) (kl_fit _))
  have HFR := Lib.hid hfr
  have hseal := kl_seal w.heap.size
  unfold WriteRes at W
  rw [hseal] at W
  have hlen2 : (kl w.heap.size).length = 2 := rfl
  rw [hlen2] at W
  have HSeal := Lib.hid hseal
  clear hfr hseal
  go_upto_region 3 with (go_at_call 11; refine W.mono ?_; clear W; rintro e w2 ⟨g, cap, rfl, hg, ho, k2⟩)
  have R := read_ok (w := w2) (A := some ⟨g, 0, none⟩) (c := cap) (bs := sealB (bodyB (kl w.heap.size))) (by rw [HSeal.out]; exact ho.slR) (by rw [HSeal.out]; omega)
  rw [HSeal.out] at R
  have O := fun (v : World) (hv : Keeps Nothing w1 v) => overlap_ok (HFR.out.same hv) (by simp [kl])
  rw [hlen2] at O
  have HK2 := Lib.hid k2
  clear ho k2
  go_upto_region 4 with (go_at_call 13; refine R.mono ?_; clear R; rintro e w3 ⟨k3, (⟨n, hn1, hn2, -⟩ | ⟨lst, A, c, hn1, rfl, hfl, -, -⟩)⟩; rw [HRW.out] at hn1; cases hn1)
  rw [HRW.out] at hn1
  injection hn1 with hn1
  have hll : lst.length = 2 := by
    have := congrArg List.length hn1
    simpa [kl] using this.symm
  obtain ⟨port, cls, frm, till, B, cap0, bs, b, o, hj0, rfl, -, -, -, -, f4, hs4⟩ := hfl.get (j := 0) (by omega)
  have hbs : bs = [97, 98] := by
    have h0 := congrArg (fun l => l[0]?) hn1
    simp [kl, hj0, Fr.key, kf1] at h0
    exact h0.2.2.2.2.symm
  subst hbs
  rw [hll]
  have HK3 := Lib.hid (HK2.out.same k3)
  have HS4 := Lib.hid hs4
  have f4' : w3.cell? ⟨b, o + 4, none⟩ = some (.slice B 2 cap0) := by simpa using f4
  have HF4 := Lib.hid f4'
  clear hn1 hll hj0 f4 hs4 hfl k3 HRW HSeal f4'
  have hov : ∀ e v, OvRes w3 (kl w.heap.size) e v → e = .returned (.tuple #[.int .i64 0, .int .i64 0, .bool false]) ∧ Keeps Nothing w3 v := fun e v h => by
    obtain ⟨h1, h2⟩ := h
    refine ⟨?_, h2⟩
    rcases h1 with ⟨h, -⟩ | ⟨i, k, f, g', -, h1, h2, h3, -, h5⟩
    · exact h
    · exact absurd h5 (kl_over _ i k f g' h1 h2 h3)
  have O3 := (O w3 HK3.out).mono (fun e v h => hov e v h)
  clear O hov
  go_upto_region 5 with (go_at_call 18; refine O3.mono ?_; clear O3; rintro e w4 ⟨rfl, k4⟩)
  have HK4 := Lib.hid (HK3.out.same k4)
  have g4 : w4.cell? ⟨b, o + 4, none⟩ = some (.slice B 2 cap0) := (k4.cell (World.block_lt_of_cell? _ _ HF4.out) (fun h => h)).trans HF4.out
  have hcv : (convert 25 9 (.slice B 2 cap0)).run Try.prog w4 = .ok (.string ⟨([97, 98] : Bytes).toArray⟩) w4 := conv_str Try.underlying25 Try.underlying5 Try.underlying9 (HS4.out.same k4)
  have B0 := busy_ok (HFR.out.same HK4.out) (by simp [kl]) 1 6 10 (by omega) (by omega) (by omega) (by omega)
  rw [busy_kl, hlen2] at B0
  have Wi := fun (v : World) (hv : Keeps Nothing w1 v) => window_ok (HFR.out.same hv) (by simp [kl]) 5 9
  unfold WinRes at Wi
  rw [win_kl, hlen2] at Wi
  have By := fun (v : World) (hv : Keeps Nothing w1 v) => bytes_ok (HFR.out.same hv) (by simp [kl]) (fun f hf => by simp [kl] at hf; rcases hf with rfl | rfl <;> simp [kf1, kf2])
  unfold BytesRes at By
  rw [bytes_kl, hlen2] at By
  have Me := fun (v : World) (hv : Keeps Nothing w1 v) => merge2_ok (HFR.out.same hv) (HFR.out.same hv) (by simp [kl])
  rw [hlen2] at Me
  have Ck := fun (v : World) (hv : Keeps Nothing w1 v) => check_ok (HFR.out.same hv) (by simp [kl]) 0 (kl_check _).symm
  rw [hlen2] at Ck
  have heq : ∀ v : World, (binOp .eql 45 (.agg #[.int .i64 0, .int .i64 0, .int .i64 2, .int .i64 0, .int .i64 0, .int .i64 0, .int .i64 0, .int .i64 0]) (.agg #[.int .i64 0, .int .i64 0, .int .i64 2, .int .i64 0, .int .i64 0, .int .i64 0, .int .i64 0, .int .i64 0])).run Try.prog v = .ok (.bool true) v := fun _ => by kernel_rfl
  clear k4 HF4 HS4
  go_wp2_with (first
    | (go_at_call 17; refine B0.mono ?_; clear B0; rintro e w5 ⟨rfl, k5⟩; have K5 := Lib.hid (HK4.out.same k5); clear k5)
    | (go_at_call 16; refine (Wi _ K5.out).mono ?_; clear Wi; rintro e w6 ⟨A6, c6, rfl, k6⟩; have K6 := Lib.hid (K5.out.same k6); clear k6)
    | (go_at_call 19; refine (By _ K6.out).mono ?_; clear By; rintro e w7 ⟨rfl, k7⟩; have K7 := Lib.hid (K6.out.same k7); clear k7)
    | (go_at_call 15; refine (Me _ K7.out).mono ?_; clear Me; rintro e w8 ⟨m8, A8, c8, rfl, hl8, -, -, -, -, k8⟩; rw [List.length_append, hlen2] at hl8; have K8 := Lib.hid ((K7.out.alloc _).same k8); clear k8)
    | (go_at_call 12; refine (Ck _ K8.out).mono ?_; clear Ck; rintro e w9 ⟨rfl, k9⟩; have K9 := Lib.hid (K8.out.same k9); clear k9))
  go_ret
  exact ⟨rfl, HK.out.same K9.out⟩

end Go.Proofs.Ytmmeloklnkfjjaa
