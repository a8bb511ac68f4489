/- Frames as bytes, with their sum: Write. -/
import Derived.Test.YtmmeloklnkfjjaaJoin
import Derived.Test.YtmmeloklnkfjjaaCap4
namespace Go.Proofs.Ytmmeloklnkfjjaa
open Go.RowKit

def magicB : Bytes := [66, 71, 67, 49]
def encF (f : Fr) : Bytes := beB 8 f.frm.toNat ++ beB 8 f.till.toNat ++ beB 1 f.port.toNat ++ beB 1 f.cls.toNat ++ beB 2 f.bs.length ++ f.bs
def bodyB (l : List Fr) : Bytes := magicB ++ beB 2 l.length ++ (l.map encF).flatten

def WriteRes (w : World) (l : List Fr) (e : Ending) (w' : World) : Prop :=
  ∃ g cap, e = .returned (.tuple #[.slice (some ⟨g, 0, none⟩) (sealB (bodyB l)).length cap, .int .i64 0]) ∧ w.heap.size ≤ g ∧ OwnF w' (fun k => w.heap.size ≤ k) 5 (.slice (some ⟨g, 0, none⟩) (sealB (bodyB l)).length cap) (bcells (sealB (bodyB l))) ∧ Keeps Nothing w w'

def Fr.Fit (f : Fr) : Prop := f.frm ≤ 9223372036854775807 ∧ f.till ≤ 9223372036854775807

/-- Frames that may not be kept. -/
theorem write_bad {w : World} {A : Option Addr} {c : Nat} {l : List Fr} (hr : FrsR w A c l) (hl : l.length ≤ 9223372036854775807) (r : Int) (hv : r = checkR l) (h0 : r ≠ 0) :
    Calls Try.prog 11 #[.slice A l.length c] w (fun e w' => e = .returned (.tuple #[.slice none 0 0, .int .i64 r]) ∧ Keeps Nothing w w') := by
  have C := check_ok hr hl r hv
  have hb : (r != 0) = true := by simpa using h0
  clear h0 hv
  go_enter Try.func11, Try.ntmps11
  go_wp2_with (go_at_call 12; refine C.mono ?_; clear C; rintro e w1 ⟨rfl, k1⟩)
  go_ret2
  exact ⟨rfl, k1⟩

theorem Blk.slR {w : World} {g : Nat} {cs : List Value} {T : TypeId} (h : Blk w g cs T) (c : Nat) (hc : cs.length ≤ c) : SlR w (.slice (some ⟨g, 0, none⟩) cs.length c) cs :=
  .inr ⟨⟨g, 0, none⟩, c, rfl, hc, fun j u hj => by rw [Addr.add_lit, Nat.zero_add, h.cell, hj]⟩

/-- 'octet.Join([]byte(magic), many)'. -/
theorem join_head {w : World} {g n : Nat} (hb : Blk w g (bcells (beB 2 n)) 5) :
    Calls Try.prog 21 #[.slice (some ⟨w.heap.size + 1, 0, none⟩) 2 2] ((w.alloc (.cells #[.int .u8 66, .int .u8 71, .int .u8 67, .int .u8 49] 5 (4, 5))).alloc (.cells #[.slice (some ⟨w.heap.size, 0, none⟩) 4 4, .slice (some ⟨g, 0, none⟩) 2 2] 25))
      (JoinRes ((w.alloc (.cells #[.int .u8 66, .int .u8 71, .int .u8 67, .int .u8 49] 5 (4, 5))).alloc (.cells #[.slice (some ⟨w.heap.size, 0, none⟩) 4 4, .slice (some ⟨g, 0, none⟩) 2 2] 25)) (magicB ++ beB 2 n)) := by
  have h := join_ok (w := (w.alloc (.cells #[.int .u8 66, .int .u8 71, .int .u8 67, .int .u8 49] 5 (4, 5))).alloc (.cells #[.slice (some ⟨w.heap.size, 0, none⟩) 4 4, .slice (some ⟨g, 0, none⟩) 2 2] 25)) (g := w.heap.size + 1) (ps := [⟨some ⟨w.heap.size, 0, none⟩, 4, magicB⟩, ⟨some ⟨g, 0, none⟩, 2, beB 2 n⟩]) ?_ (by simp) (by simp [joinB, magicB])
  · simpa [joinB] using h
  · have hn := heap_alloc_new (w.alloc (.cells #[.int .u8 66, .int .u8 71, .int .u8 67, .int .u8 49] 5 (4, 5))) (.cells #[.slice (some ⟨w.heap.size, 0, none⟩) 4 4, .slice (some ⟨g, 0, none⟩) 2 2] 25)
    have hs : (w.alloc (.cells #[.int .u8 66, .int .u8 71, .int .u8 67, .int .u8 49] 5 (4, 5))).heap.size = w.heap.size + 1 := by simp
    rw [hs] at hn
    have hm : (w.alloc (.cells #[.int .u8 66, .int .u8 71, .int .u8 67, .int .u8 49] 5 (4, 5))).heap[w.heap.size]? = some (.cells #[.int .u8 66, .int .u8 71, .int .u8 67, .int .u8 49] 5 (4, 5)) := heap_alloc_new _ _
    have hm2 := (Below.heap_alloc (w.alloc (.cells #[.int .u8 66, .int .u8 71, .int .u8 67, .int .u8 49] 5 (4, 5))) (.cells #[.slice (some ⟨w.heap.size, 0, none⟩) 4 4, .slice (some ⟨g, 0, none⟩) 2 2] 25) w.heap.size (by omega)).trans hm
    intro j p hp
    match j, hp with
    | 0, hp =>
      simp at hp
      subst hp
      refine ⟨by simp only [World.cell?, hn]; simp [magicB], .inr ⟨⟨w.heap.size, 0, none⟩, 4, rfl, by simp [magicB], fun i u hi => ?_⟩⟩
      rw [Addr.add_lit, Nat.zero_add]
      simp only [World.cell?, hm2]
      match i, hi with
      | 0, hi => simpa [bcells, magicB] using hi
      | 1, hi => simpa [bcells, magicB] using hi
      | 2, hi => simpa [bcells, magicB] using hi
      | 3, hi => simpa [bcells, magicB] using hi
      | i + 4, hi => simp [bcells, magicB] at hi
    | 1, hp =>
      simp at hp
      subst hp
      refine ⟨by simp only [World.cell?, hn]; simp, ?_⟩
      have := ((hb.alloc (.cells #[.int .u8 66, .int .u8 71, .int .u8 67, .int .u8 49] 5 (4, 5))).alloc (.cells #[.slice (some ⟨w.heap.size, 0, none⟩) 4 4, .slice (some ⟨g, 0, none⟩) 2 2] 25)).slR 2 (by simp)
      rwa [bcells_length] at this
    | j + 2, hp => simp at hp

def wpre (l : List Fr) (j : Nat) : Bytes := magicB ++ beB 2 l.length ++ ((l.take j).map encF).flatten

def WInv (w : World) (l : List Fr) (k : Nat) (v i : Value) (wr : World) : Prop :=
  ∃ j : Nat, j + k = l.length ∧ i = .int .i64 (j : Nat) ∧ OwnF wr (fun k => w.heap.size ≤ k) 5 v (bcells (wpre l j)) ∧ Keeps Nothing w wr

theorem checkR_ok {l : List Fr} (h : checkR l = 0) : ∀ f ∈ l, f.Ok := by
  unfold checkR at h
  split at h
  · cases h
  · split at h
    · assumption
    · cases h

def prs (t0 t1 p q n : Nat) : List (Nat × Nat) := [(t0, 8), (t1, 8), (p, 1), (q, 1), (n, 2)]
def pcs (t0 t1 p q n : Nat) : List Bytes := (prs t0 t1 p q n).map fun x => beB x.2 x.1

theorem flat_take {α : Type} (l : List (List α)) (j : Nat) : (l.take j).flatten.length ≤ l.flatten.length := by
  have : l.flatten = (l.take j).flatten ++ (l.drop j).flatten := by rw [← List.flatten_append, List.take_append_drop]
  rw [this, List.length_append]
  omega

theorem pcs_len (t0 t1 p q n m : Nat) : ((pcs t0 t1 p q n).take m).flatten.length ≤ 20 := by
  have h := flat_take (pcs t0 t1 p q n) m
  have e : (pcs t0 t1 p q n).flatten.length = 20 := by simp [pcs, prs]
  omega

theorem wpre_le (l : List Fr) (j : Nat) : (wpre l j).length ≤ (bodyB l).length := by
  have h := flat_take (l.map encF) j
  unfold wpre bodyB
  generalize magicB ++ beB 2 l.length = pre
  rw [List.length_append, List.length_append, List.map_take]
  omega

def PInv (w : World) (fb : Nat) (cs : List Value) (pre : Bytes) (ps : List Bytes) (k : Nat) (v i : Value) (wr : World) : Prop :=
  ∃ m : Nat, m + k = 5 ∧ i = .int .i64 (m : Nat) ∧ OwnF wr (fun k => w.heap.size ≤ k ∧ k ≠ fb) 5 v (bcells (pre ++ (ps.take m).flatten)) ∧ Blk wr fb cs 27 ∧ Keeps Nothing w wr

theorem pair_at (t0 t1 p q n : Nat) (h0 : t0 ≤ 9223372036854775807) (h1 : t1 ≤ 9223372036854775807) (h2 : p ≤ 255) (h3 : q ≤ 7) (h4 : n ≤ 1522) (m : Nat) (hm : m < 5) :
    ∃ x s, (pcs t0 t1 p q n)[m]? = some (beB s x) ∧ x < 256 ^ s ∧ x < 18446744073709551616 ∧ 1 ≤ s ∧ s ≤ 8 ∧ ∀ w, (Instr.index 51 (.agg #[.int .u64 t0, .int .u64 8, .int .u64 t1, .int .u64 8, .int .u64 p, .int .u64 1, .int .u64 q, .int .u64 1, .int .u64 n, .int .u64 2]) (.int .i64 (m : Nat))).run Try.prog w = .ok (.agg #[.int .u64 (x : Nat), .int .u64 (s : Nat)]) w := by
  match m, hm with
  | 0, _ => exact ⟨t0, 8, rfl, by omega, by omega, by omega, by omega, fun w => by kernel_rfl⟩
  | 1, _ => exact ⟨t1, 8, rfl, by omega, by omega, by omega, by omega, fun w => by kernel_rfl⟩
  | 2, _ => exact ⟨p, 1, rfl, by omega, by omega, by omega, by omega, fun w => by kernel_rfl⟩
  | 3, _ => exact ⟨q, 1, rfl, by omega, by omega, by omega, by omega, fun w => by kernel_rfl⟩
  | 4, _ => exact ⟨n, 2, rfl, by omega, by omega, by omega, by omega, fun w => by kernel_rfl⟩

set_option maxRecDepth 100000 in
set_option maxHeartbeats 8000000 in
theorem write_ok {w : World} {A : Option Addr} {c : Nat} {l : List Fr} (hr : FrsR w A c l) (hl : l.length ≤ 65535) (hv : checkR l = 0) (hfit : ∀ f ∈ l, f.Fit) (htot : (bodyB l).length ≤ 100000000) :
    Calls Try.prog 11 #[.slice A l.length c] w (WriteRes w l) := by
  obtain ⟨i0, hi0, hz0, hz1, hz2⟩ := info_parts info5
  have C := check_ok hr (by omega) 0 hv.symm
  have P := fun (v : World) => put_ok (w := v) l.length 2 (by omega) (by omega) (by omega)
  have HR := Lib.hid hr
  have HV := Lib.hid hv
  have HF := Lib.hid hfit
  have HT := Lib.hid htot
  clear hr hv hfit htot
  have kc := fun (w : World) (C : Array Value) (n c : Nat) => Lib.run_convert_bytes_const (P := Try.prog) w 25 5 C n c Try.underlying25 Try.underlying5
  go_enter Try.func11, Try.ntmps11
  go_upto_region 5 with (first | (go_at_call 12; refine C.mono ?_; clear C; rintro e w1 ⟨rfl, k1⟩) | (go_at_call 20; refine (P _).mono ?_; clear P; rintro e w2 ⟨g2, rfl, hg2, hb2, k2⟩))
  have J := Lib.hid (join_head hb2)
  have K2 := Lib.hid (k1.same k2)
  clear hb2 k1 k2
  go_upto_region 6 with (go_at_call 21; refine J.out.mono ?_; clear J; rintro e w3 ⟨v0, rfl, ho, k3⟩)
  have HO := Lib.hid (ho.mono (G := fun k => w.heap.size ≤ k) (fun k hk => by have := K2.out.size; simp at hk; omega))
  have K3 := Lib.hid (K2.out.same (((Keeps.refl Nothing w2).alloc _).alloc _ |>.same k3))
  clear ho k3 K2
  go_wp2_with fail
  go_loopg [7, 33] l.length (fun k v i wr => WInv w l k v i wr)
  case atStart => exact ⟨0, by omega, rfl, by simpa [wpre] using HO.out, K3.out⟩
  case round =>
    clear HO K3
    obtain ⟨j, hj, rfl, ho, hk⟩ := hrel
    have HO := Lib.hid ho
    have HK := Lib.hid hk
    by_cases hlt : j < l.length
    · obtain ⟨port, cls, frm, till, B, cap, bs, b, o, hf, rfl, f0, f1, f2, f3, f4, hs⟩ := (HR.out.same hk).get hlt
      have hok := checkR_ok HV.out _ (List.mem_of_getElem? hf)
      obtain ⟨hf1, hf2⟩ := HF.out _ (List.mem_of_getElem? hf)
      unfold Fr.Ok at hok
      simp only at hok hf1 hf2
      obtain ⟨t0, rfl⟩ : ∃ n : Nat, frm = (n : Int) := ⟨frm.toNat, by omega⟩
      obtain ⟨t1, rfl⟩ : ∃ n : Nat, till = (n : Int) := ⟨till.toNat, by omega⟩
      obtain ⟨p, rfl⟩ : ∃ n : Nat, port = (n : Int) := ⟨port.toNat, by omega⟩
      obtain ⟨q, rfl⟩ : ∃ n : Nat, cls = (n : Int) := ⟨cls.toNat, by omega⟩
      have b0 : t0 ≤ 9223372036854775807 := by omega
      have b1 : t1 ≤ 9223372036854775807 := by omega
      have b2 : p ≤ 255 := by omega
      have b3 : q ≤ 7 := by omega
      have b4 : bs.length ≤ 1522 := by omega
      have HFj := Lib.hid hf
      have HS := Lib.hid hs
      clear ho hk hf hs hok hf1 hf2
      obtain ⟨wo, rfl⟩ : ∃ wo, wo = wr := ⟨_, rfl⟩
      obtain ⟨gO, rfl⟩ : ∃ g, g = gk := ⟨_, rfl⟩
      have hbl := HO.out.1
      go_wp2_with fail
      go_loopg [7, 59] 5 (fun k v i wr => PInv w wo.heap.size [.int .i64 p, .int .i64 q, .int .i64 t0, .int .i64 t1, .slice B bs.length cap] (wpre l j) (pcs t0 t1 p q bs.length) k v i wr)
      case atStart =>
        refine ⟨0, by omega, rfl, ?_, Blk.new wo _ 27, HK.out.alloc _⟩
        have h := HO.out.keeps ((Keeps.refl Nothing wo).alloc (.cells #[.int .i64 p, .int .i64 q, .int .i64 t0, .int .i64 t1, .slice B bs.length cap] 27)) (fun _ _ h => h)
        rw [List.take_zero, List.flatten_nil, List.append_nil]
        refine ⟨h.1, fun g hg => ⟨h.2 g hg, ?_⟩⟩
        have := HO.out.toS.lt hg
        omega
      case round =>
        obtain ⟨m, hm, rfl, ho, hb, hk⟩ := hrel
        have HOi := Lib.hid ho
        have HBi := Lib.hid hb
        have HKi := Lib.hid hk
        clear ho hb hk
        by_cases hlt2 : m < 5
        · obtain ⟨x, s, hps, hxs, hx64, hs1, hs8, hidx⟩ := pair_at t0 t1 p q bs.length b0 b1 b2 b3 b4 m hlt2
          have P := fun (v : World) => put_ok (w := v) x s hs1 hs8 hxs
          unfold PutRes at P
          simp only [beB_length] at P
          have HP := Lib.hid P
          have HPS := Lib.hid (take_snoc' hps)
          clear P hps hxs
          have hL1 := wpre_le l j
          have hL2 := HT.out
          have hL3 := pcs_len t0 t1 p q bs.length m
          have hL : (wpre l j).length + ((pcs t0 t1 p q bs.length).take m).flatten.length ≤ 200000000 := by omega
          clear hL1 hL2 hL3
          have hsz0 := HKi.out.size
          have hfb : wo.heap.size < wr.heap.size := HBi.out.lt
          go_wp2_with (first | (go_at_call 20; refine (HP.out _).mono ?_; rintro e w5 ⟨g5, rfl, hg5, hb5, k5⟩; have KA := Lib.hid (((Keeps.refl Nothing wr).alloc (.cells #[.int .u64 x, .int .u64 s] 50)).same k5); have HS5 := Lib.hid (Blk.slR hb5 s (by rw [bcells_length, beB_length]; exact Nat.le_refl _)); rw [bcells_length, beB_length] at HS5; have hz5 := k5.size; clear hb5 k5) | (refine wpList_appR rfl (.tmp 71) (.tmp 72) 25 rfl 5 i0 (.int .u8 0) 1 Try.underlying25 hi0 hz0 hz1 hz2 rfl (fun k => w.heap.size ≤ k ∧ k ≠ wo.heap.size) _ (bcells (wpre l j ++ ((pcs t0 t1 p q bs.length).take m).flatten)) rfl (HOi.out.keeps KA.out (fun _ _ h => h)) (.slice (some ⟨g5, 0, none⟩) s s) (bcells (beB s x)) rfl HS5.out (bcells_one _) (by rw [bcells_length, bcells_length, List.length_append, beB_length]; omega) (by rw [bcells_length, bcells_length, List.length_append, beB_length]; omega) ?_; intro v6 w6 ho6 k6))
          simp at hz5
          have HO6 := Lib.hid (ho6.mono (G := fun k => w.heap.size ≤ k ∧ k ≠ wo.heap.size) (fun k hk => by omega))
          have HB6 := Lib.hid ((HBi.out.keeps KA.out (fun h => h)).keeps k6 (fun hg => (HOi.out.2 _ hg).2 rfl))
          have HK6 := Lib.hid ((HKi.out.same KA.out).up k6 (fun x hx => (HOi.out.2 x hx).1))
          clear ho6 k6
          go_wp2_with fail
          go_roundg (gk - 1)
          case measure => omega
          case rel =>
            refine ⟨m + 1, by omega, by go_num, ?_, HB6.out, HK6.out⟩
            rw [HPS.out, List.flatten_append, List.flatten_singleton, ← List.append_assoc, bcells_app _ (beB s x)]
            exact HO6.out
        · obtain rfl : m = 5 := by omega
          have c4 : wr.cell? ⟨wo.heap.size, 4, none⟩ = some (.slice B bs.length cap) := HBi.out.cell 4
          have hL1 := wpre_le l j
          have hL2 := HT.out
          have hL3 := pcs_len t0 t1 p q bs.length 5
          have hL : (wpre l j).length + ((pcs t0 t1 p q bs.length).take 5).flatten.length ≤ 200000000 := by omega
          clear hL1 hL2 hL3
          have hsz0 := HKi.out.size
          have HSi := Lib.hid ((HR.out.same HKi.out).2 _ (List.mem_of_getElem? HFj.out))
          have hpre : wpre l (j + 1) = wpre l j ++ ((pcs t0 t1 p q bs.length).take 5).flatten ++ bs := by
            unfold wpre
            rw [take_snoc' HFj.out, List.map_append, List.flatten_append]
            simp [encF, pcs, prs]
          have HPre := Lib.hid hpre
          clear hpre
          go_wp2_with (refine wpList_appR rfl (.tmp 75) (.tmp 77) 25 rfl 5 i0 (.int .u8 0) 1 Try.underlying25 hi0 hz0 hz1 hz2 rfl (fun k => w.heap.size ≤ k ∧ k ≠ wo.heap.size) _ (bcells (wpre l j ++ ((pcs t0 t1 p q bs.length).take 5).flatten)) rfl HOi.out (.slice B bs.length cap) (bcells bs) rfl HSi.out (bcells_one _) (by rw [bcells_length, bcells_length, List.length_append]; omega) (by rw [bcells_length, bcells_length, List.length_append]; omega) ?_; intro v6 w6 ho6 k6)
          have HO6 := Lib.hid (ho6.mono (G := fun k => w.heap.size ≤ k) (fun k hk => by omega))
          have HK6 := Lib.hid (HKi.out.up k6 (fun x hx => (HOi.out.2 x hx).1))
          clear ho6 k6
          go_wp2_with fail
          go_roundg (gO - 1)
          case measure => omega
          case rel =>
            refine ⟨j + 1, by omega, by go_num, ?_, HK6.out⟩
            rw [HPre.out, bcells_app _ bs]
            exact HO6.out
    · obtain rfl : j = l.length := by omega
      have hbd : wpre l l.length = bodyB l := by unfold wpre bodyB; rw [List.take_length]
      rw [hbd] at HO
      obtain ⟨A7, c7, rfl⟩ := HO.out.lenG
      rw [bcells_length] at HO
      have C := seal_ok (w := wr) HO.out.slR (by have := HT.out; omega)
      clear ho hk
      go_wp2_with (go_at_call 22; refine C.mono ?_; clear C; rintro e w7 ⟨g7, cap7, rfl, hg7, ho7, k7⟩)
      go_ret2
      exact ⟨g7, cap7, rfl, by have := HK.out.size; omega, ho7.mono (fun k hk => by have := HK.out.size; omega), HK.out.same k7⟩

end Go.Proofs.Ytmmeloklnkfjjaa
