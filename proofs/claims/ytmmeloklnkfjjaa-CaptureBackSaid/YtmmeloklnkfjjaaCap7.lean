/- How many bytes went out, by class: Bytes. -/
import Derived.Test.YtmmeloklnkfjjaaCap2
import Derived.Laws.Tables
import Derived.Laws.Rows
import Derived.RegionTactic
import Derived.ChangeAlike
namespace Go.Proofs.Ytmmeloklnkfjjaa
open Go.RowKit

/-- An array of n numbers. -/
def arrV (k : IntKind) (n : Nat) (f : Nat → Int) : List Value := (List.range n).map fun i => .int k (f i)

@[simp] theorem arrV_length (k : IntKind) (n : Nat) (f : Nat → Int) : (arrV k n f).length = n := by simp [arrV]

theorem arrV_get (k : IntKind) (n : Nat) (f : Nat → Int) (i : Nat) (h : i < n) : (arrV k n f)[i]? = some (.int k (f i)) := by simp [arrV, h]

theorem arrV_set (k : IntKind) (n : Nat) (f : Nat → Int) (i : Nat) (v : Int) : (arrV k n f).set i (.int k v) = arrV k n (fun j => if j = i then v else f j) := by
  apply List.ext_getElem?
  intro j
  by_cases hj : j < n
  · by_cases e : i = j
    · subst e
      rw [List.getElem?_set_self (by simpa using hj), arrV_get _ _ _ _ hj, if_pos rfl]
    · rw [List.getElem?_set_ne e, arrV_get _ _ _ _ hj, arrV_get _ _ _ _ hj, if_neg (fun h => e h.symm)]
  · rw [List.getElem?_eq_none (by simp; omega), List.getElem?_eq_none (by simp; omega)]

theorem arrV_one (k : IntKind) (n : Nat) (f : Nat → Int) : (arrV k n f).toArray.all (·.oneCell') = true := by
  rw [List.all_toArray, List.all_eq_true]
  intro x hx
  simp only [arrV, List.mem_map] at hx
  obtain ⟨i, -, rfl⟩ := hx
  rfl

theorem setRow_blk {w : World} {g : Nat} {cs cs' : List Value} {T : TypeId} (h : Blk w g cs T) : Blk (w.setRow g cs'.toArray) g cs' T := by
  unfold Blk at *
  simp [World.setRow, Array.getElem?_modify, h]

theorem setRow_keeps (w : World) (g : Nat) (cs : Array Value) : Keeps (fun k => k = g) w (w.setRow g cs) :=
  ⟨rfl, rfl, rfl, by simp [World.setRow], fun k _ hn => by rw [World.setRow]; simp only [Array.getElem?_modify]; rw [if_neg (fun h => hn h.symm)]⟩

def bytesOf (l : List Fr) (c : Nat) : Nat := ((l.filter (fun f => decide (f.cls = (c : Int)))).map (·.bs.length)).sum

theorem bytesOf_snoc (l : List Fr) (f : Fr) (c : Nat) : bytesOf (l ++ [f]) c = bytesOf l c + (if f.cls = (c : Int) then f.bs.length else 0) := by
  unfold bytesOf
  rw [List.filter_append]
  by_cases h : f.cls = (c : Int) <;> simp [h]

set_option maxRecDepth 10000 in
theorem bytesOf_le (l : List Fr) (c : Nat) (h : ∀ f ∈ l, f.bs.length ≤ 1600) : bytesOf l c ≤ l.length * 1600 := by
  induction l with
  | nil => simp [bytesOf]
  | cons f l ih =>
    have h1 := ih (fun x hx => h x (by simp [hx]))
    have h2 := h f (by simp)
    unfold bytesOf at h1 ⊢
    rw [List.filter_cons]
    by_cases hc : f.cls = (c : Int)
    · rw [if_pos (by simpa using hc), List.map_cons, List.sum_cons, List.length_cons]
      omega
    · rw [if_neg (by simpa using hc), List.length_cons]
      omega

def ByInv (w : World) (l : List Fr) (k : Nat) (i : Value) (wr : World) : Prop :=
  ∃ j : Nat, j + k = l.length ∧ i = .int .i64 (j : Nat) ∧ Blk wr w.heap.size (arrV .i64 8 fun _ => 0) 45 ∧ Blk wr (w.heap.size + 1) (arrV .i64 8 fun c => bytesOf (l.take j) c) 45 ∧ Keeps Nothing w wr

def BytesRes (w : World) (l : List Fr) (e : Ending) (w' : World) : Prop := e = .returned (.agg (arrV .i64 8 fun c => bytesOf l c).toArray) ∧ Keeps Nothing w w'

set_option maxRecDepth 100000 in
set_option maxHeartbeats 8000000 in
theorem bytes_ok {w : World} {A : Option Addr} {c : Nat} {l : List Fr} (hr : FrsR w A c l) (hl : l.length ≤ 200) (hb : ∀ f ∈ l, f.bs.length ≤ 1600) :
    Calls Try.prog 19 #[.slice A l.length c] w (BytesRes w l) := by
  have HR := Lib.hid hr
  have HB := Lib.hid hb
  clear hr hb
  go_enter Try.func19, Try.ntmps19
  go_wp2_with fail
  go_loopg [8] l.length (fun k i wr => ByInv w l k i wr)
  case atStart =>
    refine ⟨0, by omega, rfl, (Blk.new w (arrV .i64 8 fun _ => 0) 45).alloc _, ?_, ((Keeps.refl _ _).alloc _).alloc _⟩
    have := Blk.new (w.alloc (.cells (arrV .i64 8 fun _ => 0).toArray 45)) (arrV .i64 8 fun c => bytesOf (l.take 0) c) 45
    have hs : (w.alloc (.cells (arrV .i64 8 fun _ => 0).toArray 45)).heap.size = w.heap.size + 1 := by simp
    rw [hs] at this
    exact this
  case round =>
    obtain ⟨j, hj, rfl, hz, hv, hk⟩ := hrel
    have HK := Lib.hid hk
    have HZ := Lib.hid hz
    have HV := Lib.hid hv
    by_cases hlt : j < l.length
    · obtain ⟨port, cls, frm, till, B, cap, bs, b, o, hf, rfl, f0, f1, f2, f3, f4, hs⟩ := (HR.out.same hk).get hlt
      have hbs : bs.length ≤ 1600 := HB.out _ (List.mem_of_getElem? hf)
      have HF := Lib.hid hf
      have HT := Lib.hid (take_snoc' hf)
      clear hz hv hk hf hs
      by_cases h0 : 0 ≤ cls
      · by_cases h8 : cls < 8
        · obtain ⟨k, rfl⟩ : ∃ k : Nat, cls = (k : Int) := ⟨cls.toNat, by omega⟩
          have hk8 : k < 8 := by omega
          have hle := bytesOf_le (l.take j) k (fun f hf => HB.out f (List.mem_of_mem_take hf))
          have hle2 : bytesOf (l.take j) k ≤ 320000 := by
            have := List.length_take_le j l
            omega
          have hsz : w.heap.size + 1 < wr.heap.size := HV.out.lt
          have v1 : (wr.alloc (.cells #[.int .i64 port, .int .i64 (k : Nat), .int .i64 frm, .int .i64 till, .slice B bs.length cap] 27)).cell? ⟨w.heap.size + 1, k, none⟩ = some (.int .i64 (bytesOf (l.take j) k)) := by
            have := (HV.out.alloc (.cells #[.int .i64 port, .int .i64 (k : Nat), .int .i64 frm, .int .i64 till, .slice B bs.length cap] 27)).cell k
            rw [arrV_get _ _ _ _ hk8] at this
            exact this
          have v2 : (wr.alloc (.cells #[.int .i64 port, .int .i64 (k : Nat), .int .i64 frm, .int .i64 till, .slice B bs.length cap] 27)).frozen? ⟨w.heap.size + 1, k, none⟩ = false := (HV.out.alloc _).frozen k
          clear hle
          generalize hS : bytesOf (l.take j) k = S at *
          have HS := Lib.hid hS
          clear hS
          have g0 := (Blk.new wr [.int .i64 port, .int .i64 (k : Nat), .int .i64 frm, .int .i64 till, .slice B bs.length cap] 27)
          have e1 := g0.cell 1
          have e4 := g0.cell 4
          have HA := Lib.hid (HK.out.alloc (.cells #[.int .i64 port, .int .i64 (k : Nat), .int .i64 frm, .int .i64 till, .slice B bs.length cap] 27))
          have HZ2 := Lib.hid (HZ.out.alloc (.cells #[.int .i64 port, .int .i64 (k : Nat), .int .i64 frm, .int .i64 till, .slice B bs.length cap] 27))
          have HV2 := Lib.hid (HV.out.alloc (.cells #[.int .i64 port, .int .i64 (k : Nat), .int .i64 frm, .int .i64 till, .slice B bs.length cap] 27))
          clear g0
          go_upto_region 6 with fail
          generalize (wr.alloc (.cells #[.int .i64 port, .int .i64 (k : Nat), .int .i64 frm, .int .i64 till, .slice B bs.length cap] 27)) = wa at *
          simp only [List.getElem?_cons_succ, List.getElem?_cons_zero, Fr.cells] at e1 e4
          go_region
          have HV3 := Lib.hid ((HV2.out.set k (.int .i64 ((S : Int) + (bs.length : Int)))).drew)
          have HZ3 := Lib.hid ((HZ2.out.set_ne ⟨w.heap.size + 1, k, none⟩ (.int .i64 ((S : Int) + (bs.length : Int))) (by simp)).drew)
          have HK3 := Lib.hid ((HA.out.setCell (p := ⟨w.heap.size + 1, k, none⟩) (fun h => by simp at h; omega) (.int .i64 ((S : Int) + (bs.length : Int)))).drew)
          clear e1 e4 v1 v2
          generalize ((wa.setCell ⟨w.heap.size + 1, k, none⟩ (.int .i64 ((S : Int) + (bs.length : Int)))).drew) = wb at *
          go_wp2_with fail
          go_roundg (gk - 1)
          case measure => omega
          case rel =>
            refine ⟨j + 1, by omega, by go_num, HZ3.out, ?_, HK3.out⟩
            have h := HV3.out
            rw [arrV_set] at h
            have e : (fun c : Nat => ((bytesOf (l.take (j + 1)) c : Nat) : Int)) = fun i => if i = k then (S : Int) + (bs.length : Int) else ((bytesOf (l.take j) i : Nat) : Int) := by
              funext i
              rw [HT.out, bytesOf_snoc]
              by_cases hik : i = k
              · subst hik
                simp only [if_true]
                rw [HS.out]
                omega
              · simp only [if_neg hik]
                rw [if_neg (by omega)]
                omega
            rw [e]
            exact h
        · have h8' : decide (cls < 8) = false := by simpa using h8
          go_wp2_with fail
          go_roundg (gk - 1)
          case measure => omega
          case rel =>
            refine ⟨j + 1, by omega, by go_num, HZ.out.alloc _, ?_, HK.out.alloc _⟩
            have e : arrV .i64 8 (fun c : Nat => ((bytesOf (l.take (j + 1)) c : Nat) : Int)) = arrV .i64 8 (fun c : Nat => ((bytesOf (l.take j) c : Nat) : Int)) := by
              apply List.map_congr_left
              intro i hi
              show Value.int .i64 ((bytesOf (l.take (j + 1)) i : Nat) : Int) = Value.int .i64 ((bytesOf (l.take j) i : Nat) : Int)
              rw [HT.out, bytesOf_snoc, if_neg (by simp at hi; simp only; omega), Nat.add_zero]
            rw [e]
            exact HV.out.alloc _
      · have h0' : decide (0 ≤ cls) = false := by simpa using h0
        go_wp2_with fail
        go_roundg (gk - 1)
        case measure => omega
        case rel =>
          refine ⟨j + 1, by omega, by go_num, HZ.out.alloc _, ?_, HK.out.alloc _⟩
          have e : arrV .i64 8 (fun c : Nat => ((bytesOf (l.take (j + 1)) c : Nat) : Int)) = arrV .i64 8 (fun c : Nat => ((bytesOf (l.take j) c : Nat) : Int)) := by
            apply List.map_congr_left
            intro i hi
            show Value.int .i64 ((bytesOf (l.take (j + 1)) i : Nat) : Int) = Value.int .i64 ((bytesOf (l.take j) i : Nat) : Int)
            rw [HT.out, bytesOf_snoc, if_neg (by simp only; omega), Nat.add_zero]
          rw [e]
          exact HV.out.alloc _
    · obtain rfl : j = l.length := by omega
      rw [List.take_length] at HV
      clear hz hv hk
      have hone := arrV_one .i64 8 (fun c => bytesOf l c)
      have hlen := arrV_length .i64 8 (fun c => bytesOf l c)
      have hlen0 := arrV_length .i64 8 (fun _ => 0)
      have hi45 : (Try.prog.info? 45).map (·.size) = some 8 := by kernel_rfl
      generalize hcs : (arrV .i64 8 fun c => bytesOf l c) = cs at *
      have HCS := Lib.hid hcs
      generalize (arrV .i64 8 fun _ => 0) = zs at *
      have h1 : (Try.prog.info? 45).map (·.size) = some cs.toArray.size := by rw [hi45, List.size_toArray, hlen]
      have h2 : zs.toArray.size = cs.toArray.size := by rw [List.size_toArray, List.size_toArray, hlen, hlen0]
      have H1 := Lib.hid h1
      have H2 := Lib.hid h2
      have HO := Lib.hid hone
      clear hone hlen hlen0 hi45 h1 h2 hcs
      go_wp2_with (first | (refine wpList_load_row rfl 45 (.tmp 3) rfl (w.heap.size + 1) rfl 45 cs.toArray (0, 0) _ HV.out Try.underlying45 rfl H1.out ?_) | (refine wpList_store_row rfl 45 (.tmp 2) (.tmp 30) rfl w.heap.size cs.toArray rfl rfl 45 zs.toArray HZ.out H1.out H2.out HO.out ?_))
      refine bodyPost_ret (results_cell_row rfl _ _ w.heap.size 45 cs.toArray (0, 0) _ rfl (setRow_blk HZ.out) Try.underlying45 rfl H1.out) rfl ?_
      exact ⟨by rw [HCS.out], HK.out.up (setRow_keeps _ _ _) (fun x hx => by omega)⟩

end Go.Proofs.Ytmmeloklnkfjjaa
