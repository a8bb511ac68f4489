/- Bytes with their sum behind them: Seal. -/
import Derived.Test.YtmmeloklnkfjjaaCrc2
namespace Go.Proofs.Ytmmeloklnkfjjaa
open Go.RowKit

def le4 (n : Nat) : Bytes := [UInt8.ofNat n, UInt8.ofNat (n / 256), UInt8.ofNat (n / 65536), UInt8.ofNat (n / 16777216)]
def sealB (bs : Bytes) : Bytes := bs ++ le4 (sumN bs)

theorem byte_val (n : Nat) : Value.int .u8 ((UInt8.ofNat n).toNat : Int) = .int .u8 ((n : Int) % 256) := by
  congr 1

/-- 'make([]T, 0, n)'. -/
theorem wpList_mk0 {P : Program} {w : World} {ops : Array Oper} {rest : List Oper} {o : Oper} {a : Act} {Q : Exit → Act → World → Prop}
    (hg : o.guard = none) (l c : Operand) (t : TypeId) (hop : o.op = Op.makeSlice t l c)
    (e : TypeId) (i : TypeInfo) (z : Value) (h1 : P.underlying t = some (.slice e)) (h2 : P.info? e = some i) (h3 : i.zero = some z) (h4 : i.size = 1) (hzl : z.cells = #[z])
    (kl kc : IntKind) (C : Int) (n : Nat) (hl : a.eval l = .int kl 0) (hc : a.eval c = .int kc C) (hC : C = (n : Int)) (bytes : Nat) (hby : i.bytes = bytes) (b2 : bytes * n ≤ 281474976710656) (b3 : n ≤ 281474976710656)
    (hK : ∀ w', Blk w' w.heap.size (rep n [z]) e → Keeps Nothing w w' → w'.heap.size = w.heap.size + 1 → wpList P ops Q rest (a.put o.dst (.slice (some ⟨w.heap.size, 0, none⟩) 0 n)) w') :
    wpList P ops Q (o :: rest) a w := by
  refine wpList_plain hg fun K hK' => ?_
  subst hby
  have hb' : (i.bytes : Int) * (n : Int) ≤ 281474976710656 := by
    have h : ((i.bytes * n : Nat) : Int) ≤ 281474976710656 := by omega
    rwa [Int.natCast_mul] at h
  have hrun := run_make (P := P) w t e i z h1 h2 h3 kl kc 0 n (by omega) (by omega) hb' (by omega)
  simp only [Int.toNat_natCast] at hrun
  have hm : madeCells z.cells (n * i.size) = (rep n [z]).toArray := by
    have := madeCells_rep z.cells n
    rw [hzl] at this ⊢
    rw [h4]
    simp only [List.size_toArray] at this
    rw [← this]
    rfl
  rw [hm] at hrun
  subst hC
  unfold Oper.wp
  simp [execOp, hop, hl, hc, hrun, Result.andThen]
  exact hK' _ _ (hK _ (Blk.new w (rep n [z]) e) ((Keeps.refl _ _).alloc _) (by simp))

theorem info5 : (Try.prog.info? 5).map (fun i => (i.zero, i.size, i.bytes)) = some (some (.int .u8 0), 1, 1) := by kernel_rfl

def SealRes (w : World) (out : Bytes) (e : Ending) (w' : World) : Prop :=
  ∃ g cap, e = .returned (.slice (some ⟨g, 0, none⟩) out.length cap) ∧ w.heap.size ≤ g ∧ OwnF w' (fun k => w.heap.size ≤ k) 5 (.slice (some ⟨g, 0, none⟩) out.length cap) (bcells out) ∧ Keeps Nothing w w'

theorem bcells_one (l : Bytes) : ∀ u ∈ bcells l, u.oneCell' = true := by
  intro u hu
  simp only [bcells, List.mem_map] at hu
  obtain ⟨x, _, rfl⟩ := hu
  rfl

theorem bcells_app (l k : Bytes) : bcells (l ++ k) = bcells l ++ bcells k := by simp [bcells]

theorem le4_cells (n : Nat) (h : n < 4294967296) : bcells (le4 n) = [.int .u8 ((n : Int) % 256), .int .u8 ((n : Int) / 256 % 256), .int .u8 ((n : Int) / 65536 % 256), .int .u8 ((n : Int) / 16777216)] := by
  simp only [bcells, le4, List.map_cons, List.map_nil, byte_val]
  have : ((n / 16777216 : Nat) : Int) % 256 = (n : Int) / 16777216 := by omega
  rw [this]
  rfl

/-- 'append(s, x...)' on an own slice of one-cell elements, x any slice that can be read. -/
theorem wpList_appR {P : Program} {w : World} {ops : Array Oper} {rest : List Oper} {o : Oper} {a : Act} {Q : Exit → Act → World → Prop} (hgd : o.guard = none) (s x : Operand) (t : TypeId)
    (ho : o.op = .call { callee := .builtin .append, args := #[s, x], argTypes := #[t, t] })
    (e : TypeId) (i : TypeInfo) (z : Value) (bytes : Nat) (ht : P.underlying t = some (.slice e)) (hi : P.info? e = some i) (hz : i.zero = some z)
    (hsize : i.size = 1) (hby : i.bytes = bytes) (hzs : z.cells.size = 1)
    (F : Nat → Prop) (v : Value) (xs : List Value) (hs : a.eval s = v) (hown : OwnF w F e v xs)
    (u : Value) (news : List Value) (hx : a.eval x = u) (hsl : SlR w u news) (h1 : ∀ u ∈ news, u.oneCell' = true)
    (h63 : xs.length + news.length ≤ 140737488355328) (hbytes : (xs.length + news.length) * bytes ≤ 140737488355328)
    (h : ∀ v' w', OwnF w' (fun k => F k ∨ w.heap.size ≤ k) e v' (xs ++ news) → Keeps (fun k => v.ownBlock = some k) w w' → wpList P ops Q rest (a.put o.dst v') w') : wpList P ops Q (o :: rest) a w := by
  have h0 : ∀ A c, u = .slice A 0 c → news = [] → wpList P ops Q (o :: rest) a w := fun A c hu hn => by
    subst hu hn
    refine wpList_app0 hgd s x t ho e i 1 ht hi v xs.length xs hs hown.1 A c hx (h v w ?_ (Keeps.refl _ _))
    rw [List.append_nil]
    exact hown.mono (fun k hk => .inl hk)
  rcases hsl with ⟨c, hu, hn⟩ | ⟨ad, c, hu, hc, hr⟩
  · exact h0 _ _ hu hn
  · by_cases hm : news.length = 0
    · have : news = [] := List.eq_nil_of_length_eq_zero hm
      rw [hm] at hu
      exact h0 _ _ hu this
    · refine wpList_app hgd s x t ho e i z 1 bytes ht hi hz hsize hby hzs (by omega) F v xs.length xs hs hown.toS ad news.length c news (hx.trans hu) (by omega) hr h1 (by omega) h63 hbytes ?_
      intro g cap w' ho' hk'
      refine h _ w' ?_ hk'
      exact ho'.toF

set_option maxRecDepth 100000 in
set_option maxHeartbeats 8000000 in
theorem seal_ok {w : World} {A : Option Addr} {c : Nat} {bs : Bytes} (hs : SlR w (.slice A bs.length c) (bcells bs)) (hl : bs.length ≤ 1000000000) :
    Calls Try.prog 22 #[.slice A bs.length c] w (SealRes w (sealB bs)) := by
  obtain ⟨i0, hi0, hz0, hz1, hz2⟩ := info_parts info5
  have HS := Lib.hid hs
  clear hs
  have hB := Blk.new w [.slice A bs.length c] 25
  have C := sum_ok (w := w.alloc (.cells #[.slice A bs.length c] 25)) (g := w.heap.size) (A := A) (c := c) (bs := bs) (hB.cell 0) (HS.out.same ((Keeps.refl _ _).alloc _)) (by omega)
  clear hB
  have hsl := Lib.hid (fun (v : World) (hv : Keeps Nothing w v) => HS.out.same hv)
  go_enter Try.func22, Try.ntmps22
  go_wp2_with (first | (go_at_call 32; refine C.mono ?_; clear C; rintro e w1 ⟨rfl, k1⟩; have K1 := Lib.hid (((Keeps.refl Nothing w).alloc (.cells #[.slice A bs.length c] 25)).same k1); clear k1) | (refine wpList_mk0 rfl (.const (.int .i64 0)) (.tmp 10) 25 rfl 5 i0 (.int .u8 0) Try.underlying25 hi0 hz0 hz1 rfl .i64 .i64 ((bs.length : Int) + 4) (bs.length + 4) rfl rfl (by omega) 1 hz2 (by omega) (by omega) ?_; intro w2 hb2 k2 hs2; have HB2 := Lib.hid hb2; have K2 := Lib.hid (K1.out.same k2); clear hb2 k2) | (refine wpList_appR rfl (.tmp 11) (.tmp 12) 25 rfl 5 i0 (.int .u8 0) 1 Try.underlying25 hi0 hz0 hz1 hz2 rfl (fun k => w1.heap.size ≤ k) (.slice (some ⟨w1.heap.size, 0, none⟩) 0 (bs.length + 4)) [] rfl (OwnF.mk (Nat.le_refl _) HB2.out (by simp) (by unfold maxLen; omega) (by simp [rep]) rfl) (.slice A bs.length c) (bcells bs) rfl (HS.out.same K2.out) (bcells_one _) ?h63 ?hby ?_))
  case h63 => simp; omega
  case hby => simp; omega
  intro v3 w3 ho3 k3
  have hsz1 := K1.out.size
  have hsz2 := K2.out.size
  have HO3 := Lib.hid (ho3.mono (G := fun k => w.heap.size ≤ k) (fun k hk => by omega))
  have K3 := Lib.hid (K2.out.up k3 (fun x hx => by simp [Value.ownBlock] at hx; omega))
  clear ho3 k3 HB2 K1 K2
  have hn := crcR_lt bs
  have hn2 : sumN bs < 4294967296 := by
    have := Nat.xor_lt_two_pow (n := 32) (x := 4294967295) (y := crcR bs) (by omega) (by omega)
    unfold sumN
    omega
  have HL4 := Lib.hid (le4_cells (sumN bs) hn2)
  clear hn
  have HSB := Lib.hid (show sealB bs = bs ++ le4 (sumN bs) from rfl)
  generalize sumN bs = N at *
  have HK4 := Lib.hid (fun o => (Keeps.refl Nothing w3).alloc o)
  have HLit := Lib.hid ((OwnF.lit w3 [.int .u8 ((N : Int) % 256), .int .u8 ((N : Int) / 256 % 256), .int .u8 ((N : Int) / 65536 % 256), .int .u8 ((N : Int) / 16777216)] 5 (by unfold maxLen; simp)).slR)
  go_wp2_with (refine wpList_appR rfl (.tmp 14) (.tmp 26) 25 rfl 5 i0 (.int .u8 0) 1 Try.underlying25 hi0 hz0 hz1 hz2 rfl (fun k => w.heap.size ≤ k) v3 (bcells bs) rfl (HO3.out.keeps (HK4.out _) (fun _ _ h => h)) (.slice (some ⟨w3.heap.size, 0, none⟩) 4 4) [.int .u8 ((N : Int) % 256), .int .u8 ((N : Int) / 256 % 256), .int .u8 ((N : Int) / 65536 % 256), .int .u8 ((N : Int) / 16777216)] rfl HLit.out (by rw [← HL4.out]; exact bcells_one _) ?d63 ?dby ?_)
  case d63 => simp; omega
  case dby => simp; omega
  intro v4 w4 ho4 k4
  have HO4 := Lib.hid (ho4.mono (G := fun k => w.heap.size ≤ k) (fun k hk => by have := K3.out.size; omega))
  have K4 := Lib.hid ((K3.out.alloc (.cells #[.int .u8 ((N : Int) % 256), .int .u8 ((N : Int) / 256 % 256), .int .u8 ((N : Int) / 65536 % 256), .int .u8 ((N : Int) / 16777216)] 5)).up k4 (fun x hx => HO3.out.2 x hx))
  clear ho4 k4 HO3 K3
  go_wp2_with fail
  go_ret
  have h := HO4.out
  rw [← HL4.out, ← bcells_app, ← HSB.out] at h
  rcases h.blk with ⟨-, hn⟩ | ⟨g, cap, cur, rfl, hg, -⟩
  · rw [HSB.out] at hn
    simp [bcells, le4] at hn
  · refine ⟨g, cap, by rw [bcells_length]; rfl, hg, ?_, K4.out⟩
    rw [bcells_length] at h
    exact h

end Go.Proofs.Ytmmeloklnkfjjaa
