/- Read: the walk. -/
import Derived.Test.YtmmeloklnkfjjaaRead
namespace Go.Proofs.Ytmmeloklnkfjjaa
open Go.RowKit

def ReadRes (w : World) (bs : Bytes) (e : Ending) (w' : World) : Prop :=
  Keeps Nothing w w' ∧ ((∃ n, readF bs = .inl n ∧ n ≠ 0 ∧ e = .returned (.tuple #[.slice none 0 0, .int .i64 (n : Nat)])) ∨
    ∃ (lst : List Fr) (A : Option Addr) (c : Nat), readF bs = .inr (lst.map Fr.key) ∧ e = .returned (.tuple #[.slice A lst.length c, .int .i64 0]) ∧ FrsR w' A c lst ∧ (∀ f ∈ lst, f.Fit) ∧ lst.length ≤ 65535)

theorem Fr.Rd.kept {G : Nat → Prop} {w w' : World} {f : Fr} (h : f.Rd w) (hk : Keeps G w w') (hG : ∀ x, f.A = some x → ¬ G x.block) : f.Rd w' := by
  refine SlR.keeps h hk (fun g hg => ?_)
  cases hA : f.A with
  | none => rw [hA] at hg; cases hg
  | some x =>
    rw [hA] at hg
    have : some x.block = some g := hg
    injection this with this
    subst this
    exact hG x hA

theorem OwnS.kept {F G : Nat → Prop} {w w' : World} {T size n : Nat} {v : Value} {xs : List Value} (h : OwnS w F T size v n xs) (hk : Keeps G w w') (hn : ∀ g, g < w.heap.size → F g → ¬ G g) : OwnS w' F T size v n xs :=
  ⟨ownsRow_keeps h.1 hk (fun g hg => hn g (h.lt hg) (h.2 g hg)), h.2⟩

theorem manyR_add (b : Bytes) (a0 : Nat) : ∀ (j : Nat) {ks : List Key} {a : Nat}, manyR b j a0 = some (ks, a) → oneR b a = none → ∀ d, manyR b (j + 1 + d) a0 = none
  | j, ks, a, h, h1, 0 => by simp only [manyR, Nat.add_zero, h, h1]
  | j, ks, a, h, h1, d + 1 => by
    have := manyR_add b a0 j h h1 d
    have e : j + 1 + (d + 1) = (j + 1 + d) + 1 := by omega
    rw [e, manyR, this]

theorem checkK_eq {lst : List Fr} (hl : lst.length ≤ 65535) : checkR lst = ((checkK (lst.map Fr.key) : Nat) : Int) := by
  unfold checkR checkK
  rw [if_neg (by omega)]
  by_cases h : ∀ f ∈ lst, f.Ok
  · rw [if_pos h, if_pos (by
      intro k hk
      obtain ⟨f, hf, rfl⟩ := List.mem_map.1 hk
      exact h f hf)]
    rfl
  · rw [if_neg h, if_neg (fun h2 => h (fun f hf => h2 _ (List.mem_map_of_mem hf)))]
    rfl

theorem readI_short {b : Bytes} (hm : b.take 4 = magicB) (h6 : b.length < 6) : readI b = .inl 2 := by
  unfold readI
  rw [if_neg (by simp [hm]), if_pos h6]

theorem readI_magic {b : Bytes} (hm : b.take 4 ≠ magicB) : readI b = .inl 11 := by
  unfold readI
  rw [if_pos hm]

theorem readI_some {b : Bytes} (hm : b.take 4 = magicB) (h6 : 6 ≤ b.length) {many a : Nat} {ks : List Key} (hmany : many = ofBE ((b.drop 4).take 2)) (h : manyR b many 6 = some (ks, a)) :
    readI b = if a ≠ b.length then .inl 3 else if checkK ks ≠ 0 then .inl (checkK ks) else .inr ks := by
  unfold readI
  rw [if_neg (by simp [hm]), if_neg (by omega), ← hmany, h]

theorem readI_none {b : Bytes} (hm : b.take 4 = magicB) (h6 : 6 ≤ b.length) {many j a : Nat} {ks : List Key} (hmany : many = ofBE ((b.drop 4).take 2)) (hj : j < many) (h : manyR b j 6 = some (ks, a)) (h1 : oneR b a = none) : readI b = .inl 2 := by
  have := manyR_add b 6 j h h1 (many - j - 1)
  have e : j + 1 + (many - j - 1) = many := by omega
  rw [e] at this
  unfold readI
  rw [if_neg (by simp [hm]), if_neg (by omega), ← hmany, this]

def RF (p : Nat) (lst : List Fr) (k : Nat) : Prop := p < k ∧ ∀ f ∈ lst, ∀ x, f.A = some x → x.block ≠ k

def RInv (w : World) (p : Nat) (b : Bytes) (many a0 e0 : Nat) (k : Nat) (v i : Value) (wr : World) : Prop :=
  ∃ (j a : Nat) (lst : List Fr), j + k = many ∧ i = .int .u64 (j : Nat) ∧ manyR b j a0 = some (lst.map Fr.key, a) ∧ lst.length = j ∧ Rdr wr p b a e0 ∧ OwnS wr (RF p lst) 27 5 v lst.length (fcells lst) ∧
    (∀ f ∈ lst, f.Rd wr ∧ f.Fit ∧ ∀ x, f.A = some x → p < x.block ∧ x.block < wr.heap.size) ∧ Keeps Nothing w wr

theorem readF_bad {bs : Bytes} (h : openB bs ≠ 0) : readF bs = .inl (openB bs) := by unfold readF; rw [if_pos h]
theorem readF_in {bs : Bytes} (h : openB bs = 0) : readF bs = readI (bs.take (bs.length - 4)) := by unfold readF; rw [if_neg (by simp [h])]

set_option maxRecDepth 100000 in
set_option maxHeartbeats 8000000 in
theorem read_bad {w : World} {A : Option Addr} {c : Nat} {bs : Bytes} (hs : SlR w (.slice A bs.length c) (bcells bs)) (hl : bs.length ≤ 100000000) (h : openB bs ≠ 0) :
    Calls Try.prog 13 #[.slice A bs.length c] w (ReadRes w bs) := by
  have C := open_ok hs (by omega)
  have HF := Lib.hid (readF_bad h)
  have hb : (((openB bs : Nat) : Int) != 0) = true := by simpa using h
  have H := Lib.hid h
  clear h
  go_enter Try.func13, Try.ntmps13
  go_upto_region 2 with (go_at_call 23; refine C.mono ?_; clear C; rintro e w1 ⟨k1, (⟨-, rfl⟩ | ⟨h0, -⟩)⟩; rotate_left; exact absurd h0 H.out)
  go_wp2_with fail
  go_ret2
  exact ⟨k1, .inl ⟨openB bs, HF.out, H.out, rfl⟩⟩

set_option maxRecDepth 100000 in
set_option maxHeartbeats 8000000 in
theorem read_in {w : World} {A : Option Addr} {c : Nat} {bs : Bytes} (hs : SlR w (.slice A bs.length c) (bcells bs)) (hl : bs.length ≤ 100000000) (h : openB bs = 0) :
    Calls Try.prog 13 #[.slice A bs.length c] w (ReadRes w bs) := by
  obtain ⟨i0, hi0, hz0, hz1, hz2⟩ := info_parts (P := Try.prog) (e := 27) (z := .agg #[.int .i64 0, .int .i64 0, .int .i64 0, .int .i64 0, .slice none 0 0]) (size := 5) (bytes := 56) (by kernel_rfl)
  have C := open_ok hs (by omega)
  have HF := Lib.hid (readF_in h)
  have H := Lib.hid h
  have hn4 : 4 ≤ bs.length := by
    unfold openB at h
    split at h
    · cases h
    · omega
  clear h
  obtain ⟨b, hbd⟩ : ∃ b, b = bs.take (bs.length - 4) := ⟨_, rfl⟩
  obtain ⟨n, hnd⟩ : ∃ n, n = bs.length - 4 := ⟨_, rfl⟩
  have hbn : b.length = n := by rw [hbd, hnd, List.length_take]; omega
  rw [← hbd] at HF
  go_enter Try.func13, Try.ntmps13
  go_upto_region 4 with (go_at_call 23; refine C.mono ?_; clear C; rintro e w1 ⟨k1, (⟨h0, -⟩ | ⟨-, g, hgl, rfl, hsl⟩)⟩; exact absurd H.out h0)
  rw [← hbd, ← hnd, ← hbn] at hsl
  have hnn : ((bs.length - 4 : Nat)) = b.length := by omega
  rw [hnn]
  have HK1 := Lib.hid k1
  have HSL := Lib.hid hsl
  have hlb : b.length ≤ 1000000000 := by omega
  clear k1 hsl hbd hnd hbn hn4 hnn
  have D := rread_ok HSL.out (Nat.le_refl _) hgl
  clear HSL
  go_upto_region 5 with (go_at_call 24; refine D.mono ?_; clear D; rintro e w2 ⟨rfl, hR2, hk2⟩)
  have HP := Lib.hid (show w.heap.size ≤ w1.heap.size from HK1.out.size)
  have HK2 := Lib.hid (HK1.out.same hk2)
  have hp2 := hR2.lt
  clear HK1 hk2
  generalize w1.heap.size = p at *
  by_cases hmg : b.take 4 = magicB
  · have ht : takeR b 0 0 4 = (magicB, 4, 0) := by
      have h4 : 4 ≤ b.length := by
        have := congrArg List.length hmg
        rw [List.length_take] at this
        have e : magicB.length = 4 := rfl
        omega
      unfold takeR
      rw [if_neg (by simp), if_neg (by omega), List.drop_zero, hmg]
    have D := rtake_ok hR2 hlb 4 (by omega) _ ht
    clear hR2 ht
    go_upto_region 7 with (go_at_call 25; refine D.mono ?_; clear D; rintro e w3 ⟨A3, c3, rfl, hs3, -, hR3, hk3⟩; have kc := conv_str (P := Try.prog) (src := 25) (e := 5) (dst := 9) Try.underlying25 Try.underlying5 Try.underlying9 hs3; have HK3 := Lib.hid (HK2.out.up hk3 (fun x hx => by have := HP.out; omega)); clear hk3 hs3)
    obtain ⟨many, a0, e0, hm0⟩ : ∃ many a0 e0, numR b 4 0 2 = (many, a0, e0) := ⟨_, _, _, rfl⟩
    have hmany : many < 65536 := numR_lt hm0
    have D := rnum_ok hR3 hlb 2 (by omega) (by omega) _ hm0
    have hcase : (e0 = 0 ∧ a0 = 6 ∧ 6 ≤ b.length ∧ many = ofBE ((b.drop 4).take 2)) ∨ (e0 = 2 ∧ many = 0 ∧ b.length < 6) := by
      rw [numR_any b 4 2 (by
        have := congrArg List.length hmg
        rw [List.length_take] at this
        have e : magicB.length = 4 := rfl
        omega)] at hm0
      split at hm0
      · injection hm0 with x1 x2
        injection x2 with x2 x3
        exact .inl ⟨x3.symm, x2.symm, by omega, x1.symm⟩
      · injection hm0 with x1 x2
        injection x2 with x2 x3
        exact .inr ⟨x3.symm, x1.symm, by omega⟩
    have HC := Lib.hid hcase
    have HM := Lib.hid hmg
    clear hR3 hm0 hcase hmg kc
    go_upto_region 9 with (go_at_call 26; refine D.mono ?_; clear D; rintro e w4 ⟨rfl, hR4, hk4⟩; have HK4 := Lib.hid (HK3.out.up hk4 (fun x hx => by have := HP.out; omega)); have HR4 := Lib.hid hR4; clear hR4 hk4 HK3)
    go_wp2_with fail
    go_loopg [8, 28] many (fun k v i wr => RInv w p b many a0 e0 k v i wr)
    case atStart => exact ⟨0, a0, [], by omega, rfl, rfl, rfl, HR4.out, OwnS.nil _ _ _ _, fun f hf => by simp at hf, HK4.out⟩
    case round =>
      clear HR4 HK4 HK2
      obtain ⟨j, a, lst, hj, rfl, hpar, hlen, hR, ho, hfr, hk⟩ := hrel
      have HRr := Lib.hid hR
      have HO := Lib.hid ho
      have HFR := Lib.hid hfr
      have HK := Lib.hid hk
      have HPar := Lib.hid hpar
      have HLen := Lib.hid hlen
      have hpw : p < wr.heap.size := hR.lt
      clear hR ho hfr hk hpar hlen
      by_cases hlt : j < many
      · have he0 : e0 = 0 := by
          rcases HC.out with ⟨h, -⟩ | ⟨-, h, -⟩
          · exact h
          · omega
        subst he0
        obtain ⟨n1, n2, n3, n4, n5, a1, a2, a3, a4, a5, a6, e1, e2, e3, e4, e5, e6, b6, hch⟩ := Chain.any b a
        have HCH := Lib.hid hch
        have hal : a ≤ b.length := by obtain ⟨_, _, -, -, -, -, h⟩ := HRr.out; exact h
        have l1 : n1 < 18446744073709551616 := numR_lt hch.r1
        have l2 : n2 < 18446744073709551616 := numR_lt hch.r2
        have l3 : n3 < 256 := numR_lt hch.r3
        have l4 : n4 < 256 := numR_lt hch.r4
        have l5 : n5 < 65536 := numR_lt hch.r5
        have D1 := rnum_ok HRr.out hlb 8 (by omega) (by omega) _ hch.r1
        clear hch
        go_upto_region 12 with (first | (go_at_call 26; refine D1.mono ?_; clear D1; rintro e w5 ⟨rfl, hR5, hk5⟩; have D2 := rnum_ok hR5 hlb 8 (by omega) (by omega) _ HCH.out.r2; have K5 := Lib.hid hk5; clear hR5 hk5) | (go_at_call 26; refine D2.mono ?_; clear D2; rintro e w6 ⟨rfl, hR6, hk6⟩; have D3 := rnum_ok hR6 hlb 1 (by omega) (by omega) _ HCH.out.r3; have K6 := Lib.hid (K5.out.trans hk6 (fun _ h _ => h)); clear hR6 hk6 K5) | (go_at_call 26; refine D3.mono ?_; clear D3; rintro e w7 ⟨rfl, hR7, hk7⟩; have D4 := rnum_ok hR7 hlb 1 (by omega) (by omega) _ HCH.out.r4; have K7 := Lib.hid (K6.out.trans hk7 (fun _ h _ => h)); clear hR7 hk7 K6) | (go_at_call 26; refine D4.mono ?_; clear D4; rintro e w8 ⟨rfl, hR8, hk8⟩; have HR8 := Lib.hid hR8; have K8 := Lib.hid (K7.out.trans hk8 (fun _ h _ => h)); clear hR8 hk8 K7))
        have HK8 := Lib.hid (HK.out.up K8.out (fun x hx => by have := HP.out; omega))
        have ho8 := HO.out.keeps K8.out (fun k h1 h2 => by have := h1.1; omega)
        have HO8 := Lib.hid (show OwnS w8 (fun k => RF p lst k ∧ k < w8.heap.size) 27 5 u8 lst.length (fcells lst) from ⟨ho8.1, fun g hg => ⟨ho8.2 g hg, ho8.lt hg⟩⟩)
        clear ho8
        have HFR8 := Lib.hid (show ∀ f ∈ lst, f.Rd w8 ∧ f.Fit ∧ ∀ x, f.A = some x → p < x.block ∧ x.block < w8.heap.size from fun f hf => by
          obtain ⟨q1, q2, q3⟩ := HFR.out f hf
          exact ⟨q1.kept K8.out (fun x hx h => by have := q3 x hx; omega), q2, fun x hx => by have := q3 x hx; have := K8.out.size; omega⟩)
        clear HO HK HFR K8 HRr
        have HB9 := Lib.hid (Blk.new w8 [.int .i64 n3, .int .i64 n4, .int .i64 (wrap64 n1), .int .i64 (wrap64 n2), .slice none 0 0] 27)
        have D5 := rnum_ok (HR8.out.same ((Keeps.refl Nothing w8).alloc (.cells #[.int .i64 n3, .int .i64 n4, .int .i64 (wrap64 n1), .int .i64 (wrap64 n2), .slice none 0 0] 27))) hlb 2 (by omega) (by omega) _ HCH.out.r5
        have hfb : p < w8.heap.size := HR8.out.lt
        go_upto_region 13 with (first | (go_at_call 26; refine D5.mono ?_; clear D5; rintro e w9 ⟨rfl, hR9, hk9⟩; have D6 := rtake_ok hR9 hlb n5 (by omega) _ HCH.out.r6; have K9 := Lib.hid hk9; clear hR9 hk9) | (go_at_call 25; refine D6.mono ?_; clear D6; rintro e w10 ⟨A6, c6, rfl, hs6, hA6, hR10, hk10⟩; have K10 := Lib.hid (K9.out.trans hk10 (fun _ h _ => h)); have hz9 := K9.out.size; have hB10 : Blk w10 w8.heap.size [.int .i64 n3, .int .i64 n4, .int .i64 (wrap64 n1), .int .i64 (wrap64 n2), .slice none 0 0] 27 := HB9.out.keeps K10.out (fun h => by omega); have z4 : w10.cell? ⟨w8.heap.size, 4, none⟩ = some (.slice none 0 0) := hB10.cell 4; have z4f : w10.frozen? ⟨w8.heap.size, 4, none⟩ = false := hB10.frozen 4; have HB10 := Lib.hid hB10; have HS6 := Lib.hid hs6; have HA6 := Lib.hid hA6; have HR10 := Lib.hid hR10; clear hs6 hA6 hR10 hk10 K9 hB10))
        have hz10 := K10.out.size
        have hz8 : w8.heap.size < w10.heap.size := by simp at hz10; omega
        have hA6 : ∀ x, A6 = some x → p < x.block ∧ w8.heap.size < x.block ∧ x.block < w10.heap.size := fun x hx => by
          have := HA6.out x hx
          simp at hz9
          omega
        have HA6b := Lib.hid hA6
        have hKs : Keeps (fun k => k = w8.heap.size) w10 (w10.setCell ⟨w8.heap.size, 4, none⟩ (.slice A6 b6.length c6)) := (Keeps.refl (fun k => k = w8.heap.size) w10).setCell (p := ⟨w8.heap.size, 4, none⟩) (fun _ => rfl) _
        have hK11 : Keeps (fun k => k = p) w8 (w10.setCell ⟨w8.heap.size, 4, none⟩ (.slice A6 b6.length c6)) :=
          ((Keeps.refl (fun k => k = p) w8).alloc _ |>.trans K10.out (fun _ h _ => h)).trans hKs (fun x hx hl => by omega)
        have HR11 := Lib.hid (HR10.out.keeps hKs (fun k hk => by omega))
        have HB11 := Lib.hid (show Blk (w10.setCell ⟨w8.heap.size, 4, none⟩ (.slice A6 b6.length c6)) w8.heap.size [.int .i64 n3, .int .i64 n4, .int .i64 (wrap64 n1), .int .i64 (wrap64 n2), .slice A6 b6.length c6] 27 from HB10.out.set 4 (.slice A6 b6.length c6))
        have HS11 := Lib.hid (show Fr.Rd (w10.setCell ⟨w8.heap.size, 4, none⟩ (.slice A6 b6.length c6)) ⟨n3, n4, wrap64 n1, wrap64 n2, A6, c6, b6⟩ from Fr.Rd.kept (f := ⟨n3, n4, wrap64 n1, wrap64 n2, A6, c6, b6⟩) HS6.out hKs (fun x hx h => by have := hA6 x hx; omega))
        have HO11 := Lib.hid (HO8.out.kept hK11 (fun k h0 h1 h2 => by have := h1.1.1; omega))
        have HFR11 := Lib.hid (show ∀ f ∈ lst, f.Rd (w10.setCell ⟨w8.heap.size, 4, none⟩ (.slice A6 b6.length c6)) ∧ f.Fit ∧ ∀ x, f.A = some x → p < x.block ∧ x.block < w8.heap.size from fun f hf => by
          obtain ⟨q1, q2, q3⟩ := HFR8.out f hf
          exact ⟨q1.kept hK11 (fun x hx h => by have := q3 x hx; omega), q2, q3⟩)
        have HK11 := Lib.hid (HK8.out.up hK11 (fun x hx => by have := HP.out; omega))
        have hz11 : (w10.setCell ⟨w8.heap.size, 4, none⟩ (.slice A6 b6.length c6)).heap.size = w10.heap.size := by simp [World.setCell]
        have HZ11 := Lib.hid hz11
        clear hz11
        clear HR10 HB10 HS6 HA6 HO8 HFR8 HK8 HR8 K10 hKs hK11 z4 z4f hA6 hz9 hz10 HB9
        generalize (w10.setCell ⟨w8.heap.size, 4, none⟩ (.slice A6 b6.length c6)) = w11 at *
        have hone := HCH.out.one hal
        have DE := rerr_ok HR11.out
        have H6 : 6 ≤ b.length ∧ a0 = 6 ∧ many = ofBE ((b.drop 4).take 2) := by
          rcases HC.out with ⟨-, h1, h2, h3⟩ | ⟨h, -⟩
          · exact ⟨h2, h1, h3⟩
          · cases h
        obtain ⟨h6, rfl, h6m⟩ := H6
        have H6m := Lib.hid h6m
        clear h6m
        rcases hone with ⟨rfl, hnone⟩ | ⟨rfl, hsome⟩
        · have HRI := Lib.hid (readI_none HM.out h6 H6m.out hlt HPar.out hnone)
          clear hnone
          go_wp2_with (go_at_call 27; refine DE.mono ?_; rintro e w' ⟨rfl, rfl⟩)
          go_ret2
          exact ⟨HK11.out, .inl ⟨2, HF.out.trans HRI.out, by decide, rfl⟩⟩
        · have HSome := Lib.hid hsome
          clear hsome
          go_upto_region 15 with (go_at_call 27; refine DE.mono ?_; rintro e w' ⟨rfl, rfl⟩)
          have x0 : w11.cell? ⟨w8.heap.size, 0, none⟩ = some (.int .i64 n3) := HB11.out.cell 0
          have x1 : w11.cell? ⟨w8.heap.size, 1, none⟩ = some (.int .i64 n4) := HB11.out.cell 1
          have x2 : w11.cell? ⟨w8.heap.size, 2, none⟩ = some (.int .i64 (wrap64 n1)) := HB11.out.cell 2
          have x3 : w11.cell? ⟨w8.heap.size, 3, none⟩ = some (.int .i64 (wrap64 n2)) := HB11.out.cell 3
          have x4 : w11.cell? ⟨w8.heap.size, 4, none⟩ = some (.slice A6 b6.length c6) := HB11.out.cell 4
          have hBn := Lib.hid (Blk.new w11 [.int .i64 n3, .int .i64 n4, .int .i64 (wrap64 n1), .int .i64 (wrap64 n2), .slice A6 b6.length c6] 27)
          have hl1 := HLen.out
          have hl2 : lst.length + 1 ≤ 65536 := by omega
          have HL1 := Lib.hid hl1
          clear hl1
          go_wp2_with (refine wpList_app rfl (.tmp 54) (.tmp 56) 22 rfl 27 i0 (.agg #[.int .i64 0, .int .i64 0, .int .i64 0, .int .i64 0, .slice none 0 0]) 5 56 Try.underlying22 hi0 hz0 hz1 hz2 rfl (by decide) (fun k => RF p lst k ∧ k < w8.heap.size) _ _ _ rfl (HO11.out.keeps ((Keeps.refl Nothing _).alloc _) (fun _ _ h => h)) ⟨w11.heap.size, 0, none⟩ 1 1 [.int .i64 n3, .int .i64 n4, .int .i64 (wrap64 n1), .int .i64 (wrap64 n2), .slice A6 b6.length c6] rfl rfl (news5 hBn.out rfl rfl) (fun u hu => fcells_one [⟨n3, n4, wrap64 n1, wrap64 n2, A6, c6, b6⟩] u (by simpa [fcells, Fr.cells] using hu)) (by decide) ?h63 ?hby ?_)
          case h63 => omega
          case hby => omega
          intro g12 cap12 w12 ho12 hk12
          have hz11 := HZ11.out
          have hKa := (Keeps.refl Nothing w11).alloc (.cells #[.int .i64 n3, .int .i64 n4, .int .i64 (wrap64 n1), .int .i64 (wrap64 n2), .slice A6 b6.length c6] 27)
          have hvb : ∀ k, u8.ownBlock = some k → RF p lst k ∧ k < w8.heap.size := fun k hk => HO11.out.2 k hk
          have HFR12 := Lib.hid (show ∀ f ∈ lst ++ [⟨n3, n4, wrap64 n1, wrap64 n2, A6, c6, b6⟩], f.Rd w12 ∧ f.Fit ∧ ∀ x, f.A = some x → p < x.block ∧ x.block < w12.heap.size from fun f hf => by
            have hsz := hk12.size
            simp at hsz
            rw [List.mem_append] at hf
            rcases hf with hf | hf
            · obtain ⟨q1, q2, q3⟩ := HFR11.out f hf
              refine ⟨(q1.kept hKa (fun _ _ h => h)).kept hk12 (fun x hx h => (hvb _ h).1.2 f hf x hx rfl), q2, fun x hx => by have := q3 x hx; omega⟩
            · simp at hf
              subst hf
              refine ⟨(Fr.Rd.kept HS11.out hKa (fun _ _ h => h)).kept hk12 (fun x hx h => by have := HA6b.out x hx; have := (hvb _ h).2; omega), ⟨by simp only; unfold wrap64; omega, by simp only; unfold wrap64; omega⟩, fun x hx => by have := HA6b.out x hx; omega⟩)
          have HR12 := Lib.hid ((HR11.out.same hKa).keeps hk12 (fun k hk => (hvb k hk).1.1))
          have HK12 := Lib.hid ((HK11.out.same hKa).up hk12 (fun x hx => by have := (hvb x hx).1.1; have := HP.out; omega))
          have HO13 := Lib.hid (show OwnS w12 (RF p (lst ++ [⟨n3, n4, wrap64 n1, wrap64 n2, A6, c6, b6⟩])) 27 5 (.slice (some ⟨g12, 0, none⟩) (lst.length + 1) cap12) (lst ++ [(⟨n3, n4, wrap64 n1, wrap64 n2, A6, c6, b6⟩ : Fr)]).length (fcells (lst ++ [⟨n3, n4, wrap64 n1, wrap64 n2, A6, c6, b6⟩])) from by
            rw [fcells_app, List.length_append]
            have h := ho12.mono (G := RF p (lst ++ [⟨n3, n4, wrap64 n1, wrap64 n2, A6, c6, b6⟩])) (fun k hk => by
              rcases hk with ⟨hk1, hk2⟩ | hk
              · refine ⟨hk1.1, fun f hf x hx => ?_⟩
                rw [List.mem_append] at hf
                rcases hf with hf | hf
                · exact hk1.2 f hf x hx
                · simp at hf
                  subst hf
                  have := HA6b.out x hx
                  omega
              · refine ⟨by omega, fun f hf x hx => ?_⟩
                rw [List.mem_append] at hf
                rcases hf with hf | hf
                · have := (HFR11.out f hf).2.2 x hx
                  omega
                · simp at hf
                  subst hf
                  have := HA6b.out x hx
                  omega)
            simpa [fcells, Fr.cells] using h)
          clear ho12 hk12 hKa hvb hz11
          go_wp2_with fail
          go_roundg (gk - 1)
          case measure => omega
          case rel =>
            refine ⟨j + 1, a6, lst ++ [⟨n3, n4, wrap64 n1, wrap64 n2, A6, c6, b6⟩], by omega, by go_num, ?_, by rw [List.length_append, HL1.out]; rfl, HR12.out, HO13.out, HFR12.out, HK12.out⟩
            rw [manyR, HPar.out]
            simp only [HSome.out, List.map_append, List.map_cons, List.map_nil]
            rfl
      · obtain rfl : j = many := by omega
        have DE := rerr_ok HRr.out
        have hal : a ≤ b.length := by obtain ⟨_, _, -, -, -, -, h⟩ := HRr.out; exact h
        rcases HC.out with ⟨rfl, rfl, h6, h6m⟩ | ⟨rfl, rfl, h6⟩
        · have hri := readI_some HM.out h6 h6m HPar.out
          have hl5 : lst.length ≤ 65535 := by
            rw [HLen.out, h6m]
            have := ofBE_take_lt (b.drop 4) 2
            omega
          have HRI := Lib.hid hri
          have DL := rleft_ok HRr.out hlb
          clear hri h6m
          by_cases hleft : a = b.length
          · subst hleft
            rw [if_neg (by simp)] at HRI
            rw [Nat.sub_self] at DL
            obtain ⟨A7, c7, rfl, hfrs⟩ := FrsR.ofS HO.out (fun f hf => (HFR.out f hf).1)
            have HFit := Lib.hid (fun f hf => (HFR.out f hf).2.1)
            have HCK := Lib.hid (checkK_eq hl5)
            have DC := fun (v : World) (hv : Keeps Nothing wr v) (r : Int) (hr : r = checkR lst) => check_ok (hfrs.same hv) (by omega) r hr
            have HFRS := Lib.hid hfrs
            clear HO HFR hfrs
            by_cases hck : checkK (lst.map Fr.key) = 0
            · have h0 : (0 : Int) = checkR lst := by rw [HCK.out, hck]; rfl
              rw [if_neg (by simp [hck])] at HRI
              have DC0 := fun (v : World) (hv : Keeps Nothing wr v) => DC v hv 0 h0
              clear h0 hck DC
              go_wp2_with (first | (go_at_call 27; refine DE.mono ?_; rintro e w' ⟨rfl, rfl⟩) | (go_at_call 28; refine DL.mono ?_; clear DL; rintro e w21 ⟨rfl, hk21⟩) | (go_at_call 12; refine (DC0 _ hk21).mono ?_; clear DC0; rintro e w22 ⟨rfl, hk22⟩))
              go_ret2
              exact ⟨(HK.out.same hk21).same hk22, .inr ⟨lst, A7, c7, HF.out.trans HRI.out, rfl, (HFRS.out.same hk21).same hk22, HFit.out, hl5⟩⟩
            · have h1 : checkK (lst.map Fr.key) = 1 := by
                unfold checkK at hck ⊢
                split at hck
                · exact absurd rfl hck
                · rw [if_neg (by assumption)]
              have h0 : (1 : Int) = checkR lst := by rw [HCK.out, h1]; rfl
              rw [if_pos hck, h1] at HRI
              have DC0 := fun (v : World) (hv : Keeps Nothing wr v) => DC v hv 1 h0
              clear h0 hck h1 DC
              go_wp2_with (first | (go_at_call 27; refine DE.mono ?_; rintro e w' ⟨rfl, rfl⟩) | (go_at_call 28; refine DL.mono ?_; clear DL; rintro e w21 ⟨rfl, hk21⟩) | (go_at_call 12; refine (DC0 _ hk21).mono ?_; clear DC0; rintro e w22 ⟨rfl, hk22⟩))
              go_ret2
              exact ⟨(HK.out.same hk21).same hk22, .inl ⟨1, HF.out.trans HRI.out, by decide, rfl⟩⟩
          · rw [if_pos hleft] at HRI
            have hb1 : ((((b.length - a : Nat)) : Int) != 0) = true := by simp; omega
            generalize b.length - a = d at *
            clear hleft
            go_wp2_with (first | (go_at_call 27; refine DE.mono ?_; rintro e w' ⟨rfl, rfl⟩) | (go_at_call 28; refine DL.mono ?_; clear DL; rintro e w21 ⟨rfl, hk21⟩))
            go_ret2
            exact ⟨HK.out.same hk21, .inl ⟨3, HF.out.trans HRI.out, by decide, rfl⟩⟩
        · have HRI := Lib.hid (readI_short HM.out h6)
          go_wp2_with (go_at_call 27; refine DE.mono ?_; rintro e w' ⟨rfl, rfl⟩)
          go_ret2
          exact ⟨HK.out, .inl ⟨2, HF.out.trans HRI.out, by decide, rfl⟩⟩
  · obtain ⟨l4, a4, e4, ht⟩ : ∃ l4 a4 e4, takeR b 0 0 4 = (l4, a4, e4) := ⟨_, _, _, rfl⟩
    have hne : (l4 == ([66, 71, 67, 49] : Bytes)) = false := by
      have : l4 ≠ magicB := by
        unfold takeR at ht
        rw [if_neg (by simp)] at ht
        split at ht
        · injection ht with ht
          subst ht
          simp [magicB]
        · injection ht with ht
          subst ht
          simpa using hmg
      simpa [magicB] using this
    have HRI := Lib.hid (readI_magic hmg)
    have D := rtake_ok hR2 hlb 4 (by omega) _ ht
    clear hR2 ht hmg
    go_wp2_with (go_at_call 25; refine D.mono ?_; clear D; rintro e w3 ⟨A3, c3, rfl, hs3, -, hR3, hk3⟩; have kc := conv_str (P := Try.prog) (src := 25) (e := 5) (dst := 9) Try.underlying25 Try.underlying5 Try.underlying9 hs3; have HK3 := Lib.hid (HK2.out.up hk3 (fun x hx => by have := HP.out; omega)); clear hk3 hs3)
    go_ret2
    exact ⟨HK3.out, .inl ⟨11, HF.out.trans HRI.out, by decide, rfl⟩⟩

theorem read_ok {w : World} {A : Option Addr} {c : Nat} {bs : Bytes} (hs : SlR w (.slice A bs.length c) (bcells bs)) (hl : bs.length ≤ 100000000) :
    Calls Try.prog 13 #[.slice A bs.length c] w (ReadRes w bs) := by
  by_cases h : openB bs = 0
  · exact read_in hs hl h
  · exact read_bad hs hl h

end Go.Proofs.Ytmmeloklnkfjjaa
