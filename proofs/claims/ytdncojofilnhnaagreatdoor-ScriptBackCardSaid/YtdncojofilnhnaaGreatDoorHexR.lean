/- script.hex: the walk. -/
import Derived.Test.YtdncojofilnhnaaGreatDoorHexI
import Derived.Test.YtdncojofilnhnaaGreatDoorMacW
import Derived.Test.YtdncojofilnhnaaGreatDoorGl
import Derived.Laws.MakeOwn
import Derived.Laws.OwnMore
import Derived.Laws.RangeAny
namespace Go.Proofs.YtdncojofilnhnaaGreatDoor
open Go.RowKit Go.Lib

/-- What is read as far as a place. -/
def HexInv (s : Str) (pos : Nat) (out : Str) : Prop :=
  (pos % 2 = 0 ∧ unhex s = (unhex (s.drop pos)).map (out ++ ·)) ∨
  (pos % 2 = 1 ∧ ∃ o x, out = o ++ [UInt8.ofNat (x * 16)] ∧ x < 16 ∧ unhex s = (un2 x (s.drop pos)).map (o ++ ·))

theorem hexInv_start (s : Str) : HexInv s 0 [] := .inl ⟨rfl, by simp⟩

theorem drop_at {s : Str} {pos : Nat} {c : UInt8} (h : s[pos]? = some c) : s.drop pos = c :: s.drop (pos + 1) := by
  obtain ⟨hl, rfl⟩ := List.getElem?_eq_some_iff.1 h
  exact List.drop_eq_getElem_cons hl

theorem hexInv_none {s : Str} {pos : Nat} {out : Str} {c : UInt8} (h : HexInv s pos out) (hc : s[pos]? = some c) (hd : hexDig c = none) : unhex s = none := by
  rcases h with ⟨-, h⟩ | ⟨-, o, x, -, -, h⟩
  · rw [h, drop_at hc, unhex_cons, hd]; rfl
  · rw [h, drop_at hc, un2, hd]; rfl

theorem hexInv_even {s : Str} {pos : Nat} {out : Str} {c : UInt8} {x : Nat} (h : HexInv s pos out) (hp : pos % 2 = 0) (hc : s[pos]? = some c) (hd : hexDig c = some x) : HexInv s (pos + 1) (out ++ [UInt8.ofNat (x * 16)]) := by
  rcases h with ⟨-, h⟩ | ⟨h1, -⟩
  · refine .inr ⟨by omega, out, x, rfl, dig_lt hd, ?_⟩
    rw [h, drop_at hc, unhex_cons, hd]
  · omega

theorem hexInv_odd {s : Str} {pos : Nat} {out : Str} {c : UInt8} {y : Nat} (h : HexInv s pos out) (hp : pos % 2 = 1) (hc : s[pos]? = some c) (hd : hexDig c = some y) :
    ∃ o x, out = o ++ [UInt8.ofNat (x * 16)] ∧ x < 16 ∧ HexInv s (pos + 1) (o ++ [UInt8.ofNat (x * 16 + y)]) := by
  rcases h with ⟨h1, -⟩ | ⟨-, o, x, ho, hx, h⟩
  · omega
  · refine ⟨o, x, ho, hx, .inl ⟨by omega, ?_⟩⟩
    rw [h, drop_at hc, un2, hd]
    cases unhex (s.drop (pos + 1)) <;> simp

theorem hexInv_end {s : Str} {out : Str} (h : HexInv s s.length out) (he : s.length % 2 = 0) : unhex s = some out := by
  rcases h with ⟨-, h⟩ | ⟨h1, -⟩
  · rw [h, List.drop_length]; simp [unhex]
  · omega

/-- What hex comes to. -/
def UnhexIs (s : Str) (B : Nat) (ev : Ending) (w' : World) : Prop := match unhex s with
  | some b => ∃ v, ev = .returned (.tuple #[v, .bool true]) ∧ OwnF w' (fun k => B ≤ k) 5 v (bcells b)
  | none => ev = .returned (.tuple #[.slice none 0 0, .bool false])

theorem own_not_iter {w : World} {F : Nat → Prop} {T : TypeId} {v : Value} {xs : List Value} (h : OwnF w F T v xs) {k p : Nat} {s : ByteArray} (hk : w.heap[k]? = some (.stringIter s p)) : v.ownBlock ≠ some k := by
  rcases h.blk with ⟨rfl, -⟩ | ⟨g, cap, cur, rfl, -, hb, -⟩
  · simp [Value.ownBlock]
  · intro e
    simp [Value.ownBlock] at e
    subst e
    have := (show w.heap[g]? = _ from hb).symm.trans hk
    simp at this

theorem keeps_iterAt {F : Nat → Prop} {a w : World} (h : Keeps F a w) {k : Nat} (hk : a.heap.size ≤ k) (s : ByteArray) (p : Nat) : Keeps F a (w.iterAt k s p) :=
  h.trans (G := fun x => x = k) ⟨rfl, rfl, rfl, by rw [Lib.iterAt_size]; exact Nat.le_refl _, fun i hi hn => Lib.iterAt_other w k i s p hn⟩ (fun x hx hl => by omega)

theorem ownF_iterAt {w : World} {F : Nat → Prop} {T : TypeId} {v : Value} {xs : List Value} (h : OwnF w F T v xs) {k p : Nat} {s : ByteArray} (hk : w.heap[k]? = some (.stringIter s p)) (p' : Nat) : OwnF (w.iterAt k s p') F T v xs :=
  ⟨ownsRow_keeps (F := fun x => x = k) h.1 ⟨rfl, rfl, rfl, by rw [Lib.iterAt_size]; exact Nat.le_refl _, fun i hi hn => Lib.iterAt_other w k i s p' hn⟩ (fun g hg e => own_not_iter h hk (by rw [hg, e])), h.2⟩

theorem at_byte {t : ByteArray} {s : Str} (hbs : t.data.toList = s) (pos : Nat) (hp : pos < t.size) : s[pos]? = some (t[pos]'hp) := by
  subst hbs
  rw [List.getElem?_eq_getElem (by simpa using hp)]
  simp
  rfl

theorem dig_ok {c : UInt8} (hc : c.toNat < 128) (w : World) : Calls Tryz.prog 109 #[.string ⟨#[48, 49, 50, 51, 52, 53, 54, 55, 56, 57, 97, 98, 99, 100, 101, 102]⟩, .int .i32 (c.toNat : Nat)] w fun e w' => e = .returned (.int .i64 (match hexDig c with | some x => (x : Int) | none => -1)) ∧ w' = w := by
  have := Tryz.strings_IndexRune_ascii digS (c.toNat : Nat) w (by omega) (by omega)
  have e : digS.data.toList = digitsL := by rfl
  have e2 : ((c.toNat : Nat) : Int).toNat.toUInt8 = c := by simp
  rw [e, e2, dig_is hc] at this
  exact this

set_option maxRecDepth 100000 in
set_option maxHeartbeats 8000000 in
theorem unhex_ok (s : Str) (hs : s.length ≤ 140737488355328) (w : World) :
    Calls Tryz.prog 85 #[strV s] w fun ev w' => UnhexIs s w.heap.size ev w' ∧ Keeps Nothing w w' := by
  obtain ⟨i0, hi0, hz0, hz1, hz2⟩ := info_parts info5
  by_cases hev : s.length % 2 = 0
  · obtain ⟨m, hm⟩ : ∃ m, m = s.length / 2 := ⟨_, rfl⟩
    obtain ⟨w1, hmk, hown1, hgr1⟩ := run_make_own (P := Tryz.prog) w w.heap.size 71 5 i0 (.int .u8 0) 1 Tryz.underlying71 hi0 hz0 hz1   .i64 .i64 m (by rw [hz2]; omega) (by unfold maxLen; omega) (Nat.le_refl _)
    obtain ⟨t, ht⟩ : ∃ t : ByteArray, t = ⟨s.toArray⟩ := ⟨_, rfl⟩
    have hbs : t.data.toList = s := by rw [ht]
    have hsz : t.size = s.length := by rw [ht, str_size]
    show Calls Tryz.prog 85 #[.string ⟨s.toArray⟩] w _
    rw [← ht]
    have hlen : (t.size : Int) = s.length := by omega
    have hq : ((s.length : Int) / 2) = (m : Int) := by omega
    have hr2 : ((s.length : Int) % 2) = 0 := by omega
    rw [← hq] at hmk
    have HM := Lib.hid hm
    have HEV := Lib.hid hev
    have HBS := Lib.hid hbs
    have HO1 := Lib.hid (ownF_of_row hown1)
    have K1 := Lib.hid ((Keeps.refl Nothing w).grown hgr1 (fun k hk => by simp at hk))
    clear hm hev hq hbs hown1 hgr1 ht
    go_enter Tryz.func85, Tryz.ntmps85
    go_wp2
    clear hr2
    go_loopw [4] (fun v wr => ∃ (pos : Nat) (out : Str), wr.heap[w1.heap.size]? = some (.stringIter t pos) ∧ Hid (OwnF wr (fun k => w.heap.size ≤ k) 5 v (bcells out)) ∧ Hid (Keeps Nothing w wr) ∧ Hid (HexInv s pos out ∧ out.length ≤ pos ∧ pos ≤ s.length)) (fun _ wr => t.size - wr.iterPos w1.heap.size)
    case atStart => exact ⟨0, [], World.iter_heap w1 t 0, HO1.out.keeps ((Keeps.refl Nothing w1).alloc _) (fun _ _ h => h), K1.out.alloc _, hexInv_start s, Nat.le_refl _, Nat.zero_le _⟩
    case round =>
      obtain ⟨pos, out, hit, HO, HK, HI⟩ := hrel
      have hpos0 := iterPos_of hit
      have hKI : w.heap.size ≤ w1.heap.size := K1.out.size
      by_cases hp : pos < t.size
      · have hat := at_byte HBS.out pos hp
        have HO2 := fun p' => Lib.hid (ownF_iterAt HO.out hit p')
        have HK2 := fun p' => Lib.hid (keeps_iterAt HK.out hKI t p')
        have hit2 := fun p' => Lib.iterAt_heap wr w1.heap.size t pos p' hit
        by_cases ha : (t[pos]'hp).toNat < 128
        · have hnx : ∀ ty, (Instr.next (.pointer (some ⟨w1.heap.size, 0, none⟩)) true ty).run Tryz.prog wr = _ := fun ty => Lib.run_next_ascii_at wr w1.heap.size t pos ty hit hp ha
          have HO3 := HO2 (pos + 1)
          have HK3 := HK2 (pos + 1)
          have hit3 := hit2 (pos + 1)
          obtain ⟨W2, hW2⟩ : ∃ W2, W2 = wr.iterAt w1.heap.size t (pos + 1) := ⟨_, rfl⟩
          rw [← hW2] at hnx HO3 HK3 hit3
          clear hW2 HO2 HK2 hit2 HO HK hit HO1
          have HDG := fun w => Lib.hid (dig_ok ha w)
          have HAT := Lib.hid hat
          clear hat
          generalize (t[pos]'hp) = c at *
          cases hd : hexDig c with
          | none =>
            have HN := Lib.hid (hexInv_none HI.out.1 HAT.out hd)
            have HDN : ∀ w, Hid (Calls Tryz.prog 109 #[.string ⟨#[48, 49, 50, 51, 52, 53, 54, 55, 56, 57, 97, 98, 99, 100, 101, 102]⟩, .int .i32 (c.toNat : Nat)] w fun e w' => e = .returned (.int .i64 (-1)) ∧ w' = w) := fun w => by have := (HDG w).out; rw [hd] at this; exact this
            clear HDG hd
            go_wp2_with (go_at_call 109; refine ((HDN _).out).mono ?_; rintro e w3 ⟨rfl, rfl⟩)
            go_ret2
            refine ⟨?_, HK3.out⟩
            unfold UnhexIs
            rw [HN.out]
            rfl
          | some x =>
            have hx := dig_lt hd
            have HDN : ∀ w, Hid (Calls Tryz.prog 109 #[.string ⟨#[48, 49, 50, 51, 52, 53, 54, 55, 56, 57, 97, 98, 99, 100, 101, 102]⟩, .int .i32 (c.toNat : Nat)] w fun e w' => e = .returned (.int .i64 (x : Nat)) ∧ w' = w) := fun w => by have := (HDG w).out; rw [hd] at this; exact this
            have HD := Lib.hid hd
            clear HDG hd
            by_cases hpar : pos % 2 = 0
            · have hpi : ((pos : Int) % 2) = 0 := by omega
              obtain ⟨A0, c0, hv⟩ := HO3.out.lenG
              rw [bcells_length] at hv
              subst hv
              have HOS : ∀ o, OwnS (W2.alloc o) (fun k => w.heap.size ≤ k) 5 1 (.slice A0 out.length c0) out.length (bcells out) := fun o => by
                have := (HO3.out.keeps ((Keeps.refl Nothing W2).alloc o) (fun _ _ h => h)).toS
                rw [bcells_length] at this
                exact this
              have HNI := Lib.hid (own_not_iter HO3.out hit3)
              have HBL := Lib.hid HO3.out.2
              have HBE : Hid (bcells (out ++ [UInt8.ofNat (x * 16)]) = bcells out ++ [.int .u8 ((x : Int) * 16)]) := by
                show bcells (out ++ [UInt8.ofNat (x * 16)]) = _
                simp [bcells]
                omega
              have HIN := Lib.hid (hexInv_even HI.out.1 hpar HAT.out HD.out)
              have HLT := Lib.hid (lt_of_block hit3)
              have HIT := Lib.hid hit3
              obtain ⟨-, hol, -⟩ := HI.out
              clear HI HO3 hit3 HAT HD
              go_wp2_with (first | (go_at_call 109; refine ((HDN _).out).mono ?_; rintro e w3 ⟨rfl, rfl⟩) | (at_builtin; refine wpList_app rfl (.tmp 41) (.tmp 45) 71 rfl 5 i0 (.int .u8 0) 1 1 Tryz.underlying71 hi0 hz0 hz1 hz2 rfl (by decide) (fun k => w.heap.size ≤ k) (.slice A0 out.length c0) _ _ rfl (HOS _) ⟨w3.heap.size, 0, none⟩ 1 1 [.int .u8 ((x : Int) * 16)] rfl rfl (lit1 w3 _ 5) (fun u hu => by simp at hu; subst hu; rfl) (by decide) (by omega) (by omega) ?_; intro g cap w4 hO4 hk4; have HO4 := Lib.hid hO4; have HK4 := Lib.hid hk4; clear hO4 hk4))
              go_roundw
              case rel =>
                refine ⟨pos + 1, out ++ [UInt8.ofNat (x * 16)], ?_, ?_, ?_, HIN.out, by simp; omega, by omega⟩
                · rw [HK4.out.block w1.heap.size (by simp; have := HLT.out; omega) HNI.out, Below.heap_alloc _ _ _ HLT.out]
                  exact HIT.out
                · show OwnF _ _ 5 _ _
                  have := HO4.out.toF
                  rw [HBE.out]
                  refine this.mono (fun k hk => ?_)
                  have h1 := HK3.out.size
                  rcases hk with hk | hk
                  · exact hk
                  · simp at hk; omega
                · exact (HK3.out.alloc _).up HK4.out (fun k hk => HBL.out k hk)
              case measure =>
                rw [hpos0, iterPos_of (p := pos + 1) (s := t)]
                · omega
                · rw [HK4.out.block w1.heap.size (by simp; have := HLT.out; omega) HNI.out, Below.heap_alloc _ _ _ HLT.out]
                  exact HIT.out
            · have hpi : ((pos : Int) % 2) = 1 := by omega
              obtain ⟨o, x0, ho, hx0, hI2⟩ := hexInv_odd HI.out.1 (by omega) HAT.out HD.out
              obtain ⟨-, hol, -⟩ := HI.out
              subst ho
              rcases HO3.out.blk with ⟨-, hn⟩ | ⟨g, cap, cur, hv, hF, hB, hc, hm', hcl, hct⟩
              · simp [bcells] at hn
              · have hbl : (bcells (o ++ [UInt8.ofNat (x0 * 16)])).length = o.length + 1 := by simp
                rw [hbl] at hv hc
                subst hv
                have hcell : W2.cell? ⟨g, o.length, none⟩ = some (.int .u8 ((x0 * 16 : Nat) : Int)) := by
                  rw [hB.cell]
                  have e : (cur.take (bcells (o ++ [UInt8.ofNat (x0 * 16)])).length)[o.length]? = some (.int .u8 ((x0 * 16 : Nat) : Int)) := by
                    rw [hct]
                    simp [bcells]
                    omega
                  rw [hbl, List.getElem?_take, if_pos (by omega)] at e
                  exact e
                have hfr := hB.frozen o.length
                have hor : bits .or .u8 ((x0 : Int) * 16) (x : Int) = ((x0 * 16 + x : Nat) : Int) := or_nibble ⟨x0, hx0⟩ ⟨x, hx⟩
                have hw64 : wrap64 (o.length : Int) = (o.length : Int) := by unfold wrap64; simp [List.length_append] at hol; omega
                have HNI := Lib.hid (own_not_iter HO3.out hit3)
                have HOW : ∀ u, u = Value.int .u8 ((x0 * 16 + x : Nat) : Int) → Hid (OwnF (W2.setCell ⟨g, o.length, none⟩ u) (fun k => w.heap.size ≤ k) 5 (.slice (some ⟨g, 0, none⟩) (o.length + 1) cap) (bcells (o ++ [UInt8.ofNat (x0 * 16 + x)]))) := fun u hu => by
                  have hl : (bcells (o ++ [UInt8.ofNat (x0 * 16 + x)])).length = o.length + 1 := by simp
                  have := OwnF.mk (xs := bcells (o ++ [UInt8.ofNat (x0 * 16 + x)])) (cap := cap) hF (hB.set o.length u) (by rw [hl]; exact hc) hm' (by simpa using hcl) (by
                    rw [hl, List.take_set, ← hbl, hct, hu]
                    have e : bcells (o ++ [UInt8.ofNat (x0 * 16)]) = bcells o ++ [.int .u8 ((x0 * 16 : Nat) : Int)] := by simp [bcells]; omega
                    have e2 : bcells (o ++ [UInt8.ofNat (x0 * 16 + x)]) = bcells o ++ [.int .u8 ((x0 * 16 + x : Nat) : Int)] := by simp [bcells]; omega
                    have e3 : o.length = (bcells o).length := by simp
                    rw [e, e2, e3]
                    simp)
                  rw [hl] at this
                  exact this
                have HFg := Lib.hid hF
                have HIT := Lib.hid hit3
                have hol2 : o.length + 1 ≤ pos := by simpa using hol
                have HI2 := Lib.hid hI2
                clear hc hm' hcl hct hbl HO3 hit3 hI2 hF hB HI HAT HD hol
                go_wp2_with (first | (go_at_call 109; refine ((HDN _).out).mono ?_; rintro e w3 ⟨rfl, rfl⟩))
                go_roundw
                case rel =>
                  refine ⟨pos + 1, o ++ [UInt8.ofNat (x0 * 16 + x)], ?_, HOW _ (by simp), ?_, HI2.out, by simp; omega, by omega⟩
                  · rw [heap_setCell_other w3 ⟨g, o.length, none⟩ w1.heap.size _ (fun e => HNI.out (by simp [Value.ownBlock, e]))]
                    exact HIT.out
                  · exact HK3.out.setCell (fun h => absurd HFg.out (by show ¬ w.heap.size ≤ g; exact Nat.not_le.2 h)) _
                case measure =>
                  rw [hpos0, iterPos_of (p := pos + 1) (s := t)]
                  · omega
                  · rw [heap_setCell_other w3 ⟨g, o.length, none⟩ w1.heap.size _ (fun e => HNI.out (by simp [Value.ownBlock, e]))]
                    exact HIT.out
        · have hnx : ∀ ty, (Instr.next (.pointer (some ⟨w1.heap.size, 0, none⟩)) true ty).run Tryz.prog wr = _ := fun ty => Lib.run_next_any_at wr w1.heap.size t pos ty hit hp
          have HN := Lib.hid (hexInv_none HI.out.1 hat (dig_high (by omega)))
          have hhi := (decode_high t pos hp (by omega)).1
          have hle := decode_le t pos
          have HK3 := HK2 (pos + (Utf8.decode t pos).2)
          obtain ⟨W2, hW2⟩ : ∃ W2, W2 = wr.iterAt w1.heap.size t (pos + (Utf8.decode t pos).2) := ⟨_, rfl⟩
          rw [← hW2] at hnx HK3
          clear hW2 HO2 HK2 hit2 HO HK hit HO1 hat
          generalize (Utf8.decode t pos).1 = d at *
          have HDN := fun w => Lib.hid (index_high (d : Int) (by omega) (by omega) w)
          go_wp2_with (go_at_call 109; refine ((HDN _).out).mono ?_; rintro e w3 ⟨rfl, k3⟩; have K3 := Lib.hid (HK3.out.same k3); clear k3)
          go_ret2
          refine ⟨?_, K3.out⟩
          unfold UnhexIs
          rw [HN.out]
          rfl
      · have hnx : ∀ ty, (Instr.next (.pointer (some ⟨w1.heap.size, 0, none⟩)) true ty).run Tryz.prog wr = _ := fun ty => Lib.run_next_end_at wr w1.heap.size t pos ty hit hp
        have HN : Hid (unhex s = some out) := by
          obtain ⟨h1, h2, h3⟩ := HI.out
          have : pos = s.length := by omega
          subst this
          exact hexInv_end h1 HEV.out
        go_wp2
        go_ret2
        refine ⟨?_, HK.out⟩
        unfold UnhexIs
        rw [HN.out]
        exact ⟨_, rfl, HO.out⟩
  · have hn : unhex s = none := unhex_odd s hev
    have HN := Lib.hid hn
    have hr2 : ((s.length : Int) % 2 != 0) = true := by simp; omega
    have hr3 : ¬ ((s.length : Int) % 2 = 0) := by omega
    clear hn
    go_enter Tryz.func85, Tryz.ntmps85
    go_wp2
    go_ret2
    refine ⟨?_, Keeps.refl _ _⟩
    unfold UnhexIs
    rw [HN.out]
    rfl
end Go.Proofs.YtdncojofilnhnaaGreatDoor
