/- A list of its own; and its start. -/
import Derived.Test.YtpgmkekdgchkfaaGate2
namespace Go.Proofs.Ytpgmkekdgchkfaa
open Go.RowKit

def ecells (es : List Ent) : List Value := (es.map fun e => [Value.int .i64 e.opn, Value.int .i64 e.nanos]).flatten

theorem ecells_len (es : List Ent) : (ecells es).length = es.length * 2 := by
  induction es with
  | nil => rfl
  | cons e es ih =>
    have : ecells (e :: es) = [Value.int .i64 e.opn, Value.int .i64 e.nanos] ++ ecells es := rfl
    rw [this, List.length_append, ih]
    simp
    omega

theorem ecells_get : ∀ (es : List Ent) (j : Nat) (e : Ent), es[j]? = some e → (ecells es)[j * 2]? = some (.int .i64 e.opn) ∧ (ecells es)[j * 2 + 1]? = some (.int .i64 e.nanos)
  | [], j, e, h => by simp at h
  | x :: es, 0, e, h => by
    simp at h
    subst h
    exact ⟨rfl, rfl⟩
  | x :: es, j + 1, e, h => by
    have := ecells_get es j e (by simpa using h)
    have h2 : ecells (x :: es) = Value.int .i64 x.opn :: Value.int .i64 x.nanos :: ecells es := rfl
    rw [h2]
    have e1 : (j + 1) * 2 = (j * 2) + 1 + 1 := by omega
    rw [e1]
    exact this

theorem ecells_one (es : List Ent) : ∀ u ∈ ecells es, u.oneCell' = true := by
  intro u hu
  simp only [ecells, List.mem_flatten, List.mem_map] at hu
  obtain ⟨l, ⟨e, _, rfl⟩, hu⟩ := hu
  simp at hu
  rcases hu with rfl | rfl <;> rfl

theorem EntsR.news {w : World} {A : Option Addr} {c : Nat} {es : List Ent} (h : EntsR w A c es) (h0 : 0 < es.length) : ∃ b o, A = some ⟨b, o, none⟩ ∧ es.length ≤ c ∧ ∀ (j : Nat) (u : Value), (ecells es)[j]? = some u → w.cell? ((⟨b, o, none⟩ : Addr).add j) = some u := by
  rcases h with h | ⟨b, o, h1, h2, h3⟩
  · rw [h] at h0; simp at h0
  · refine ⟨b, o, h1, h2, fun j u hj => ?_⟩
    have hl := (List.getElem?_eq_some_iff.1 hj).1
    rw [ecells_len] at hl
    obtain ⟨e, he⟩ : ∃ e, es[j / 2]? = some e := ⟨_, List.getElem?_eq_getElem (by omega)⟩
    obtain ⟨c1, c2⟩ := h3 _ e he
    obtain ⟨d1, d2⟩ := ecells_get es _ e he
    rw [Addr.add_lit]
    by_cases hp : j % 2 = 0
    · have e1 : j = j / 2 * 2 := by omega
      rw [← e1] at c1 d1
      rw [d1] at hj
      injection hj with hj
      rw [c1, hj]
    · have e1 : j = j / 2 * 2 + 1 := by omega
      rw [Nat.add_assoc] at c2
      rw [← e1] at c2 d2
      rw [d2] at hj
      injection hj with hj
      rw [c2, hj]

theorem EntsR.ofS {w : World} {F : Nat → Prop} {g cap n : Nat} {es : List Ent} (h : OwnS w F 104 2 (.slice (some ⟨g, 0, none⟩) n cap) n (ecells es)) (hn : n = es.length) : EntsR w (some ⟨g, 0, none⟩) cap es := by
  rcases h.1.2 with ⟨hv, -⟩ | ⟨g', cap', cur, hv, -, hh, hc, -, -, ht⟩
  · cases hv
  · injection hv with h1 h2 h3
    injection h1 with h1
    injection h1 with h1
    subst h1 h3
    refine .inr ⟨g, 0, rfl, by omega, fun j e he => ?_⟩
    obtain ⟨d1, d2⟩ := ecells_get es j e he
    have hc2 : ∀ i u, (ecells es)[i]? = some u → w.cell? ⟨g, i, none⟩ = some u := fun i u hi => by
      rw [← ht, List.getElem?_take] at hi
      split at hi
      · simpa [World.cell?, hh] using hi
      · cases hi
    exact ⟨by simpa using hc2 _ _ d1, by simpa using hc2 _ _ d2⟩

def Cloned (w : World) (es : List Ent) (e : Ending) (w' : World) : Prop :=
  ∃ g cap, e = .returned (.slice (some ⟨g, 0, none⟩) es.length cap) ∧ w.heap.size ≤ g ∧ EntsR w' (some ⟨g, 0, none⟩) cap es ∧ Keeps Nothing w w'

theorem own_none (w : World) (h : Nat) (hb : Blk w h [] 104) (F : Nat → Prop) (hF : F h) : OwnS w F 104 2 (.slice (some ⟨h, 0, none⟩) 0 0) 0 [] :=
  ⟨⟨by simp, .inr ⟨h, 0, #[], rfl, Nat.zero_le _, hb, by omega, by unfold maxLen; omega, by simp, by simp⟩⟩, fun g hg => by simp [Value.ownBlock] at hg; subst hg; exact hF⟩

set_option maxRecDepth 100000 in
theorem sclone_ok {w : World} {A : Option Addr} {c : Nat} {es : List Ent} (hr : EntsR w A c es) (h0 : 0 < es.length) (hn : es.length ≤ 64) :
    Calls Try.prog 78 #[.slice A es.length c] w (Cloned w es) := by
  obtain ⟨i0, hi0, hz0, hz1, hz2⟩ := info_parts (P := Try.prog) (e := 104) (z := .agg #[.int .i64 0, .int .i64 0]) (size := 2) (bytes := 16) (by kernel_rfl)
  obtain ⟨b, o, rfl, hcap, hnews⟩ := hr.news h0
  have HN := Lib.hid hnews
  have h1c := Lib.hid (ecells_one es)
  have hnb := Lib.hid (ecells_len es)
  clear hr hnews
  have hq : ∀ w : World, (binOp .eql 70 (.slice (some ⟨b, o, none⟩) es.length c) (.slice none 0 0)).run Try.prog w = .ok (.bool false) w := fun _ => rfl
  go_enter Try.func78, Try.ntmps78
  go_wp2_with (at_builtin; refine wpList_app rfl (.tmp 5) (.tmp 6) 70 rfl 104 i0 (.agg #[.int .i64 0, .int .i64 0]) 2 16 Try.underlying70 hi0 hz0 hz1 hz2 rfl (by decide) (fun k => w.heap.size ≤ k) (.slice (some ⟨w.heap.size, 0, none⟩) 0 0) 0 [] rfl (own_none _ _ (Blk.new w [] 104) _ (Nat.le_refl _)) ⟨b, o, none⟩ es.length c (ecells es) rfl hnb.out (news_keeps HN.out ((Keeps.refl _ _).alloc _)) h1c.out h0 ?h63 ?hby ?_)
  case h63 => omega
  case hby => omega
  intro g2 cap2 w3 ho3 hk3
  have HO3 := Lib.hid ho3
  clear ho3
  go_wp2_with fail
  go_ret
  refine ⟨g2, cap2, by simp, ?_, EntsR.ofS (by simpa using HO3.out) rfl, ((Keeps.refl _ _).alloc _).trans hk3 (fun k hk hl => by simp [Value.ownBlock] at hk; omega)⟩
  have := HO3.out.2 g2 rfl
  simp at this
  omega

def ClonedL (w : World) (base cyc ext : Int) (es : List Ent) (e : Ending) (w' : World) : Prop :=
  ∃ g cap, e = .returned (.agg #[.int .i64 base, .int .i64 cyc, .int .i64 ext, .slice (some ⟨g, 0, none⟩) es.length cap]) ∧ w.heap.size ≤ g ∧ EntsR w' (some ⟨g, 0, none⟩) cap es ∧ Keeps Nothing w w'

set_option maxRecDepth 100000 in
set_option maxHeartbeats 2000000 in
theorem clone_ok {w : World} {base cyc ext : Int} {A : Option Addr} {c : Nat} {es : List Ent} (hr : EntsR w A c es) (h0 : 0 < es.length) (hn : es.length ≤ 64) :
    Calls Try.prog 71 #[.agg #[.int .i64 base, .int .i64 cyc, .int .i64 ext, .slice A es.length c]] w (ClonedL w base cyc ext es) := by
  have C := fun v (hv : Keeps Nothing w v) => sclone_ok (hr.same hv) h0 hn
  clear hr
  go_enter Try.func71, Try.ntmps71
  go_wp2_with (go_at_call 78; refine (C _ (((Keeps.refl _ _).alloc _).alloc _)).mono ?_; rintro e w3 ⟨g, cap, rfl, hg, hE, hk3⟩; have hB1 : Blk w3 w.heap.size [.int .i64 base, .int .i64 cyc, .int .i64 ext, .slice A es.length c] 72 := ((Blk.new w [.int .i64 base, .int .i64 cyc, .int .i64 ext, .slice A es.length c] 72).alloc _).keeps hk3 (fun h => h); have hB2 : Blk w3 (w.heap.size + 1) [.int .i64 0, .int .i64 0, .int .i64 0, .slice none 0 0] 72 := (by have := (Blk.new (w.alloc (.cells #[.int .i64 base, .int .i64 cyc, .int .i64 ext, .slice A es.length c] 72)) [.int .i64 0, .int .i64 0, .int .i64 0, .slice none 0 0] 72).keeps hk3 (fun h => h); simpa using this); have x0 : w3.cell? ⟨w.heap.size, 0, none⟩ = some (.int .i64 base) := hB1.cell 0; have x1 : w3.cell? ⟨w.heap.size, 1, none⟩ = some (.int .i64 cyc) := hB1.cell 1; have x2 : w3.cell? ⟨w.heap.size, 2, none⟩ = some (.int .i64 ext) := hB1.cell 2; have x3 : w3.cell? ⟨w.heap.size, 3, none⟩ = some (.slice A es.length c) := hB1.cell 3; have f3 := hB1.frozen 3; have y0 : w3.cell? ⟨w.heap.size + 1, 0, none⟩ = some (.int .i64 0) := hB2.cell 0; have y1 : w3.cell? ⟨w.heap.size + 1, 1, none⟩ = some (.int .i64 0) := hB2.cell 1; have y2 : w3.cell? ⟨w.heap.size + 1, 2, none⟩ = some (.int .i64 0) := hB2.cell 2; have y3 : w3.cell? ⟨w.heap.size + 1, 3, none⟩ = some (.slice none 0 0) := hB2.cell 3; have z0 := hB2.frozen 0; have z1 := hB2.frozen 1; have z2 := hB2.frozen 2; have z3 := hB2.frozen 3; have HB2 := Lib.hid hB2; clear hB1 hB2 C)
  have hF : Blk (((((w3.setCell ⟨w.heap.size, 3, none⟩ (.slice (some ⟨g, 0, none⟩) es.length cap)).setCell ⟨w.heap.size + 1, 0, none⟩ (.int .i64 base)).setCell ⟨w.heap.size + 1, 1, none⟩ (.int .i64 cyc)).setCell ⟨w.heap.size + 1, 2, none⟩ (.int .i64 ext)).setCell ⟨w.heap.size + 1, 3, none⟩ (.slice (some ⟨g, 0, none⟩) es.length cap)) (w.heap.size + 1) [.int .i64 base, .int .i64 cyc, .int .i64 ext, .slice (some ⟨g, 0, none⟩) es.length cap] 72 :=
    ((((HB2.out.set_ne _ _ (by simp)).set 0 _).set 1 _).set 2 _).set 3 _
  have hs : w.heap.size + 2 ≤ g := by simpa using hg
  refine bodyPost_ret (results_cell_row rfl _ _ (w.heap.size + 1) 72 #[.int .i64 base, .int .i64 cyc, .int .i64 ext, .slice (some ⟨g, 0, none⟩) es.length cap] (0, 0) _ rfl hF Try.underlying72 rfl (by kernel_rfl)) rfl ?_
  have hK : Keeps (fun k => k = w.heap.size ∨ k = w.heap.size + 1) w3 _ := (((((Keeps.refl (fun k => k = w.heap.size ∨ k = w.heap.size + 1) w3).setCell (p := ⟨w.heap.size, 3, none⟩) (fun _ => .inl rfl) (.slice (some ⟨g, 0, none⟩) es.length cap)).setCell (p := ⟨w.heap.size + 1, 0, none⟩) (fun _ => .inr rfl) (.int .i64 base)).setCell (p := ⟨w.heap.size + 1, 1, none⟩) (fun _ => .inr rfl) (.int .i64 cyc)).setCell (p := ⟨w.heap.size + 1, 2, none⟩) (fun _ => .inr rfl) (.int .i64 ext)).setCell (p := ⟨w.heap.size + 1, 3, none⟩) (fun _ => .inr rfl) (.slice (some ⟨g, 0, none⟩) es.length cap)
  refine ⟨g, cap, rfl, by omega, hE.keeps hK (fun b o hb => ?_), ((((Keeps.refl Nothing w).alloc _).alloc _).same hk3).up hK (fun k hk => by omega)⟩
  injection hb with hb
  injection hb with hb
  omega

end Go.Proofs.Ytpgmkekdgchkfaa
