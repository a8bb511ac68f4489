/- Scripts in memory: what stands while one is read; plain parts. -/
import Derived.Test.YtdncojofilnhnaaGreatDoorCfB
namespace Go.Proofs.YtdncojofilnhnaaGreatDoor
open Go.RowKit Go.Lib

def sc0 : List Value := cf0 ++ [.slice none 0 0]

/-- What stands while a script is read. -/
structure ScS (w wr : World) (ls : List Str) (sb : Nat) (cells : List Value) : Prop where
  gl : Gl wr
  k : Keeps Nothing w wr
  r : Blk wr w.heap.size sc0 64
  sp : Blk wr (w.heap.size + 1) (ls.map strV) 9
  c : Blk wr sb cells 64
  hc : w.heap.size + 1 < sb
  big : 10 ≤ w.heap.size

theorem ScS.same {w wr w' : World} {ls : List Str} {sb : Nat} {cells : List Value} (h : ScS w wr ls sb cells) (hk : Keeps Nothing wr w') : ScS w w' ls sb cells :=
  ⟨h.gl.same hk, h.k.same hk, h.r.keeps hk (fun h => h), h.sp.keeps hk (fun h => h), h.c.keeps hk (fun h => h), h.hc, h.big⟩

theorem ScS.put {w wr w' : World} {ls : List Str} {sb : Nat} {cells cells' : List Value} (h : ScS w wr ls sb cells) (hk : Keeps (fun k => k = sb) wr w') (hb : Blk w' sb cells' 64) : ScS w w' ls sb cells' := by
  have := h.hc
  have hg := h.big
  exact ⟨h.gl.keeps hk (fun k hk e => by omega), h.k.up hk (fun k e => by omega), h.r.keeps hk (fun e => by omega), h.sp.keeps hk (fun e => by omega), hb, h.hc, h.big⟩

theorem ScS.asideF {F : Nat → Prop} {w wr w' : World} {ls : List Str} {sb : Nat} {cells : List Value} (h : ScS w wr ls sb cells) (hk : Keeps F wr w') (hF : ∀ k, F k → sb < k) : ScS w w' ls sb cells := by
  have h1 := h.hc
  have h2 := h.big
  exact ⟨h.gl.keeps hk (fun k hk e => by have := hF k e; omega), h.k.up hk (fun k e => by have := hF k e; omega), h.r.keeps hk (fun e => by have := hF _ e; omega), h.sp.keeps hk (fun e => by have := hF _ e; omega), h.c.keeps hk (fun e => by have := hF _ e; omega), h.hc, h.big⟩

/-- A row of its own of another type than what is written stands. -/
theorem OwnS.other {F G : Nat → Prop} {w w' : World} {T sz n : Nat} {v : Value} {xs : List Value} (h : OwnS w F T sz v n xs) (hk : Keeps G w w') (hG : ∀ g, G g → ∀ cur, ¬ Blk w g cur T) : OwnS w' F T sz v n xs := by
  refine ⟨ownsRow_keeps h.1 hk (fun g hg hG' => ?_), h.2⟩
  rcases h.1.2 with ⟨hv, -⟩ | ⟨g', cap, cur, hv, -, hh, -⟩
  · rw [hv] at hg; simp [Value.ownBlock] at hg
  · rw [hv] at hg
    simp [Value.ownBlock] at hg
    subst hg
    exact hG _ hG' cur.toList (by simpa [Blk] using hh)

theorem OwnF.other {F G : Nat → Prop} {w w' : World} {T : Nat} {v : Value} {xs : List Value} (h : OwnF w F T v xs) (hk : Keeps G w w') (hG : ∀ g, G g → ∀ cur, ¬ Blk w g cur T) : OwnF w' F T v xs :=
  (h.toS.other hk hG).toF

theorem not_blk {w : World} {b T T' : Nat} {l : List Value} (h : Blk w b l T') (hT : T' ≠ T) : ∀ g, g = b → ∀ cur, ¬ Blk w g cur T := fun g e cur hb => by
  subst e; exact hT (h.inj hb)

theorem not_own {F : Nat → Prop} {w : World} {T T' sz n : Nat} {v : Value} {xs : List Value} (h : OwnS w F T' sz v n xs) (hT : T' ≠ T) : ∀ g, v.ownBlock = some g → ∀ cur, ¬ Blk w g cur T := fun g e cur hb => by
  rcases h.1.2 with ⟨hv, -⟩ | ⟨g', cap, cur', hv, -, hh, -⟩
  · rw [hv] at e; simp [Value.ownBlock] at e
  · rw [hv] at e
    simp [Value.ownBlock] at e
    subst e
    have h2 : Blk w g' cur'.toList T' := by simpa [Blk] using hh
    exact hT (h2.inj hb)

/-- What is known of an act that was read. -/
def ActOk (N : Nat) (a : Ac) : Prop := AcIs a ∧ a.bytes.length ≤ N ∧ a.cmd.args.length ≤ N + 1 ∧ (-9223372036854775808 ≤ a.cmd.kind ∧ a.cmd.kind ≤ 9223372036854775807)

/-- An act's cells, its bytes and numbers in rows of their own. -/
def ActAt (w : World) (F : Nat → Prop) (N : Nat) (a : Ac) (cs : List Value) : Prop :=
  ActOk N a ∧ ∃ bv cv, cs = actC a bv cv ∧ OwnF w F 5 bv (bcells a.bytes) ∧ OwnF w F 2 cv (icells a.cmd.args)

inductive All2 {α β : Type} (R : α → β → Prop) : List α → List β → Prop
  | nil : All2 R [] []
  | cons {a b l m} : R a b → All2 R l m → All2 R (a :: l) (b :: m)

theorem All2.imp {α β : Type} {R S : α → β → Prop} (h : ∀ a b, R a b → S a b) : ∀ {l : List α} {m : List β}, All2 R l m → All2 S l m
  | _, _, .nil => .nil
  | _, _, .cons h1 h2 => .cons (h _ _ h1) (All2.imp h h2)

theorem All2.snoc {α β : Type} {R : α → β → Prop} {a : α} {b : β} (h : R a b) : ∀ {l : List α} {m : List β}, All2 R l m → All2 R (l ++ [a]) (m ++ [b])
  | _, _, .nil => .cons h .nil
  | _, _, .cons h1 h2 => .cons h1 (All2.snoc h h2)

theorem All2.len {α β : Type} {R : α → β → Prop} : ∀ {l : List α} {m : List β}, All2 R l m → l.length = m.length
  | _, _, .nil => rfl
  | _, _, .cons _ h2 => by simp [All2.len h2]

theorem All2.get {α β : Type} {R : α → β → Prop} : ∀ {l : List α} {m : List β}, All2 R l m → ∀ (i : Nat) (a : α) (b : β), l[i]? = some a → m[i]? = some b → R a b
  | _, _, .nil, i, a, b, h, _ => by simp at h
  | _, _, .cons h1 h2, 0, a, b, ha, hb => by simp at ha hb; subst ha; subst hb; exact h1
  | _, _, .cons h1 h2, i + 1, a, b, ha, hb => All2.get h2 i a b (by simpa using ha) (by simpa using hb)

/-- The acts of a script in memory. -/
def ActsAt (w : World) (F : Nat → Prop) (N : Nat) (v : Value) (acs : List Ac) : Prop :=
  ∃ cs, OwnS w F 73 12 v acs.length cs.flatten ∧ All2 (ActAt w F N) acs cs

theorem actC_len (a : Ac) (bv cv : Value) (hm : a.cmd.mac.length = 6) : (actC a bv cv).length = 12 := by simp [actC, cmdCells, hm]

theorem flat_at {sz : Nat} : ∀ (cs : List (List Value)) (i : Nat) (c : List Value) (j : Nat) (u : Value), (∀ c ∈ cs, c.length = sz) → cs[i]? = some c → c[j]? = some u → cs.flatten[i * sz + j]? = some u
  | [], i, c, j, u, _, h, _ => by simp at h
  | d :: cs, 0, c, j, u, hl, h, hj => by
    simp at h
    subst h
    have hlt : j < d.length := (List.getElem?_eq_some_iff.1 hj).1
    rw [List.flatten_cons, Nat.zero_mul, Nat.zero_add, List.getElem?_append_left hlt]
    exact hj
  | d :: cs, i + 1, c, j, u, hl, h, hj => by
    have h2 := flat_at cs i c j u (fun c hc => hl c (by simp [hc])) (by simpa using h) hj
    have hd : d.length = sz := hl d (by simp)
    rw [List.flatten_cons, List.getElem?_append_right (by rw [hd, Nat.add_mul]; omega)]
    rw [show (i + 1) * sz + j - d.length = i * sz + j by rw [hd, Nat.add_mul]; omega]
    exact h2

theorem own_recsN {w : World} {F : Nat → Prop} {T sz n : Nat} {v : Value} {cs : List (List Value)} (h : OwnS w F T sz v n cs.flatten) (hn : cs.length = n) (hl : ∀ c ∈ cs, c.length = sz) : RecsR w v sz cs := by
  subst hn
  rcases h.1.2 with ⟨hv, h0⟩ | ⟨g, cap, cur, hv, hg, hh, hc, hm, hs, ht⟩
  · exact .inl ⟨List.eq_nil_of_length_eq_zero h0, _, _, hv⟩
  · refine .inr ⟨g, 0, cap, hv, hc, fun i c hi => ⟨hl c (List.mem_of_getElem? hi), fun j u hj => ?_⟩⟩
    have := h.1.cells (g := g) (by simp [hv, Value.ownBlock]) (i * sz + j) u (flat_at cs i c j u hl hi hj)
    rw [Addr.add_lit] at this
    simpa using this

theorem acts_len {w : World} {F : Nat → Prop} {N : Nat} {acs : List Ac} {cs : List (List Value)} (h : All2 (ActAt w F N) acs cs) : ∀ c ∈ cs, c.length = 12 := fun c hc => by
  obtain ⟨i, hi⟩ := List.getElem?_of_mem hc
  have hl := h.len
  have : i < acs.length := by rw [hl]; exact (List.getElem?_eq_some_iff.1 hi).1
  obtain ⟨ho, bv, cv, rfl, -⟩ := h.get i _ c (List.getElem?_eq_getElem this) hi
  exact actC_len _ _ _ ho.1.mac.1

theorem ActAt.other {F G : Nat → Prop} {w w' : World} {N : Nat} {a : Ac} {cs : List Value} (h : ActAt w F N a cs) (hk : Keeps G w w') (h5 : ∀ g, G g → ∀ cur, ¬ Blk w g cur 5) (h2 : ∀ g, G g → ∀ cur, ¬ Blk w g cur 2) : ActAt w' F N a cs := by
  obtain ⟨h0, bv, cv, e, hb, hc⟩ := h
  exact ⟨h0, bv, cv, e, hb.other hk h5, hc.other hk h2⟩

theorem ActAt.mono {F G : Nat → Prop} {w : World} {N : Nat} {a : Ac} {cs : List Value} (h : ActAt w F N a cs) (hF : ∀ k, F k → G k) : ActAt w G N a cs := by
  obtain ⟨h0, bv, cv, e, hb, hc⟩ := h
  exact ⟨h0, bv, cv, e, hb.mono hF, hc.mono hF⟩

/-- What Parse comes to. -/
def ScriptIs (w' : World) (B : Nat) (t : Str) (ev : Ending) : Prop := match scriptP t with
  | .ok (c, acs) => (MacIs c.mac ∧ c.bounds = List.replicate 8 (c.bounds.headD 0) ∧ c.ports.length ≤ 8 ∧ (0 ≤ c.bounds.headD 0 ∧ c.bounds.headD 0 ≤ 1073741824) ∧ (0 ≤ c.start ∧ c.start ≤ 9223372036854775807)) ∧
      ∃ A n cp A' n' cp', ev = .returned (.tuple #[.agg (cfC c (.slice A n cp) ++ [Value.slice A' n' cp'] : List Value).toArray, .nilIface]) ∧ OwnS w' (fun k => B ≤ k) 70 2 (.slice A n cp) c.ports.length (ptsC c.ports) ∧ ActsAt w' (fun k => B ≤ k) t.length (.slice A' n' cp') acs
  | .error (n, e) => ∃ b v, ev = .returned (.tuple #[.agg sc0.toArray, .iface 76 (.pointer (some ⟨b, 0, none⟩))]) ∧ 10 ≤ b ∧ Blk w' b [.int .i64 n, v] 79 ∧ ErrE w' v e


/-- Rows of type T stand from a to b. -/
def Thru (T : Nat) (a b : World) : Prop := ∀ (F : Nat → Prop) (sz n : Nat) (v : Value) (xs : List Value), OwnS a F T sz v n xs → OwnS b F T sz v n xs

theorem Thru.of {T : Nat} {G : Nat → Prop} {a b : World} (hk : Keeps G a b) (hG : ∀ g, G g → ∀ cur, ¬ Blk a g cur T) : Thru T a b := fun _ _ _ _ _ h => h.other hk hG

theorem Thru.same {T : Nat} {a b : World} (hk : Keeps Nothing a b) : Thru T a b := Thru.of hk (fun _ h => h.elim)

theorem Thru.trans {T : Nat} {a b c : World} (h : Thru T a b) (k : Thru T b c) : Thru T a c := fun F sz n v xs h0 => k F sz n v xs (h F sz n v xs h0)

theorem ActAt.thru {F : Nat → Prop} {w w' : World} {N : Nat} {a : Ac} {cs : List Value} (h : ActAt w F N a cs) (h5 : Thru 5 w w') (h2 : Thru 2 w w') : ActAt w' F N a cs := by
  obtain ⟨h0, bv, cv, e, hb, hc⟩ := h
  exact ⟨h0, bv, cv, e, (h5 _ _ _ _ _ hb.toS).toF, (h2 _ _ _ _ _ hc.toS).toF⟩

theorem cfC_len {c : Cf} (hm : c.mac.length = 6) (hb : c.bounds.length = 8) (pv : Value) : (cfC c pv).length = 18 := by simp [cfC, hm, hb]

theorem cfC_one (c : Cf) (A : Option Addr) (m cp : Nat) : ∀ v ∈ cfC c (.slice A m cp), v.oneCell' = true := by
  intro v hv
  simp only [cfC, List.mem_append, List.mem_cons, List.mem_map, List.not_mem_nil, or_false] at hv
  rcases hv with (((rfl | ⟨x, -, rfl⟩) | rfl | rfl) | ⟨x, -, rfl⟩) | rfl <;> rfl

theorem litN (w : World) (cs : List Value) (T : TypeId) : ∀ (j : Nat) (u : Value), cs[j]? = some u → (w.alloc (.cells cs.toArray T)).cell? ((⟨w.heap.size, 0, none⟩ : Addr).add j) = some u := by
  intro j u hj
  rw [Addr.add_lit, Nat.zero_add]
  rw [(Blk.new w cs T).cell j]
  exact hj

theorem info73 : (Tryz.prog.info? 73).map (fun i => (i.zero, i.size, i.bytes)) = some (some (.agg act0.toArray), 12, 88) := by kernel_rfl

theorem script_long {t : Str} (h : 2000 < (splitOn 10 t).length) : scriptP t = .error (2001, (none, 3)) := by
  unfold scriptP; simp only; rw [if_pos h]

theorem script_conf {t l0 : Str} {ls : List Str} {e : ErrD} (hls : splitOn 10 t = l0 :: ls) (h : ¬ 2000 < (splitOn 10 t).length) (hc : configP l0 = .error e) : scriptP t = .error (1, e) := by
  unfold scriptP; simp only; rw [if_neg h, hls]; simp only [List.headD_cons, hc]

theorem script_go {t l0 : Str} {ls : List Str} {c : Cf} (hls : splitOn 10 t = l0 :: ls) (h : ¬ 2000 < (splitOn 10 t).length) (hc : configP l0 = .ok c) : scriptP t = match actsP 1 ls with | .error e => .error e | .ok r => .ok (c, r) := by
  unfold scriptP; simp only; rw [if_neg h, hls]; simp only [List.headD_cons, hc, List.tail_cons]
  cases actsP 1 ls <;> rfl

/-- As far as a line. -/
def ScGo (t : Str) (c : Cf) (acs : List Ac) (i : Nat) (ls : List Str) : Prop := scriptP t = match actsP i ls with | .error e => .error e | .ok r => .ok (c, acs ++ r)

theorem scGo_empty {t : Str} {c : Cf} {acs : List Ac} {i : Nat} {ls : List Str} (h : ScGo t c acs i ([] :: ls)) : ScGo t c acs (i + 1) ls := by
  unfold ScGo at *
  rw [h]
  conv => lhs; unfold actsP
  rw [if_pos rfl]

theorem scGo_err {t l : Str} {c : Cf} {acs : List Ac} {i : Nat} {ls : List Str} {e : ErrD} (h : ScGo t c acs i (l :: ls)) (hl : l ≠ []) (ha : actP l = .error e) : scriptP t = .error ((i : Int) + 1, e) := by
  unfold ScGo at h
  rw [h]
  unfold actsP
  rw [if_neg hl, ha]

theorem scGo_ok {t l : Str} {c : Cf} {acs : List Ac} {i : Nat} {ls : List Str} {a : Ac} (h : ScGo t c acs i (l :: ls)) (hl : l ≠ []) (ha : actP l = .ok a) : ScGo t c (acs ++ [a]) (i + 1) ls := by
  unfold ScGo at *
  rw [h]
  conv => lhs; unfold actsP
  rw [if_neg hl, ha]
  cases actsP (i + 1) ls <;> simp

theorem scGo_end {t : Str} {c : Cf} {acs : List Ac} {i : Nat} (h : ScGo t c acs i []) : scriptP t = .ok (c, acs) := by
  unfold ScGo at h
  rw [h]; simp [actsP]

end Go.Proofs.YtdncojofilnhnaaGreatDoor
