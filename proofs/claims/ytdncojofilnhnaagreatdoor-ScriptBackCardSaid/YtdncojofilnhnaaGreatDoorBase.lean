/- The frame of memory that the texts of this seat share: which blocks a call may turn ('Keeps'), a block known whole ('Blk'), own rows ('OwnF'). -/
import Derived.Test.YtdncojofilnhnaaGreatDoorProg
import Derived.WalkKit
import Derived.KernelRfl
import Derived.RowKit3
import Derived.WalkLawsBesides
import Derived.WalkSpells
import Derived.Outline
import Derived.Deep.QuietTactic
import Derived.BigQuiet
import Derived.Deep.LoopGhost
import Derived.Deep.RegionHeld3
import Derived.Deep.DeepFit
import Derived.StillTailTactics
import Derived.Below
import Derived.OwnWalk
import Derived.Laws.AppendOwnNone
import Derived.Lib.Hide
import Derived.IntWalk
import Derived.Laws.BytesArg
import Derived.Deep.AppendLies
import Derived.Lib.SlBytesConst
namespace Go.Proofs.YtdncojofilnhnaaGreatDoor
open Go.RowKit

/-- Only the blocks of F, and new ones, may have turned. -/
structure Keeps (F : Nat → Prop) (w w' : World) : Prop where
  os : w'.os = w.os
  tape : w'.tape = w.tape
  output : w'.output = w.output
  size : w.heap.size ≤ w'.heap.size
  block : ∀ k, k < w.heap.size → ¬ F k → w'.heap[k]? = w.heap[k]?

def Nothing : Nat → Prop := fun _ => False

theorem Keeps.refl (F : Nat → Prop) (w : World) : Keeps F w w := ⟨rfl, rfl, rfl, Nat.le_refl _, fun _ _ _ => rfl⟩

theorem Keeps.trans {F G : Nat → Prop} {a b c : World} (h : Keeps F a b) (k : Keeps G b c) (hG : ∀ x, G x → x < a.heap.size → F x) : Keeps F a c :=
  ⟨k.os.trans h.os, k.tape.trans h.tape, k.output.trans h.output, Nat.le_trans h.size k.size,
    fun i hi hF => (k.block i (Nat.lt_of_lt_of_le hi h.size) (fun g => hF (hG i g hi))).trans (h.block i hi hF)⟩

theorem Keeps.mono {F G : Nat → Prop} {w w' : World} (h : Keeps F w w') (hG : ∀ x, F x → x < w.heap.size → G x) : Keeps G w w' :=
  ⟨h.os, h.tape, h.output, h.size, fun k hk hn => h.block k hk (fun f => hn (hG k f hk))⟩

/-- What was there when the call began is as it was: one step more, which turns blocks of the call's own. -/
theorem Keeps.up {G : Nat → Prop} {w a b : World} (h : Keeps Nothing w a) (k : Keeps G a b) (hG : ∀ x, G x → w.heap.size ≤ x) : Keeps Nothing w b :=
  h.trans k (fun x g hl => absurd (hG x g) (by omega))

theorem Keeps.same {w a b : World} (h : Keeps Nothing w a) (k : Keeps Nothing a b) : Keeps Nothing w b := h.trans k (fun _ g _ => g)

theorem Keeps.drew {F : Nat → Prop} {a w : World} (h : Keeps F a w) : Keeps F a w.drew := ⟨h.os, h.tape, h.output, h.size, h.block⟩

theorem Keeps.drewN {F : Nat → Prop} {a w : World} (h : Keeps F a w) (n : Nat) : Keeps F a (w.drewN n) := ⟨h.os, h.tape, h.output, h.size, h.block⟩

theorem Keeps.alloc {F : Nat → Prop} {a w : World} (h : Keeps F a w) (o : Obj) : Keeps F a (w.alloc o) :=
  h.trans (G := Nothing) ⟨rfl, rfl, rfl, by simp, fun k hk _ => Below.heap_alloc _ _ _ hk⟩ (fun _ g _ => g.elim)

theorem Keeps.setCell {F : Nat → Prop} {a w : World} (h : Keeps F a w) {p : Addr} (hp : p.block < a.heap.size → F p.block) (u : Value) : Keeps F a (w.setCell p u) :=
  h.trans (G := fun k => k = p.block) ⟨rfl, rfl, rfl, by simp [World.setCell], fun k _ hn => Below.heap_setCell _ _ _ _ hn⟩ (fun x hx hl => by subst hx; exact hp hl)

theorem Keeps.grown {F : Nat → Prop} {a w w' : World} {row : Option Nat} (h : Keeps F a w) (hg : w.grownBy w' row) (hr : ∀ k, row = some k → k < a.heap.size → F k) : Keeps F a w' :=
  h.trans (G := fun k => row = some k) ⟨hg.os, hg.tape, hg.output, hg.size, fun k hk hn => hg.block k hk (fun e => hn e.symm)⟩ (fun x hx hl => hr x hx hl)

theorem Keeps.below {F : Nat → Prop} {B : Nat} {w w' : World} (h : Keeps F w w') (hB : B ≤ w.heap.size) (hF : ∀ k, F k → B ≤ k) : Below B w w' :=
  ⟨h.os, h.tape, h.output, h.size, fun k hk => h.block k (by omega) (fun f => by have := hF k f; omega)⟩

theorem Keeps.ofBelow {B : Nat} {w w' : World} (h : Below B w w') : Keeps (fun k => B ≤ k) w w' :=
  ⟨h.os, h.tape, h.output, h.size, fun k _ hn => h.block k (by omega)⟩

theorem Keeps.cell {F : Nat → Prop} {w w' : World} (h : Keeps F w w') {p : Addr} (hp : p.block < w.heap.size) (hn : ¬ F p.block) : w'.cell? p = w.cell? p :=
  World.cell?_of_block (w := w) (h.block p.block hp hn)

/-- What a law's call comes to: true; of what was there nothing has turned. -/
def TrueKept (w : World) (e : Ending) (w' : World) : Prop := e = .returned (.bool true) ∧ Keeps Nothing w w'

theorem ret_int {k : IntKind} {a b : Int} (h : a = b) : Ending.returned (.int k a) = .returned (.int k b) := by rw [h]

/-- A block known whole. -/
def Blk (w : World) (b : Nat) (cs : List Value) (T : TypeId) : Prop := w.heap[b]? = some (.cells cs.toArray T (0, 0))

theorem Blk.lt {w : World} {b : Nat} {cs : List Value} {T : TypeId} (h : Blk w b cs T) : b < w.heap.size := by
  rcases Nat.lt_or_ge b w.heap.size with h' | h'
  · exact h'
  · simp [Blk, Array.getElem?_eq_none h'] at h

theorem Blk.cell {w : World} {b : Nat} {cs : List Value} {T : TypeId} (h : Blk w b cs T) (o : Nat) : w.cell? ⟨b, o, none⟩ = cs[o]? := by
  simp [World.cell?, show w.heap[b]? = _ from h]

theorem Blk.frozen {w : World} {b : Nat} {cs : List Value} {T : TypeId} (h : Blk w b cs T) (o : Nat) : w.frozen? ⟨b, o, none⟩ = false := by
  simp [World.frozen?, show w.heap[b]? = _ from h]

theorem Blk.keeps {F : Nat → Prop} {w w' : World} {b : Nat} {cs : List Value} {T : TypeId} (h : Blk w b cs T) (hk : Keeps F w w') (hn : ¬ F b) : Blk w' b cs T :=
  (hk.block b h.lt hn).trans h

theorem Blk.set {w : World} {b : Nat} {cs : List Value} {T : TypeId} (h : Blk w b cs T) (o : Nat) (v : Value) : Blk (w.setCell ⟨b, o, none⟩ v) b (cs.set o v) T := by
  simp [Blk, World.setCell, Array.getElem?_modify, show w.heap[b]? = _ from h]

theorem Blk.set_ne {w : World} {b : Nat} {cs : List Value} {T : TypeId} (h : Blk w b cs T) (a : Addr) (v : Value) (hn : b ≠ a.block) : Blk (w.setCell a v) b cs T :=
  (Below.heap_setCell _ _ _ _ hn).trans h

theorem Blk.alloc {w : World} {b : Nat} {cs : List Value} {T : TypeId} (h : Blk w b cs T) (o : Obj) : Blk (w.alloc o) b cs T :=
  (Below.heap_alloc _ _ _ h.lt).trans h

theorem Blk.drew {w : World} {b : Nat} {cs : List Value} {T : TypeId} (h : Blk w b cs T) : Blk w.drew b cs T := h

theorem Blk.grown {w w' : World} {b : Nat} {cs : List Value} {T : TypeId} {row : Option Nat} (h : Blk w b cs T) (hg : w.grownBy w' row) (hn : some b ≠ row) : Blk w' b cs T :=
  (hg.block b h.lt hn).trans h

theorem Blk.new (w : World) (cs : List Value) (T : TypeId) : Blk (w.alloc (.cells cs.toArray T)) w.heap.size cs T := heap_alloc_new w _

theorem Blk.inj {w : World} {b : Nat} {cs cs' : List Value} {T T' : TypeId} (h : Blk w b cs T) (h' : Blk w b cs' T') : T = T' := by
  have := (show w.heap[b]? = _ from h).symm.trans h'
  injection this with this
  injection this

/-- A slice of one-cell elements as a row of its own in the blocks of F (nil: nothing). -/
def OwnF (w : World) (F : Nat → Prop) (T : TypeId) (v : Value) (xs : List Value) : Prop :=
  w.ownsRow 0 T 1 v xs.length xs ∧ ∀ g, v.ownBlock = some g → F g

theorem OwnF.nil (w : World) (F : Nat → Prop) (T : TypeId) : OwnF w F T (.slice none 0 0) [] := ⟨World.ownsRow_nil w 0 T 1, fun g h => by simp [Value.ownBlock] at h⟩

theorem ownsRow_keeps {F : Nat → Prop} {w w' : World} {base T size n : Nat} {v : Value} {xs : List Value} (h : w.ownsRow base T size v n xs) (hk : Keeps F w w') (hn : ∀ g, v.ownBlock = some g → ¬ F g) : w'.ownsRow base T size v n xs := by
  obtain ⟨h1, h2⟩ := h
  refine ⟨h1, ?_⟩
  rcases h2 with h2 | ⟨g, cap, cur, hv, hg, hh, r⟩
  · exact .inl h2
  · have hlt : g < w.heap.size := by
      rcases Nat.lt_or_ge g w.heap.size with h' | h'
      · exact h'
      · simp [Array.getElem?_eq_none h'] at hh
    exact .inr ⟨g, cap, cur, hv, hg, (hk.block g hlt (hn g (by simp [hv, Value.ownBlock]))).trans hh, r⟩

theorem OwnF.keeps {F G : Nat → Prop} {w w' : World} {T : TypeId} {v : Value} {xs : List Value} (h : OwnF w F T v xs) (hk : Keeps G w w') (hn : ∀ k, F k → ¬ G k) : OwnF w' F T v xs :=
  ⟨ownsRow_keeps h.1 hk (fun g hg => hn g (h.2 g hg)), h.2⟩

theorem OwnF.mono {F G : Nat → Prop} {w : World} {T : TypeId} {v : Value} {xs : List Value} (h : OwnF w F T v xs) (hn : ∀ k, F k → G k) : OwnF w G T v xs :=
  ⟨h.1, fun g hg => hn g (h.2 g hg)⟩

/-- A slice of one-cell elements that can be read. -/
def SlR (w : World) (v : Value) (xs : List Value) : Prop :=
  (∃ c, v = .slice none 0 c ∧ xs = []) ∨ ∃ ad c, v = .slice (some ad) xs.length c ∧ xs.length ≤ c ∧ ∀ j u, xs[j]? = some u → w.cell? (ad.add j) = some u

theorem OwnF.slR {w : World} {F : Nat → Prop} {T : TypeId} {v : Value} {xs : List Value} (h : OwnF w F T v xs) : SlR w v xs := by
  rcases h.1.2 with ⟨hv, hn⟩ | ⟨g, cap, cur, hv, hg, hh, hc, r⟩
  · exact .inl ⟨0, hv, List.eq_nil_of_length_eq_zero hn⟩
  · refine .inr ⟨⟨g, 0, none⟩, cap, hv, hc, fun j u hj => ?_⟩
    exact h.1.cells (g := g) (by simp [hv, Value.ownBlock]) j u hj

theorem SlR.keeps {F : Nat → Prop} {w w' : World} {v : Value} {xs : List Value} (h : SlR w v xs) (hk : Keeps F w w') (hF : ∀ g, v.ownBlock = some g → ¬ F g) : SlR w' v xs := by
  rcases h with h | ⟨ad, c, rfl, hc, hr⟩
  · exact .inl h
  · refine .inr ⟨ad, c, rfl, hc, fun j u hj => ?_⟩
    have hu := hr j u hj
    have hb : (ad.add j).block = ad.block := by unfold Addr.add; split <;> rfl
    have hlt := World.block_lt_of_cell? w _ hu
    rw [hk.cell hlt (by rw [hb]; exact hF _ rfl)]
    exact hu

theorem SlR.empty (w : World) (A : Option Addr) (c : Nat) : SlR w (.slice A 0 c) [] := by
  cases A with
  | none => exact .inl ⟨c, rfl, rfl⟩
  | some ad => exact .inr ⟨ad, c, rfl, Nat.zero_le _, fun j u h => by simp at h⟩

theorem SlR.same {w w' : World} {v : Value} {xs : List Value} (h : SlR w v xs) (hk : Keeps Nothing w w') : SlR w' v xs := h.keeps hk (fun _ _ h => h)

theorem news_keeps {w w' : World} {ad : Addr} {xs : List Value} (h : ∀ j u, xs[j]? = some u → w.cell? (ad.add j) = some u) (hk : Keeps Nothing w w') : ∀ j u, xs[j]? = some u → w'.cell? (ad.add j) = some u :=
  fun j u hj => by rw [hk.cell (World.block_lt_of_cell? w _ (h j u hj)) (fun h => h)]; exact h j u hj

/-- An own slice that isn't nil, its block written out. -/
theorem OwnF.blk {w : World} {F : Nat → Prop} {T : TypeId} {v : Value} {xs : List Value} (h : OwnF w F T v xs) :
    (v = .slice none 0 0 ∧ xs = []) ∨ ∃ g cap cur, v = .slice (some ⟨g, 0, none⟩) xs.length cap ∧ F g ∧ Blk w g cur T ∧ xs.length ≤ cap ∧ cap ≤ maxLen ∧ cur.length = cap ∧ cur.take xs.length = xs := by
  rcases h.1.2 with ⟨hv, hn⟩ | ⟨g, cap, cur, hv, hg, hh, hc, hm, hs, ht⟩
  · exact .inl ⟨hv, List.eq_nil_of_length_eq_zero hn⟩
  · exact .inr ⟨g, cap, cur.toList, hv, h.2 g (by simp [hv, Value.ownBlock]), by simpa [Blk] using hh, hc, hm, by simpa using hs, by simpa using ht⟩

theorem OwnF.lenG {w : World} {F : Nat → Prop} {T : TypeId} {v : Value} {xs : List Value} (h : OwnF w F T v xs) : ∃ A c, v = .slice A xs.length c := by
  rcases h.blk with ⟨rfl, rfl⟩ | ⟨g, cap, cur, rfl, r⟩
  · exact ⟨_, _, rfl⟩
  · exact ⟨_, _, rfl⟩

theorem OwnF.mk {w : World} {F : Nat → Prop} {T : TypeId} {g cap : Nat} {cur xs : List Value} (hF : F g) (hb : Blk w g cur T) (hc : xs.length ≤ cap) (hm : cap ≤ maxLen) (hl : cur.length = cap) (ht : cur.take xs.length = xs) :
    OwnF w F T (.slice (some ⟨g, 0, none⟩) xs.length cap) xs :=
  ⟨⟨by omega, .inr ⟨g, cap, cur.toArray, rfl, Nat.zero_le _, hb, hc, hm, by simpa using hl, by simpa using ht⟩⟩, fun k hk => by simp [Value.ownBlock] at hk; subst hk; exact hF⟩

theorem ownF_of_row {w : World} {B : Nat} {T n : Nat} {v : Value} {xs : List Value} (h : w.ownsRow B T 1 v n xs) : OwnF w (fun k => B ≤ k) T v xs := by
  have hn : n = xs.length := by have := h.1; omega
  subst hn
  refine ⟨⟨h.1, ?_⟩, fun g hg => (h.lt g hg).1⟩
  rcases h.2 with h2 | ⟨g, cap, cur, hv, hg, r⟩
  · exact .inl h2
  · exact .inr ⟨g, cap, cur, hv, Nat.zero_le _, r⟩

/-- 'append([]T(nil), x...)', x any slice that can be read: a row of the call's own. -/
theorem wpList_clone {P : Program} {w : World} {ops : Array Oper} {rest : List Oper} {o : Oper} {a : Act} {Q : Exit → Act → World → Prop} (hgd : o.guard = none) (x : Operand) (t : TypeId)
    (ho : o.op = .call { callee := .builtin .append, args := #[.const (.slice none 0 0), x], argTypes := #[t, t] })
    (e : TypeId) (i : TypeInfo) (z : Value) (bytes : Nat) (ht : P.underlying t = some (.slice e)) (hi : P.info? e = some i) (hz : i.zero = some z)
    (hsize : i.size = 1) (hby : i.bytes = bytes) (hzs : z.cells.size = 1)
    (ad : Addr) (m c : Nat) (news : List Value) (hx : a.eval x = .slice (some ad) m c) (hl : news.length = m) (hnews : ∀ j u, news[j]? = some u → w.cell? (ad.add j) = some u) (h1 : ∀ u ∈ news, u.oneCell' = true)
    (h63 : m ≤ maxLen) (hbytes : m * bytes ≤ 140737488355328)
    (h : ∀ v' w', OwnF w' (fun k => w.heap.size ≤ k) e v' news → Keeps Nothing w w' → wpList P ops Q rest (a.put o.dst v') w') : wpList P ops Q (o :: rest) a w := by
  refine wpList_append_own w hgd _ x t ho w.heap.size e i z 1 bytes ht hi hz hsize hby hzs (by omega) (.slice none 0 0) 0 [] rfl (World.ownsRow_nil _ _ _ _) ad m c news hx (by omega) hnews h1 (by omega) (by rw [Nat.zero_add]; exact hbytes) (Nat.le_refl _) ?_
  intro v' w' h2 h3 _
  refine h v' w' ?_ ((Keeps.refl _ _).grown h3 (fun k hk => by simp [Value.ownBlock] at hk))
  rw [List.nil_append] at h2
  exact ownF_of_row h2

theorem OwnF.lit (w : World) (cs : List Value) (T : TypeId) (hm : cs.length ≤ maxLen) : OwnF (w.alloc (.cells cs.toArray T)) (fun k => w.heap.size ≤ k) T (.slice (some ⟨w.heap.size, 0, none⟩) cs.length cs.length) cs :=
  OwnF.mk (Nat.le_refl _) (Blk.new w cs T) (Nat.le_refl _) hm rfl (List.take_length)

/-- An own row of n elements of size cells each, its block in F. -/
def OwnS (w : World) (F : Nat → Prop) (T size : Nat) (v : Value) (n : Nat) (xs : List Value) : Prop :=
  w.ownsRow 0 T size v n xs ∧ ∀ g, v.ownBlock = some g → F g

theorem OwnS.toF {w : World} {F : Nat → Prop} {T n : Nat} {v : Value} {xs : List Value} (h : OwnS w F T 1 v n xs) : OwnF w F T v xs := by
  have hn : n = xs.length := by have := h.1.1; omega
  subst hn
  exact h

theorem OwnF.toS {w : World} {F : Nat → Prop} {T : Nat} {v : Value} {xs : List Value} (h : OwnF w F T v xs) : OwnS w F T 1 v xs.length xs := h

theorem OwnS.nil (w : World) (F : Nat → Prop) (T size : Nat) : OwnS w F T size (.slice none 0 0) 0 [] := ⟨World.ownsRow_nil w 0 T size, fun g h => by simp [Value.ownBlock] at h⟩

theorem OwnS.keeps {F G : Nat → Prop} {w w' : World} {T size n : Nat} {v : Value} {xs : List Value} (h : OwnS w F T size v n xs) (hk : Keeps G w w') (hn : ∀ k, F k → ¬ G k) : OwnS w' F T size v n xs :=
  ⟨ownsRow_keeps h.1 hk (fun g hg => hn g (h.2 g hg)), h.2⟩

theorem OwnS.mono {F G : Nat → Prop} {w : World} {T size n : Nat} {v : Value} {xs : List Value} (h : OwnS w F T size v n xs) (hn : ∀ k, F k → G k) : OwnS w G T size v n xs :=
  ⟨h.1, fun g hg => hn g (h.2 g hg)⟩

theorem OwnS.lt {F : Nat → Prop} {w : World} {T size n : Nat} {v : Value} {xs : List Value} (h : OwnS w F T size v n xs) {g : Nat} (hg : v.ownBlock = some g) : g < w.heap.size := (h.1.lt g hg).2

theorem keeps_grown {w w' : World} {row : Option Nat} (h : w.grownBy w' row) : Keeps (fun k => row = some k) w w' :=
  ⟨h.os, h.tape, h.output, h.size, fun k hk hn => h.block k hk (fun e => hn e.symm)⟩

/-- 'append(s, x...)' on an own slice, x not empty. -/
theorem wpList_app {P : Program} {w : World} {ops : Array Oper} {rest : List Oper} {o : Oper} {a : Act} {Q : Exit → Act → World → Prop} (hgd : o.guard = none) (s x : Operand) (t : TypeId)
    (ho : o.op = .call { callee := .builtin .append, args := #[s, x], argTypes := #[t, t] })
    (e : TypeId) (i : TypeInfo) (z : Value) (size bytes : Nat) (ht : P.underlying t = some (.slice e)) (hi : P.info? e = some i) (hz : i.zero = some z)
    (hsize : i.size = size) (hby : i.bytes = bytes) (hzs : z.cells.size = size) (hsz : 0 < size)
    (F : Nat → Prop) (v : Value) (n : Nat) (xs : List Value) (hs : a.eval s = v) (hown : OwnS w F e size v n xs)
    (ad : Addr) (m c : Nat) (news : List Value) (hx : a.eval x = .slice (some ad) m c) (hl : news.length = m * size) (hnews : ∀ j u, news[j]? = some u → w.cell? (ad.add j) = some u) (h1 : ∀ u ∈ news, u.oneCell' = true)
    (hm : 0 < m) (h63 : n + m ≤ 140737488355328) (hbytes : (n + m) * bytes ≤ 140737488355328)
    (h : ∀ g cap w', OwnS w' (fun k => F k ∨ w.heap.size ≤ k) e size (.slice (some ⟨g, 0, none⟩) (n + m) cap) (n + m) (xs ++ news) → Keeps (fun k => v.ownBlock = some k) w w' → wpList P ops Q rest (a.put o.dst (.slice (some ⟨g, 0, none⟩) (n + m) cap)) w') : wpList P ops Q (o :: rest) a w := by
  refine wpList_append_lies w hgd s x t ho 0 e i z size bytes ht hi hz hsize hby hzs hsz v n xs hs hown.1 ad m c news hx hl hnews h1 hm (by unfold maxLen; omega) hbytes (Nat.zero_le _) w.heap.size rfl ?_
  intro g cap w' h2 h3 h4 _
  refine h g cap w' ⟨h2, ?_⟩ (keeps_grown h3)
  intro k hk
  simp [Value.ownBlock] at hk
  subst hk
  rcases h4 with h4 | h4
  · exact .inl (hown.2 _ h4)
  · exact .inr (by omega)

theorem run_append_zero {P : Program} {w : World} (t ty e : TypeId) (i : TypeInfo) (size : Nat) (ht : P.underlying t = some (.slice e)) (hi : P.info? e = some i)
    (v : Value) (n : Nat) (xs : List Value) (hown : w.ownsRow 0 e size v n xs) (A : Option Addr) (c : Nat) :
    (Builtin.append_ #[t, t] ty #[v, .slice A 0 c]).run P w = .ok v w := by
  cases A <;> rcases hown.2 with ⟨rfl, rfl⟩ | ⟨g, cap, cur, rfl, _, _, hnc, _⟩
  · simp [Builtin.append_, run_underlying ht, sizeOf, typeInfo, hi, Builtin.lenOf, Builtin.firstCells]
  · simp [Builtin.append_, run_underlying ht, sizeOf, typeInfo, hi, Builtin.lenOf, Builtin.firstCells, hnc, storeCells]
  · simp [Builtin.append_, run_underlying ht, sizeOf, typeInfo, hi, Builtin.lenOf, Builtin.firstCells, loadCells, loadCellsFrom]
  · simp [Builtin.append_, run_underlying ht, sizeOf, typeInfo, hi, Builtin.lenOf, Builtin.firstCells, hnc, storeCells, loadCells, loadCellsFrom]

/-- 'append(s, x...)' on an own slice, x empty. -/
theorem wpList_app0 {P : Program} {w : World} {ops : Array Oper} {rest : List Oper} {o : Oper} {a : Act} {Q : Exit → Act → World → Prop} (hgd : o.guard = none) (s x : Operand) (t : TypeId)
    (ho : o.op = .call { callee := .builtin .append, args := #[s, x], argTypes := #[t, t] })
    (e : TypeId) (i : TypeInfo) (size : Nat) (ht : P.underlying t = some (.slice e)) (hi : P.info? e = some i)
    (v : Value) (n : Nat) (xs : List Value) (hs : a.eval s = v) (hown : w.ownsRow 0 e size v n xs) (A : Option Addr) (c : Nat) (hx : a.eval x = .slice A 0 c)
    (h : wpList P ops Q rest (a.put o.dst v) w) : wpList P ops Q (o :: rest) a w := by
  refine wpList_plain hgd fun K hK => ?_
  have hrun := run_append_zero (P := P) (w := w) t o.type e i size ht hi v n xs hown A c
  unfold Oper.wp
  simp [execOp, ho, resolve, invoke, builtin, hs, hx, hrun, Result.andThen]
  exact hK _ _ h

/-- The cells of n elements, each of the cells zl. -/
def rep (n : Nat) (zl : List Value) : List Value := (List.replicate n zl).flatten

theorem rep_length (n : Nat) (zl : List Value) : (rep n zl).length = n * zl.length := by simp [rep]

theorem rep_one (n : Nat) (z : Value) : rep n [z] = List.replicate n z := by
  induction n with
  | zero => rfl
  | succ n ih => simp [rep, List.replicate_succ] at ih ⊢

theorem rep_get (n : Nat) (zl : List Value) (i j : Nat) (hi : i < n) (hj : j < zl.length) : (rep n zl)[i * zl.length + j]? = zl[j]? := by
  induction n generalizing i with
  | zero => omega
  | succ n ih =>
    have e : rep (n + 1) zl = zl ++ rep n zl := by simp [rep, List.replicate_succ]
    rw [e]
    cases i with
    | zero => rw [Nat.zero_mul, Nat.zero_add, List.getElem?_append_left hj]
    | succ i =>
      rw [List.getElem?_append_right (by rw [Nat.succ_mul]; omega)]
      have := ih i (by omega)
      rw [← this]
      congr 1
      rw [Nat.succ_mul]
      omega

theorem madeCells_rep (z : Array Value) (n : Nat) : (madeCells z (n * z.size)).toList = rep n z.toList := by
  apply List.ext_getElem?
  intro j
  by_cases hj : j < n * z.size
  · have h0 : 0 < z.size := by
      rcases Nat.eq_zero_or_pos z.size with h | h
      · rw [h] at hj; simp at hj
      · exact h
    have hm := Nat.mod_lt j h0
    have e : j = (j / z.size) * z.toList.length + j % z.size := by
      have := Nat.div_add_mod j z.size
      rw [Nat.mul_comm, Array.length_toList]
      exact this.symm
    have hd : j / z.size < n := by rw [Nat.div_lt_iff_lt_mul h0]; exact hj
    have hr := rep_get n z.toList (j / z.size) (j % z.size) hd (by simpa using hm)
    rw [← e] at hr
    rw [hr]
    simp [madeCells, hj, hm]
  · rw [List.getElem?_eq_none (by simpa [madeCells] using hj), List.getElem?_eq_none (by rw [rep_length]; simpa using hj)]

/-- 'make([]T, n)': n zero elements in a new block. -/
theorem wpList_mk {P : Program} {w : World} {ops : Array Oper} {rest : List Oper} {o : Oper} {a : Act} {Q : Exit → Act → World → Prop}
    (hg : o.guard = none) (l c : Operand) (t : TypeId) (hop : o.op = Op.makeSlice t l c)
    (e : TypeId) (i : TypeInfo) (z : Value) (zl : List Value) (h1 : P.underlying t = some (.slice e)) (h2 : P.info? e = some i) (h3 : i.zero = some z) (h4 : i.size = zl.length) (hzl : z.cells = zl.toArray)
    (kl kc : IntKind) (L C : Int) (n : Nat) (hl : a.eval l = .int kl L) (hc : a.eval c = .int kc C) (hL : L = (n : Int)) (hC : C = (n : Int)) (bytes : Nat) (hby : i.bytes = bytes) (b2 : bytes * n ≤ 281474976710656) (b3 : n ≤ 281474976710656)
    (hK : ∀ w', Blk w' w.heap.size (rep n zl) e → Keeps Nothing w w' → w'.heap.size = w.heap.size + 1 → wpList P ops Q rest (a.put o.dst (.slice (some ⟨w.heap.size, 0, none⟩) n n)) w') :
    wpList P ops Q (o :: rest) a w := by
  refine wpList_plain hg fun K hK' => ?_
  subst hby
  have hb' : (i.bytes : Int) * (n : Int) ≤ 281474976710656 := by
    have h : ((i.bytes * n : Nat) : Int) ≤ 281474976710656 := by omega
    rwa [Int.natCast_mul] at h
  have hrun := run_make (P := P) w t e i z h1 h2 h3 kl kc n n (by omega) (Int.le_refl _) hb' (by omega)
  simp only [Int.toNat_natCast] at hrun
  have hm : madeCells z.cells (n * i.size) = (rep n zl).toArray := by
    have := madeCells_rep z.cells n
    rw [hzl] at this ⊢
    rw [h4]
    simp only [List.size_toArray] at this
    rw [← this]
  rw [hm] at hrun
  subst hL
  subst hC
  unfold Oper.wp
  simp [execOp, hop, hl, hc, hrun, Result.andThen]
  exact hK' _ _ (hK _ (Blk.new w (rep n zl) e) ((Keeps.refl _ _).alloc _) (by simp))

abbrev Bytes := List UInt8
def bcells (l : Bytes) : List Value := l.map fun b => .int .u8 b.toNat
@[simp] theorem bcells_length (l : Bytes) : (bcells l).length = l.length := by simp [bcells]

/-- 'string(b)'. -/
theorem conv_str {P : Program} {w : World} {src e dst : TypeId} (hs : P.underlying src = some (.slice e)) (he : P.underlying e = some (.int .u8)) (hd : P.underlying dst = some .string)
    {v : Value} {bs : Bytes} (h : SlR w v (bcells bs)) : (convert src dst v).run P w = .ok (.string ⟨bs.toArray⟩) w := by
  rcases h with ⟨c, rfl, hn⟩ | ⟨ad, c, rfl, hc, hr⟩
  · have : bs = [] := by simpa [bcells] using hn
    subst this
    rw [run_convert_bytes_nil w src e hs he 0 c dst hd]
    rfl
  · have e1 : bcells bs = (bs.map fun x => (x.toNat : Int)).map (Value.int .u8) := by simp [bcells]
    have hl : (loadCells ad (bcells bs).length).run P w = .ok ((bs.map fun x => (x.toNat : Int)).map (Value.int .u8)).toArray w := by
      rw [← e1]
      exact run_loadCells_list (P := P) w ad (bcells bs) hr
    rw [run_convert_bytes_string w src dst e _ _ c hs he hd, run_bytesToString w ad _ c _ hl, foldl_push_bytes]
    congr 2
    simp only [List.map_map]
    rw [List.map_congr_left (g := id) (fun x _ => by simp), List.map_id]
    simp [ByteArray.empty, ByteArray.emptyWithCapacity]
    rfl

end Go.Proofs.YtdncojofilnhnaaGreatDoor
