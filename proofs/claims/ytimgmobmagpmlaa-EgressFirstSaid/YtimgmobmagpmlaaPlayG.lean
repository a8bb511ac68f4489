/- Play's acts as they came in. -/
import Derived.Test.YtimgmobmagpmlaaPlayF
import Derived.Test.YtimgmobmagpmlaaAllP
import Derived.Lib.MinMax
namespace Go.Proofs.Ytimgmobmagpmlaa
open Go.RowKit

structure EAct where
  kind : Int
  later : Int
  cls : Int
  bytes : Int
  base : Int
  cyc : Int
  ext : Int
  A : Option Addr
  cap : Nat
  es : List Ent
  rate : Int

def EAct.cells (a : EAct) : List Value := [.int .i64 a.kind, .int .i64 a.later, .int .i64 a.cls, .int .i64 a.bytes, .int .i64 a.base, .int .i64 a.cyc, .int .i64 a.ext, .slice a.A a.es.length a.cap, .int .i64 a.rate]

/-- Acts that can be read; their blocks, and those of their lists, are N's. -/
def EActs (w : World) (N : Nat → Prop) (A : Option Addr) (acts : List EAct) (c : Nat) : Prop :=
  acts = [] ∨ ∃ b o, A = some ⟨b, o, none⟩ ∧ N b ∧ acts.length ≤ c ∧ ∀ (j : Nat) (a : EAct), acts[j]? = some a → (∀ i u, a.cells[i]? = some u → w.cell? ⟨b, o + j * 9 + i, none⟩ = some u) ∧ EntsR w a.A a.cap a.es ∧ (0 < a.es.length → ∀ b' o', a.A = some ⟨b', o', none⟩ → N b')

theorem EntsR.keepsN {w w' : World} {F : Nat → Prop} {A : Option Addr} {c : Nat} {es : List Ent} (h : EntsR w A c es) (hk : Keeps F w w') (hF : 0 < es.length → ∀ b o, A = some ⟨b, o, none⟩ → ¬ F b) : EntsR w' A c es := by
  rcases h with h | h
  · exact .inl h
  · by_cases h0 : 0 < es.length
    · exact EntsR.keeps (.inr h) hk (hF h0)
    · exact .inl (List.eq_nil_of_length_eq_zero (by omega))

theorem EActs.keeps {w w' : World} {N F : Nat → Prop} {A : Option Addr} {acts : List EAct} {c : Nat} (h : EActs w N A acts c) (hk : Keeps F w w') (hN : ∀ k, N k → ¬ F k) : EActs w' N A acts c := by
  rcases h with h | ⟨b, o, h1, h2, h3, h4⟩
  · exact .inl h
  · refine .inr ⟨b, o, h1, h2, h3, fun j a ha => ?_⟩
    obtain ⟨x, y, z⟩ := h4 j a ha
    exact ⟨fun i u hu => by have := x i u hu; exact (hk.cell (World.block_lt_of_cell? _ _ this) (hN _ h2)).trans this, y.keepsN hk (fun h0 b' o' e => hN b' (z h0 b' o' e)), z⟩

theorem EActs.at_ {w : World} {N : Nat → Prop} {A : Option Addr} {acts : List EAct} {c j : Nat} (h : EActs w N A acts c) (hj : j < acts.length) :
    ∃ b o kind later cls bytes base cyc ext A2 cap es rate, A = some ⟨b, o, none⟩ ∧ acts[j]? = some ⟨kind, later, cls, bytes, base, cyc, ext, A2, cap, es, rate⟩ ∧
      w.cell? ⟨b, o + j * 9, none⟩ = some (.int .i64 kind) ∧ w.cell? ⟨b, o + j * 9 + 1, none⟩ = some (.int .i64 later) ∧ w.cell? ⟨b, o + j * 9 + 2, none⟩ = some (.int .i64 cls) ∧ w.cell? ⟨b, o + j * 9 + 3, none⟩ = some (.int .i64 bytes) ∧
      w.cell? ⟨b, o + j * 9 + 4, none⟩ = some (.int .i64 base) ∧ w.cell? ⟨b, o + j * 9 + 5, none⟩ = some (.int .i64 cyc) ∧ w.cell? ⟨b, o + j * 9 + 6, none⟩ = some (.int .i64 ext) ∧ w.cell? ⟨b, o + j * 9 + 7, none⟩ = some (.slice A2 es.length cap) ∧
      w.cell? ⟨b, o + j * 9 + 8, none⟩ = some (.int .i64 rate) ∧ EntsR w A2 cap es ∧ (0 < es.length → ∀ b' o', A2 = some ⟨b', o', none⟩ → N b') := by
  rcases h with h | ⟨b, o, h1, h2, h3, h4⟩
  · rw [h] at hj; simp at hj
  · obtain ⟨a, ha⟩ : ∃ a, acts[j]? = some a := ⟨_, List.getElem?_eq_getElem hj⟩
    obtain ⟨x, y, z⟩ := h4 j a ha
    obtain ⟨kind, later, cls, bytes, base, cyc, ext, A2, cap, es, rate⟩ := a
    exact ⟨b, o, kind, later, cls, bytes, base, cyc, ext, A2, cap, es, rate, h1, ha, x 0 _ rfl, x 1 _ rfl, x 2 _ rfl, x 3 _ rfl, x 4 _ rfl, x 5 _ rfl, x 6 _ rfl, x 7 _ rfl, x 8 _ rfl, y, z⟩

def PlayDid (w : World) (F : Nat → Prop) (e : Ending) (w' : World) : Prop := e = .returned (.bool true) ∧ Keeps F w w'

def z1 (speed : Int) : Eg := (Eg.new speed [9, 9, 9, 9, 9, 9, 9, 9] (List.replicate 200 ([], 0))).linked true

def PInv (w0 : World) (F N : Nat → Prop) (L : Loc) (yv : Value) (I : World → Int → Prop) (nl ns : Prop) (sp : Int) (m k : Nat) (rounds i : Value) (wr : World) : Prop :=
  ∃ (j : Nat) (ρ : Nat) (G : Geo) (E : Eg) (P : Par) (n last : Int), j + k = m ∧ i = .int .i64 (j : Nat) ∧ rounds = .int .i64 (ρ : Nat) ∧ ρ ≤ 3001 ∧ n ≤ j * 4194304 ∧ PlAt w0 wr F N L G yv E P n last (ρ + j) j I nl ns sp ∧ Fresh E n

def RInv (w0 : World) (F N : Nat → Prop) (L : Loc) (G : Geo) (yv : Value) (I : World → Int → Prop) (nl ns : Prop) (sp : Int) (j : Nat) (n0 till : Int) (ab : Nat) (cs : List Value) (k : Nat) (rounds : Value) (wr : World) : Prop :=
  ∃ (ρ : Nat) (E : Eg) (P : Par) (n last : Int), ρ + k = 3001 ∧ rounds = .int .i64 (ρ : Nat) ∧ n0 ≤ n ∧ n ≤ till ∧ PlAt w0 wr F N L G yv E P n last (ρ + j) j I nl ns sp ∧ Fresh E n ∧ Blk wr ab cs 58

def RCut (w0 : World) (F N : Nat → Prop) (L : Loc) (G : Geo) (yv : Value) (I : World → Int → Prop) (nl ns : Prop) (sp : Int) (j : Nat) (n0 till : Int) (ab : Nat) (cs : List Value) (rounds : Value) (wr : World) : Prop :=
  ∃ (ρ : Nat) (E : Eg) (P : Par) (n last : Int), ρ ≤ 3001 ∧ rounds = .int .i64 (ρ : Nat) ∧ n0 ≤ n ∧ n ≤ till ∧ PlAt w0 wr F N L G yv E P n last (ρ + j) j I nl ns sp ∧ Blk wr ab cs 58

def CutRel (w0 : World) (F N : Nat → Prop) (L : Loc) (yv : Value) (I : World → Int → Prop) (nl ns : Prop) (sp : Int) (r j : Nat) (n : Int) (wx : World) : Prop :=
  ∃ (G : Geo) (E : Eg) (P : Par) (last : Int), PlAt w0 wx F N L G yv E P n last r (j + 1) I nl ns sp

def P0 : Par := ⟨Lst.zero, Lst.zero, false, false, 0⟩

/-- Play's beginning: three blocks more, and all that was made lies apart. -/
theorem play_at {w wa wb wc wd we wf : World} {F N FP : Nat → Prop} {I : World → Int → Prop} {nl ns : Prop}  {yv : Value} {speed : Int} {G : Geo}
    (hF : ∀ k, F k → k < w.heap.size) (hN : ∀ k, N k → k < w.heap.size ∧ ¬ F k) (hsp : SpeedOk speed) (hI : ∀ v v' l, I v l → Keeps (fun k => w.heap.size ≤ k) v v' → I v' l) (hi : I w 0)
    (hB0 : Blk wa w.heap.size [yv] 52) (hK0 : Keeps Nothing w wa) (hP : PoolAt wb G.pp FP (List.replicate 200 ([], 0))) (hFP : ∀ x, FP x → wa.heap.size ≤ x) (hKb : Keeps Nothing wa wb)
    (hB1 : Blk wc wb.heap.size [.pointer (some ⟨G.pp, 0, none⟩)] 24) (hK1 : Keeps Nothing wb wc) (hE : EgIn wd G (Eg.new speed [9, 9, 9, 9, 9, 9, 9, 9] (List.replicate 200 ([], 0)))) (hn : ∀ k, k < wc.heap.size → G.own k ≠ 0 → FP k) (hKd : Keeps Nothing wc wd)
    (hB2 : Blk we wd.heap.size [.pointer (some ⟨G.p, 0, none⟩)] 26) (hK2 : Keeps Nothing wd we) (hW : Went we G (z1 speed) wf G) :
    ∀ wz, Blk wz wf.heap.size P0.cells 96 → Blk wz (wf.heap.size + 1) [.pointer (some ⟨wf.heap.size, 0, none⟩)] 50 → Blk wz (wf.heap.size + 1 + 1) [.int .i64 0] 2 → Keeps Nothing wf wz →
      PlAt w wz F N ⟨wf.heap.size + 1, wf.heap.size + 1 + 1, wd.heap.size, w.heap.size, wb.heap.size, wf.heap.size⟩ G yv (z1 speed) P0 0 0 0 0 I nl ns speed ∧ Fresh (z1 speed) 0 := by
  intro wz q1 q2 q3 kz
  have s0 := hK0.size
  have s1 := hKb.size
  have s2 := hK1.size
  have s3 := hKd.size
  have s4 := hK2.size
  have s5 := hW.keeps.size
  have l0 := hB0.lt
  have l1 := hB1.lt
  have l2 := hB2.lt
  have hPl : ∀ k, FP k → k < wb.heap.size := by obtain ⟨_, _, hI⟩ := hP; exact hI.lt
  have own0 : ∀ k, k < wc.heap.size → ¬ FP k → G.own k = 0 := fun k hk hf => by
    rcases Nat.eq_zero_or_pos (G.own k) with h | h
    · exact h
    · exact absurd (hn k hk (by omega)) hf
  have o1 : G.own w.heap.size = 0 := own0 _ (by omega) (fun h => by have := hFP _ h; omega)
  have o2 : G.own wb.heap.size = 0 := own0 _ l1 (fun h => by have := hPl _ h; omega)
  have o3 : G.own wd.heap.size = 0 := hE.own0 (Nat.le_refl _)
  have hn5 : ∀ k, k < we.heap.size → G.own k = 0 → ¬ G.T k := fun k _ h x => x.1 h
  have newG : ∀ k, G.own k ≠ 0 → w.heap.size ≤ k := fun k hk => by
    by_cases hl : k < wc.heap.size
    · have := hFP k (hn k hl hk); omega
    · omega
  have kk : Keeps Nothing w we := (((hK0.same hKb).same hK1).same hKd).same hK2
  have kf : Keeps Nothing w wf := kk.up hW.keeps (fun x hx => newG x hx.1)
  have kwz := kf.same kz
  refine ⟨?_, (fun h => by cases h), (fun h => by cases h)⟩
  exact
    { eg := hW.at_.same kz
      par := ⟨q1, Lst.zero_ok _ _, Lst.zero_ok _ _⟩
      bw := q2
      bn := q3
      bp := (hB2.keeps hW.keeps (hn5 _ l2 o3)).keeps kz (fun x => x)
      by_ := ((((((hB0.keeps hKb (fun x => x)).keeps hK1 (fun x => x)).keeps hKd (fun x => x)).keeps hK2 (fun x => x)).keeps hW.keeps (fun x => x.1 o1))).keeps kz (fun x => x)
      bf := ((((hB1.keeps hKd (fun x => x)).keeps hK2 (fun x => x)).keeps hW.keeps (fun x => x.1 o2))).keeps kz (fun x => x)
      own := fun k hk => by
        have hz : ∀ k, wf.heap.size ≤ k → G.own k = 0 := fun k hk => hW.at_.own0 hk
        rcases hk with rfl | rfl | rfl | rfl | rfl | rfl
        · exact hz _ (by show _ ≤ wf.heap.size + 1; omega)
        · exact hz _ (by show _ ≤ wf.heap.size + 1 + 1; omega)
        · exact o3
        · exact o1
        · exact o2
        · exact hz _ (Nat.le_refl _)
      newL := fun k hk => by
        rcases hk with rfl | rfl | rfl | rfl | rfl | rfl <;> simp only <;> omega
      newG := newG
      keeps := kwz.mono (fun _ h _ => h.elim)
      lt := hF, nlt := hN
      po := fun b o e => by cases e
      pa := fun b o e => by cases e
      alike := by
        have e1 : (z1 speed).S.pass 0 = Sch.none := none_pass 0
        have e2 : P0.pass 0 = P0 := if_neg (fun x => by cases x.1)
        rw [e1, e2]
        exact ⟨rfl, rfl, (fun x => by cases x), (fun x => by cases x), (fun x => by cases x)⟩
      n0 := Int.le_refl _, n1 := by decide
      pe := new_pl hsp
      yi := hI _ _ _ hi (kwz.mono (fun _ h _ => h.elim)) }

/-- 'make([]byte, m)', at every world. -/
theorem make_zero (w : World) (m : Nat) (hb : 1 * m ≤ 281474976710656) : (Instr.makeSlice 34 (.int .i64 (m : Int)) (.int .i64 (m : Int))).run Try.prog w = .ok (.slice (some ⟨w.heap.size, 0, none⟩) m m) (w.alloc (.cells (rep m [.int .u8 0]).toArray 5)) := by
  obtain ⟨i, hi, hz, h1, h2⟩ := info_parts Try.info5
  have hrun := run_make (P := Try.prog) w 34 5 i (.int .u8 0) Try.underlying34 hi hz .i64 .i64 m m (by omega) (Int.le_refl _) (by rw [h2]; omega) (by omega)
  simp only [Int.toNat_natCast] at hrun
  rw [hrun]
  have := madeCells_rep (Value.cells (.int .u8 0)) m
  have e : (Value.cells (.int .u8 0)) = #[.int .u8 0] := rfl
  rw [e] at this ⊢
  rw [h1, show (1 : Nat) = (#[Value.int .u8 0] : Array Value).size from rfl]
  rw [show rep m [Value.int .u8 0] = rep m (#[Value.int .u8 0] : Array Value).toList from rfl, ← this]

theorem EActs.ents {w : World} {N : Nat → Prop} {A : Option Addr} {acts : List EAct} {c j : Nat} {a : EAct} (h : EActs w N A acts c) (ha : acts[j]? = some a) : EntsR w a.A a.cap a.es ∧ (0 < a.es.length → ∀ b' o', a.A = some ⟨b', o', none⟩ → N b') := by
  rcases h with h | ⟨b, o, h1, h2, h3, h4⟩
  · rw [h] at ha; simp at ha
  · obtain ⟨x, y, z⟩ := h4 j a ha
    exact ⟨y, z⟩

section
variable {w0 w w' : World} {F N : Nat → Prop} {L : Loc} {G : Geo} {yv : Value} {E : Eg} {P : Par} {n last : Int} {r j : Nat} {I : World → Int → Prop} {nl ns : Prop} {sp : Int}

theorem PlAt.next (h : PlAt w0 w F N L G yv E P n last r j I nl ns sp) : PlAt w0 w F N L G yv E P n last r (j + 1) I nl ns sp := { h with pe := h.pe.next }

theorem PlAt.sameF {G' : Geo} {E' : Eg} (h : PlAt w0 w F N L G yv E P n last r j I nl ns sp) (hW : Went w G E' w' G') : Blk w' L.cf [.pointer (some ⟨G.pp, 0, none⟩)] 24 :=
  h.bf.keeps hW.keeps (fun x => x.1 (h.own L.cf (by simp [Loc.all])))

theorem PlAt.cells {G' : Geo} {E' : Eg} (h : PlAt w0 w F N L G yv E P n last r j I nl ns sp) (hW : Went w G E' w' G') : w'.cell? ⟨L.cp, 0, none⟩ = some (.pointer (some ⟨G'.p, 0, none⟩)) ∧ w'.cell? ⟨L.cn, 0, none⟩ = some (.int .i64 n) ∧ w'.cell? ⟨L.cf, 0, none⟩ = some (.pointer (some ⟨G'.pp, 0, none⟩)) := by
  have nL : ∀ k, L.all k → ¬ G.T k := fun k hk x => x.1 (h.own k hk)
  rw [hW.ext.p, hW.ext.pp]
  exact ⟨(h.bp.keeps hW.keeps (nL _ (by simp [Loc.all]))).cell 0, (h.bn.keeps hW.keeps (nL _ (by simp [Loc.all]))).cell 0, (h.bf.keeps hW.keeps (nL _ (by simp [Loc.all]))).cell 0⟩

theorem held_take {ps : PSt} {k : Nat} (hf : freeP ps = some k) (bs : Bytes) (hb : ∀ i, heldOf ps i ≤ 100000) : ∀ i, heldOf (takeP ps bs) i ≤ 100000 := fun i => by
  obtain ⟨-, hkl, -⟩ := freeP_held hf
  have e : takeP ps bs = ps.set k (bs, 1) := by unfold takeP; rw [hf]
  rw [e, heldOf_set hkl]
  split
  · show 1 ≤ 100000; decide
  · exact hb i

theorem held_push {E : Eg} (hb : ∀ i, heldOf E.ps i ≤ 100000) (c id : Int) : ∀ i, heldOf (E.pushed c id).ps i ≤ 1000000000 := fun i => by
  unfold Eg.pushed
  have h1 := hb i
  have h2 := hb id
  split
  · show heldOf E.ps i ≤ _; omega
  · split
    · show heldOf E.ps i ≤ _; omega
    · split
      · show heldOf (holdP E.ps id) i ≤ _
        rw [heldOf_holdP]
        split <;> omega
      · show heldOf E.ps i ≤ _; omega

theorem PlAt.held5 (h : PlAt w0 w F N L G yv E P n last r j I nl ns sp) (i : Int) : heldOf E.ps i ≤ 100000 := by
  rw [h.pe.led.held]
  have h1 := h.eg.ring.total_le
  have h2 : cntR E.rs i ≤ totalOf E.rs := by
    rw [← count_flat, ← length_flat]
    exact List.count_le_length
  split <;> omega

theorem pushed_to {E : Eg} {cls : Int} {bs : Bytes} {k : Nat} (hf : freeP E.ps = some k) : ({ ({ E with ps := takeP E.ps bs } : Eg).pushed cls k with ps := dropP (({ E with ps := takeP E.ps bs } : Eg).pushed cls k).ps k } : Eg) = E.comes cls bs := by
  unfold Eg.comes
  rw [hf]

theorem comes_none {E : Eg} {cls : Int} {bs : Bytes} (hf : freeP E.ps = none) : E.comes cls bs = E := by
  unfold Eg.comes
  rw [hf]

/-- A list is told to the pair, too. -/
theorem PlAt.pset (h : PlAt w0 w F N L G yv E P n last r j I nl ns sp) (hI : ∀ v v' l, I v l → Keeps (fun k => w0.heap.size ≤ k) v v' → I v' l) {P' : Par} (hP : ParAt w' L.q P') (hk : Keeps (fun k => k = L.q) w w') {base cyc ext : Int} {A : Option Addr} {c : Nat} {es : List Ent} {D : Int}
    (hP' : P' = ((P.pass n).told ⟨base, cyc, ext, A, c, es⟩ D).pass n) (hN : ∀ b o, A = some ⟨b, o, none⟩ → N b) (hA : Alike (E.S.pass n) (P'.pass n)) : PlAt w0 w' F N L G yv E P' n last r j I nl ns sp := by
  have h1 := Par.pass_A (fun A => ∀ b o, A = some ⟨b, o, none⟩ → N b) (P := P) h.po h.pa n
  have h2 := Par.pass_A (fun A => ∀ b o, A = some ⟨b, o, none⟩ → N b) (P := (P.pass n).told ⟨base, cyc, ext, A, c, es⟩ D) h1.1 hN n
  rw [← hP'] at h2
  exact h.pair hI hk hP h2.1 h2.2 hA

theorem PlAt.parWent {G' : Geo} {E' : Eg} (h : PlAt w0 w F N L G yv E P n last r j I nl ns sp) (hW : Went w G E' w' G') : ParAt w' L.q P ∧ w'.cell? ⟨L.cw, 0, none⟩ = some (.pointer (some ⟨L.q, 0, none⟩)) := by
  have nL : ∀ k, L.all k → ¬ G.T k := fun k hk x => x.1 (h.own k hk)
  have nT : ∀ k, G.T k → w0.heap.size ≤ k := fun k hk => h.newG k hk.1
  exact ⟨⟨h.par.blk.keeps hW.keeps (nL _ (by simp [Loc.all])), ⟨h.par.oper.1.keeps hW.keeps (fun b o e x => by have := h.nlt b (h.po b o e); have := nT b x; omega), h.par.oper.2⟩, ⟨h.par.admin.1.keeps hW.keeps (fun b o e x => by have := h.nlt b (h.pa b o e); have := nT b x; omega), h.par.admin.2⟩⟩,
    (h.bw.keeps hW.keeps (nL _ (by simp [Loc.all]))).cell 0⟩

/-- The port was turned, then the pair. -/
theorem PlAt.both {w'' : World} {G' : Geo} {E' : Eg} {P' : Par} {r' j' : Nat} (h : PlAt w0 w F N L G yv E P n last r j I nl ns sp) (hI : ∀ v v' l, I v l → Keeps (fun k => w0.heap.size ≤ k) v v' → I v' l) (hW : Went w G E' w' G') (hk : Keeps (fun k => k = L.q) w' w'') (hP : ParAt w'' L.q P')
    (h1 : ∀ b o, P'.oper.A = some ⟨b, o, none⟩ → N b) (h2 : ∀ b o, P'.admin.A = some ⟨b, o, none⟩ → N b) (hA : Alike (E'.S.pass n) (P'.pass n)) (hE : PlE E' n last r' j' nl ns sp) : PlAt w0 w'' F N L G' yv E' P' n last r' j' I nl ns sp := by
  have nL : ∀ k, L.all k → ¬ G.T k := fun k hk x => x.1 (h.own k hk)
  have nT : ∀ k, G.T k → w0.heap.size ≤ k := fun k hk => h.newG k hk.1
  have hq : L.all L.q := by simp [Loc.all]
  have d : ∀ {b : Nat} {cs : List Value} {T : TypeId}, Blk w b cs T → T ≠ 96 → ¬ b = L.q := fun hb hT e => by
    rw [e] at hb
    exact hT (hb.inj h.par.blk)
  have own' : ∀ k, L.all k → G'.own k = 0 := fun k hk => by rw [hW.ext.own k (h.allLt k hk)]; exact h.own k hk
  exact
    { eg := hW.at_.keeps hk (fun k hk' e => hk' (by rw [e]; exact own' _ hq))
      par := hP
      bw := (h.bw.keeps hW.keeps (nL _ (by simp [Loc.all]))).keeps hk (d h.bw (by decide))
      bn := (h.bn.keeps hW.keeps (nL _ (by simp [Loc.all]))).keeps hk (d h.bn (by decide))
      bp := by rw [hW.ext.p]; exact (h.bp.keeps hW.keeps (nL _ (by simp [Loc.all]))).keeps hk (d h.bp (by decide))
      by_ := (h.by_.keeps hW.keeps (nL _ (by simp [Loc.all]))).keeps hk (d h.by_ (by decide))
      bf := by rw [hW.ext.pp]; exact (h.bf.keeps hW.keeps (nL _ (by simp [Loc.all]))).keeps hk (d h.bf (by decide))
      own := own'
      newL := h.newL
      newG := fun k hk => by
        by_cases hl : k < w.heap.size
        · exact h.newG k (by rw [← hW.ext.own k hl]; exact hk)
        · have := h.keeps.size; omega
      keeps := (h.keepsTo hW.keeps nT).trans hk (fun x e hl => by have := h.newL _ hq; omega)
      lt := h.lt, nlt := h.nlt, po := h1, pa := h2, alike := hA, n0 := h.n0, n1 := h.n1, pe := hE
      yi := hI _ _ _ (hI _ _ _ h.yi (hW.keeps.mono (fun k hk _ => nT k hk))) (hk.mono (fun k e _ => by rw [e]; exact h.newL _ hq)) }

end

end Go.Proofs.Ytimgmobmagpmlaa
