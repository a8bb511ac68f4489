/- Play: what there is between two steps. -/
import Derived.Test.YtimgmobmagpmlaaPlayP
import Derived.Test.YtimgmobmagpmlaaPState
namespace Go.Proofs.Ytimgmobmagpmlaa
open Go.RowKit

/-- Where play's own variables lie: the pair's pointer, the time, the port's pointer, the function, the pool's pointer; and the pair. -/
structure Loc where
  cw : Nat
  cn : Nat
  cp : Nat
  cy : Nat
  cf : Nat
  q : Nat

def Loc.all (L : Loc) (k : Nat) : Prop := k = L.cw ∨ k = L.cn ∨ k = L.cp ∨ k = L.cy ∨ k = L.cf ∨ k = L.q

/-- What a step may turn. -/
def Zt (F : Nat → Prop) (L : Loc) (G : Geo) (k : Nat) : Prop := F k ∨ G.T k ∨ L.all k

/-- What is told of the port alone. -/
structure PlE (E : Eg) (n last : Int) (r j : Nat) (nl ns : Prop) (sp : Int) : Prop where
  good : SchGood E.S
  ext : Ext E.S n
  rep0 : 0 ≤ E.S.rep
  rep1 : E.S.rep ≤ j
  chg0 : 0 ≤ E.S.chg
  cnt1 : E.S.cnt ≤ j
  led : Led E
  speed : SpeedOk E.speed
  spd : E.speed = sp
  lost : ∀ x ∈ E.rs, x.lost ≤ j
  cnts : ∀ (c : Nat) (m : Int), E.cnt[c]? = some m → 0 ≤ m ∧ m ≤ r
  nl : nl → (E.busy = true → last = E.till) ∧ (E.busy = false → last ≤ n)
  ns : ns → E.S = Sch.none ∧ E.shaped = false

structure PlAt (w0 w : World) (F N : Nat → Prop) (L : Loc) (G : Geo) (yv : Value) (E : Eg) (P : Par) (n last : Int) (r j : Nat) (I : World → Int → Prop) (nl ns : Prop) (sp : Int) : Prop where
  eg : EgIn w G E
  par : ParAt w L.q P
  bw : Blk w L.cw [.pointer (some ⟨L.q, 0, none⟩)] 50
  bn : Blk w L.cn [.int .i64 n] 2
  bp : Blk w L.cp [.pointer (some ⟨G.p, 0, none⟩)] 26
  by_ : Blk w L.cy [yv] 52
  bf : Blk w L.cf [.pointer (some ⟨G.pp, 0, none⟩)] 24
  own : ∀ k, L.all k → G.own k = 0
  newL : ∀ k, L.all k → w0.heap.size ≤ k
  newG : ∀ k, G.own k ≠ 0 → w0.heap.size ≤ k
  keeps : Keeps F w0 w
  lt : ∀ k, F k → k < w0.heap.size
  nlt : ∀ k, N k → k < w0.heap.size ∧ ¬ F k
  po : ∀ b o, P.oper.A = some ⟨b, o, none⟩ → N b
  pa : ∀ b o, P.admin.A = some ⟨b, o, none⟩ → N b
  alike : Alike (E.S.pass n) (P.pass n)
  n0 : 0 ≤ n
  n1 : n ≤ 300000000
  pe : PlE E n last r j nl ns sp
  yi : I w last

theorem PlAt.held {w0 w : World} {F N : Nat → Prop} {L : Loc} {G : Geo} {yv : Value} {E : Eg} {P : Par} {n last : Int} {r j : Nat} {I : World → Int → Prop} {nl ns : Prop} {sp : Int}
    (h : PlAt w0 w F N L G yv E P n last r j I nl ns sp) (i : Int) : heldOf E.ps i ≤ 1000000000 := by
  rw [h.pe.led.held]
  have h1 := h.eg.ring.total_le
  have h2 : cntR E.rs i ≤ totalOf E.rs := by
    rw [← count_flat, ← length_flat]
    exact List.count_le_length
  split <;> omega

theorem PlAt.ok {w0 w : World} {F N : Nat → Prop} {L : Loc} {G : Geo} {yv : Value} {E : Eg} {P : Par} {n last : Int} {r1 j : Nat} {I : World → Int → Prop} {nl ns : Prop} {sp : Int}
    (h : PlAt w0 w F N L G yv E P n last r1 j I nl ns sp) (hr : r1 ≤ 5000) (hj : j ≤ 60) : EgOk E n where
  speed := h.pe.speed
  has := fun r hr x hx => by
    have h1 := h.pe.led.has r hr x hx
    have h2 := h.pe.led.size x (by omega)
    exact ⟨h1, by omega, h2.2⟩
  good := h.pe.good
  ext := h.pe.ext
  n0 := h.n0
  n1 := by have := h.n1; omega
  chg0 := h.pe.chg0
  chg1 := by have := h.pe.cnt1; omega
  cnts := fun c m hm => by have := h.pe.cnts c m hm; omega
  held := h.held
  lost := fun r hr => by have := h.pe.lost r hr; omega

/-- Play's own blocks, and the port's, turn; nothing else. -/
theorem PlAt.keepsTo {w0 w w' : World} {F N : Nat → Prop} {L : Loc} {G : Geo} {yv : Value} {E : Eg} {P : Par} {n last : Int} {r j : Nat} {I : World → Int → Prop} {nl ns : Prop} {sp : Int}
    (h : PlAt w0 w F N L G yv E P n last r j I nl ns sp) {T : Nat → Prop} (hk : Keeps T w w') (hT : ∀ k, T k → w0.heap.size ≤ k) : Keeps F w0 w' :=
  h.keeps.trans hk (fun x hx hl => by have := hT x hx; omega)

/-- The port was turned. -/
theorem PlAt.port {w0 w w' : World} {F N : Nat → Prop} {L : Loc} {G G' : Geo} {yv : Value} {E E' : Eg} {P : Par} {n last : Int} {r j r' j' : Nat} {I : World → Int → Prop} {nl ns nl' ns' : Prop} {sp : Int}
    (h : PlAt w0 w F N L G yv E P n last r j I nl ns sp) (hI : ∀ v v' l, I v l → Keeps (fun k => w0.heap.size ≤ k) v v' → I v' l) (hW : Went w G E' w' G') (hA : Alike (E'.S.pass n) (P.pass n)) (hE : PlE E' n last r' j' nl' ns' sp) : PlAt w0 w' F N L G' yv E' P n last r' j' I nl' ns' sp := by
  have nL : ∀ k, L.all k → ¬ G.T k := fun k hk x => x.1 (h.own k hk)
  have nT : ∀ k, G.T k → w0.heap.size ≤ k := fun k hk => h.newG k hk.1
  have hlt : ∀ k, L.all k → k < w.heap.size := fun k hk => by
    rcases hk with rfl | rfl | rfl | rfl | rfl | rfl
    · exact h.bw.lt
    · exact h.bn.lt
    · exact h.bp.lt
    · exact h.by_.lt
    · exact h.bf.lt
    · exact h.par.blk.lt
  exact
    { eg := hW.at_
      par := ⟨h.par.blk.keeps hW.keeps (nL _ (by simp [Loc.all])), ⟨h.par.oper.1.keeps hW.keeps (fun b o e x => by have := h.nlt b (h.po b o e); have := nT b x; omega), h.par.oper.2⟩, ⟨h.par.admin.1.keeps hW.keeps (fun b o e x => by have := h.nlt b (h.pa b o e); have := nT b x; omega), h.par.admin.2⟩⟩
      bw := h.bw.keeps hW.keeps (nL _ (by simp [Loc.all]))
      bn := h.bn.keeps hW.keeps (nL _ (by simp [Loc.all]))
      bp := by rw [hW.ext.p]; exact h.bp.keeps hW.keeps (nL _ (by simp [Loc.all]))
      by_ := h.by_.keeps hW.keeps (nL _ (by simp [Loc.all]))
      bf := by rw [hW.ext.pp]; exact h.bf.keeps hW.keeps (nL _ (by simp [Loc.all]))
      own := fun k hk => by rw [hW.ext.own k (hlt k hk)]; exact h.own k hk
      newL := h.newL
      newG := fun k hk => by
        by_cases hl : k < w.heap.size
        · exact h.newG k (by rw [← hW.ext.own k hl]; exact hk)
        · have := h.keeps.size; omega
      keeps := h.keepsTo hW.keeps nT
      lt := h.lt, nlt := h.nlt, po := h.po, pa := h.pa, alike := hA, n0 := h.n0, n1 := h.n1, pe := hE
      yi := hI _ _ _ h.yi (hW.keeps.mono (fun k hk _ => nT k hk)) }

/-- The pair was turned. -/
theorem PlAt.pair {w0 w w' : World} {F N : Nat → Prop} {L : Loc} {G : Geo} {yv : Value} {E : Eg} {P P' : Par} {n last : Int} {r j : Nat} {I : World → Int → Prop} {nl ns : Prop} {sp : Int}
    (h : PlAt w0 w F N L G yv E P n last r j I nl ns sp) (hI : ∀ v v' l, I v l → Keeps (fun k => w0.heap.size ≤ k) v v' → I v' l) (hk : Keeps (fun k => k = L.q) w w') (hP : ParAt w' L.q P') (h1 : ∀ b o, P'.oper.A = some ⟨b, o, none⟩ → N b) (h2 : ∀ b o, P'.admin.A = some ⟨b, o, none⟩ → N b) (hA : Alike (E.S.pass n) (P'.pass n)) : PlAt w0 w' F N L G yv E P' n last r j I nl ns sp := by
  have hq : L.all L.q := by simp [Loc.all]
  have d : ∀ {b : Nat} {cs : List Value} {T : TypeId}, Blk w b cs T → T ≠ 96 → ¬ b = L.q := fun hb hT e => by
    rw [e] at hb
    exact hT (hb.inj h.par.blk)
  exact
    { eg := h.eg.keeps hk (fun k hk' e => hk' (by rw [e]; exact h.own _ hq))
      par := hP
      bw := h.bw.keeps hk (d h.bw (by decide))
      bn := h.bn.keeps hk (d h.bn (by decide))
      bp := h.bp.keeps hk (d h.bp (by decide))
      by_ := h.by_.keeps hk (d h.by_ (by decide))
      bf := h.bf.keeps hk (d h.bf (by decide))
      own := h.own, newL := h.newL, newG := h.newG
      keeps := h.keepsTo hk (fun k e => by rw [e]; exact h.newL _ hq)
      lt := h.lt, nlt := h.nlt, po := h1, pa := h2, alike := hA, n0 := h.n0, n1 := h.n1, pe := h.pe
      yi := hI _ _ _ h.yi (hk.mono (fun k e _ => by rw [e]; exact h.newL _ hq)) }

/-- What is told when a frame goes. -/
structure YFacts (E : Eg) (P : Par) (n last : Int) (nl ns : Prop) (sp : Int) : Prop where
  busy : E.busy = true
  frm : E.frm = n
  till : E.till = n + timeOf (sizeP E.ps E.id) E.speed
  speed : SpeedOk E.speed
  spd : E.speed = sp
  s0 : 64 ≤ sizeP E.ps E.id
  s1 : sizeP E.ps E.id ≤ 1522
  n0 : 0 ≤ n
  n1 : n ≤ 300000000
  alike : Alike E.S P
  good : SchGood E.S
  ext : Ext E.S n
  opens : ∃ c : Nat, E.cls = (c : Int) ∧ c < 8 ∧ Fit.Fits (E.S.sys n) (opn (wrap64 ((2 : Int) ^ c))) (timeOf (sizeP E.ps E.id) E.speed) n ∧ (ns → ∀ d, c < d → d < 8 → (E.rs.getD d ⟨0, [], 0⟩).q = [])
  nl : nl → last ≤ n

def YSpec (K : Nat) (caps : Array Value) (F : Nat → Prop) (I : World → Int → Prop) (nl ns : Prop) (sp : Int) : Prop :=
  ∀ (w : World) (q : Nat) (G : Geo) (E : Eg) (P : Par) (n last : Int), EgIn w G E → ParAt w q P → I w last → YFacts E P n last nl ns sp →
    Calls Try.prog K (#[.pointer (some ⟨G.p, 0, none⟩), .pointer (some ⟨q, 0, none⟩), .agg #[.int .i64 E.cls, .int .i64 E.id, .int .i64 E.frm, .int .i64 E.till], .int .i64 (sizeP E.ps E.id)] ++ caps) w
      (fun e w' => e = .returned (.bool true) ∧ I w' E.till ∧ Keeps F w w')

def Fresh (E : Eg) (n : Int) : Prop := (E.S.waits = true → n < E.S.due) ∧ (E.busy = true → n < E.till)

def StepDid (w0 w : World) (F N : Nat → Prop) (L : Loc) (G : Geo) (yv : Value) (n : Int) (r j : Nat) (I : World → Int → Prop) (nl ns : Prop) (sp : Int) (e : Ending) (w' : World) : Prop :=
  e = .returned (.bool true) ∧ ∃ E P last, PlAt w0 w' F N L G yv E P n last (r + 1) j I nl ns sp ∧ Fresh E n ∧ Keeps (Zt F L G) w w'

def StepInv (w0 w : World) (F N : Nat → Prop) (L : Loc) (G : Geo) (yv : Value) (n : Int) (r j : Nat) (I : World → Int → Prop) (nl ns : Prop) (sp : Int) (k : Nat) (wr : World) : Prop :=
  ∃ (E : Eg) (P : Par) (last : Int) (r1 : Nat), (k = 2 ∧ r1 = r ∨ k = 1 ∧ r1 = r + 1) ∧ (k = 1 → E.busy = true ∧ n < E.till) ∧ PlAt w0 wr F N L G yv E P n last r1 j I nl ns sp ∧ Keeps (Zt F L G) w wr

theorem Sch.pass_pass (S : Sch) {n m : Int} (h : n ≤ m) : (S.pass n).pass m = S.pass m := by
  unfold Sch.pass
  by_cases h1 : S.waits = true ∧ S.due ≤ n
  · rw [if_pos h1, if_neg (show ¬ (S.passed.waits = true ∧ S.passed.due ≤ m) from fun x => by cases x.1), if_pos ⟨h1.1, Int.le_trans h1.2 h⟩]
  · rw [if_neg h1]

theorem Par.pass_pass (P : Par) {n m : Int} (h : n ≤ m) : (P.pass n).pass m = P.pass m := by
  unfold Par.pass
  by_cases h1 : P.waits = true ∧ P.due ≤ n
  · rw [if_pos h1, if_neg (show ¬ (P.passed.waits = true ∧ P.passed.due ≤ m) from fun x => by cases x.1), if_pos ⟨h1.1, Int.le_trans h1.2 h⟩]
  · rw [if_neg h1]

theorem Sch.pass_due (S : Sch) (n : Int) : (S.pass n).waits = true → n < (S.pass n).due := by
  unfold Sch.pass
  by_cases h1 : S.waits = true ∧ S.due ≤ n
  · rw [if_pos h1]; intro h; cases h
  · rw [if_neg h1]
    intro h
    have : ¬ S.due ≤ n := fun x => h1 ⟨h, x⟩
    omega

section
variable {w0 w w' : World} {F N : Nat → Prop} {L : Loc} {G : Geo} {yv : Value} {E : Eg} {P : Par} {n last : Int} {r j : Nat} {I : World → Int → Prop} {nl ns : Prop} {sp : Int}

theorem PlAt.ppass (h : PlAt w0 w F N L G yv E P n last r j I nl ns sp) (hI : ∀ v v' l, I v l → Keeps (fun k => w0.heap.size ≤ k) v v' → I v' l) (hP : ParAt w' L.q (P.pass n)) (hk : Keeps (fun k => k = L.q) w w') : PlAt w0 w' F N L G yv E (P.pass n) n last r j I nl ns sp := by
  have hA := Par.pass_A (fun A => ∀ b o, A = some ⟨b, o, none⟩ → N b) (P := P) h.po h.pa n
  exact h.pair hI hk hP hA.1 hA.2 (by rw [Par.pass_pass P (Int.le_refl n)]; exact h.alike)

/-- What End comes to, as one of two. -/
def EndCase (E : Eg) (n : Int) (E' : Eg) : Prop := (E.busy = true ∧ E.till ≤ n ∧ E' = E.ended) ∨ ((E.busy = false ∨ n < E.till) ∧ E' = E)

theorem end_cases {e : Ending} (h : EndDid w G E n e w') : ∃ a b c d x E', e = .returned (.tuple #[.agg #[.int .i64 a, .int .i64 b, .int .i64 c, .int .i64 d], .bool x]) ∧ Went w G E' w' G ∧ EndCase E n E' := by
  rcases h with ⟨h1, h2, h3, h4⟩ | ⟨h1, h3, h4⟩
  · exact ⟨_, _, _, _, _, _, h3, h4, .inl ⟨h1, h2, rfl⟩⟩
  · exact ⟨_, _, _, _, _, _, h3, h4, .inr ⟨h1, rfl⟩⟩

theorem EndCase.fresh {E' : Eg} (h : EndCase E n E') : E'.busy = true → n < E'.till := by
  rcases h with ⟨_, _, rfl⟩ | ⟨h1, rfl⟩
  · intro h; cases h
  · intro h; rcases h1 with h1 | h1
    · rw [h] at h1; cases h1
    · exact h1

theorem EndCase.stays {E' : Eg} (h : EndCase E n E') (hb : E.busy = true ∧ n < E.till) : E' = E := by
  rcases h with ⟨_, h1, rfl⟩ | ⟨_, rfl⟩
  · omega
  · rfl

theorem EndCase.sch {E' : Eg} (h : EndCase E n E') : E'.S = E.S := by
  rcases h with ⟨_, h1, rfl⟩ | ⟨_, rfl⟩ <;> rfl

theorem EndCase.pl {E' : Eg} (h : EndCase E n E') (hp : PlE E n last r j nl ns sp) : PlE E' n last r j nl ns sp := by
  rcases h with ⟨hb, ht, rfl⟩ | ⟨_, rfl⟩
  · exact { good := hp.good, ext := hp.ext, rep0 := hp.rep0, rep1 := hp.rep1, chg0 := hp.chg0, cnt1 := hp.cnt1, led := hp.led.ended hb, speed := hp.speed, spd := hp.spd, lost := hp.lost, cnts := hp.cnts
            nl := fun x => ⟨(fun y => by cases y), fun _ => by rw [(hp.nl x).1 hb]; exact ht⟩, ns := hp.ns }
  · exact hp

theorem PlE.passed (hp : PlE E n last r j nl ns sp) : PlE (E.passed n) n last r j nl ns sp :=
  { good := hp.good.pass n, ext := hp.ext.pass (Int.le_refl n), rep0 := by show 0 ≤ (E.S.pass n).rep; rw [(Sch.pass_chg E.S n).2.2]; exact hp.rep0, rep1 := by show (E.S.pass n).rep ≤ j; rw [(Sch.pass_chg E.S n).2.2]; exact hp.rep1,
    chg0 := by have := hp.chg0; have := (Sch.pass_chg E.S n).1; show 0 ≤ (E.S.pass n).chg; omega, cnt1 := by show (E.S.pass n).cnt ≤ j; rw [Sch.cnt_pass]; exact hp.cnt1
    led := ⟨hp.led.held, hp.led.sum, hp.led.size, hp.led.r8⟩, speed := hp.speed, spd := hp.spd, lost := hp.lost, cnts := hp.cnts, nl := hp.nl
    ns := fun x => ⟨by show E.S.pass n = _; rw [(hp.ns x).1, none_pass], (hp.ns x).2⟩ }

theorem PlE.more (hp : PlE E n last r j nl ns sp) {r' : Nat} (h : r ≤ r') : PlE E n last r' j nl ns sp :=
  { hp with cnts := fun c m hm => by have := hp.cnts c m hm; omega }

theorem fitsOf_now {S : Sch} (hg : SchGood S) {now : Int} (h0 : 0 ≤ now) (hx : Ext S now) {c : Nat} {need : Int} (hn : 1 ≤ need) (h1 : 0 ≤ fitsOf S c now need) (h2 : fitsOf S c now need ≤ now) : Fit.Fits (S.sys now) (opn (wrap64 ((2 : Int) ^ c))) need now := by
  obtain ⟨q, hq, hf⟩ := Fit.fits_ok (Sch.sys_ok hg h0 hx) (opn (wrap64 ((2 : Int) ^ c))) hn
  have e : fitsOf S c now need = q := by
    unfold fitsOf
    rw [show (S.sys now).fits (opn (wrap64 ((2 : Int) ^ c))) need now = some q from hq]
    rfl
  rw [e] at h1 h2
  have e2 : (S.sys now).now = now := rfl
  rcases hf with ⟨a, b, -⟩ | ⟨a, -⟩
  · rw [e2] at a
    have : q = now := by omega
    rw [this] at b
    exact b
  · omega

/-- A frame goes: what is told of it, and of the port. -/
theorem PlE.goes (hp : PlE E n last r j nl ns sp) (hb : E.busy = false) (hok : EgOk E n) (h300 : n ≤ 300000000) {P : Par} (hA : Alike E.S P) {hs : List Hd} (hH : HeadsIs E n hs) {c : Nat} (hc : c < 8) (hcl : classGo hs n 8 = (c : Int)) {x : Int} {q : List Int} (hq : (E.rs.getD c ⟨0, [], 0⟩).q = x :: q) :
    YFacts (E.sends n c x q) P n last nl ns sp ∧ PlE (E.sends n c x q) n (E.sends n c x q).till (r + 1) j nl ns sp ∧ n < (E.sends n c x q).till := by
  obtain ⟨rr, hr, hg⟩ := hp.led.row hc
  have hx : 0 < heldOf E.ps x := hp.led.has rr (List.mem_of_getElem? hr) x (by rw [← hg, hq]; exact List.mem_cons_self)
  obtain ⟨s0, s1⟩ := hp.led.size x (by omega)
  have htr := timeOf_range hp.speed (by omega : 0 ≤ sizeP E.ps x) s1
  obtain ⟨-, hgo, -⟩ := classGo_goes hcl
  obtain ⟨x', q', cr, hq', -, -, hf0, hf1, -⟩ := headOf_goes (hH.get hc) hgo
  rw [hq] at hq'
  injection hq' with hxx _
  subst hxx
  have hfit := fitsOf_now hp.good hok.n0 hp.ext (by omega : 1 ≤ timeOf (sizeP E.ps x) E.speed) hf0 hf1
  refine ⟨?_, ?_, ?_⟩
  · exact
      { busy := rfl, frm := rfl, till := rfl, speed := hp.speed, spd := hp.spd, s0 := s0, s1 := s1, n0 := hok.n0, n1 := h300, alike := hA, good := hp.good, ext := hp.ext
        opens := ⟨c, rfl, hc, hfit, fun hns d h1 h2 => by
          have hpl : EgPl E n := ⟨⟨(hp.ns hns).1, (hp.ns hns).2⟩, hok, fun r' hr' y hy => by
            have := hp.led.has r' hr' y hy
            have := hp.led.size y (by omega)
            omega, hp.led.r8⟩
          have ht := classGo_top hpl hH 8 (Nat.le_refl _)
          cases htc : topC E.rs 8 with
          | none => rw [htc, hcl] at ht; simp only at ht; omega
          | some d' =>
            rw [htc, hcl] at ht
            simp only at ht
            obtain rfl : d' = c := by omega
            have := (topC_some htc).2.2 d h1 h2
            show ((E.rs.set d' _).getD d ⟨0, [], 0⟩).q = []
            rw [List.getD_eq_getElem?_getD, List.getElem?_set_ne (by omega), ← List.getD_eq_getElem?_getD]
            exact this⟩
        nl := fun x => (hp.nl x).2 hb }
  · exact
      { good := hp.good, ext := hp.ext, rep0 := hp.rep0, rep1 := hp.rep1, chg0 := hp.chg0, cnt1 := hp.cnt1, led := hp.led.sends hb hc hq, speed := hp.speed, spd := hp.spd
        lost := fun y hy => by
          have hy : y ∈ E.rs.set c { E.rs.getD c ⟨0, [], 0⟩ with q := q } := hy
          rcases List.mem_or_eq_of_mem_set hy with hy | rfl
          · exact hp.lost y hy
          · rw [hg]; exact hp.lost rr (List.mem_of_getElem? hr)
        cnts := fun d m hm => by
          have hm : (E.cnt.set c (E.cnt.getD c 0 + 1))[d]? = some m := hm
          by_cases e : c = d
          · subst e
            by_cases hl : c < E.cnt.length
            · rw [List.getElem?_set_self hl] at hm
              injection hm with hm
              have := hp.cnts c (E.cnt.getD c 0) (by rw [List.getD_eq_getElem?_getD, List.getElem?_eq_getElem hl]; rfl)
              omega
            · rw [List.getElem?_eq_none (by rw [List.length_set]; omega)] at hm; cases hm
          · rw [List.getElem?_set_ne e] at hm
            have := hp.cnts d m hm
            omega
        nl := fun _ => ⟨fun _ => rfl, fun x => by cases x⟩, ns := hp.ns }
  · show n < n + timeOf (sizeP E.ps x) E.speed
    omega

/-- The one who is told has turned what is his. -/
theorem PlAt.yields {nl' ns' : Prop} (h : PlAt w0 w F N L G yv E P n last r j I nl ns sp) {last' : Int} {r' : Nat} (hk : Keeps F w w') (hi : I w' last') (hE : PlE E n last' r' j nl' ns' sp) : PlAt w0 w' F N L G yv E P n last' r' j I nl' ns' sp := by
  have nL : ∀ k, L.all k → ¬ F k := fun k hk x => by have := h.newL k hk; have := h.lt k x; omega
  have nG : ∀ k, G.own k ≠ 0 → ¬ F k := fun k hk x => by have := h.newG k hk; have := h.lt k x; omega
  exact
    { eg := h.eg.keeps hk nG
      par := ⟨h.par.blk.keeps hk (nL _ (by simp [Loc.all])), ⟨h.par.oper.1.keeps hk (fun b o e => (h.nlt b (h.po b o e)).2), h.par.oper.2⟩, ⟨h.par.admin.1.keeps hk (fun b o e => (h.nlt b (h.pa b o e)).2), h.par.admin.2⟩⟩
      bw := h.bw.keeps hk (nL _ (by simp [Loc.all]))
      bn := h.bn.keeps hk (nL _ (by simp [Loc.all]))
      bp := h.bp.keeps hk (nL _ (by simp [Loc.all]))
      by_ := h.by_.keeps hk (nL _ (by simp [Loc.all]))
      bf := h.bf.keeps hk (nL _ (by simp [Loc.all]))
      own := h.own, newL := h.newL, newG := h.newG
      keeps := h.keeps.trans hk (fun _ x _ => x)
      lt := h.lt, nlt := h.nlt, po := h.po, pa := h.pa, alike := h.alike, n0 := h.n0, n1 := h.n1, pe := hE, yi := hi }

/-- New blocks, of no one. -/
theorem PlAt.alloc (h : PlAt w0 w F N L G yv E P n last r j I nl ns sp) (hI : ∀ v v' l, I v l → Keeps (fun k => w0.heap.size ≤ k) v v' → I v' l) (hk : Keeps Nothing w w') : PlAt w0 w' F N L G yv E P n last r j I nl ns sp :=
  { eg := h.eg.same hk
    par := ⟨h.par.blk.keeps hk (fun x => x), h.par.oper.same hk, h.par.admin.same hk⟩
    bw := h.bw.keeps hk (fun x => x), bn := h.bn.keeps hk (fun x => x), bp := h.bp.keeps hk (fun x => x), by_ := h.by_.keeps hk (fun x => x), bf := h.bf.keeps hk (fun x => x)
    own := h.own, newL := h.newL, newG := h.newG
    keeps := h.keepsTo hk (fun _ x => x.elim)
    lt := h.lt, nlt := h.nlt, po := h.po, pa := h.pa, alike := h.alike, n0 := h.n0, n1 := h.n1, pe := h.pe
    yi := hI _ _ _ h.yi (hk.mono (fun _ x _ => x.elim)) }

theorem PlAt.allLt (h : PlAt w0 w F N L G yv E P n last r j I nl ns sp) : ∀ k, L.all k → k < w.heap.size := fun k hk => by
  rcases hk with rfl | rfl | rfl | rfl | rfl | rfl
  · exact h.bw.lt
  · exact h.bn.lt
  · exact h.bp.lt
  · exact h.by_.lt
  · exact h.bf.lt
  · exact h.par.blk.lt

theorem PlAt.apart (h : PlAt w0 w F N L G yv E P n last r j I nl ns sp) {b : Nat} (hb : w.heap.size ≤ b) : ¬ Zt F L G b := fun x => by
  rcases x with x | x | x
  · have := h.lt b x; have := h.keeps.size; omega
  · exact x.1 (h.eg.own0 hb)
  · have := h.allLt b x; omega

end

end Go.Proofs.Ytimgmobmagpmlaa
