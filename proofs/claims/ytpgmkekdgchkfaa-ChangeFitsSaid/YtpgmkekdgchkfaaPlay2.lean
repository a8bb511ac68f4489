/- Lists that are told one after the other, to the schedule and to the document's pair. -/
import Derived.Test.YtpgmkekdgchkfaaPlay
import Derived.Test.YtpgmkekdgchkfaaAt2
namespace Go.Proofs.Ytpgmkekdgchkfaa
open Go.RowKit

theorem results_tmp4 {fn : Func} {t u v x : Tmp} (h : fn.results = #[.tmp t, .tmp u, .tmp v, .tmp x]) (tmps : Array Value) (P : Program) (w : World) :
    (results fn tmps).run P w = .ok (.tuple #[tmps.getD t undef, tmps.getD u undef, tmps.getD v undef, tmps.getD x undef]) w := by
  simp [results, h]

/-- What is known besides: the list in force has begun; lists are short. -/
structure Ext (S : Sch) (n : Int) : Prop where
  base : S.has = true → S.oper.base ≤ n
  ol : S.oper.es.length ≤ 64
  al : S.admin.es.length ≤ 64

theorem Ext.mono {S : Sch} {n m : Int} (h : Ext S n) (hm : n ≤ m) : Ext S m := ⟨fun x => Int.le_trans (h.base x) hm, h.ol, h.al⟩

theorem Ext.pass {S : Sch} {n m : Int} (h : Ext S n) (hm : n ≤ m) : Ext (S.pass m) m := by
  unfold Sch.pass
  split
  · rename_i hw
    exact ⟨fun _ => hw.2, h.al, by show (0 : Nat) ≤ 64; omega⟩
  · exact h.mono hm

theorem Ext.told {S : Sch} {n : Int} (h : Ext S n) {l : Lst} (hl : l.es.length ≤ 64) (D : Int) : Ext (S.told l D) n := ⟨h.base, h.ol, hl⟩

structure PlayAt (w0 w : World) (p q : Nat) (S : Sch) (P : Par) (j : Nat) (n cn : Int) : Prop where
  keeps : Keeps Nothing w0 w
  sch : SchAt w p S
  par : ParAt w q P
  alike : Alike S P
  good : SchGood S
  np : w0.heap.size ≤ p
  nq : w0.heap.size ≤ q
  pq : p ≠ q
  n0 : 0 ≤ n
  n1 : n ≤ j * 1099511627776
  rep0 : 0 ≤ S.rep
  rep1 : S.rep ≤ j
  chg0 : 0 ≤ S.chg
  cn0 : S.cnt ≤ cn
  cn1 : cn ≤ j
  so : ∀ b o, S.oper.A = some ⟨b, o, none⟩ → b ≠ q
  sa : ∀ b o, S.admin.A = some ⟨b, o, none⟩ → b ≠ q
  po : ∀ b o, P.oper.A = some ⟨b, o, none⟩ → b ≠ p
  pa : ∀ b o, P.admin.A = some ⟨b, o, none⟩ → b ≠ p
  ex : Ext S n

def PlayInv (w0 : World) (p q m k : Nat) (now cnt rp i : Value) (wr : World) : Prop :=
  ∃ (j : Nat) (n c : Int) (S : Sch) (P : Par), j + k = m ∧ i = .int .i64 (j : Nat) ∧ now = .int .i64 n ∧ cnt = .int .i64 c ∧ rp = .int .i64 S.rep ∧ PlayAt w0 wr p q S P j n c

def Played (w0 : World) (m : Nat) (e : Ending) (w : World) : Prop :=
  ∃ (p q : Nat) (n c : Int) (S : Sch) (P : Par), e = .returned (.tuple #[.pointer (some ⟨p, 0, none⟩), .pointer (some ⟨q, 0, none⟩), .int .i64 n, .bool true]) ∧ PlayAt w0 w p q S P m n c

theorem PlayAt.same {w0 w w' : World} {p q : Nat} {S : Sch} {P : Par} {j : Nat} {n c : Int} (h : PlayAt w0 w p q S P j n c) (hk : Keeps Nothing w w') : PlayAt w0 w' p q S P j n c :=
  ⟨h.keeps.same hk, h.sch.same hk, h.par.same hk, h.alike, h.good, h.np, h.nq, h.pq, h.n0, h.n1, h.rep0, h.rep1, h.chg0, h.cn0, h.cn1, h.so, h.sa, h.po, h.pa, h.ex⟩

theorem Par.good {S : Sch} {P : Par} (h : Alike S P) (hg : SchGood S) : ParGood P :=
  ⟨fun x => by have g := hg.oper (by rw [h.has]; exact x); have o := h.oper x; rw [o.base, o.cyc, o.ext, o.es] at g; exact g,
   fun x => by have g := hg.admin (by rw [h.waits]; exact x); have o := h.admin x; rw [h.due x, o.cyc, o.ext, o.es] at g; exact g⟩

theorem Good.start {base cyc ext : Int} {es : List Ent} (g : Good base cyc ext es) {now : Int} (h0 : 0 ≤ now) (h1 : now ≤ 1000000000000000) : Good (gstart base cyc now) cyc ext es := by
  have hr := gstart_range (base := base) (t := now) g.c0
  have := g.c1
  have := g.b1
  exact ⟨g.pos, g.len, by omega, by omega, g.c0, g.c1, g.x0, g.x1, g.ents⟩

theorem ParAt.turn {w w' : World} {p q : Nat} {P : Par} (h : ParAt w q P) (hk : Keeps (fun k => k = p) w w') (hq : q ≠ p) (h1 : ∀ b o, P.oper.A = some ⟨b, o, none⟩ → b ≠ p) (h2 : ∀ b o, P.admin.A = some ⟨b, o, none⟩ → b ≠ p) : ParAt w' q P :=
  ⟨h.blk.keeps hk hq, ⟨h.oper.1.keeps hk (fun b o e => h1 b o e), h.oper.2⟩, ⟨h.admin.1.keeps hk (fun b o e => h2 b o e), h.admin.2⟩⟩

theorem SchAt.turn {w w' : World} {p q : Nat} {S : Sch} (h : SchAt w p S) (hk : Keeps (fun k => k = q) w w') (hq : p ≠ q) (h1 : ∀ b o, S.oper.A = some ⟨b, o, none⟩ → b ≠ q) (h2 : ∀ b o, S.admin.A = some ⟨b, o, none⟩ → b ≠ q) : SchAt w' p S :=
  ⟨h.blk.keeps hk hq, ⟨h.oper.1.keeps hk (fun b o e => h1 b o e), h.oper.2⟩, ⟨h.admin.1.keeps hk (fun b o e => h2 b o e), h.admin.2⟩⟩

theorem Sch.pass_A (Q : Option Addr → Prop) (h0 : Q none) {S : Sch} (h1 : Q S.oper.A) (h2 : Q S.admin.A) (now : Int) : Q (S.pass now).oper.A ∧ Q (S.pass now).admin.A := by
  unfold Sch.pass
  split
  · exact ⟨h2, h0⟩
  · exact ⟨h1, h2⟩

theorem Par.pass_A (Q : Option Addr → Prop) {P : Par} (h1 : Q P.oper.A) (h2 : Q P.admin.A) (now : Int) : Q (P.pass now).oper.A ∧ Q (P.pass now).admin.A := by
  unfold Par.pass
  split
  · exact ⟨h2, h2⟩
  · exact ⟨h1, h2⟩

set_option maxRecDepth 100000 in
set_option maxHeartbeats 8000000 in
theorem play_ok {w : World} {A : Option Addr} {acts : List KAct} {c : Nat} (h : KActs w A acts c) (hl : acts.length ≤ 30) :
    Calls Try.prog 36 #[.slice A acts.length c] w (Played w acts.length) := by
  have HA := Lib.hid h
  clear h
  go_enter Try.func36, Try.ntmps36
  have hW : Hid (PlayAt w ((w.alloc (.cells #[.int .i64 0, .int .i64 0, .int .i64 0, .slice none 0 0, .int .i64 0, .int .i64 0, .int .i64 0, .slice none 0 0, .bool false, .bool false, .int .i64 0, .int .i64 0, .int .i64 0] 79)).alloc (.cells #[.int .i64 0, .int .i64 0, .int .i64 0, .slice none 0 0, .int .i64 0, .int .i64 0, .int .i64 0, .slice none 0 0, .bool false, .bool false, .int .i64 0] 74)) w.heap.size (w.heap.size + 1) S0 ⟨Lst.zero, Lst.zero, false, false, 0⟩ 0 0 0) := by
    have hB2 : Blk ((w.alloc (.cells #[.int .i64 0, .int .i64 0, .int .i64 0, .slice none 0 0, .int .i64 0, .int .i64 0, .int .i64 0, .slice none 0 0, .bool false, .bool false, .int .i64 0, .int .i64 0, .int .i64 0] 79)).alloc (.cells #[.int .i64 0, .int .i64 0, .int .i64 0, .slice none 0 0, .int .i64 0, .int .i64 0, .int .i64 0, .slice none 0 0, .bool false, .bool false, .int .i64 0] 74)) (w.heap.size + 1) [.int .i64 0, .int .i64 0, .int .i64 0, .slice none 0 0, .int .i64 0, .int .i64 0, .int .i64 0, .slice none 0 0, .bool false, .bool false, .int .i64 0] 74 := by
      have := Blk.new (w.alloc (.cells #[.int .i64 0, .int .i64 0, .int .i64 0, .slice none 0 0, .int .i64 0, .int .i64 0, .int .i64 0, .slice none 0 0, .bool false, .bool false, .int .i64 0, .int .i64 0, .int .i64 0] 79)) [.int .i64 0, .int .i64 0, .int .i64 0, .slice none 0 0, .int .i64 0, .int .i64 0, .int .i64 0, .slice none 0 0, .bool false, .bool false, .int .i64 0] 74
      simpa using this
    exact ⟨((Keeps.refl _ _).alloc _).alloc _, ⟨(Blk.new w [.int .i64 0, .int .i64 0, .int .i64 0, .slice none 0 0, .int .i64 0, .int .i64 0, .int .i64 0, .slice none 0 0, .bool false, .bool false, .int .i64 0, .int .i64 0, .int .i64 0] 79).alloc _, Lst.zero_ok _ _, Lst.zero_ok _ _⟩, ⟨hB2, Lst.zero_ok _ _, Lst.zero_ok _ _⟩,
      ⟨rfl, rfl, (fun x => by cases x), (fun x => by cases x), (fun x => by cases x)⟩, S0_good, Nat.le_refl _, Nat.le_succ _, by omega, by decide, by decide, by decide, by decide, by decide, by decide, by decide, (fun b o x => by cases x), (fun b o x => by cases x), (fun b o x => by cases x), (fun b o x => by cases x), ⟨(fun x => by cases x), by decide, by decide⟩⟩
  go_wp2_with fail
  generalize ((w.alloc (.cells #[.int .i64 0, .int .i64 0, .int .i64 0, .slice none 0 0, .int .i64 0, .int .i64 0, .int .i64 0, .slice none 0 0, .bool false, .bool false, .int .i64 0, .int .i64 0, .int .i64 0] 79)).alloc (.cells #[.int .i64 0, .int .i64 0, .int .i64 0, .slice none 0 0, .int .i64 0, .int .i64 0, .int .i64 0, .slice none 0 0, .bool false, .bool false, .int .i64 0] 74)) = w1 at *
  generalize w.heap.size + 1 = q at *
  go_loopg [8, 9, 10, 27] acts.length (fun k now cn rp i wr => PlayInv w w.heap.size q acts.length k now cn rp i wr)
  case atStart => exact ⟨0, 0, 0, _, _, by omega, rfl, rfl, rfl, rfl, hW.out⟩
  case round =>
    obtain ⟨j, n, cn, S, P, hj, rfl, rfl, rfl, rfl, hP⟩ := hrel
    have HP := Lib.hid hP
    have hn0 := hP.n0
    have hn1 := hP.n1
    have hc0 := hP.rep0
    have hc1 := hP.rep1
    have hc2 := hP.chg0
    have hc3 : S.chg ≤ cn := by have := hP.cn0; unfold Sch.cnt at this; split at this <;> omega
    have hc4 := hP.cn1
    clear hP hW
    by_cases hlt : j < acts.length
    · obtain ⟨b, o, later, base, cyc, ext, A2, cap, es, rfl, -, a0, a1, a2, a3, a4, he⟩ := HA.out.at_ HP.out.keeps hlt
      have HE := Lib.hid he
      clear he
      go_upto_region 6 with fail
      go_cut [8] from 31 to 36 (fun v wx => v = .int .i64 (n + min (max later 0) 1099511627776) ∧ wx = wr.alloc (.cells #[.int .i64 later, .int .i64 base, .int .i64 cyc, .int .i64 ext, .slice A2 es.length cap] 107))
      case first =>
        by_cases l1 : later < 0
        · go_wp2_with fail
          go_meet
          case rel => exact ⟨congrArg (Value.int .i64) (by omega), rfl⟩
        · by_cases l2 : 1099511627776 < later
          · go_wp2_with fail
            go_meet
            case rel => exact ⟨congrArg (Value.int .i64) (by omega), rfl⟩
          · go_wp2_with fail
            go_meet
            case rel => exact ⟨congrArg (Value.int .i64) (by omega), rfl⟩
      case rest =>
        obtain ⟨rfl, rfl⟩ := hcut
        have hBA : Hid (Blk (wr.alloc (.cells #[.int .i64 later, .int .i64 base, .int .i64 cyc, .int .i64 ext, .slice A2 es.length cap] 107)) wr.heap.size [.int .i64 later, .int .i64 base, .int .i64 cyc, .int .i64 ext, .slice A2 es.length cap] 107) := Blk.new wr _ 107
        have HPa := Lib.hid (HP.out.same ((Keeps.refl _ _).alloc (.cells #[.int .i64 later, .int .i64 base, .int .i64 cyc, .int .i64 ext, .slice A2 es.length cap] 107)))
        have hpb := HP.out.sch.blk.lt
        have hqb := HP.out.par.blk.lt
        have hnow : ∃ m : Int, m = n + min (max later 0) 1099511627776 := ⟨_, rfl⟩
        obtain ⟨m, hm⟩ := hnow
        have hm0 : 0 ≤ m := by omega
        have hnm : n ≤ m := by omega
        have hm1 : m ≤ (j + 1 : Nat) * 1099511627776 := by omega
        have hm2 : m ≤ 100000000000000 := by omega
        rw [← hm]
        clear a0 a1 a2 a3 a4 HP hm
        generalize hab : wr.heap.size = ab at *
        generalize (wr.alloc (.cells #[.int .i64 later, .int .i64 base, .int .i64 cyc, .int .i64 ext, .slice A2 es.length cap] 107)) = wa at *
        have p9 : wa.cell? ⟨q, 9, none⟩ = some (.bool P.waits) := HPa.out.par.blk.cell 9
        have p10 : wa.cell? ⟨q, 10, none⟩ = some (.int .i64 P.due) := HPa.out.par.blk.cell 10
        go_upto_region 7 with fail
        go_cut [13] from 37 to 48 (fun v wx => v = .bool (decide (P.waits = true ∧ m < P.due)) ∧ wx = wa)
        case first =>
          cases hw : P.waits
          · rw [hw] at p9
            go_wp2_with fail
            go_meet
            case rel => exact ⟨congrArg Value.bool (decide_eq_false (fun x => by rw [hw] at x; cases x.1)).symm, rfl⟩
          · rw [hw] at p9
            by_cases hd : m < P.due
            · go_wp2_with fail
              go_meet
              case rel => exact ⟨congrArg Value.bool (decide_eq_true ⟨hw, hd⟩).symm, rfl⟩
            · have hd' : decide (m < P.due) = false := by simpa using hd
              go_wp2_with fail
              go_meet
              case rel => exact ⟨congrArg Value.bool (decide_eq_false (fun x => by have := x.2; omega)).symm, rfl⟩
        case rest =>
          obtain ⟨rfl, rfl⟩ := hcut
          generalize hbw : decide (P.waits = true ∧ m < P.due) = bw
          have HBW := Lib.hid hbw
          clear hbw p9 p10
          have hB1 := hBA.out
          have e0 : wc.cell? ⟨ab, 1, none⟩ = some (.int .i64 base) := (hB1).cell 1; have e1 : wc.cell? ⟨ab, 2, none⟩ = some (.int .i64 cyc) := (hB1).cell 2; have e2 : wc.cell? ⟨ab, 3, none⟩ = some (.int .i64 ext) := (hB1).cell 3; have e3 : wc.cell? ⟨ab, 4, none⟩ = some (.slice A2 es.length cap) := (hB1).cell 4
          clear hB1
          by_cases hg : Good base cyc ext es
          · have hD := hg.start hm0 (by omega : m ≤ 1000000000000000)
            have gs := hD.b1
            have hA2 := HE.out.lt hg.pos
            have hpq := HPa.out.pq
            have hnq := HPa.out.nq
            have C1 := set_ok HPa.out.sch (HE.out.same HPa.out.keeps) (fun b o hb => by have := hA2 b o hb; omega) hg m hm0 (by omega) gs ⟨hc2, by omega⟩ ⟨hc0, by omega⟩
            have C2 := fun v (hv : Keeps (fun k => k = w.heap.size) wc v) => check_good ((HE.out.same HPa.out.keeps).keeps hv (fun b o hb => by have := hA2 b o hb; omega)) hg
            have C3 := fun v => rstart_ok (w := v) (ext := ext) (v := .slice A2 es.length cap) ⟨hg.b0, hg.b1⟩ ⟨hg.c0, hg.c1⟩ m (by omega)
            have q1 : decide ((4611686018427387904 : Int) ≤ rstart base cyc m) = false := by rw [rstart_eq hg.c0]; simp; omega
            go_upto_region 17 with (first | (go_at_call 44; refine C1.mono ?_; rintro e w3 ⟨rfl, k3, g, cap2, hS3, hg3⟩; clear C1; have f0 : w3.cell? ⟨ab, 1, none⟩ = some (.int .i64 base) := (hBA.out.keeps k3 (fun h => by omega)).cell 1; have f1 : w3.cell? ⟨ab, 2, none⟩ = some (.int .i64 cyc) := (hBA.out.keeps k3 (fun h => by omega)).cell 2; have f2 : w3.cell? ⟨ab, 3, none⟩ = some (.int .i64 ext) := (hBA.out.keeps k3 (fun h => by omega)).cell 3; have f3 : w3.cell? ⟨ab, 4, none⟩ = some (.slice A2 es.length cap) := (hBA.out.keeps k3 (fun h => by omega)).cell 4) | (go_at_call 43; refine (C2 _ k3).mono ?_; rintro e w4 ⟨rfl, k4⟩; clear C2; have u0 : w4.cell? ⟨ab, 1, none⟩ = some (.int .i64 base) := ((hBA.out.keeps k3 (fun h => by omega)).keeps k4 (fun h => h)).cell 1; have u1 : w4.cell? ⟨ab, 2, none⟩ = some (.int .i64 cyc) := ((hBA.out.keeps k3 (fun h => by omega)).keeps k4 (fun h => h)).cell 2; have u2 : w4.cell? ⟨ab, 3, none⟩ = some (.int .i64 ext) := ((hBA.out.keeps k3 (fun h => by omega)).keeps k4 (fun h => h)).cell 3; have u3 : w4.cell? ⟨ab, 4, none⟩ = some (.slice A2 es.length cap) := ((hBA.out.keeps k3 (fun h => by omega)).keeps k4 (fun h => h)).cell 4) | (go_at_call 57; refine (C3 _).mono ?_; rintro e w5 ⟨rfl, k5⟩; clear C3))
            have K5 := Lib.hid (k3.trans (k4.same k5) (fun _ h _ => h.elim))
            have HS5 := Lib.hid (hS3.same (k4.same k5))
            have HG3 := Lib.hid hg3
            clear hS3 hg3 k3 k4 k5 e0 e1 e2 e3 f0 f1 f2 f3 u0 u1 u2 u3
            have hal : Alike (((S.pass m).told ⟨base, cyc, ext, some ⟨g, 0, none⟩, cap2, es⟩ (gstart base cyc m)).pass m) (((P.pass m).told ⟨base, cyc, ext, A2, cap, es⟩ (rstart base cyc m)).pass m) := by
              rw [rstart_eq hg.c0]
              exact ((HPa.out.alike.pass m).told (a := ⟨base, cyc, ext, some ⟨g, 0, none⟩, cap2, es⟩) (b := ⟨base, cyc, ext, A2, cap, es⟩) ⟨rfl, rfl, rfl, rfl⟩ _).pass m
            have hgd : SchGood (((S.pass m).told ⟨base, cyc, ext, some ⟨g, 0, none⟩, cap2, es⟩ (gstart base cyc m)).pass m) := ((HPa.out.good.pass m).told hD).pass m
            have hrep := Sch.rep_told S HPa.out.alike m ⟨base, cyc, ext, some ⟨g, 0, none⟩, cap2, es⟩ (gstart base cyc m)
            have hcnt : (((S.pass m).told ⟨base, cyc, ext, some ⟨g, 0, none⟩, cap2, es⟩ (gstart base cyc m)).pass m).cnt ≤ S.cnt + 1 := by
              have h1 := Sch.cnt_told (S.pass m) ⟨base, cyc, ext, some ⟨g, 0, none⟩, cap2, es⟩ (gstart base cyc m)
              rw [Sch.cnt_pass] at h1 ⊢
              exact h1
            have hchg : 0 ≤ (((S.pass m).told ⟨base, cyc, ext, some ⟨g, 0, none⟩, cap2, es⟩ (gstart base cyc m)).pass m).chg := by
              have h1 := ((S.pass m).told ⟨base, cyc, ext, some ⟨g, 0, none⟩, cap2, es⟩ (gstart base cyc m)).pass_chg m
              have h2 := S.pass_chg m
              have h3 : ((S.pass m).told ⟨base, cyc, ext, some ⟨g, 0, none⟩, cap2, es⟩ (gstart base cyc m)).chg = (S.pass m).chg := rfl
              omega
            have hSA : (∀ b o, (((S.pass m).told ⟨base, cyc, ext, some ⟨g, 0, none⟩, cap2, es⟩ (gstart base cyc m)).pass m).oper.A = some ⟨b, o, none⟩ → b ≠ q) ∧ (∀ b o, (((S.pass m).told ⟨base, cyc, ext, some ⟨g, 0, none⟩, cap2, es⟩ (gstart base cyc m)).pass m).admin.A = some ⟨b, o, none⟩ → b ≠ q) := by
              have h1 := Sch.pass_A (fun A => ∀ b o, A = some ⟨b, o, none⟩ → b ≠ q) (fun b o x => by cases x) HPa.out.so HPa.out.sa m
              exact Sch.pass_A (fun A => ∀ b o, A = some ⟨b, o, none⟩ → b ≠ q) (fun b o x => by cases x) (S := (S.pass m).told ⟨base, cyc, ext, some ⟨g, 0, none⟩, cap2, es⟩ (gstart base cyc m)) h1.1 (fun b o hb => by injection hb with hb; injection hb with hb; have := HG3.out; have := HPa.out.par.blk.lt; omega) m
            have hPA : (∀ b o, (((P.pass m).told ⟨base, cyc, ext, A2, cap, es⟩ (rstart base cyc m)).pass m).oper.A = some ⟨b, o, none⟩ → b ≠ w.heap.size) ∧ (∀ b o, (((P.pass m).told ⟨base, cyc, ext, A2, cap, es⟩ (rstart base cyc m)).pass m).admin.A = some ⟨b, o, none⟩ → b ≠ w.heap.size) := by
              have h1 := Par.pass_A (fun A => ∀ b o, A = some ⟨b, o, none⟩ → b ≠ w.heap.size) HPa.out.po HPa.out.pa m
              exact Par.pass_A (fun A => ∀ b o, A = some ⟨b, o, none⟩ → b ≠ w.heap.size) (P := (P.pass m).told ⟨base, cyc, ext, A2, cap, es⟩ (rstart base cyc m)) h1.1 (fun b o hb => by have := hA2 b o hb; omega) m
            have C4 := pset_ok (ext := ext) (HPa.out.par.turn K5.out (Ne.symm hpq) HPa.out.po HPa.out.pa) ((HE.out.same HPa.out.keeps).keeps K5.out (fun b o hb => by have := hA2 b o hb; omega)) (fun b o hb => by have := hA2 b o hb; omega) ⟨hg.b0, hg.b1⟩ ⟨hg.c0, hg.c1⟩ m (by omega)
            have hB5 := hBA.out.keeps K5.out (fun h => by omega)
            have e0 : w5.cell? ⟨ab, 1, none⟩ = some (.int .i64 base) := (hB5).cell 1
            have e1 : w5.cell? ⟨ab, 2, none⟩ = some (.int .i64 cyc) := (hB5).cell 2
            have e2 : w5.cell? ⟨ab, 3, none⟩ = some (.int .i64 ext) := (hB5).cell 3
            have e3 : w5.cell? ⟨ab, 4, none⟩ = some (.slice A2 es.length cap) := (hB5).cell 4
            clear hB5
            have hex : Ext (((S.pass m).told ⟨base, cyc, ext, some ⟨g, 0, none⟩, cap2, es⟩ (gstart base cyc m)).pass m) m := ((HPa.out.ex.pass hnm).told hg.len _).pass (Int.le_refl _)
            generalize ((S.pass m).told ⟨base, cyc, ext, some ⟨g, 0, none⟩, cap2, es⟩ (gstart base cyc m)).pass m = S1 at *
            generalize ((P.pass m).told ⟨base, cyc, ext, A2, cap, es⟩ (rstart base cyc m)).pass m = P1 at *
            cases bw
            · rw [if_neg (of_decide_eq_false HBW.out)] at hrep
              go_upto_region 20 with (go_at_call 58; refine C4.mono ?_; rintro e w6 ⟨rfl, hP6, k6⟩; clear C4)
              have HP6 := Lib.hid hP6
              have HS6 := Lib.hid (HS5.out.turn k6 hpq hSA.1 hSA.2)
              have HK6 := Lib.hid ((HPa.out.keeps.up K5.out (fun k hk => by omega)).up k6 (fun k hk => by omega))
              clear hP6 k6 e0 e1 e2 e3
              have hrp : S1.rep = S.rep := hrep
              have hR := Lib.hid hrp
              have hcw := hal.waits
              clear hrp hrep
              rcases hpw : P1.waits with _ | _
              · have C5 : Calls Try.prog 45 #[.pointer (some ⟨w.heap.size, 0, none⟩)] w6 (fun e w' => e = .returned (.tuple #[.int .i64 S1.due, .bool false]) ∧ Keeps Nothing w6 w') := by
                  have := waits_ok HS6.out
                  rwa [hcw, hpw] at this
                have C6 : ∀ v, Keeps Nothing w6 v → Calls Try.prog 48 #[.pointer (some ⟨w.heap.size, 0, none⟩)] v (fun e w' => e = .returned (.tuple #[.int .i64 S1.chg, .int .i64 (S.rep)]) ∧ Keeps Nothing v w') := fun v hv => by
                  have := counts_ok (HS6.out.same hv)
                  rwa [hR.out] at this
                have HPW := Lib.hid hpw
                clear hpw hcw
                go_wp2_with (first | (go_at_call 45; refine C5.mono ?_; rintro e w7 ⟨rfl, k7⟩; clear C5; have p9 : w7.cell? ⟨q, 9, none⟩ = some (.bool false) := ((HP6.out.same k7).blk.cell 9).trans (by rw [← HPW.out]; rfl)) | (go_at_call 48; refine (C6 _ k7).mono ?_; rintro e w8 ⟨rfl, k8⟩; clear C6))
                go_roundg (gk - 1)
                case measure => omega
                case rel => exact ⟨j + 1, m, cn + 1, S1, P1, by omega, by go_num, rfl, by go_num, by rw [hR.out], ⟨HK6.out.same (k7.same k8), HS6.out.same (k7.same k8), HP6.out.same (k7.same k8), hal, hgd, HPa.out.np, HPa.out.nq, HPa.out.pq, hm0, hm1, by rw [hR.out]; omega, by rw [hR.out]; omega, hchg, by have := HPa.out.cn0; omega, by omega, hSA.1, hSA.2, hPA.1, hPA.2, hex⟩⟩
              · have hdu := hal.due hpw
                have C5 : Calls Try.prog 45 #[.pointer (some ⟨w.heap.size, 0, none⟩)] w6 (fun e w' => e = .returned (.tuple #[.int .i64 P1.due, .bool true]) ∧ Keeps Nothing w6 w') := by
                  have := waits_ok HS6.out
                  rwa [hcw, hpw, hdu] at this
                have C6 : ∀ v, Keeps Nothing w6 v → Calls Try.prog 48 #[.pointer (some ⟨w.heap.size, 0, none⟩)] v (fun e w' => e = .returned (.tuple #[.int .i64 S1.chg, .int .i64 (S.rep)]) ∧ Keeps Nothing v w') := fun v hv => by
                  have := counts_ok (HS6.out.same hv)
                  rwa [hR.out] at this
                have HPW := Lib.hid hpw
                clear hpw hcw hdu
                go_wp2_with (first | (go_at_call 45; refine C5.mono ?_; rintro e w7 ⟨rfl, k7⟩; clear C5; have p9 : w7.cell? ⟨q, 9, none⟩ = some (.bool true) := ((HP6.out.same k7).blk.cell 9).trans (by rw [← HPW.out]; rfl); have p10 : w7.cell? ⟨q, 10, none⟩ = some (.int .i64 P1.due) := (HP6.out.same k7).blk.cell 10) | (go_at_call 48; refine (C6 _ k7).mono ?_; rintro e w8 ⟨rfl, k8⟩; clear C6))
                go_roundg (gk - 1)
                case measure => omega
                case rel => exact ⟨j + 1, m, cn + 1, S1, P1, by omega, by go_num, rfl, by go_num, by rw [hR.out], ⟨HK6.out.same (k7.same k8), HS6.out.same (k7.same k8), HP6.out.same (k7.same k8), hal, hgd, HPa.out.np, HPa.out.nq, HPa.out.pq, hm0, hm1, by rw [hR.out]; omega, by rw [hR.out]; omega, hchg, by have := HPa.out.cn0; omega, by omega, hSA.1, hSA.2, hPA.1, hPA.2, hex⟩⟩
            · rw [if_pos (of_decide_eq_true HBW.out)] at hrep
              go_upto_region 20 with (go_at_call 58; refine C4.mono ?_; rintro e w6 ⟨rfl, hP6, k6⟩; clear C4)
              have HP6 := Lib.hid hP6
              have HS6 := Lib.hid (HS5.out.turn k6 hpq hSA.1 hSA.2)
              have HK6 := Lib.hid ((HPa.out.keeps.up K5.out (fun k hk => by omega)).up k6 (fun k hk => by omega))
              clear hP6 k6 e0 e1 e2 e3
              have hrp : S1.rep = S.rep + 1 := hrep
              have hR := Lib.hid hrp
              have hcw := hal.waits
              clear hrp hrep
              rcases hpw : P1.waits with _ | _
              · have C5 : Calls Try.prog 45 #[.pointer (some ⟨w.heap.size, 0, none⟩)] w6 (fun e w' => e = .returned (.tuple #[.int .i64 S1.due, .bool false]) ∧ Keeps Nothing w6 w') := by
                  have := waits_ok HS6.out
                  rwa [hcw, hpw] at this
                have C6 : ∀ v, Keeps Nothing w6 v → Calls Try.prog 48 #[.pointer (some ⟨w.heap.size, 0, none⟩)] v (fun e w' => e = .returned (.tuple #[.int .i64 S1.chg, .int .i64 (S.rep + 1)]) ∧ Keeps Nothing v w') := fun v hv => by
                  have := counts_ok (HS6.out.same hv)
                  rwa [hR.out] at this
                have HPW := Lib.hid hpw
                clear hpw hcw
                go_wp2_with (first | (go_at_call 45; refine C5.mono ?_; rintro e w7 ⟨rfl, k7⟩; clear C5; have p9 : w7.cell? ⟨q, 9, none⟩ = some (.bool false) := ((HP6.out.same k7).blk.cell 9).trans (by rw [← HPW.out]; rfl)) | (go_at_call 48; refine (C6 _ k7).mono ?_; rintro e w8 ⟨rfl, k8⟩; clear C6))
                go_roundg (gk - 1)
                case measure => omega
                case rel => exact ⟨j + 1, m, cn + 1, S1, P1, by omega, by go_num, rfl, by go_num, by rw [hR.out], ⟨HK6.out.same (k7.same k8), HS6.out.same (k7.same k8), HP6.out.same (k7.same k8), hal, hgd, HPa.out.np, HPa.out.nq, HPa.out.pq, hm0, hm1, by rw [hR.out]; omega, by rw [hR.out]; omega, hchg, by have := HPa.out.cn0; omega, by omega, hSA.1, hSA.2, hPA.1, hPA.2, hex⟩⟩
              · have hdu := hal.due hpw
                have C5 : Calls Try.prog 45 #[.pointer (some ⟨w.heap.size, 0, none⟩)] w6 (fun e w' => e = .returned (.tuple #[.int .i64 P1.due, .bool true]) ∧ Keeps Nothing w6 w') := by
                  have := waits_ok HS6.out
                  rwa [hcw, hpw, hdu] at this
                have C6 : ∀ v, Keeps Nothing w6 v → Calls Try.prog 48 #[.pointer (some ⟨w.heap.size, 0, none⟩)] v (fun e w' => e = .returned (.tuple #[.int .i64 S1.chg, .int .i64 (S.rep + 1)]) ∧ Keeps Nothing v w') := fun v hv => by
                  have := counts_ok (HS6.out.same hv)
                  rwa [hR.out] at this
                have HPW := Lib.hid hpw
                clear hpw hcw hdu
                go_wp2_with (first | (go_at_call 45; refine C5.mono ?_; rintro e w7 ⟨rfl, k7⟩; clear C5; have p9 : w7.cell? ⟨q, 9, none⟩ = some (.bool true) := ((HP6.out.same k7).blk.cell 9).trans (by rw [← HPW.out]; rfl); have p10 : w7.cell? ⟨q, 10, none⟩ = some (.int .i64 P1.due) := (HP6.out.same k7).blk.cell 10) | (go_at_call 48; refine (C6 _ k7).mono ?_; rintro e w8 ⟨rfl, k8⟩; clear C6))
                go_roundg (gk - 1)
                case measure => omega
                case rel => exact ⟨j + 1, m, cn + 1, S1, P1, by omega, by go_num, rfl, by go_num, by rw [hR.out], ⟨HK6.out.same (k7.same k8), HS6.out.same (k7.same k8), HP6.out.same (k7.same k8), hal, hgd, HPa.out.np, HPa.out.nq, HPa.out.pq, hm0, hm1, by rw [hR.out]; omega, by rw [hR.out]; omega, hchg, by have := HPa.out.cn0; omega, by omega, hSA.1, hSA.2, hPA.1, hPA.2, hex⟩⟩
          · have C1 := set_bad (p := w.heap.size) (HE.out.same HPa.out.keeps) hg m
            have C2 := fun v (hv : Keeps Nothing wc v) => check_bad ((HE.out.same HPa.out.keeps).same hv) hg
            go_wp2_with (first | (go_at_call 44; refine C1.mono ?_; rintro e w3 ⟨rfl, k3⟩; clear C1; have f0 : w3.cell? ⟨ab, 1, none⟩ = some (.int .i64 base) := (hBA.out.keeps k3 (fun h => h)).cell 1; have f1 : w3.cell? ⟨ab, 2, none⟩ = some (.int .i64 cyc) := (hBA.out.keeps k3 (fun h => h)).cell 2; have f2 : w3.cell? ⟨ab, 3, none⟩ = some (.int .i64 ext) := (hBA.out.keeps k3 (fun h => h)).cell 3; have f3 : w3.cell? ⟨ab, 4, none⟩ = some (.slice A2 es.length cap) := (hBA.out.keeps k3 (fun h => h)).cell 4) | (go_at_call 43; refine (C2 _ k3).mono ?_; rintro e w4 ⟨rfl, k4⟩; clear C2))
            go_roundg (gk - 1)
            case measure => omega
            case rel =>
              have hx := (HPa.out.same k3).same k4
              exact ⟨j + 1, m, cn, S, P, by omega, by go_num, rfl, rfl, rfl, ⟨hx.keeps, hx.sch, hx.par, hx.alike, hx.good, hx.np, hx.nq, hx.pq, hm0, hm1, hx.rep0, by have := hx.rep1; omega, hx.chg0, hx.cn0, by have := hx.cn1; omega, hx.so, hx.sa, hx.po, hx.pa, hx.ex.mono hnm⟩⟩
    · obtain rfl : j = acts.length := by omega
      have C := counts_ok HP.out.sch
      go_wp2_with (go_at_call 48; refine C.mono ?_; rintro e w2 ⟨rfl, k2⟩; clear C)
      refine bodyPost_ret (results_tmp4 rfl _ _ _) rfl ?_
      exact ⟨w.heap.size, q, n, cn, S, P, by simp [hc3], HP.out.same k2⟩

end Go.Proofs.Ytpgmkekdgchkfaa
