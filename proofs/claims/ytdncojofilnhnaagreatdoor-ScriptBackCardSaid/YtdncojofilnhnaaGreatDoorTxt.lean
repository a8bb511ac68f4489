/- script.Text: what it comes to. Fixed scripts, computed. -/
import Derived.Test.YtdncojofilnhnaaGreatDoorTxG
import Derived.Test.YtdncojofilnhnaaGreatDoorScW
import Derived.Test.YtdncojofilnhnaaGreatDoorReads
namespace Go.Proofs.YtdncojofilnhnaaGreatDoor
open Go.RowKit Go.Lib

theorem text_walk (c : Cf) (acs : List Ac) (cs : List (List Value)) (A A2 : Option Addr) (m cp n2 cp2 : Nat) (hm : MacIs c.mac) (hb : c.bounds.length = 8) (hpl : c.ports.length ≤ 140737488355328) (hal : acs.length ≤ 3000) {w : World} (hg : Gl w)
    (hR : RecsR w (.slice A m cp) 2 (c.ports.map ptC)) (hA : RecsR w (.slice A2 n2 cp2) 12 cs) (hAct : All2 (ActR w) acs cs) :
    Calls Tryz.prog 28 #[.agg (cfC c (.slice A m cp) ++ [Value.slice A2 n2 cp2] : List Value).toArray] w fun ev w' => STextIs w' c acs ev ∧ Keeps Nothing w w' := by
  by_cases h : bridgeOk c = true ∧ ¬ (c.bounds.headD 0 < 0 ∨ c.bounds ≠ List.replicate 8 (c.bounds.headD 0) ∨ 1073741824 < c.bounds.headD 0)
  · exact text_great c acs cs A A2 m cp n2 cp2 hm hb hpl hal hg hR hA hAct h
  · exact text_small c acs cs A A2 m cp n2 cp2 hm hb hpl hal hg hR hA hAct h

/-- "bridge 32768 02:00:00:00:00:01 100 10 0 1000e 100" and four lines more. -/
abbrev S1 : Str := [98, 114, 105, 100, 103, 101, 32, 51, 50, 55, 54, 56, 32, 48, 50, 58, 48, 48, 58, 48, 48, 58, 48, 48, 58, 48, 48, 58, 48, 49, 32, 49, 48, 48, 32, 49, 48, 32, 48, 32, 49, 48, 48, 48, 101, 32, 49, 48, 48, 10, 117, 112, 32, 48, 10, 102, 114, 97, 109, 101, 32, 49, 32, 48, 48, 102, 102, 10, 119, 97, 105, 116, 32, 53, 10, 99, 108, 97, 115, 115, 32, 49, 32, 50]
abbrev S2 : Str := [98, 114, 105, 100, 103, 101, 32, 49]
abbrev S3 : Str := [98, 114, 105, 100, 103, 101, 32, 48, 32, 48, 50, 58, 48, 48, 58, 48, 48, 58, 48, 48, 58, 48, 48, 58, 48, 49, 32, 49, 32, 49, 32, 48, 32, 49, 48, 48, 48, 10, 118, 108, 97, 110, 32, 49]

abbrev C1 : Cf := ⟨32768, [2, 0, 0, 0, 0, 1], [⟨1000, true⟩, ⟨100, false⟩], 100, [10, 10, 10, 10, 10, 10, 10, 10], 0⟩
abbrev X1 : Ac := ⟨1, 0, [], 0, cm0⟩
abbrev X2 : Ac := ⟨0, 1, [0, 255], 0, cm0⟩
abbrev X3 : Ac := ⟨3, 0, [], 5, cm0⟩
abbrev X4 : Ac := ⟨4, 0, [], 0, ⟨2, mac0, [1, 2]⟩⟩

theorem script_S1 : scriptP S1 = .ok (C1, [X1, X2, X3, X4]) := by kernel_rfl
theorem script_S2 : scriptP S2 = .error (1, (none, 4)) := by kernel_rfl
theorem script_S3 : scriptP S3 = .error (2, (some 2, 2)) := by kernel_rfl

theorem line_X0 : lineP ⟨1, 3, [], 0, cm0⟩ = .ok [117, 112, 32, 51] := act_line (by kernel_rfl)

theorem text_S1 : textS C1 [X1, X2, X3, X4] = .ok S1 := by
  have h1 : lineP X1 = .ok [117, 112, 32, 48] := act_line (by kernel_rfl)
  have h2 : lineP X2 = .ok [102, 114, 97, 109, 101, 32, 49, 32, 48, 48, 102, 102] := act_line (by kernel_rfl)
  have h3 : lineP X3 = .ok [119, 97, 105, 116, 32, 53] := act_line (by kernel_rfl)
  have h4 : lineP X4 = .ok [99, 108, 97, 115, 115, 32, 49, 32, 50] := act_line (by kernel_rfl)
  have hl : linesP 0 [X1, X2, X3, X4] = .ok [[117, 112, 32, 48], [102, 114, 97, 109, 101, 32, 49, 32, 48, 48, 102, 102], [119, 97, 105, 116, 32, 53], [99, 108, 97, 115, 115, 32, 49, 32, 50]] := by
    simp only [linesP, h1, h2, h3, h4]
  have hc : joinOn 32 (confW C1) = [98, 114, 105, 100, 103, 101, 32, 51, 50, 55, 54, 56, 32, 48, 50, 58, 48, 48, 58, 48, 48, 58, 48, 48, 58, 48, 48, 58, 48, 49, 32, 49, 48, 48, 32, 49, 48, 32, 48, 32, 49, 48, 48, 48, 101, 32, 49, 48, 48] := by
    simp only [confW, portW, itoa_F, List.map_cons, List.map_nil]
    kernel_rfl
  have hb : bridgeOk C1 = true := by kernel_rfl
  have hd : ¬ (C1.bounds.headD 0 < 0 ∨ C1.bounds ≠ List.replicate 8 (C1.bounds.headD 0) ∨ 1073741824 < C1.bounds.headD 0) := by decide
  rw [text_lines hb hd, hl]
  show (if 2000 < _ then _ else Except.ok (joinOn 10 (joinOn 32 (confW C1) :: _))) = _
  rw [hc]
  kernel_rfl

/-- A chain of errors that a fault begins. -/
def FaultE (w : World) (b : Nat) (n : Int) (e : ErrD) : Prop := 10 ≤ b ∧ match e with
  | (none, k) => ChainAt w [(true, b, n)] (.num k)
  | (some m, k) => ∃ b', ChainAt w [(true, b, n), (false, b', m)] (.num k)

theorem FaultE.same {w w' : World} {b : Nat} {n : Int} {e : ErrD} (h : FaultE w b n e) (hk : Keeps Nothing w w') : FaultE w' b n e := by
  obtain ⟨en, k⟩ := e
  refine ⟨h.1, ?_⟩
  cases en with
  | none => exact ChainAt.same hk h.2
  | some m => obtain ⟨b', hb⟩ := h.2; exact ⟨b', ChainAt.same hk hb⟩

/-- A text that is no script. -/
theorem script_fault (t : Str) (ht : t.length < 4294967000) {n : Int} {e : ErrD} (h : scriptP t = .error (n, e)) {w : World} (hg : Gl w) :
    Calls Tryz.prog 29 #[strV t] w fun ev w' => (∃ b, ev = .returned (.tuple #[.agg sc0.toArray, .iface 76 (.pointer (some ⟨b, 0, none⟩))]) ∧ FaultE w' b n e) ∧ Keeps Nothing w w' := by
  refine (script_walk t ht hg).mono ?_
  rintro ev w' ⟨hs, hk⟩
  unfold ScriptIs at hs
  rw [h] at hs
  obtain ⟨b, v, he, h10, hB, hE⟩ := hs
  refine ⟨⟨b, he, h10, ?_⟩, hk⟩
  obtain ⟨en, k⟩ := e
  cases en with
  | none =>
    have hv : v = .iface 33 (.int .i64 k) := hE
    subst hv
    exact ⟨hB, trivial⟩
  | some m =>
    obtain ⟨x, h0, hv, h2⟩ := hE
    subst hv
    exact ⟨x, hB, h2, trivial⟩

/-- A text that is a script. -/
theorem script_good (t : Str) (ht : t.length < 4294967000) {c : Cf} {acs : List Ac} (h : scriptP t = .ok (c, acs)) {w : World} (hg : Gl w) :
    Calls Tryz.prog 29 #[strV t] w fun ev w' => (∃ A n cp A' n' cp', ev = .returned (.tuple #[.agg (cfC c (.slice A n cp) ++ [Value.slice A' n' cp'] : List Value).toArray, .nilIface]) ∧ OwnS w' (fun k => w.heap.size ≤ k) 70 2 (.slice A n cp) c.ports.length (ptsC c.ports) ∧ ActsAt w' (fun k => w.heap.size ≤ k) t.length (.slice A' n' cp') acs ∧
      (MacIs c.mac ∧ c.bounds = List.replicate 8 (c.bounds.headD 0) ∧ c.ports.length ≤ 8 ∧ (0 ≤ c.bounds.headD 0 ∧ c.bounds.headD 0 ≤ 1073741824) ∧ (0 ≤ c.start ∧ c.start ≤ 9223372036854775807))) ∧ Keeps Nothing w w' := by
  refine (script_walk t ht hg).mono ?_
  rintro ev w' ⟨hs, hk⟩
  unfold ScriptIs at hs
  rw [h] at hs
  obtain ⟨hc, A, n, cp, A', n', cp', he, ho, ha⟩ := hs
  exact ⟨⟨A, n, cp, A', n', cp', he, ho, ha, hc⟩, hk⟩

/-- What was read stands. -/
theorem ActsAt.thru {F : Nat → Prop} {a b : World} {N : Nat} {v : Value} {acs : List Ac} (h : ActsAt a F N v acs) (t73 : Thru 73 a b) (t5 : Thru 5 a b) (t2 : Thru 2 a b) : ActsAt b F N v acs := by
  obtain ⟨cs, ho, h2⟩ := h
  exact ⟨cs, t73 _ _ _ _ _ ho, h2.imp (fun _ _ h => h.thru t5 t2)⟩

theorem OwnS.form {w : World} {F : Nat → Prop} {T sz n : Nat} {A : Option Addr} {m cp : Nat} {xs : List Value} (h : OwnS w F T sz (.slice A m cp) n xs) (hn : 0 < n) : ∃ g, A = some ⟨g, 0, none⟩ ∧ m = n ∧ F g ∧ ∀ j u, xs[j]? = some u → w.cell? ⟨g, j, none⟩ = some u := by
  rcases h.1.2 with ⟨hv, h0⟩ | ⟨g, cap, cur, hv, hg, hh, hc, hm, hs, ht⟩
  · omega
  · injection hv with h1 h2 h3
    refine ⟨g, h1, h2, h.2 g (by rw [h1]; rfl), fun j u hj => ?_⟩
    have := h.1.cells (g := g) (by rw [h1]; rfl) j u hj
    rw [Addr.add_lit, Nat.zero_add] at this
    exact this
end Go.Proofs.YtdncojofilnhnaaGreatDoor
