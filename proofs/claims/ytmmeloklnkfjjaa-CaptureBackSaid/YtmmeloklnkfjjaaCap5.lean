/- Are two frames the same. -/
import Derived.Test.YtmmeloklnkfjjaaCap2
namespace Go.Proofs.Ytmmeloklnkfjjaa
open Go.RowKit

def Fr.Same (f g : Fr) : Prop := f.port = g.port ∧ f.cls = g.cls ∧ f.frm = g.frm ∧ f.till = g.till ∧ f.bs = g.bs

def Fr.val (f : Fr) : Value := .agg #[.int .i64 f.port, .int .i64 f.cls, .int .i64 f.frm, .int .i64 f.till, .slice f.A f.bs.length f.cap]

set_option maxRecDepth 100000 in
set_option maxHeartbeats 4000000 in
theorem same_ok {w : World} (f g : Fr) (hf : f.Rd w) (hg : g.Rd w) (v : Bool) (hv : v = true ↔ f.Same g) :
    Calls Try.prog 14 #[f.val, g.val] w (fun e w' => e = .returned (.bool v) ∧ Keeps Nothing w w') := by
  obtain ⟨p1, c1, r1, t1, B1, k1, b1⟩ := f
  obtain ⟨p2, c2, r2, t2, B2, k2, b2⟩ := g
  unfold Fr.Rd at hf hg
  unfold Fr.Same at hv
  unfold Fr.val
  simp only at hf hg hv ⊢
  have HV := Lib.hid hv
  have HF := Lib.hid hf
  have HG := Lib.hid hg
  have HK := Lib.hid (((Keeps.refl Nothing w).alloc (.cells #[.int .i64 p1, .int .i64 c1, .int .i64 r1, .int .i64 t1, .slice B1 b1.length k1] 27)).alloc (.cells #[.int .i64 p2, .int .i64 c2, .int .i64 r2, .int .i64 t2, .slice B2 b2.length k2] 27))
  have s1 := conv_str (P := Try.prog) (src := 25) (e := 5) (dst := 9) Try.underlying25 Try.underlying5 Try.underlying9 (HF.out.same HK.out)
  have s2 := conv_str (P := Try.prog) (src := 25) (e := 5) (dst := 9) Try.underlying25 Try.underlying5 Try.underlying9 (HG.out.same HK.out)
  clear hv hf hg
  go_enter Try.func14, Try.ntmps14
  by_cases h1 : p1 = p2
  · subst h1
    by_cases h2 : c1 = c2
    · subst h2
      by_cases h3 : r1 = r2
      · subst h3
        by_cases h4 : t1 = t2
        · subst h4
          have he : v = (b1 == b2) := by
            have := HV.out
            rw [Bool.eq_iff_iff, this]
            simp
          subst he
          clear HV
          go_wp2_with fail
          go_ret
          exact ⟨rfl, HK.out⟩
        · have h4' : (t1 == t2) = false := by simpa using h4
          obtain rfl : v = false := by
            cases hvv : v
            · rfl
            · exact absurd (HV.out.1 hvv).2.2.2.1 h4
          clear HV h4
          go_wp2_with fail
          go_ret
          exact ⟨rfl, HK.out⟩
      · have h3' : (r1 == r2) = false := by simpa using h3
        obtain rfl : v = false := by
          cases hvv : v
          · rfl
          · exact absurd (HV.out.1 hvv).2.2.1 h3
        clear HV h3
        go_wp2_with fail
        go_ret
        exact ⟨rfl, HK.out⟩
    · have h2' : (c1 == c2) = false := by simpa using h2
      obtain rfl : v = false := by
        cases hvv : v
        · rfl
        · exact absurd (HV.out.1 hvv).2.1 h2
      clear HV h2
      go_wp2_with fail
      go_ret
      exact ⟨rfl, HK.out⟩
  · have h1' : (p1 == p2) = false := by simpa using h1
    obtain rfl : v = false := by
      cases hvv : v
      · rfl
      · exact absurd (HV.out.1 hvv).1 h1
    clear HV h1
    go_wp2_with fail
    go_ret
    exact ⟨rfl, HK.out⟩

end Go.Proofs.Ytmmeloklnkfjjaa
