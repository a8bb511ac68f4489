/- ScriptHex: the walk. -/
import Derived.Test.YtdncojofilnhnaaGreatDoorHx
import Derived.Deep.QuietTactic
import Derived.BigQuiet
namespace Go.Proofs.YtdncojofilnhnaaGreatDoor
open Go.RowKit Go.Lib

theorem hex_parse (b : Str) (hb : b.length ≤ 1600) {w : World} (hg : Gl w) : Calls Tryz.prog 29 #[strV (HF ++ hexS b)] w fun ev w' => (∃ gp cp ga ca Ab cb, ev = .returned (.tuple #[.agg #[.int .i64 0, .int .u8 2, .int .u8 0, .int .u8 0, .int .u8 0, .int .u8 0, .int .u8 1, .slice (some ⟨gp, 0, none⟩) 1 cp, .int .i64 1, .int .i64 1, .int .i64 1, .int .i64 1, .int .i64 1, .int .i64 1, .int .i64 1, .int .i64 1, .int .i64 1, .int .i64 0, .slice (some ⟨ga, 0, none⟩) 1 ca], .nilIface]) ∧ w'.cell? ⟨ga, 2, none⟩ = some (.slice Ab b.length cb) ∧ OwnF w' (fun k => w.heap.size ≤ k) 5 (.slice Ab b.length cb) (bcells b) ∧ ∃ l, Blk w' ga l 73) ∧ Keeps Nothing w w' := by
  obtain ⟨a, ha, hab⟩ := hex_script b
  subst hab
  have hl : (HF ++ hexS a.bytes).length < 4294967000 := by rw [List.length_append, hexS_len]; have : HF.length = 46 := rfl; omega
  refine (script_good _ hl ha hg).mono ?_
  rintro ev w' ⟨⟨A, n, cp, A', n', cp', he, ho, hat, -⟩, hk⟩
  refine ⟨?_, hk⟩
  obtain ⟨gp, e1, e2, -, -⟩ := ho.form (by decide)
  obtain ⟨cs, hb2, h2⟩ := hat
  have hblk := hb2.1.2
  obtain ⟨ga, e3, e4, -, hc⟩ := hb2.form (by simp)
  subst e1 e2 e3 e4
  obtain ⟨c, hc0⟩ : ∃ c, cs[0]? = some c := ⟨_, List.getElem?_eq_getElem (by rw [← h2.len]; simp)⟩
  obtain ⟨-, bv, cv, hce, hbo, -⟩ := h2.get 0 a c rfl hc0
  obtain ⟨Ab, cb, rfl⟩ := hbo.lenG
  rw [bcells_length] at hbo hce
  refine ⟨gp, cp, ga, cp', Ab, cb, he, ?_, hbo, ?_⟩
  · have := hc (0 * 12 + 2) (.slice Ab a.bytes.length cb) (flat_at cs 0 c 2 _ (acts_len h2) hc0 (by rw [hce]; rfl))
    simpa using this
  · rcases hblk with ⟨hv, -⟩ | ⟨g, cap, cur, hv, -, hh, -⟩
    · cases hv
    · injection hv with h1
      injection h1 with h1
      injection h1 with h1
      subst h1
      exact ⟨cur.toList, by simpa [Blk] using hh⟩

set_option maxRecDepth 100000 in
set_option maxHeartbeats 8000000 in
theorem sHex_walk {A : Option Addr} {c : Nat} (b : Str) {w : World} (hg : Gl w) (hs : SlR w (.slice A b.length c) (bcells b)) (hl : b.length ≤ 9223372036854775807) :
    Calls Tryz.prog 11 #[.slice A b.length c] w fun ev w' => ev = .returned (.bool true) ∧ Keeps Nothing w w' := by
  have HG := Lib.hid hg
  have HS := Lib.hid hs
  by_cases h16 : 1600 < b.length
  · have hi : (1600 : Int) < (b.length : Int) := by omega
    clear h16 hg hs
    generalize b.length = n at *
    go_enter Tryz.func11, Tryz.ntmps11
    go_wp2_with (go_at_call 26; refine (reads25_ok HG.out).mono ?_; rintro e w1 ⟨rfl, k1⟩; have K1 := Lib.hid k1; clear k1)
    go_ret
    exact ⟨rfl, K1.out⟩
  · have hi : ¬ (1600 : Int) < (b.length : Int) := by omega
    have hb : b.length ≤ 1600 := by omega
    have HHX := Lib.hid (fun (w' : World) (hs : SlR w' (.slice A b.length c) (bcells b)) => hex_ok b (by omega) (.slice A b.length c) w' hs)
    have HPA := Lib.hid (fun (w' : World) (hg : Gl w') => hex_parse b hb hg)
    have HLO := Lib.hid (lower_same (hexS b) (by rw [hexS_len]; omega) (hexS_byte b))
    have HCV := Lib.hid (fun (w' : World) (v : Value) (h : SlR w' v (bcells b)) => conv_str Tryz.underlying71 Tryz.underlying5 Tryz.underlying9 h)
    have hxl : (hexS b).length = 2 * b.length := hexS_len b
    obtain ⟨s1, cs0, hs1⟩ := cat_of HF (hexS b)
    rw [← hs1] at HPA
    generalize hexS b = h at *
    have cs1 : ((⟨#[98, 114, 105, 100, 103, 101, 32, 48, 32, 48, 50, 58, 48, 48, 58, 48, 48, 58, 48, 48, 58, 48, 48, 58, 48, 49, 32, 49, 32, 49, 32, 48, 32, 49, 48, 48, 48, 10, 102, 114, 97, 109, 101, 32, 48, 32]⟩ : ByteArray) ++ ⟨h.toArray⟩) = ⟨s1.toArray⟩ := cs0
    clear cs0
    have e1 : (h.length : Int) = 2 * (b.length : Int) := by omega
    have e2 : IntKind.i64.wrap (2 * (b.length : Int)) = 2 * (b.length : Int) := IntWalk.i64_in _ (by omega)
    have hlim : ¬ 9223372036854775807 < 46 + h.length := by omega
    have E1 := Lib.hid e1
    have E2 := Lib.hid e2
    clear h16 hg hs hl hs1 hxl e1 e2
    generalize hbl : b.length = n at *
    have HBL := Lib.hid hbl
    clear hbl hb
    go_enter Tryz.func11, Tryz.ntmps11
    go_upto_region 7 with (first | (go_at_call 26; refine (reads25_ok HG.out).mono ?_; rintro e w1 ⟨rfl, k1⟩; have K1 := Lib.hid k1; clear k1) | (go_at_call 35; refine (HHX.out _ (HS.out.same K1.out)).mono ?_; rintro e w2 ⟨rfl, k2⟩; have K2 := Lib.hid (K1.out.same k2); clear k2) | (go_at_call 29; refine (HPA.out _ (HG.out.same K2.out)).mono ?_; rintro e w3 ⟨⟨gp, cp, ga, ca, Ab, cb, rfl, hc, ho, hbk⟩, k3⟩; have K3 := Lib.hid (K2.out.same k3); have HC3 := Lib.hid hc; have HO3 := Lib.hid ho; have HB3 := Lib.hid hbk; clear k3 hc ho hbk) | (refine wpList_putB rfl 64 (.tmp 4) (.tmp 17) rfl w3.heap.size [.int .i64 0, .int .u8 2, .int .u8 0, .int .u8 0, .int .u8 0, .int .u8 0, .int .u8 1, .slice (some ⟨gp, 0, none⟩) 1 cp, .int .i64 1, .int .i64 1, .int .i64 1, .int .i64 1, .int .i64 1, .int .i64 1, .int .i64 1, .int .i64 1, .int .i64 1, .int .i64 0, .slice (some ⟨ga, 0, none⟩) 1 ca] rfl rfl 64 sc0 (Blk.new w3 sc0 64) size64 rfl (by simp [Value.oneCell']) ?_; intro w4 hr4 k4; have HR4 := Lib.hid hr4; have K4 := Lib.hid k4; clear hr4 k4))
    have ka := (Keeps.refl Nothing w3).alloc (.cells sc0.toArray 64)
    have hB := Blk.new w3 sc0 64
    have K5 := Lib.hid ((K3.out.same ka).up K4.out (fun k e => by have := K3.out.size; omega))
    have c18 : ∀ k, (w4.drewN k).cell? ⟨w3.heap.size, 18, none⟩ = some (.slice (some ⟨ga, 0, none⟩) 1 ca) := fun k => HR4.out.cell 18
    have hga : ga < w3.heap.size := by obtain ⟨l, hl⟩ := HB3.out; exact hl.lt
    have c2 : ∀ k, (w4.drewN k).cell? ⟨ga, 2, none⟩ = some (.slice Ab n cb) := fun k => by
      have h1 : w4.cell? ⟨ga, 2, none⟩ = (w3.alloc (.cells sc0.toArray 64)).cell? ⟨ga, 2, none⟩ := K4.out.cell (p := ⟨ga, 2, none⟩) (by simp; omega) (fun e => by have : ga = w3.heap.size := e; omega)
      have h2 : (w3.alloc (.cells sc0.toArray 64)).cell? ⟨ga, 2, none⟩ = w3.cell? ⟨ga, 2, none⟩ := ka.cell (p := ⟨ga, 2, none⟩) hga (fun h => h)
      have h3 : (w4.drewN k).cell? ⟨ga, 2, none⟩ = w4.cell? ⟨ga, 2, none⟩ := rfl
      rw [h3, h1, h2]; exact HC3.out
    have v1 : ∀ k, (convert 71 9 (.slice Ab n cb)).run Tryz.prog (w4.drewN k) = .ok (strV b) (w4.drewN k) := fun k => HCV.out _ _ ((((HO3.out.keeps ka (fun _ _ h => h)).other K4.out (not_blk hB (by decide))).keeps ((Keeps.refl Nothing w4).drewN k) (fun _ _ h => h)).slR)
    have v2 : ∀ k, (convert 71 9 (.slice A n c)).run Tryz.prog (w4.drewN k) = .ok (strV b) (w4.drewN k) := fun k => HCV.out _ _ (HS.out.same (K5.out.drewN k))
    have l1 : ∀ k, Calls Tryz.prog 36 #[strV h] (w4.drewN k) (fun e w' => e = .returned (strV h) ∧ w' = w4.drewN k) := fun k => HLO.out _
    have e1 := E1.out
    have e2 := E2.out
    clear ka hB hga hi hlim cs1
    go_quiet ((first | (go_at_call 36; with_reducible exact Calls.quiet_of_same (l1 _))))
    go_wp2
    go_ret
    exact ⟨rfl, K5.out.drewN _⟩
end Go.Proofs.YtdncojofilnhnaaGreatDoor
