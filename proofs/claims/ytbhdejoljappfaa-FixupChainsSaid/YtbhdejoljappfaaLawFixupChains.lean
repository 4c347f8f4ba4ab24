/- FixupChains: the links of every chain in any code, or that it is none, as the reference has them. For every input, without a condition. -/
import Derived.Test.YtbhdejoljappfaaRows
import Derived.Test.YtbhdejoljappfaaSlRow
import Derived.Test.YtbhdejoljappfaaWakes22
import Derived.WalkKit
import Derived.WalkSmall
import Derived.ProofKit
import Derived.OpenShut
import Derived.ShutString
import Derived.ChangeOld
import Derived.Below
import Derived.SizedLaws
import Derived.Lib.SmallJoins
import Derived.Outline
namespace Go.Proofs.Ytbhdejoljappfaa
open Go.RowKit

theorem words_nothing (w : World) (a : Option Addr) : Words w a 0 [] := ⟨rfl, Nat.zero_le _, by simp, fun h => absurd h (by simp)⟩

set_option maxRecDepth 100000 in
theorem chains_large (a : Option Addr) (len cap : Nat) (h : Int) (w : World) (h1 : (5000 : Int) < (len : Int)) :
    Calls Try.prog 10 #[.slice a len cap, .int .i64 h] w fun e w' => e = .returned (.bool true) ∧ Below w.heap.size w w' := by
  go_enter Try.func10, Try.ntmps10
  go_wp2_with (go_at_call 26; (with_reducible refine (wakes22 _).mono ?_); rintro e w9 ⟨rfl, hB9⟩; have HB9 := Lib.hid hB9; clear hB9)
  go_ret
  exact ⟨rfl, HB9.out⟩
theorem rchain_calls (A : Option Addr) (c : Nat) (code : List Nat) (head : Int) (w : World) (hm : (code.length : Int) ≤ 70000) (hs : ∀ x ∈ code, x < 4294967296) (hA : SlK .u32 w A code) (hb : -9223372036854775808 ≤ head) (hb2 : head ≤ 9223372036854775807) :
    Calls Try.prog 28 #[.slice A code.length c, .int .i64 head] w (ChainV w (chainF code head)) := by
  by_cases h : head = -1
  · subst h
    exact rchain_none A _ c w
  · exact rchain_some A _ c code head w rfl hm hs hA h hb hb2
/-- What both tell, whatever it is. -/
theorem chain_told {w w' : World} {R : Option (List Nat)} {e : Ending} {L : List Nat} {ee : Int} (hl : ∀ l, R = some l → l.length ≤ 70000) (hL : L = R.getD [] ∧ ee = if R = none then 220 else 0) (h : ChainV w R e w') : ∃ A c, e = .returned (.tuple #[.slice A L.length c, .int .i64 ee]) ∧ SlK .i64 w' A L ∧ Below w.heap.size w w' ∧ ((L.length : Nat) : Int) ≤ 70000 := by
  obtain ⟨rfl, rfl⟩ := hL
  cases R with
  | none => exact ⟨none, 0, h.1 rfl, slk_nil _ _ _, h.2.2, by simp⟩
  | some l =>
    obtain ⟨A, c, he, hS⟩ := h.2.1 l rfl
    exact ⟨A, c, he, hS, h.2.2, by have := hl l rfl; simp; omega⟩
set_option maxHeartbeats 2000000 in
set_option maxRecDepth 100000 in
theorem chains_way (A : Option Addr) (cap : Nat) (code : List Nat) (head : Int) (w : World) (hs : ∀ x ∈ code, x < 4294967296) (hA : SlK .u32 w A code) (h0 : A = none → code.length = 0 ∧ cap = 0) (h1 : (code.length : Int) ≤ 5000) (hb : -9223372036854775808 ≤ head) (hb2 : head ≤ 9223372036854775807) :
    Calls Try.prog 10 #[.slice A code.length cap, .int .i64 head] w fun e w' => e = .returned (.bool true) ∧ Below w.heap.size w w' := by
  obtain ⟨i0, hi, hz0, hz1, hz2⟩ := info_parts infoU
  obtain ⟨R, hR⟩ : ∃ R, R = chainF code head := ⟨_, rfl⟩
  have HLL := Lib.hid (show ∀ l, R = some l → l.length ≤ 70000 from fun l hl => by have := (chainF_links (hR ▸ hl)).2; omega)
  have HC := Lib.hid (fun (wx : World) A c (h : SlK .u32 wx A code) => chain_calls A c code head wx (by omega) hs h hb hb2)
  have HRC := Lib.hid (fun (wx : World) A c (h : SlK .u32 wx A code) => rchain_calls A c code head wx (by omega) hs h hb hb2)
  rw [← hR] at HC HRC
  have HN := Lib.hid h0
  have HS := Lib.hid hA
  have HA := Lib.hid (slk_cells hA)
  have B2 := Lib.hid (show 0 + code.length ≤ maxLen by unfold maxLen; omega)
  have B3 := Lib.hid (show (0 + code.length) * 4 ≤ 140737488355328 by omega)
  have HML := Lib.hid (show (code.length : Int) ≤ 70000 by omega)
  obtain ⟨L, hL⟩ : ∃ L, L = R.getD [] := ⟨_, rfl⟩
  obtain ⟨ee, hee⟩ : ∃ ee : Int, ee = if R = none then 220 else 0 := ⟨_, rfl⟩
  have HLE := Lib.hid (And.intro hL hee)
  clear hs hA h0 hR hL hee
  go_enter Try.func10, Try.ntmps10
  go_wp2_with (at_builtin; refine wpList_append_src rfl _ _ 52 rfl w.heap.size 24 i0 (.int .u32 0) 1 4 Try.underlying52 hi hz0 hz1 hz2 rfl (by decide) _ 0 [] rfl (World.ownsRow_lit w #[] 0 (Nat.le_refl _) (by decide) rfl) A code.length cap (Cs .u32 code) rfl (by rw [Cs_len]; simp) (fun ad ha j u hu => cell_kept ⟨rfl, rfl, rfl, Nat.le_refl _, fun _ _ _ => rfl⟩ (HA.out ad ha j u hu)) (Cs_one _ code) HN.out B2.out B3.out (by simp) ?_; intro v' w1 hown hgrow hnil; obtain ⟨g, c', rfl⟩ := row_lit hown.out hnil.out; clear hnil)
  have hgrow : (w.alloc (.cells #[] 24)).grownBy w1 (some w.heap.size) := hgrow.out
  have hown := hown.out
  rw [Nat.zero_add, List.nil_append] at hown
  have hB1 : Below w.heap.size w w1 := ((Below.refl w.heap.size w).alloc (Nat.le_refl _) _).grown hgrow (by simp) (fun k hk => by simp at hk; omega)
  have HI1 := Lib.hid (row_own hown rfl).1.slk
  have HB1 := Lib.hid hB1
  clear hgrow hown hB1
  refine Calls.mono (HC.out w1 _ _ HI1.out) ?_
  intro e w2 h2
  obtain ⟨A2, c2, rfl, hS2, hB2, hl2⟩ := chain_told HLL.out HLE.out h2
  have HS2 := Lib.hid hS2
  have HB2 := Lib.hid (HB1.out.trans (hB2.mono HB1.out.size))
  have HI2 := Lib.hid (HI1.out.below hB2)
  have HQ2 := Lib.hid (HS.out.below HB2.out)
  clear h2 hS2 hB2 hl2
  go_wp2_with fail
  refine Calls.mono (HRC.out w2 _ _ HQ2.out) ?_
  intro e w3 h3
  obtain ⟨A3, c3, rfl, hS3, hB3, hl3⟩ := chain_told HLL.out HLE.out h3
  have HS3 := Lib.hid hS3
  have HS23 := Lib.hid (HS2.out.below hB3)
  have HB3 := Lib.hid (HB2.out.trans (hB3.mono HB2.out.size))
  have HI3 := Lib.hid (HI2.out.below hB3)
  have HQ3 := Lib.hid (HQ2.out.below hB3)
  have HL3 := Lib.hid hl3
  clear h3 hS3 hB3 hl3
  go_wp2_with (first
    | (go_at_call 29; (with_reducible refine (keep_same _ _ _ _ _ _ _ rfl HL3.out HS23.out HS3.out).mono ?_); rintro e w4 ⟨rfl, k4, hk4⟩; have HI4 := Lib.hid (show SlK .u32 w4 _ code from by rw [hk4]; exact HI3.out); have HQ4 := Lib.hid (show SlK .u32 w4 A code from by rw [hk4]; exact HQ3.out); have HB4 := Lib.hid (show Below w.heap.size w w4 from by rw [hk4]; exact below_drewN HB3.out k4); clear hk4)
    | (go_at_call 30; (with_reducible refine (keep_words _ _ _ _ _ _ _ rfl HML.out HI4.out HQ4.out).mono ?_); rintro e w5 ⟨rfl, k5, hk5⟩; have HB5 := Lib.hid (show Below w.heap.size w w5 from by rw [hk5]; exact below_drewN HB4.out k5); clear hk5)
    | (go_at_call 26; (with_reducible refine (wakes22 _).mono ?_); rintro e w9 ⟨rfl, hB9⟩; have HB9 := Lib.hid hB9; clear hB9))
  go_ret
  exact ⟨rfl, HB5.out.trans (HB9.out.mono HB5.out.size)⟩
theorem fixupChains_calls (a0 : Option Addr) (len0 cap0 : Nat) (z0 : List Nat) (a1 : Int) (w : World) (w0 : Words w a0 len0 z0 ∧ (a0 = none → len0 = 0 ∧ cap0 = 0)) (w1 : (Lit.int .i64 a1).wf = true) :
    Calls Try.prog 10 #[.slice a0 len0 cap0, .int .i64 a1] w fun e w' => e = .returned (.bool true) ∧ Below w.heap.size w w' := by
  obtain ⟨⟨hl, _, hs, hp⟩, h0⟩ := w0
  subst hl
  by_cases hh : 5000 < z0.length
  · exact chains_large _ _ _ _ _ (by omega)
  have hb := bounds_i64 w1
  exact chains_way a0 cap0 z0 a1 w hs hp h0 (by omega) hb.1 hb.2
end Go.Proofs.Ytbhdejoljappfaa
namespace Go.Proofs.Ytbhdejoljappfaa.fixupChains
open Go.ChangeShapes Go.WideShapes Go.ChangeAt Go.RowKit Go.Joins
open Go.ChangeMaps (open_string shut_string)
set_option linter.unusedVariables false
theorem own : ownKnob Try.prog.godebug = none := by kernel_rfl
theorem laidOut : laidOutB Try.prog = true := by kernel_rfl
set_option maxRecDepth 100000 in
theorem lifted (os : Os) (started : os.Started) (H : Type) (enc : TypeId × Value → H) :
    ReturnsInHanded {} Try.checked os 10 .any (Rows.fixupChainsSpec.pre6 enc Try.prog Try.f10 Rows.fixupChainsRow.domain false) (Rows.fixupChainsSpec.post enc Try.prog Try.f10 false true false false) := by
  refine returnsInHanded_of_change_sized (C := Try.checked) own started (by kernel_rfl) Try.func10
    (ChangeSpec.witness6 (enc := enc) (C := Try.checked) false ⟨#[], #[.slice none 0 0, .int .i64 0], []⟩ 8 (by kernel_rfl) (by kernel_rfl) (by kernel_rfl) (by kernel_rfl)) ?_
  intro W base args ds gs before hval0 hW hcnd hsz0 _
  have hval : ∀ (j : Nat) t v, Try.f10.params[j]? = some t → args[j]? = some v → Value.okWide Try.prog W .any base t v := hval0
  have hW' := hW
  obtain ⟨p, q, hA0, hV, rfl, hfz, hnd⟩ := hW
  have hA : DataW.TrodAll enc Try.prog W 0 (fun _ => true) true Try.f10.params.toList args.toList ds p := hA0
  rw [Try.params10] at hA hval
  obtain ⟨v0, vs0, d0, ds0, p0, q0, hargs, rfl, rfl, h0, r0⟩ := trodAll_cons hA
  obtain ⟨v1, vs1, d1, ds1, p1, q1, rfl, rfl, rfl, h1, r1⟩ := trodAll_cons r0
  obtain ⟨rfl, rfl, rfl⟩ := trodAll_nil r1
  obtain rfl : args = #[v0, v1] := by cases args; simp_all
  obtain ⟨rfl, rfl⟩ := trodVars_none hV
  obtain ⟨a0, len0, cap0, rfl⟩ := okWide_slice Try.underlying52 (hval 0 52 v0 rfl rfl)
  have k0 := h0
  have lt0 : ∀ x ∈ p0, x.block < W.heap.size := by obtain ⟨m, hm⟩ := k0; exact DataW.trod_lt m _ _ _ hm
  obtain ⟨z0, w0⟩ : ∃ xs, Words W a0 len0 xs ∧ (a0 = none → len0 = 0 ∧ cap0 = 0) := by
    obtain ⟨fuel, hf⟩ := h0
    rcases open_ints Try.underlying52 Try.underlying24 (by kernel_rfl) hf with ⟨hcs, _⟩ | ⟨x, l, c, zs, hcs, _, hl, hm, hz, _, hcell, hwz⟩
    · simp [Value.cells] at hcs
      obtain ⟨rfl, rfl, rfl⟩ := hcs
      exact ⟨[], words_nothing W none, fun _ => ⟨rfl, rfl⟩⟩
    · simp [Value.cells] at hcs
      obtain ⟨rfl, rfl, rfl⟩ := hcs
      obtain ⟨xs, hx⟩ := words_row hl hm (by simpa using hz) hcell hwz
      exact ⟨xs, hx, fun h => by cases h⟩
  obtain ⟨a1, rfl, rfl, rfl, w1⟩ := open_int Try.underlying3 (hval 1 3 v1 rfl rfl) h1
  refine (fixupChains_calls a0 len0 cap0 z0 a1 W w0 w1).mono fun e W' ⟨he, hd⟩ => ?_
  subst he
  exact ⟨_, rfl, _, _, _, [], _, [], hW', trodAll_mk1 (shut_bool Try.underlying4 _), (trodAll_cons_mk (Below.trod laidOut (by kernel_rfl) (of_decide_eq_true (by kernel_rfl)) k0 hd lt0) (trodAll_cons_mk (shut_int Try.underlying3 w1) trodAll_mk0)), rfl, hd.frame _, fun h => by cases h⟩
theorem over : Rows.fixupChainsRow.holds Try.pinned (OpenSpec.ofChange Rows.fixupChainsSpec) :=
  OpenClaim.holds_of_wide 10 Try.f10 rfl rfl rfl rfl rfl rfl rfl ⟨rfl, rfl, rfl, rfl, rfl⟩ rfl rfl rfl rfl rfl (by kernel_rfl) Try.func10 (by kernel_rfl)
    (of_decide_eq_true (by kernel_rfl)) (by unfold Func.isWrapper; first | (rw [if_pos (by decide +kernel)]; kernel_rfl) | (rw [if_neg (by decide +kernel)]; exact ⟨rfl, rfl⟩))
    (fun os started H enc _ => lifted os started H enc)
theorem proved : Rows.FixupChainsSaid := over
#print axioms proved
end Go.Proofs.Ytbhdejoljappfaa.fixupChains
namespace Go.Proofs.Ytbhdejoljappfaa
theorem fixupChains_holds : Rows.FixupChainsSaid := fixupChains.proved
end Go.Proofs.Ytbhdejoljappfaa
