/- RiscForms: the upper two bits of a word are its instruction's form; no word is read as one of another form. For every input, without a condition. -/
import Derived.Test.YtbhdejoljappfaaRows
import Derived.Test.YtbhdejoljappfaaRiscMath
import Derived.Test.YtbhdejoljappfaaWakes02
import Derived.Test.YtbhdejoljappfaaAgg
import Derived.Deep.RegionWith
import Derived.WalkKit
import Derived.WalkSmall
import Derived.ProofKit
import Derived.OpenShut
import Derived.ShutString
import Derived.ChangeOld
import Derived.Below
import Derived.SizedLaws
import Derived.Lib.SmallJoins
import Derived.Outline
namespace Go.Proofs.Ytbhdejoljappfaa
open Go.RowKit
theorem below_draws {w w' : World} (h : ∃ k, w' = w.drewN k) : Below w.heap.size w w' := by
  obtain ⟨k, rfl⟩ := h
  exact below_drewN (Below.refl _ _) k
theorem cand_parts (n : Nat) (hn : n < 4294967296) : (cand n).form = (n : Int) / 1073741824 ∧ (cand n).u = (n / 536870912 % 2 == 1) ∧ (cand n).v = (n / 268435456 % 2 == 1) ∧ (cand n).a = ((n / 16777216 % 16 : Nat) : Int) := by
  unfold cand
  by_cases h0 : n / 1073741824 = 0
  · rw [if_pos h0]; exact ⟨by simp only; omega, rfl, rfl, rfl⟩
  · rw [if_neg h0]
    by_cases h1 : n / 1073741824 = 1
    · rw [if_pos h1]; exact ⟨by simp only; omega, rfl, rfl, rfl⟩
    · rw [if_neg h1]
      by_cases h2 : n / 1073741824 = 2
      · rw [if_pos h2]; exact ⟨by simp only; omega, rfl, rfl, rfl⟩
      · rw [if_neg h2]
        by_cases h3 : n / 536870912 % 2 = 1
        · rw [if_pos h3]; exact ⟨by simp only; omega, by simp [h3], rfl, rfl⟩
        · rw [if_neg h3]; exact ⟨by simp only; omega, by simp [h3], rfl, rfl⟩
theorem shr24_is (n : Nat) (hn : n < 4294967296) : Go.bits .and .u32 ((n : Int) / 16777216) 15 = ((n / 16777216 % 16 : Nat) : Int) := by
  have h := Nat.div_le_self n 16777216
  rw [show (n : Int) / 16777216 = ((n / 16777216 : Nat) : Int) by simp]
  exact low4 (n / 16777216) (by omega)
set_option maxRecDepth 100000 in
set_option maxHeartbeats 2000000 in
theorem riscForms_calls (a0 : Int) (w : World) (w0 : (Lit.int .u32 a0).wf = true) :
    Calls Try.prog 8 #[.int .u32 a0] w fun e w' => e = .returned (.bool true) ∧ Below w.heap.size w w' := by
  obtain ⟨h0, h1⟩ := bounds_u32 w0
  obtain ⟨n, rfl⟩ := Int.eq_ofNat_of_zero_le h0
  have hn : n < 4294967296 := by omega
  have d1 := dec_calls n hn
  cases hk : isWord n
  · rw [show decI n = zeroIns by unfold decI; rw [hk]; rfl, show decE n = 20 by unfold decE; rw [hk]; rfl] at d1
    have D1 := Lib.hid (show ∀ w : World, Calls Try.prog 19 #[.int .u32 n] w fun e w' => e = .returned (.tuple #[.agg #[.int .i64 0, .bool false, .bool false, .int .i64 0, .int .i64 0, .int .i64 0, .int .i64 0, .int .i64 0], .int .i64 20]) ∧ Below w.heap.size w w' from d1)
    clear d1 w0 h0 h1 hn hk
    go_enter Try.func8, Try.ntmps8
    go_wp2_with fail
    refine (D1.out _).mono ?_
    rintro e w1 ⟨rfl, hb1⟩
    have z1 := hb1.size
    try simp at z1
    have HB1 := Lib.hid (show Below w.heap.size w w1 from below_call (by repeat (first | exact Below.refl _ _ | apply below_drewN | refine Below.setCell ?_ (by simp <;> omega) _ | refine Below.alloc ?_ (by simp <;> omega) _)) hb1)
    clear hb1
    go_wp2_with fail
    refine (wakes02 _).mono ?_
    rintro e w2 ⟨rfl, hb2⟩
    have z2 := hb2.size
    try simp at z2
    have HB2 := Lib.hid (show Below w.heap.size w w2 from below_call (by repeat (first | exact HB1.out | apply below_drewN | refine Below.setCell ?_ (by have := HB1.out.size; simp <;> omega) _ | refine Below.alloc ?_ (by have := HB1.out.size; simp <;> omega) _)) hb2)
    clear hb2
    go_wp2_with fail
    go_ret
    exact ⟨rfl, (by repeat (first | exact HB2.out | apply below_drewN | refine Below.setCell ?_ (by have := HB2.out.size; simp <;> omega) _ | refine Below.alloc ?_ (by have := HB2.out.size; simp <;> omega) _))⟩
  · rw [show decI n = cand n by unfold decI; rw [hk]; rfl, show decE n = 0 by unfold decE; rw [hk]; rfl] at d1
    have hg : goodB (cand n) = true := by
      unfold isWord at hk
      rw [Bool.and_eq_true] at hk
      exact hk.1
    have g := good_calls (cand n)
    rw [hg] at g
    obtain ⟨p0, p1, p2, p3⟩ := cand_parts n hn
    have b1 : (Go.bits .and .u32 ((n : Int) / 536870912) 1 == 1) = (cand n).u := by rw [p1]; exact bit_is n 536870912 hn
    have b2 : (Go.bits .and .u32 ((n : Int) / 268435456) 1 == 1) = (cand n).v := by rw [p2]; exact bit_is n 268435456 hn
    have b3 := shr24_is n hn
    rw [← p3] at b3
    have p0 := p0.symm
    have bd : 0 ≤ (cand n).a ∧ (cand n).a < 16 := by rw [p3]; omega
    have bf : 0 ≤ (cand n).form ∧ (cand n).form < 4 := by omega
    generalize cand n = I at d1 g p0 b1 b2 b3 bd bf
    obtain ⟨f0, u0, v0, a0, b0, c0, o0, i0⟩ := I
    simp only at p0 b1 b2 b3 bd bf
    obtain ⟨bd1, bd2⟩ := bd
    obtain ⟨bf1, bf2⟩ := bf
    have D1 := Lib.hid (show ∀ w : World, Calls Try.prog 19 #[.int .u32 n] w fun e w' => e = .returned (.tuple #[.agg #[.int .i64 f0, .bool u0, .bool v0, .int .i64 a0, .int .i64 b0, .int .i64 c0, .int .i64 o0, .int .i64 i0], .int .i64 0]) ∧ Below w.heap.size w w' from d1)
    have G := Lib.hid (show ∀ w : World, Calls Try.prog 16 #[.agg #[.int .i64 f0, .bool u0, .bool v0, .int .i64 a0, .int .i64 b0, .int .i64 c0, .int .i64 o0, .int .i64 i0]] w fun e w' => e = .returned (.bool true) ∧ Below w.heap.size w w' from g)
    clear d1 g w0 h0 h1 hn hk hg p1 p2 p3
    go_enter Try.func8, Try.ntmps8
    go_wp2_with fail
    refine (D1.out _).mono ?_
    rintro e w1 ⟨rfl, hb1⟩
    have z1 := hb1.size
    try simp at z1
    have HB1 := Lib.hid (show Below w.heap.size w w1 from below_call (by repeat (first | exact Below.refl _ _ | apply below_drewN | refine Below.setCell ?_ (by simp <;> omega) _ | refine Below.alloc ?_ (by simp <;> omega) _)) hb1)
    clear hb1
    go_wp2_with fail
    refine (G.out _).mono ?_
    rintro e w2 ⟨rfl, hb2⟩
    have c2_0 := (box_on (b := w1.heap.size) hb2 (by first | (simp; done) | (simp <;> omega) | omega)).1
    have z2 := hb2.size
    try simp at z2
    have l2_0 : w1.heap.size < w2.heap.size := by omega
    clear z2
    have HB2 := Lib.hid (show Below w.heap.size w w2 from below_call (by repeat (first | exact HB1.out | apply below_drewN | refine Below.setCell ?_ (by have := HB1.out.size; simp <;> omega) _ | refine Below.alloc ?_ (by have := HB1.out.size; simp <;> omega) _)) hb2)
    clear hb2
    go_wp2_with fail
    refine (wakes02 _).mono ?_
    rintro e w3 ⟨rfl, hb3⟩
    have z3 := hb3.size
    try simp at z3
    have HB3 := Lib.hid (show Below w.heap.size w w3 from below_call (by repeat (first | exact HB2.out | apply below_drewN | refine Below.setCell ?_ (by have := HB2.out.size; simp <;> omega) _ | refine Below.alloc ?_ (by have := HB2.out.size; simp <;> omega) _)) hb3)
    clear hb3
    go_wp2_with fail
    go_ret
    exact ⟨rfl, (by repeat (first | exact HB3.out | apply below_drewN | refine Below.setCell ?_ (by have := HB3.out.size; simp <;> omega) _ | refine Below.alloc ?_ (by have := HB3.out.size; simp <;> omega) _))⟩
end Go.Proofs.Ytbhdejoljappfaa
namespace Go.Proofs.Ytbhdejoljappfaa.riscForms
open Go.ChangeShapes Go.WideShapes Go.ChangeAt Go.RowKit Go.Joins
open Go.ChangeMaps (open_string shut_string)
set_option linter.unusedVariables false
theorem own : ownKnob Try.prog.godebug = none := by kernel_rfl
set_option maxRecDepth 100000 in
theorem lifted (os : Os) (started : os.Started) (H : Type) (enc : TypeId × Value → H) :
    ReturnsInHanded {} Try.checked os 8 .any (Rows.riscFormsSpec.pre6 enc Try.prog Try.f8 Rows.riscFormsRow.domain false) (Rows.riscFormsSpec.post enc Try.prog Try.f8 false true false false) := by
  refine returnsInHanded_of_change_sized (C := Try.checked) own started (by kernel_rfl) Try.func8
    (ChangeSpec.witness6 (enc := enc) (C := Try.checked) false ⟨#[], #[.int .u32 0], []⟩ 8 (by kernel_rfl) (by kernel_rfl) (by kernel_rfl) (by kernel_rfl)) ?_
  intro W base args ds gs before hval0 hW hcnd hsz0 _
  have hval : ∀ (j : Nat) t v, Try.f8.params[j]? = some t → args[j]? = some v → Value.okWide Try.prog W .any base t v := hval0
  have hW' := hW
  obtain ⟨p, q, hA0, hV, rfl, hfz, hnd⟩ := hW
  have hA : DataW.TrodAll enc Try.prog W 0 (fun _ => true) true Try.f8.params.toList args.toList ds p := hA0
  rw [Try.params8] at hA hval
  obtain ⟨v0, vs0, d0, ds0, p0, q0, hargs, rfl, rfl, h0, r0⟩ := trodAll_cons hA
  obtain ⟨rfl, rfl, rfl⟩ := trodAll_nil r0
  obtain rfl : args = #[v0] := by cases args; simp_all
  obtain ⟨rfl, rfl⟩ := trodVars_none hV
  obtain ⟨a0, rfl, rfl, rfl, w0⟩ := open_int Try.underlying24 (hval 0 24 v0 rfl rfl) h0
  refine (riscForms_calls a0 W w0).mono fun e W' ⟨he, hd⟩ => ?_
  subst he
  exact ⟨_, rfl, _, _, _, [], _, [], hW', trodAll_mk1 (shut_bool Try.underlying4 _), (trodAll_cons_mk (shut_int Try.underlying24 w0) trodAll_mk0), rfl, hd.frame _, fun h => by cases h⟩
theorem over : Rows.riscFormsRow.holds Try.pinned (OpenSpec.ofChange Rows.riscFormsSpec) :=
  OpenClaim.holds_of_wide 8 Try.f8 rfl rfl rfl rfl rfl rfl rfl ⟨rfl, rfl, rfl, rfl, rfl⟩ rfl rfl rfl rfl rfl (by kernel_rfl) Try.func8 (by kernel_rfl)
    (of_decide_eq_true (by kernel_rfl)) (by unfold Func.isWrapper; first | (rw [if_pos (by decide +kernel)]; kernel_rfl) | (rw [if_neg (by decide +kernel)]; exact ⟨rfl, rfl⟩))
    (fun os started H enc _ => lifted os started H enc)
theorem proved : Rows.RiscFormsSaid := over
#print axioms proved
end Go.Proofs.Ytbhdejoljappfaa.riscForms
namespace Go.Proofs.Ytbhdejoljappfaa
theorem riscForms_holds : Rows.RiscFormsSaid := riscForms.proved
end Go.Proofs.Ytbhdejoljappfaa
