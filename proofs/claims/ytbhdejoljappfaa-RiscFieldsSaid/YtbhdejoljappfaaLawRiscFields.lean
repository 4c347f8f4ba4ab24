/- RiscFields: another register in one of an instruction's fields turns just that field's bits of its word. For every input, without a condition. -/
import Derived.Test.YtbhdejoljappfaaRows
import Derived.Test.YtbhdejoljappfaaRiscMath2
import Derived.Test.YtbhdejoljappfaaWakes02
import Derived.Test.YtbhdejoljappfaaAgg
import Derived.Deep.RegionWith
import Derived.WalkKit
import Derived.WalkSmall
import Derived.ProofKit
import Derived.OpenShut
import Derived.ShutString
import Derived.ChangeOld
import Derived.Below
import Derived.SizedLaws
import Derived.Lib.SmallJoins
import Derived.Outline
namespace Go.Proofs.Ytbhdejoljappfaa
open Go.RowKit
theorem below_draws {w w' : World} (h : ∃ k, w' = w.drewN k) : Below w.heap.size w w' := by
  obtain ⟨k, rfl⟩ := h
  exact below_drewN (Below.refl _ _) k
theorem u64_nat (a : Int) : IntKind.u64.wrap a = ((a % 18446744073709551616).toNat : Int) := by
  simp [IntKind.wrap, IntKind.bits, IntKind.signed]
  omega
set_option maxRecDepth 100000 in
set_option maxHeartbeats 4000000 in
theorem riscFields_calls (x0 : Ins) (a1 : Int) (w : World) (_w1 : (Lit.int .i64 a1).wf = true) :
    Calls Try.prog 7 #[x0.val, .int .i64 a1] w fun e w' => e = .returned (.bool true) ∧ Below w.heap.size w w' := by
  clear _w1
  obtain ⟨xf, xu, xv, xa, xb, xc, xo, xi⟩ := x0
  unfold Ins.val
  obtain ⟨A, hA⟩ : ∃ A : Nat, IntKind.u64.wrap a1 = (A : Int) := ⟨_, u64_nat a1⟩
  obtain ⟨k, hk⟩ : ∃ k : Nat, k = A % 16 := ⟨_, rfl⟩
  have hr : (A : Int) % 16 = (k : Int) := by omega
  have k0 : k < 16 := by omega
  have k1 : (k : Int) < 16 := by omega
  clear hk
  cases hg : goodB ⟨xf, xu, xv, xa, xb, xc, xo, xi⟩
  · have E1 := Lib.hid (show ∀ w : World, Calls Try.prog 14 #[.agg #[.int .i64 xf, .bool xu, .bool xv, .int .i64 xa, .int .i64 xb, .int .i64 xc, .int .i64 xo, .int .i64 xi]] w fun e w' => e = .returned (.tuple #[.int .u32 0, .int .i64 20]) ∧ Below w.heap.size w w' from enc_no ⟨xf, xu, xv, xa, xb, xc, xo, xi⟩ hg)
    cases hy : goodB ⟨xf, xu, xv, k, xb, xc, xo, xi⟩
    · have E2 := Lib.hid (show ∀ w : World, Calls Try.prog 14 #[.agg #[.int .i64 xf, .bool xu, .bool xv, .int .i64 k, .int .i64 xb, .int .i64 xc, .int .i64 xo, .int .i64 xi]] w fun e w' => e = .returned (.tuple #[.int .u32 0, .int .i64 20]) ∧ Below w.heap.size w w' from enc_no ⟨xf, xu, xv, k, xb, xc, xo, xi⟩ hy)
      clear hg hy k0
      go_enter Try.func7, Try.ntmps7
      go_wp2_with fail
      refine (E1.out _).mono ?_
      rintro e w1 ⟨rfl, hb1⟩
      have c1_0 := (box_on (b := w.heap.size) hb1 (by first | (simp; done) | (simp <;> omega) | omega)).1
      have z1 := hb1.size
      try simp at z1
      have l1_0 : w.heap.size < w1.heap.size := by omega
      clear z1
      have HB1 := Lib.hid (show Below w.heap.size w w1 from below_call (by repeat (first | exact Below.refl _ _ | apply below_drewN | refine Below.setCell ?_ (by simp <;> omega) _ | refine Below.alloc ?_ (by simp <;> omega) _)) hb1)
      clear hb1
      go_wp2_with fail
      refine (E2.out _).mono ?_
      rintro e w2 ⟨rfl, hb2⟩
      have c2_0 := (box_on (b := w.heap.size) hb2 (by first | (simp; done) | (simp <;> omega) | omega)).1
      have z2 := hb2.size
      try simp at z2
      have l2_0 : w.heap.size < w2.heap.size := by omega
      clear z2
      have HB2 := Lib.hid (show Below w.heap.size w w2 from below_call (by repeat (first | exact HB1.out | apply below_drewN | refine Below.setCell ?_ (by have := HB1.out.size; simp <;> omega) _ | refine Below.alloc ?_ (by have := HB1.out.size; simp <;> omega) _)) hb2)
      clear hb2
      go_wp2_with fail
      refine (wakes02 _).mono ?_
      rintro e w3 ⟨rfl, hb3⟩
      have z3 := hb3.size
      try simp at z3
      have HB3 := Lib.hid (show Below w.heap.size w w3 from below_call (by repeat (first | exact HB2.out | apply below_drewN | refine Below.setCell ?_ (by have := HB2.out.size; simp <;> omega) _ | refine Below.alloc ?_ (by have := HB2.out.size; simp <;> omega) _)) hb3)
      clear hb3
      go_wp2_with fail
      go_ret
      exact ⟨rfl, (by repeat (first | exact HB3.out | apply below_drewN | refine Below.setCell ?_ (by have := HB3.out.size; simp <;> omega) _ | refine Below.alloc ?_ (by have := HB3.out.size; simp <;> omega) _))⟩
    · have en := enc_yes ⟨xf, xu, xv, k, xb, xc, xo, xi⟩ hy
      generalize encZ ⟨xf, xu, xv, k, xb, xc, xo, xi⟩ = r at en
      have E2 := Lib.hid (show ∀ w : World, Calls Try.prog 14 #[.agg #[.int .i64 xf, .bool xu, .bool xv, .int .i64 k, .int .i64 xb, .int .i64 xc, .int .i64 xo, .int .i64 xi]] w fun e w' => e = .returned (.tuple #[.int .u32 r, .int .i64 0]) ∧ Below w.heap.size w w' from en)
      clear hg hy k0 en
      go_enter Try.func7, Try.ntmps7
      go_wp2_with fail
      refine (E1.out _).mono ?_
      rintro e w1 ⟨rfl, hb1⟩
      have c1_0 := (box_on (b := w.heap.size) hb1 (by first | (simp; done) | (simp <;> omega) | omega)).1
      have z1 := hb1.size
      try simp at z1
      have l1_0 : w.heap.size < w1.heap.size := by omega
      clear z1
      have HB1 := Lib.hid (show Below w.heap.size w w1 from below_call (by repeat (first | exact Below.refl _ _ | apply below_drewN | refine Below.setCell ?_ (by simp <;> omega) _ | refine Below.alloc ?_ (by simp <;> omega) _)) hb1)
      clear hb1
      go_wp2_with fail
      refine (E2.out _).mono ?_
      rintro e w2 ⟨rfl, hb2⟩
      have c2_0 := (box_on (b := w.heap.size) hb2 (by first | (simp; done) | (simp <;> omega) | omega)).1
      have z2 := hb2.size
      try simp at z2
      have l2_0 : w.heap.size < w2.heap.size := by omega
      clear z2
      have HB2 := Lib.hid (show Below w.heap.size w w2 from below_call (by repeat (first | exact HB1.out | apply below_drewN | refine Below.setCell ?_ (by have := HB1.out.size; simp <;> omega) _ | refine Below.alloc ?_ (by have := HB1.out.size; simp <;> omega) _)) hb2)
      clear hb2
      go_wp2_with fail
      refine (wakes02 _).mono ?_
      rintro e w3 ⟨rfl, hb3⟩
      have z3 := hb3.size
      try simp at z3
      have HB3 := Lib.hid (show Below w.heap.size w w3 from below_call (by repeat (first | exact HB2.out | apply below_drewN | refine Below.setCell ?_ (by have := HB2.out.size; simp <;> omega) _ | refine Below.alloc ?_ (by have := HB2.out.size; simp <;> omega) _)) hb3)
      clear hb3
      go_wp2_with fail
      go_ret
      exact ⟨rfl, (by repeat (first | exact HB3.out | apply below_drewN | refine Below.setCell ?_ (by have := HB3.out.size; simp <;> omega) _ | refine Below.alloc ?_ (by have := HB3.out.size; simp <;> omega) _))⟩
  · obtain ⟨n, m, e1, e2, t1, t2⟩ := turn_a ⟨xf, xu, xv, xa, xb, xc, xo, xi⟩ k k0 hg
    have en1 := enc_yes ⟨xf, xu, xv, xa, xb, xc, xo, xi⟩ hg
    have en2 := enc_yes ⟨xf, xu, xv, k, xb, xc, xo, xi⟩ (good_a ⟨xf, xu, xv, xa, xb, xc, xo, xi⟩ k k0 hg)
    rw [e1] at en1
    simp only at e2
    rw [e2] at en2
    have E1 := Lib.hid (show ∀ w : World, Calls Try.prog 14 #[.agg #[.int .i64 xf, .bool xu, .bool xv, .int .i64 xa, .int .i64 xb, .int .i64 xc, .int .i64 xo, .int .i64 xi]] w fun e w' => e = .returned (.tuple #[.int .u32 n, .int .i64 0]) ∧ Below w.heap.size w w' from en1)
    have E2 := Lib.hid (show ∀ w : World, Calls Try.prog 14 #[.agg #[.int .i64 xf, .bool xu, .bool xv, .int .i64 k, .int .i64 xb, .int .i64 xc, .int .i64 xo, .int .i64 xi]] w fun e w' => e = .returned (.tuple #[.int .u32 m, .int .i64 0]) ∧ Below w.heap.size w w' from en2)
    by_cases hf : xf = 3
    · subst hf
      clear hg k0 en1 en2 e1 e2
      go_enter Try.func7, Try.ntmps7
      go_wp2_with fail
      refine (E1.out _).mono ?_
      rintro e w1 ⟨rfl, hb1⟩
      have c1_0 := (box_on (b := w.heap.size) hb1 (by first | (simp; done) | (simp <;> omega) | omega)).1
      have z1 := hb1.size
      try simp at z1
      have l1_0 : w.heap.size < w1.heap.size := by omega
      clear z1
      have HB1 := Lib.hid (show Below w.heap.size w w1 from below_call (by repeat (first | exact Below.refl _ _ | apply below_drewN | refine Below.setCell ?_ (by simp <;> omega) _ | refine Below.alloc ?_ (by simp <;> omega) _)) hb1)
      clear hb1
      go_wp2_with fail
      refine (E2.out _).mono ?_
      rintro e w2 ⟨rfl, hb2⟩
      have c2_0 := (box_on (b := w.heap.size) hb2 (by first | (simp; done) | (simp <;> omega) | omega)).1
      have c2_1 := (box_on (b := w1.heap.size) hb2 (by first | (simp; done) | (simp <;> omega) | omega)).1
      have z2 := hb2.size
      try simp at z2
      have l2_0 : w.heap.size < w2.heap.size := by omega
      have l2_1 : w1.heap.size < w2.heap.size := by omega
      clear z2
      have HB2 := Lib.hid (show Below w.heap.size w w2 from below_call (by repeat (first | exact HB1.out | apply below_drewN | refine Below.setCell ?_ (by have := HB1.out.size; simp <;> omega) _ | refine Below.alloc ?_ (by have := HB1.out.size; simp <;> omega) _)) hb2)
      clear hb2
      go_wp2_with fail
      refine (wakes02 _).mono ?_
      rintro e w3 ⟨rfl, hb3⟩
      have z3 := hb3.size
      try simp at z3
      have HB3 := Lib.hid (show Below w.heap.size w w3 from below_call (by repeat (first | exact HB2.out | apply below_drewN | refine Below.setCell ?_ (by have := HB2.out.size; simp <;> omega) _ | refine Below.alloc ?_ (by have := HB2.out.size; simp <;> omega) _)) hb3)
      clear hb3
      go_wp2_with fail
      go_ret
      exact ⟨rfl, (by repeat (first | exact HB3.out | apply below_drewN | refine Below.setCell ?_ (by have := HB3.out.size; simp <;> omega) _ | refine Below.alloc ?_ (by have := HB3.out.size; simp <;> omega) _))⟩
    · obtain ⟨m3, e3, t3, t4⟩ := turn_b ⟨xf, xu, xv, xa, xb, xc, xo, xi⟩ k k0 hg hf
      have t3 := t3 n e1
      have en3 := enc_yes ⟨xf, xu, xv, xa, k, xc, xo, xi⟩ (good_b ⟨xf, xu, xv, xa, xb, xc, xo, xi⟩ k k0 hg hf)
      simp only at e3
      rw [e3] at en3
      have E3 := Lib.hid (show ∀ w : World, Calls Try.prog 14 #[.agg #[.int .i64 xf, .bool xu, .bool xv, .int .i64 xa, .int .i64 k, .int .i64 xc, .int .i64 xo, .int .i64 xi]] w fun e w' => e = .returned (.tuple #[.int .u32 m3, .int .i64 0]) ∧ Below w.heap.size w w' from en3)
      have bf : (xf == 3) = false := by simp [hf]
      clear hg k0 en1 en2 en3 e1 e2 e3 hf
      go_enter Try.func7, Try.ntmps7
      go_wp2_with fail
      refine (E1.out _).mono ?_
      rintro e w1 ⟨rfl, hb1⟩
      have c1_0 := (box_on (b := w.heap.size) hb1 (by first | (simp; done) | (simp <;> omega) | omega)).1
      have z1 := hb1.size
      try simp at z1
      have l1_0 : w.heap.size < w1.heap.size := by omega
      clear z1
      have HB1 := Lib.hid (show Below w.heap.size w w1 from below_call (by repeat (first | exact Below.refl _ _ | apply below_drewN | refine Below.setCell ?_ (by simp <;> omega) _ | refine Below.alloc ?_ (by simp <;> omega) _)) hb1)
      clear hb1
      go_wp2_with fail
      refine (E2.out _).mono ?_
      rintro e w2 ⟨rfl, hb2⟩
      have c2_0 := (box_on (b := w.heap.size) hb2 (by first | (simp; done) | (simp <;> omega) | omega)).1
      have c2_1 := (box_on (b := w1.heap.size) hb2 (by first | (simp; done) | (simp <;> omega) | omega)).1
      have z2 := hb2.size
      try simp at z2
      have l2_0 : w.heap.size < w2.heap.size := by omega
      have l2_1 : w1.heap.size < w2.heap.size := by omega
      clear z2
      have HB2 := Lib.hid (show Below w.heap.size w w2 from below_call (by repeat (first | exact HB1.out | apply below_drewN | refine Below.setCell ?_ (by have := HB1.out.size; simp <;> omega) _ | refine Below.alloc ?_ (by have := HB1.out.size; simp <;> omega) _)) hb2)
      clear hb2
      go_wp2_with fail
      refine (E3.out _).mono ?_
      rintro e w3 ⟨rfl, hb3⟩
      have c3_0 := (box_on (b := w.heap.size) hb3 (by first | (simp; done) | (simp <;> omega) | omega)).1
      have c3_1 := (box_on (b := w1.heap.size) hb3 (by first | (simp; done) | (simp <;> omega) | omega)).1
      have c3_2 := (box_on (b := w2.heap.size) hb3 (by first | (simp; done) | (simp <;> omega) | omega)).1
      have z3 := hb3.size
      try simp at z3
      have l3_0 : w.heap.size < w3.heap.size := by omega
      have l3_1 : w1.heap.size < w3.heap.size := by omega
      have l3_2 : w2.heap.size < w3.heap.size := by omega
      clear z3
      have HB3 := Lib.hid (show Below w.heap.size w w3 from below_call (by repeat (first | exact HB2.out | apply below_drewN | refine Below.setCell ?_ (by have := HB2.out.size; simp <;> omega) _ | refine Below.alloc ?_ (by have := HB2.out.size; simp <;> omega) _)) hb3)
      clear hb3
      go_wp2_with fail
      refine (wakes02 _).mono ?_
      rintro e w4 ⟨rfl, hb4⟩
      have z4 := hb4.size
      try simp at z4
      have HB4 := Lib.hid (show Below w.heap.size w w4 from below_call (by repeat (first | exact HB3.out | apply below_drewN | refine Below.setCell ?_ (by have := HB3.out.size; simp <;> omega) _ | refine Below.alloc ?_ (by have := HB3.out.size; simp <;> omega) _)) hb4)
      clear hb4
      go_wp2_with fail
      go_ret
      exact ⟨rfl, (by repeat (first | exact HB4.out | apply below_drewN | refine Below.setCell ?_ (by have := HB4.out.size; simp <;> omega) _ | refine Below.alloc ?_ (by have := HB4.out.size; simp <;> omega) _))⟩
end Go.Proofs.Ytbhdejoljappfaa
namespace Go.Proofs.Ytbhdejoljappfaa.riscFields
open Go.ChangeShapes Go.WideShapes Go.ChangeAt Go.RowKit Go.Joins
open Go.ChangeMaps (open_string shut_string)
set_option linter.unusedVariables false
theorem own : ownKnob Try.prog.godebug = none := by kernel_rfl
set_option maxRecDepth 100000 in
theorem lifted (os : Os) (started : os.Started) (H : Type) (enc : TypeId × Value → H) :
    ReturnsInHanded {} Try.checked os 7 .any (Rows.riscFieldsSpec.pre6 enc Try.prog Try.f7 Rows.riscFieldsRow.domain false) (Rows.riscFieldsSpec.post enc Try.prog Try.f7 false true false false) := by
  refine returnsInHanded_of_change_sized (C := Try.checked) own started (by kernel_rfl) Try.func7
    (ChangeSpec.witness6 (enc := enc) (C := Try.checked) false ⟨#[], #[.agg #[.int .i64 0, .bool false, .bool false, .int .i64 0, .int .i64 0, .int .i64 0, .int .i64 0, .int .i64 0], .int .i64 0], []⟩ 8 (by kernel_rfl) (by kernel_rfl) (by kernel_rfl) (by kernel_rfl)) ?_
  intro W base args ds gs before hval0 hW hcnd hsz0 _
  have hval : ∀ (j : Nat) t v, Try.f7.params[j]? = some t → args[j]? = some v → Value.okWide Try.prog W .any base t v := hval0
  have hW' := hW
  obtain ⟨p, q, hA0, hV, rfl, hfz, hnd⟩ := hW
  have hA : DataW.TrodAll enc Try.prog W 0 (fun _ => true) true Try.f7.params.toList args.toList ds p := hA0
  rw [Try.params7] at hA hval
  obtain ⟨v0, vs0, d0, ds0, p0, q0, hargs, rfl, rfl, h0, r0⟩ := trodAll_cons hA
  obtain ⟨v1, vs1, d1, ds1, p1, q1, rfl, rfl, rfl, h1, r1⟩ := trodAll_cons r0
  obtain ⟨rfl, rfl, rfl⟩ := trodAll_nil r1
  obtain rfl : args = #[v0, v1] := by cases args; simp_all
  obtain ⟨rfl, rfl⟩ := trodVars_none hV
  obtain ⟨x0, rfl, rfl, rfl, w0⟩ := open_ins (hval 0 23 v0 rfl rfl) h0
  obtain ⟨a1, rfl, rfl, rfl, w1⟩ := open_int Try.underlying3 (hval 1 3 v1 rfl rfl) h1
  try simp only [List.append_nil] at hW'
  refine (riscFields_calls x0 a1 W w1).mono fun e W' ⟨he, hd⟩ => ?_
  subst he
  exact ⟨_, rfl, _, _, _, [], _, [], hW', trodAll_mk1 (shut_bool Try.underlying4 _), (trodAll_cons_mk (shut_ins x0 w0) (trodAll_cons_mk (shut_int Try.underlying3 w1) trodAll_mk0)), rfl, hd.frame _, fun h => by cases h⟩
theorem over : Rows.riscFieldsRow.holds Try.pinned (OpenSpec.ofChange Rows.riscFieldsSpec) :=
  OpenClaim.holds_of_wide 7 Try.f7 rfl rfl rfl rfl rfl rfl rfl ⟨rfl, rfl, rfl, rfl, rfl⟩ rfl rfl rfl rfl rfl (by kernel_rfl) Try.func7 (by kernel_rfl)
    (of_decide_eq_true (by kernel_rfl)) (by unfold Func.isWrapper; first | (rw [if_pos (by decide +kernel)]; kernel_rfl) | (rw [if_neg (by decide +kernel)]; exact ⟨rfl, rfl⟩))
    (fun os started H enc _ => lifted os started H enc)
theorem proved : Rows.RiscFieldsSaid := over
#print axioms proved
end Go.Proofs.Ytbhdejoljappfaa.riscFields
namespace Go.Proofs.Ytbhdejoljappfaa
theorem riscFields_holds : Rows.RiscFieldsSaid := riscFields.proved
end Go.Proofs.Ytbhdejoljappfaa
