/- RiscJumps: every distance that fits a jump is kept by it, and no other one. For every input, without a condition. -/
import Derived.Test.YtbhdejoljappfaaRows
import Derived.Test.YtbhdejoljappfaaRiscMath
import Derived.Test.YtbhdejoljappfaaWakes02
import Derived.Test.YtbhdejoljappfaaAgg
import Derived.Deep.RegionWith
import Derived.WalkKit
import Derived.WalkSmall
import Derived.ProofKit
import Derived.OpenShut
import Derived.ShutString
import Derived.ChangeOld
import Derived.Below
import Derived.SizedLaws
import Derived.Lib.SmallJoins
import Derived.Outline
namespace Go.Proofs.Ytbhdejoljappfaa
open Go.RowKit
theorem below_draws {w w' : World} (h : ∃ k, w' = w.drewN k) : Below w.heap.size w w' := by
  obtain ⟨k, rfl⟩ := h
  exact below_drewN (Below.refl _ _) k
theorem u64_nat (a : Int) : IntKind.u64.wrap a = ((a % 18446744073709551616).toNat : Int) := by
  simp [IntKind.wrap, IntKind.bits, IntKind.signed]
  omega
set_option maxRecDepth 100000 in
set_option maxHeartbeats 2000000 in
theorem riscJumps_calls (a0 a1 : Int) (a2 : Bool) (w : World) (_w0 : (Lit.int .i64 a0).wf = true) (_w1 : (Lit.int .i64 a1).wf = true) :
    Calls Try.prog 6 #[.int .i64 a0, .int .i64 a1, .bool a2] w fun e w' => e = .returned (.bool true) ∧ Below w.heap.size w w' := by
  clear _w0 _w1
  obtain ⟨A, hA⟩ : ∃ A : Nat, IntKind.u64.wrap a0 = (A : Int) := ⟨_, u64_nat a0⟩
  obtain ⟨k, hk⟩ : ∃ k : Nat, k = A % 16 := ⟨_, rfl⟩
  have hr : (A : Int) % 16 = (k : Int) := by omega
  have k1 : (k : Int) < 16 := by omega
  clear hk
  by_cases hi : -8388608 ≤ a1 ∧ a1 < 8388608
  · have hg : goodB ⟨3, true, a2, k, 0, 0, 0, a1⟩ = true := by
      refine decide_eq_true ?_
      simp only [Good]
      refine ⟨⟨by omega, by omega⟩, by decide, by decide, by decide, ?_⟩
      simp
      exact hi
    obtain ⟨n, e1, e2, e3, e4⟩ := dec_enc _ hg
    have d1 := dec_calls n e2
    rw [e3, e4] at d1
    have en := enc_yes _ hg
    rw [e1] at en
    have E1 := Lib.hid (show ∀ w : World, Calls Try.prog 14 #[.agg #[.int .i64 3, .bool true, .bool a2, .int .i64 k, .int .i64 0, .int .i64 0, .int .i64 0, .int .i64 a1]] w fun e w' => e = .returned (.tuple #[.int .u32 n, .int .i64 0]) ∧ Below w.heap.size w w' from en)
    have D1 := Lib.hid (show ∀ w : World, Calls Try.prog 19 #[.int .u32 n] w fun e w' => e = .returned (.tuple #[.agg #[.int .i64 3, .bool true, .bool a2, .int .i64 k, .int .i64 0, .int .i64 0, .int .i64 0, .int .i64 a1], .int .i64 0]) ∧ Below w.heap.size w w' from d1)
    have b1 : decide (a1 < -8388608) = false := by simp; omega
    have b2 : decide (8388608 ≤ a1) = false := by simp; omega
    clear hg d1 en e1 e2 e3 e4 hi
    go_enter Try.func6, Try.ntmps6
    go_wp2_with fail
    refine (E1.out _).mono ?_
    rintro e w1 ⟨rfl, hb1⟩
    have c1_0 := (box_on (b := w.heap.size) hb1 (by first | (simp; done) | (simp <;> omega) | omega)).1
    have z1 := hb1.size
    try simp at z1
    have l1_0 : w.heap.size < w1.heap.size := by omega
    clear z1
    have HB1 := Lib.hid (show Below w.heap.size w w1 from below_call (by repeat (first | exact Below.refl _ _ | apply below_drewN | refine Below.setCell ?_ (by simp <;> omega) _ | refine Below.alloc ?_ (by simp <;> omega) _)) hb1)
    clear hb1
    go_wp2_with fail
    refine (D1.out _).mono ?_
    rintro e w2 ⟨rfl, hb2⟩
    have c2_0 := (box_on (b := w.heap.size) hb2 (by first | (simp; done) | (simp <;> omega) | omega)).1
    have z2 := hb2.size
    try simp at z2
    have l2_0 : w.heap.size < w2.heap.size := by omega
    clear z2
    have HB2 := Lib.hid (show Below w.heap.size w w2 from below_call (by repeat (first | exact HB1.out | apply below_drewN | refine Below.setCell ?_ (by have := HB1.out.size; simp <;> omega) _ | refine Below.alloc ?_ (by have := HB1.out.size; simp <;> omega) _)) hb2)
    clear hb2
    go_wp2_with fail
    refine (wakes02 _).mono ?_
    rintro e w3 ⟨rfl, hb3⟩
    have z3 := hb3.size
    try simp at z3
    have HB3 := Lib.hid (show Below w.heap.size w w3 from below_call (by repeat (first | exact HB2.out | apply below_drewN | refine Below.setCell ?_ (by have := HB2.out.size; simp <;> omega) _ | refine Below.alloc ?_ (by have := HB2.out.size; simp <;> omega) _)) hb3)
    clear hb3
    go_wp2_with fail
    go_ret
    exact ⟨rfl, (by repeat (first | exact HB3.out | apply below_drewN | refine Below.setCell ?_ (by have := HB3.out.size; simp <;> omega) _ | refine Below.alloc ?_ (by have := HB3.out.size; simp <;> omega) _))⟩
  · have hg : goodB ⟨3, true, a2, k, 0, 0, 0, a1⟩ = false := by
      refine decide_eq_false ?_
      simp only [Good]
      intro h
      have := h.2.2.2.2
      simp at this
      omega
    have E1 := Lib.hid (show ∀ w : World, Calls Try.prog 14 #[.agg #[.int .i64 3, .bool true, .bool a2, .int .i64 k, .int .i64 0, .int .i64 0, .int .i64 0, .int .i64 a1]] w fun e w' => e = .returned (.tuple #[.int .u32 0, .int .i64 20]) ∧ Below w.heap.size w w' from enc_no ⟨3, true, a2, k, 0, 0, 0, a1⟩ hg)
    have b0 : (decide (a1 < -8388608) || decide (8388608 ≤ a1)) = true := by simp; omega
    by_cases c : a1 < -8388608
    · have b1 : decide (a1 < -8388608) = true := decide_eq_true c
      clear hg hi c b0
      go_enter Try.func6, Try.ntmps6
      go_wp2_with fail
      refine (E1.out _).mono ?_
      rintro e w1 ⟨rfl, hb1⟩
      have c1_0 := (box_on (b := w.heap.size) hb1 (by first | (simp; done) | (simp <;> omega) | omega)).1
      have z1 := hb1.size
      try simp at z1
      have l1_0 : w.heap.size < w1.heap.size := by omega
      clear z1
      have HB1 := Lib.hid (show Below w.heap.size w w1 from below_call (by repeat (first | exact Below.refl _ _ | apply below_drewN | refine Below.setCell ?_ (by simp <;> omega) _ | refine Below.alloc ?_ (by simp <;> omega) _)) hb1)
      clear hb1
      go_wp2_with fail
      refine (wakes02 _).mono ?_
      rintro e w2 ⟨rfl, hb2⟩
      have z2 := hb2.size
      try simp at z2
      have HB2 := Lib.hid (show Below w.heap.size w w2 from below_call (by repeat (first | exact HB1.out | apply below_drewN | refine Below.setCell ?_ (by have := HB1.out.size; simp <;> omega) _ | refine Below.alloc ?_ (by have := HB1.out.size; simp <;> omega) _)) hb2)
      clear hb2
      go_wp2_with fail
      go_ret
      exact ⟨rfl, (by repeat (first | exact HB2.out | apply below_drewN | refine Below.setCell ?_ (by have := HB2.out.size; simp <;> omega) _ | refine Below.alloc ?_ (by have := HB2.out.size; simp <;> omega) _))⟩
    · have b1 : decide (a1 < -8388608) = false := decide_eq_false c
      have b2 : decide (8388608 ≤ a1) = true := decide_eq_true (by omega)
      clear hg hi c b0
      go_enter Try.func6, Try.ntmps6
      go_wp2_with fail
      refine (E1.out _).mono ?_
      rintro e w1 ⟨rfl, hb1⟩
      have c1_0 := (box_on (b := w.heap.size) hb1 (by first | (simp; done) | (simp <;> omega) | omega)).1
      have z1 := hb1.size
      try simp at z1
      have l1_0 : w.heap.size < w1.heap.size := by omega
      clear z1
      have HB1 := Lib.hid (show Below w.heap.size w w1 from below_call (by repeat (first | exact Below.refl _ _ | apply below_drewN | refine Below.setCell ?_ (by simp <;> omega) _ | refine Below.alloc ?_ (by simp <;> omega) _)) hb1)
      clear hb1
      go_wp2_with fail
      refine (wakes02 _).mono ?_
      rintro e w2 ⟨rfl, hb2⟩
      have z2 := hb2.size
      try simp at z2
      have HB2 := Lib.hid (show Below w.heap.size w w2 from below_call (by repeat (first | exact HB1.out | apply below_drewN | refine Below.setCell ?_ (by have := HB1.out.size; simp <;> omega) _ | refine Below.alloc ?_ (by have := HB1.out.size; simp <;> omega) _)) hb2)
      clear hb2
      go_wp2_with fail
      go_ret
      exact ⟨rfl, (by repeat (first | exact HB2.out | apply below_drewN | refine Below.setCell ?_ (by have := HB2.out.size; simp <;> omega) _ | refine Below.alloc ?_ (by have := HB2.out.size; simp <;> omega) _))⟩
end Go.Proofs.Ytbhdejoljappfaa
namespace Go.Proofs.Ytbhdejoljappfaa.riscJumps
open Go.ChangeShapes Go.WideShapes Go.ChangeAt Go.RowKit Go.Joins
open Go.ChangeMaps (open_string shut_string)
set_option linter.unusedVariables false
theorem own : ownKnob Try.prog.godebug = none := by kernel_rfl
set_option maxRecDepth 100000 in
theorem lifted (os : Os) (started : os.Started) (H : Type) (enc : TypeId × Value → H) :
    ReturnsInHanded {} Try.checked os 6 .any (Rows.riscJumpsSpec.pre6 enc Try.prog Try.f6 Rows.riscJumpsRow.domain false) (Rows.riscJumpsSpec.post enc Try.prog Try.f6 false true false false) := by
  refine returnsInHanded_of_change_sized (C := Try.checked) own started (by kernel_rfl) Try.func6
    (ChangeSpec.witness6 (enc := enc) (C := Try.checked) false ⟨#[], #[.int .i64 0, .int .i64 0, .bool false], []⟩ 8 (by kernel_rfl) (by kernel_rfl) (by kernel_rfl) (by kernel_rfl)) ?_
  intro W base args ds gs before hval0 hW hcnd hsz0 _
  have hval : ∀ (j : Nat) t v, Try.f6.params[j]? = some t → args[j]? = some v → Value.okWide Try.prog W .any base t v := hval0
  have hW' := hW
  obtain ⟨p, q, hA0, hV, rfl, hfz, hnd⟩ := hW
  have hA : DataW.TrodAll enc Try.prog W 0 (fun _ => true) true Try.f6.params.toList args.toList ds p := hA0
  rw [Try.params6] at hA hval
  obtain ⟨v0, vs0, d0, ds0, p0, q0, hargs, rfl, rfl, h0, r0⟩ := trodAll_cons hA
  obtain ⟨v1, vs1, d1, ds1, p1, q1, rfl, rfl, rfl, h1, r1⟩ := trodAll_cons r0
  obtain ⟨v2, vs2, d2, ds2, p2, q2, rfl, rfl, rfl, h2, r2⟩ := trodAll_cons r1
  obtain ⟨rfl, rfl, rfl⟩ := trodAll_nil r2
  obtain rfl : args = #[v0, v1, v2] := by cases args; simp_all
  obtain ⟨rfl, rfl⟩ := trodVars_none hV
  obtain ⟨a0, rfl, rfl, rfl, w0⟩ := open_int Try.underlying3 (hval 0 3 v0 rfl rfl) h0
  obtain ⟨a1, rfl, rfl, rfl, w1⟩ := open_int Try.underlying3 (hval 1 3 v1 rfl rfl) h1
  obtain ⟨a2, rfl, rfl, rfl⟩ := open_bool Try.underlying4 (hval 2 4 v2 rfl rfl) h2
  refine (riscJumps_calls a0 a1 a2 W w0 w1).mono fun e W' ⟨he, hd⟩ => ?_
  subst he
  exact ⟨_, rfl, _, _, _, [], _, [], hW', trodAll_mk1 (shut_bool Try.underlying4 _), (trodAll_cons_mk (shut_int Try.underlying3 w0) (trodAll_cons_mk (shut_int Try.underlying3 w1) (trodAll_cons_mk (shut_bool Try.underlying4 a2) trodAll_mk0))), rfl, hd.frame _, fun h => by cases h⟩
theorem over : Rows.riscJumpsRow.holds Try.pinned (OpenSpec.ofChange Rows.riscJumpsSpec) :=
  OpenClaim.holds_of_wide 6 Try.f6 rfl rfl rfl rfl rfl rfl rfl ⟨rfl, rfl, rfl, rfl, rfl⟩ rfl rfl rfl rfl rfl (by kernel_rfl) Try.func6 (by kernel_rfl)
    (of_decide_eq_true (by kernel_rfl)) (by unfold Func.isWrapper; first | (rw [if_pos (by decide +kernel)]; kernel_rfl) | (rw [if_neg (by decide +kernel)]; exact ⟨rfl, rfl⟩))
    (fun os started H enc _ => lifted os started H enc)
theorem proved : Rows.RiscJumpsSaid := over
#print axioms proved
end Go.Proofs.Ytbhdejoljappfaa.riscJumps
namespace Go.Proofs.Ytbhdejoljappfaa
theorem riscJumps_holds : Rows.RiscJumpsSaid := riscJumps.proved
end Go.Proofs.Ytbhdejoljappfaa
