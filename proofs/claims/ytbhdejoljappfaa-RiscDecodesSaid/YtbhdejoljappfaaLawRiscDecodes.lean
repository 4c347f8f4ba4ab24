/- RiscDecodes: the instruction of every word, or that it is none, is the document's. For every input, without a condition. -/
import Derived.Test.YtbhdejoljappfaaRows
import Derived.Test.YtbhdejoljappfaaRiscMath
import Derived.Test.YtbhdejoljappfaaWakes02
import Derived.Test.YtbhdejoljappfaaAgg
import Derived.Deep.RegionWith
import Derived.WalkKit
import Derived.WalkSmall
import Derived.ProofKit
import Derived.OpenShut
import Derived.ShutString
import Derived.ChangeOld
import Derived.Below
import Derived.SizedLaws
import Derived.Lib.SmallJoins
import Derived.Outline
namespace Go.Proofs.Ytbhdejoljappfaa
open Go.RowKit
theorem below_draws {w w' : World} (h : ∃ k, w' = w.drewN k) : Below w.heap.size w w' := by
  obtain ⟨k, rfl⟩ := h
  exact below_drewN (Below.refl _ _) k
theorem riscDecodes_calls (a0 : Int) (w : World) (w0 : (Lit.int .u32 a0).wf = true) :
    Calls Try.prog 4 #[.int .u32 a0] w fun e w' => e = .returned (.bool true) ∧ Below w.heap.size w w' := by
  obtain ⟨h0, h1⟩ := bounds_u32 w0
  obtain ⟨n, rfl⟩ := Int.eq_ofNat_of_zero_le h0
  have hn : n < 4294967296 := by omega
  have d1 := dec_calls n hn
  have d2 := rdec_calls n hn
  have s := same_self (decI n)
  generalize decI n = I at d1 d2 s
  generalize decE n = E at d1 d2
  obtain ⟨f0, u0, v0, a0, b0, c0, o0, i0⟩ := I
  have D1 := Lib.hid (show ∀ w : World, Calls Try.prog 19 #[.int .u32 n] w fun e w' => e = .returned (.tuple #[.agg #[.int .i64 f0, .bool u0, .bool v0, .int .i64 a0, .int .i64 b0, .int .i64 c0, .int .i64 o0, .int .i64 i0], .int .i64 E]) ∧ Below w.heap.size w w' from d1)
  have D2 := Lib.hid (show ∀ w : World, Calls Try.prog 20 #[.int .u32 n] w fun e w' => e = .returned (.tuple #[.agg #[.int .i64 f0, .bool u0, .bool v0, .int .i64 a0, .int .i64 b0, .int .i64 c0, .int .i64 o0, .int .i64 i0], .int .i64 E]) ∧ Below w.heap.size w w' from d2)
  have S := Lib.hid (show ∀ w : World, Calls Try.prog 21 #[.agg #[.int .i64 f0, .bool u0, .bool v0, .int .i64 a0, .int .i64 b0, .int .i64 c0, .int .i64 o0, .int .i64 i0], .agg #[.int .i64 f0, .bool u0, .bool v0, .int .i64 a0, .int .i64 b0, .int .i64 c0, .int .i64 o0, .int .i64 i0]] w fun e w' => e = .returned (.bool true) ∧ Below w.heap.size w w' from s)
  clear d1 d2 s w0 h0 h1 hn
  go_enter Try.func4, Try.ntmps4
  go_wp2_with fail
  refine (D1.out _).mono ?_
  rintro e w1 ⟨rfl, hb1⟩
  have z1 := hb1.size
  try simp at z1
  have HB1 := Lib.hid (show Below w.heap.size w w1 from below_call (by repeat (first | exact Below.refl _ _ | apply below_drewN | refine Below.setCell ?_ (by simp <;> omega) _ | refine Below.alloc ?_ (by simp <;> omega) _)) hb1)
  clear hb1
  go_wp2_with fail
  refine (D2.out _).mono ?_
  rintro e w2 ⟨rfl, hb2⟩
  have c2_0 := (box_on (b := w1.heap.size) hb2 (by first | (simp; done) | (simp <;> omega) | omega)).1
  have z2 := hb2.size
  try simp at z2
  have l2_0 : w1.heap.size < w2.heap.size := by omega
  clear z2
  have HB2 := Lib.hid (show Below w.heap.size w w2 from below_call (by repeat (first | exact HB1.out | apply below_drewN | refine Below.setCell ?_ (by have := HB1.out.size; simp <;> omega) _ | refine Below.alloc ?_ (by have := HB1.out.size; simp <;> omega) _)) hb2)
  clear hb2
  go_wp2_with fail
  refine (S.out _).mono ?_
  rintro e w3 ⟨rfl, hb3⟩
  have c3_0 := (box_on (b := w1.heap.size) hb3 (by first | (simp; done) | (simp <;> omega) | omega)).1
  have c3_1 := (box_on (b := w2.heap.size) hb3 (by first | (simp; done) | (simp <;> omega) | omega)).1
  have z3 := hb3.size
  try simp at z3
  have l3_0 : w1.heap.size < w3.heap.size := by omega
  have l3_1 : w2.heap.size < w3.heap.size := by omega
  clear z3
  have HB3 := Lib.hid (show Below w.heap.size w w3 from below_call (by repeat (first | exact HB2.out | apply below_drewN | refine Below.setCell ?_ (by have := HB2.out.size; simp <;> omega) _ | refine Below.alloc ?_ (by have := HB2.out.size; simp <;> omega) _)) hb3)
  clear hb3
  go_wp2_with fail
  refine (wakes02 _).mono ?_
  rintro e w4 ⟨rfl, hb4⟩
  have z4 := hb4.size
  try simp at z4
  have HB4 := Lib.hid (show Below w.heap.size w w4 from below_call (by repeat (first | exact HB3.out | apply below_drewN | refine Below.setCell ?_ (by have := HB3.out.size; simp <;> omega) _ | refine Below.alloc ?_ (by have := HB3.out.size; simp <;> omega) _)) hb4)
  clear hb4
  go_wp2_with fail
  go_ret
  exact ⟨rfl, (by repeat (first | exact HB4.out | apply below_drewN | refine Below.setCell ?_ (by have := HB4.out.size; simp <;> omega) _ | refine Below.alloc ?_ (by have := HB4.out.size; simp <;> omega) _))⟩
end Go.Proofs.Ytbhdejoljappfaa
namespace Go.Proofs.Ytbhdejoljappfaa.riscDecodes
open Go.ChangeShapes Go.WideShapes Go.ChangeAt Go.RowKit Go.Joins
open Go.ChangeMaps (open_string shut_string)
set_option linter.unusedVariables false
theorem own : ownKnob Try.prog.godebug = none := by kernel_rfl
set_option maxRecDepth 100000 in
theorem lifted (os : Os) (started : os.Started) (H : Type) (enc : TypeId × Value → H) :
    ReturnsInHanded {} Try.checked os 4 .any (Rows.riscDecodesSpec.pre6 enc Try.prog Try.f4 Rows.riscDecodesRow.domain false) (Rows.riscDecodesSpec.post enc Try.prog Try.f4 false true false false) := by
  refine returnsInHanded_of_change_sized (C := Try.checked) own started (by kernel_rfl) Try.func4
    (ChangeSpec.witness6 (enc := enc) (C := Try.checked) false ⟨#[], #[.int .u32 0], []⟩ 8 (by kernel_rfl) (by kernel_rfl) (by kernel_rfl) (by kernel_rfl)) ?_
  intro W base args ds gs before hval0 hW hcnd hsz0 _
  have hval : ∀ (j : Nat) t v, Try.f4.params[j]? = some t → args[j]? = some v → Value.okWide Try.prog W .any base t v := hval0
  have hW' := hW
  obtain ⟨p, q, hA0, hV, rfl, hfz, hnd⟩ := hW
  have hA : DataW.TrodAll enc Try.prog W 0 (fun _ => true) true Try.f4.params.toList args.toList ds p := hA0
  rw [Try.params4] at hA hval
  obtain ⟨v0, vs0, d0, ds0, p0, q0, hargs, rfl, rfl, h0, r0⟩ := trodAll_cons hA
  obtain ⟨rfl, rfl, rfl⟩ := trodAll_nil r0
  obtain rfl : args = #[v0] := by cases args; simp_all
  obtain ⟨rfl, rfl⟩ := trodVars_none hV
  obtain ⟨a0, rfl, rfl, rfl, w0⟩ := open_int Try.underlying24 (hval 0 24 v0 rfl rfl) h0
  refine (riscDecodes_calls a0 W w0).mono fun e W' ⟨he, hd⟩ => ?_
  subst he
  exact ⟨_, rfl, _, _, _, [], _, [], hW', trodAll_mk1 (shut_bool Try.underlying4 _), (trodAll_cons_mk (shut_int Try.underlying24 w0) trodAll_mk0), rfl, hd.frame _, fun h => by cases h⟩
theorem over : Rows.riscDecodesRow.holds Try.pinned (OpenSpec.ofChange Rows.riscDecodesSpec) :=
  OpenClaim.holds_of_wide 4 Try.f4 rfl rfl rfl rfl rfl rfl rfl ⟨rfl, rfl, rfl, rfl, rfl⟩ rfl rfl rfl rfl rfl (by kernel_rfl) Try.func4 (by kernel_rfl)
    (of_decide_eq_true (by kernel_rfl)) (by unfold Func.isWrapper; first | (rw [if_pos (by decide +kernel)]; kernel_rfl) | (rw [if_neg (by decide +kernel)]; exact ⟨rfl, rfl⟩))
    (fun os started H enc _ => lifted os started H enc)
theorem proved : Rows.RiscDecodesSaid := over
#print axioms proved
end Go.Proofs.Ytbhdejoljappfaa.riscDecodes
namespace Go.Proofs.Ytbhdejoljappfaa
theorem riscDecodes_holds : Rows.RiscDecodesSaid := riscDecodes.proved
end Go.Proofs.Ytbhdejoljappfaa
