/- RiscEncodes: which values are instructions, and their words, are the document's. For every input, without a condition. -/
import Derived.Test.YtbhdejoljappfaaRows
import Derived.Test.YtbhdejoljappfaaRiscMath
import Derived.Test.YtbhdejoljappfaaWakes02
import Derived.Test.YtbhdejoljappfaaAgg
import Derived.Deep.RegionWith
import Derived.WalkKit
import Derived.WalkSmall
import Derived.ProofKit
import Derived.OpenShut
import Derived.ShutString
import Derived.ChangeOld
import Derived.Below
import Derived.SizedLaws
import Derived.Lib.SmallJoins
import Derived.Outline
namespace Go.Proofs.Ytbhdejoljappfaa
open Go.RowKit
theorem below_draws {w w' : World} (h : ∃ k, w' = w.drewN k) : Below w.heap.size w w' := by
  obtain ⟨k, rfl⟩ := h
  exact below_drewN (Below.refl _ _) k
theorem riscEncodes_calls (x : Ins) (w : World) :
    Calls Try.prog 3 #[x.val] w fun e w' => e = .returned (.bool true) ∧ Below w.heap.size w w' := by
  obtain ⟨form, u, v, a, b, c, op, im⟩ := x
  unfold Ins.val
  cases hg : goodB ⟨form, u, v, a, b, c, op, im⟩
  · have E1 := Lib.hid (show ∀ w : World, Calls Try.prog 14 #[.agg #[.int .i64 form, .bool u, .bool v, .int .i64 a, .int .i64 b, .int .i64 c, .int .i64 op, .int .i64 im]] w fun e w' => e = .returned (.tuple #[.int .u32 (0), .int .i64 20]) ∧ Below w.heap.size w w' from fun w => enc_no ⟨form, u, v, a, b, c, op, im⟩ hg w)
    have E2 := Lib.hid (show ∀ w : World, Calls Try.prog 15 #[.agg #[.int .i64 form, .bool u, .bool v, .int .i64 a, .int .i64 b, .int .i64 c, .int .i64 op, .int .i64 im]] w fun e w' => e = .returned (.tuple #[.int .u32 (0), .int .i64 20]) ∧ Below w.heap.size w w' from fun w => renc_no ⟨form, u, v, a, b, c, op, im⟩ hg w)
    have G1 := Lib.hid (show ∀ w : World, Calls Try.prog 16 #[.agg #[.int .i64 form, .bool u, .bool v, .int .i64 a, .int .i64 b, .int .i64 c, .int .i64 op, .int .i64 im]] w fun e w' => e = .returned (.bool false) ∧ Below w.heap.size w w' from fun w => by have h := good_calls ⟨form, u, v, a, b, c, op, im⟩ w; rw [hg] at h; exact h)
    have G2 := Lib.hid (show ∀ w : World, Calls Try.prog 17 #[.agg #[.int .i64 form, .bool u, .bool v, .int .i64 a, .int .i64 b, .int .i64 c, .int .i64 op, .int .i64 im]] w fun e w' => e = .returned (.bool false) ∧ Below w.heap.size w w' from fun w => by have h := rgood_calls ⟨form, u, v, a, b, c, op, im⟩ w; rw [hg] at h; exact h)
    clear hg
    go_enter Try.func3, Try.ntmps3
    go_wp2_with fail
    refine (E1.out _).mono ?_
    rintro e w1 ⟨rfl, hb1⟩
    obtain ⟨c1, z1⟩ := box_on (b := w.heap.size) hb1 (by simp)
    have z1 : w.heap.size < w1.heap.size := by simp at z1; omega
    have HB1 := Lib.hid (below_call ((Below.refl _ _).alloc (Nat.le_refl _) _) hb1)
    clear hb1
    go_wp2_with fail
    refine (E2.out _).mono ?_
    rintro e w2 ⟨rfl, hb2⟩
    obtain ⟨c2, z2⟩ := box_on (b := w.heap.size) hb2 z1
    have HB2 := Lib.hid (below_call HB1.out hb2)
    clear hb2
    go_wp2_with fail
    obtain ⟨q0, q1, q2, q3, q4, q5, q6, q7⟩ : w2.cell? ⟨w.heap.size, 0, none⟩ = some (.int .i64 form) ∧ w2.cell? ⟨w.heap.size, 1, none⟩ = some (.bool u) ∧ w2.cell? ⟨w.heap.size, 2, none⟩ = some (.bool v) ∧ w2.cell? ⟨w.heap.size, 3, none⟩ = some (.int .i64 a) ∧ w2.cell? ⟨w.heap.size, 4, none⟩ = some (.int .i64 b) ∧ w2.cell? ⟨w.heap.size, 5, none⟩ = some (.int .i64 c) ∧ w2.cell? ⟨w.heap.size, 6, none⟩ = some (.int .i64 op) ∧ w2.cell? ⟨w.heap.size, 7, none⟩ = some (.int .i64 im) := by refine ⟨?_, ?_, ?_, ?_, ?_, ?_, ?_, ?_⟩ <;> (rw [c2, c1]; simp [go_sem])
    clear c1 c2
    go_region_held3 (fun w' => w'.cell? ⟨w.heap.size, 0, none⟩ = some (.int .i64 form) ∧ w'.cell? ⟨w.heap.size, 1, none⟩ = some (.bool u) ∧ w'.cell? ⟨w.heap.size, 2, none⟩ = some (.bool v) ∧ w'.cell? ⟨w.heap.size, 3, none⟩ = some (.int .i64 a) ∧ w'.cell? ⟨w.heap.size, 4, none⟩ = some (.int .i64 b) ∧ w'.cell? ⟨w.heap.size, 5, none⟩ = some (.int .i64 c) ∧ w'.cell? ⟨w.heap.size, 6, none⟩ = some (.int .i64 op) ∧ w'.cell? ⟨w.heap.size, 7, none⟩ = some (.int .i64 im)) (first | go_keep | (go_split_ands; refine ⟨?_, ?_, ?_, ?_, ?_, ?_, ?_, ?_⟩ <;> (first | (rw [c5]; assumption) | (rw [c4]; assumption) | (rw [c3]; assumption))))
      (first | (go_at_call 16; refine (G1.out _).mono ?_; rintro e w3 ⟨rfl, hb3⟩; (try go_split_ands); have c3 := box_by (b := w.heap.size) hb3 (by assumption)) | (go_at_call 17; refine (G2.out _).mono ?_; rintro e w4 ⟨rfl, hb4⟩; (try go_split_ands); have c4 := box_by (b := w.heap.size) hb4 (by assumption)) | (go_at_call 18; refine (wakes02 _).mono ?_; rintro e w5 ⟨rfl, hb5⟩; (try go_split_ands); have c5 := box_by (b := w.heap.size) hb5 (by assumption)))
    go_wp2_with fail
    go_ret
    exact ⟨rfl, below_call (below_call (below_call (below_drew1 HB2.out) hb3) hb4) hb5⟩
  · have E1 := Lib.hid (show ∀ w : World, Calls Try.prog 14 #[.agg #[.int .i64 form, .bool u, .bool v, .int .i64 a, .int .i64 b, .int .i64 c, .int .i64 op, .int .i64 im]] w fun e w' => e = .returned (.tuple #[.int .u32 (encZ ⟨form, u, v, a, b, c, op, im⟩), .int .i64 0]) ∧ Below w.heap.size w w' from fun w => enc_yes ⟨form, u, v, a, b, c, op, im⟩ hg w)
    have E2 := Lib.hid (show ∀ w : World, Calls Try.prog 15 #[.agg #[.int .i64 form, .bool u, .bool v, .int .i64 a, .int .i64 b, .int .i64 c, .int .i64 op, .int .i64 im]] w fun e w' => e = .returned (.tuple #[.int .u32 (encZ ⟨form, u, v, a, b, c, op, im⟩), .int .i64 0]) ∧ Below w.heap.size w w' from fun w => renc_yes ⟨form, u, v, a, b, c, op, im⟩ hg w)
    have G1 := Lib.hid (show ∀ w : World, Calls Try.prog 16 #[.agg #[.int .i64 form, .bool u, .bool v, .int .i64 a, .int .i64 b, .int .i64 c, .int .i64 op, .int .i64 im]] w fun e w' => e = .returned (.bool true) ∧ Below w.heap.size w w' from fun w => by have h := good_calls ⟨form, u, v, a, b, c, op, im⟩ w; rw [hg] at h; exact h)
    have G2 := Lib.hid (show ∀ w : World, Calls Try.prog 17 #[.agg #[.int .i64 form, .bool u, .bool v, .int .i64 a, .int .i64 b, .int .i64 c, .int .i64 op, .int .i64 im]] w fun e w' => e = .returned (.bool true) ∧ Below w.heap.size w w' from fun w => by have h := rgood_calls ⟨form, u, v, a, b, c, op, im⟩ w; rw [hg] at h; exact h)
    clear hg
    go_enter Try.func3, Try.ntmps3
    go_wp2_with fail
    refine (E1.out _).mono ?_
    rintro e w1 ⟨rfl, hb1⟩
    obtain ⟨c1, z1⟩ := box_on (b := w.heap.size) hb1 (by simp)
    have z1 : w.heap.size < w1.heap.size := by simp at z1; omega
    have HB1 := Lib.hid (below_call ((Below.refl _ _).alloc (Nat.le_refl _) _) hb1)
    clear hb1
    go_wp2_with fail
    refine (E2.out _).mono ?_
    rintro e w2 ⟨rfl, hb2⟩
    obtain ⟨c2, z2⟩ := box_on (b := w.heap.size) hb2 z1
    have HB2 := Lib.hid (below_call HB1.out hb2)
    clear hb2
    go_wp2_with fail
    obtain ⟨q0, q1, q2, q3, q4, q5, q6, q7⟩ : w2.cell? ⟨w.heap.size, 0, none⟩ = some (.int .i64 form) ∧ w2.cell? ⟨w.heap.size, 1, none⟩ = some (.bool u) ∧ w2.cell? ⟨w.heap.size, 2, none⟩ = some (.bool v) ∧ w2.cell? ⟨w.heap.size, 3, none⟩ = some (.int .i64 a) ∧ w2.cell? ⟨w.heap.size, 4, none⟩ = some (.int .i64 b) ∧ w2.cell? ⟨w.heap.size, 5, none⟩ = some (.int .i64 c) ∧ w2.cell? ⟨w.heap.size, 6, none⟩ = some (.int .i64 op) ∧ w2.cell? ⟨w.heap.size, 7, none⟩ = some (.int .i64 im) := by refine ⟨?_, ?_, ?_, ?_, ?_, ?_, ?_, ?_⟩ <;> (rw [c2, c1]; simp [go_sem])
    clear c1 c2
    go_region_held3 (fun w' => w'.cell? ⟨w.heap.size, 0, none⟩ = some (.int .i64 form) ∧ w'.cell? ⟨w.heap.size, 1, none⟩ = some (.bool u) ∧ w'.cell? ⟨w.heap.size, 2, none⟩ = some (.bool v) ∧ w'.cell? ⟨w.heap.size, 3, none⟩ = some (.int .i64 a) ∧ w'.cell? ⟨w.heap.size, 4, none⟩ = some (.int .i64 b) ∧ w'.cell? ⟨w.heap.size, 5, none⟩ = some (.int .i64 c) ∧ w'.cell? ⟨w.heap.size, 6, none⟩ = some (.int .i64 op) ∧ w'.cell? ⟨w.heap.size, 7, none⟩ = some (.int .i64 im)) (first | go_keep | (go_split_ands; refine ⟨?_, ?_, ?_, ?_, ?_, ?_, ?_, ?_⟩ <;> (first | (rw [c5]; assumption) | (rw [c4]; assumption) | (rw [c3]; assumption))))
      (first | (go_at_call 16; refine (G1.out _).mono ?_; rintro e w3 ⟨rfl, hb3⟩; (try go_split_ands); have c3 := box_by (b := w.heap.size) hb3 (by assumption)) | (go_at_call 17; refine (G2.out _).mono ?_; rintro e w4 ⟨rfl, hb4⟩; (try go_split_ands); have c4 := box_by (b := w.heap.size) hb4 (by assumption)) | (go_at_call 18; refine (wakes02 _).mono ?_; rintro e w5 ⟨rfl, hb5⟩; (try go_split_ands); have c5 := box_by (b := w.heap.size) hb5 (by assumption)))
    go_wp2_with fail
    go_ret
    exact ⟨rfl, below_call (below_call (below_call (below_drew1 HB2.out) hb3) hb4) hb5⟩
end Go.Proofs.Ytbhdejoljappfaa
namespace Go.Proofs.Ytbhdejoljappfaa.riscEncodes
open Go.ChangeShapes Go.WideShapes Go.ChangeAt Go.RowKit Go.Joins
open Go.ChangeMaps (open_string shut_string)
set_option linter.unusedVariables false
theorem own : ownKnob Try.prog.godebug = none := by kernel_rfl
set_option maxRecDepth 100000 in
theorem lifted (os : Os) (started : os.Started) (H : Type) (enc : TypeId × Value → H) :
    ReturnsInHanded {} Try.checked os 3 .any (Rows.riscEncodesSpec.pre6 enc Try.prog Try.f3 Rows.riscEncodesRow.domain false) (Rows.riscEncodesSpec.post enc Try.prog Try.f3 false true false false) := by
  refine returnsInHanded_of_change_sized (C := Try.checked) own started (by kernel_rfl) Try.func3
    (ChangeSpec.witness6 (enc := enc) (C := Try.checked) false ⟨#[], #[.agg #[.int .i64 0, .bool false, .bool false, .int .i64 0, .int .i64 0, .int .i64 0, .int .i64 0, .int .i64 0]], []⟩ 8 (by kernel_rfl) (by kernel_rfl) (by kernel_rfl) (by kernel_rfl)) ?_
  intro W base args ds gs before hval0 hW hcnd hsz0 _
  have hval : ∀ (j : Nat) t v, Try.f3.params[j]? = some t → args[j]? = some v → Value.okWide Try.prog W .any base t v := hval0
  have hW' := hW
  obtain ⟨p, q, hA0, hV, rfl, hfz, hnd⟩ := hW
  have hA : DataW.TrodAll enc Try.prog W 0 (fun _ => true) true Try.f3.params.toList args.toList ds p := hA0
  rw [Try.params3] at hA hval
  obtain ⟨v0, vs0, d0, ds0, p0, q0, hargs, rfl, rfl, h0, r0⟩ := trodAll_cons hA
  obtain ⟨rfl, rfl, rfl⟩ := trodAll_nil r0
  obtain rfl : args = #[v0] := by cases args; simp_all
  obtain ⟨rfl, rfl⟩ := trodVars_none hV
  obtain ⟨x0, rfl, rfl, rfl, w0⟩ := open_ins (hval 0 23 v0 rfl rfl) h0
  try simp only [List.append_nil] at hW'
  refine (riscEncodes_calls x0 W ).mono fun e W' ⟨he, hd⟩ => ?_
  subst he
  exact ⟨_, rfl, _, _, _, [], _, [], hW', trodAll_mk1 (shut_bool Try.underlying4 _), (trodAll_cons_mk (shut_ins x0 w0) trodAll_mk0), rfl, hd.frame _, fun h => by cases h⟩
theorem over : Rows.riscEncodesRow.holds Try.pinned (OpenSpec.ofChange Rows.riscEncodesSpec) :=
  OpenClaim.holds_of_wide 3 Try.f3 rfl rfl rfl rfl rfl rfl rfl ⟨rfl, rfl, rfl, rfl, rfl⟩ rfl rfl rfl rfl rfl (by kernel_rfl) Try.func3 (by kernel_rfl)
    (of_decide_eq_true (by kernel_rfl)) (by unfold Func.isWrapper; first | (rw [if_pos (by decide +kernel)]; kernel_rfl) | (rw [if_neg (by decide +kernel)]; exact ⟨rfl, rfl⟩))
    (fun os started H enc _ => lifted os started H enc)
theorem proved : Rows.RiscEncodesSaid := over
#print axioms proved
end Go.Proofs.Ytbhdejoljappfaa.riscEncodes
namespace Go.Proofs.Ytbhdejoljappfaa
theorem riscEncodes_holds : Rows.RiscEncodesSaid := riscEncodes.proved
end Go.Proofs.Ytbhdejoljappfaa
