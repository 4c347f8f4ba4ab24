/- FixupBack: what a link was made of is what its word says. For every input, without a condition. -/
import Derived.Test.YtbhdejoljappfaaRows
import Derived.Test.YtbhdejoljappfaaArr
import Derived.Test.YtbhdejoljappfaaWakes22
import Derived.WalkKit
import Derived.WalkSmall
import Derived.ProofKit
import Derived.OpenShut
import Derived.ShutString
import Derived.ChangeOld
import Derived.Below
import Derived.SizedLaws
import Derived.Lib.SmallJoins
import Derived.Outline
namespace Go.Proofs.Ytbhdejoljappfaa
open Go.RowKit

theorem link_parts (a b c d : Nat) (ha : a < 16) (hb : b < 4) (hc : c < 64) (hd : d < 16384) (x : Nat) (hx : x = a * 268435456 + b * 67108864 + c * 1048576 + d) :
    x < 4294967296 ∧ x / 16384 % 64 = 0 ∧ pReg x = a ∧ pSort x = b ∧ pMod x = c ∧ pBack x = d := by
  unfold pReg pSort pMod pBack
  omega
theorem back_no (a b c d : Int) (w : World) (h : linkB a b c d = false) :
    Calls Try.prog 12 #[.agg #[.int .i64 a, .int .i64 b, .int .i64 c, .int .i64 d]] w fun e w' => e = .returned (.bool true) ∧ Below w.heap.size w w' := by
  have HLK := Lib.hid (show ∀ wx, Calls Try.prog 22 #[.int .i64 a, .int .i64 b, .int .i64 c, .int .i64 d] wx fun e w' => e = .returned (.tuple #[.int .u32 0, .int .i64 220]) ∧ Below wx.heap.size wx w' from fun wx => by
    have := link_calls a b c d wx
    unfold LinkV at this
    rw [h] at this
    exact this)
  have HPT := Lib.hid (fun wx => parts_yes 0 (by decide) (by decide) wx)
  clear h
  go_enter Try.func12, Try.ntmps12
  go_wp2_with fail
  refine (HLK.out _).mono ?_
  rintro e w1 ⟨rfl, hB1⟩
  have HB1 := Lib.hid (((Below.refl w.heap.size w).alloc (Nat.le_refl _) _).trans (hB1.mono (by simp)))
  clear hB1
  go_wp2_with fail
  refine (HPT.out _).mono ?_
  rintro e w3 ⟨rfl, k3, hk3⟩
  have HB3 := Lib.hid (show Below w.heap.size w w3 from by rw [hk3]; exact below_drewN HB1.out k3)
  clear hk3
  go_wp2_with (go_at_call 26; (with_reducible refine (wakes22 _).mono ?_); rintro e w9 ⟨rfl, hB9⟩; have HB9 := Lib.hid hB9; clear hB9)
  go_ret
  exact ⟨rfl, HB3.out.trans (HB9.out.mono HB3.out.size)⟩
theorem back_yes (a b c d x : Nat) (w : World)
    (LK : ∀ wx, Calls Try.prog 22 #[.int .i64 a, .int .i64 b, .int .i64 c, .int .i64 d] wx fun e w' => e = .returned (.tuple #[.int .u32 (x : Nat), .int .i64 0]) ∧ Below wx.heap.size wx w')
    (PT : ∀ wx, Calls Try.prog 24 #[.int .u32 x] wx fun e w' => e = .returned (.tuple #[.int .i64 a, .int .i64 b, .int .i64 c, .int .i64 d, .bool true]) ∧ ∃ k, w' = wx.drewN k) :
    Calls Try.prog 12 #[.agg #[.int .i64 a, .int .i64 b, .int .i64 c, .int .i64 d]] w fun e w' => e = .returned (.bool true) ∧ Below w.heap.size w w' := by
  have HLK := Lib.hid LK
  have HPT := Lib.hid PT
  clear LK PT
  go_enter Try.func12, Try.ntmps12
  go_wp2_with fail
  refine (HLK.out _).mono ?_
  rintro e w1 ⟨rfl, hB1⟩
  have HB1 := Lib.hid (((Below.refl w.heap.size w).alloc (Nat.le_refl _) _).trans (hB1.mono (by simp)))
  have q0 : ∀ k, (w1.drewN k).cell? ⟨w.heap.size, 0, none⟩ = some (.int .i64 a) := fun _ => (hB1.cell (p := ⟨w.heap.size, 0, none⟩) (by simp)).trans (box_lit w _ _ 0)
  have q1 : ∀ k, (w1.drewN k).cell? ⟨w.heap.size, 1, none⟩ = some (.int .i64 b) := fun _ => (hB1.cell (p := ⟨w.heap.size, 1, none⟩) (by simp)).trans (box_lit w _ _ 1)
  have q2 : ∀ k, (w1.drewN k).cell? ⟨w.heap.size, 2, none⟩ = some (.int .i64 c) := fun _ => (hB1.cell (p := ⟨w.heap.size, 2, none⟩) (by simp)).trans (box_lit w _ _ 2)
  have q3 : ∀ k, (w1.drewN k).cell? ⟨w.heap.size, 3, none⟩ = some (.int .i64 d) := fun _ => (hB1.cell (p := ⟨w.heap.size, 3, none⟩) (by simp)).trans (box_lit w _ _ 3)
  have Q := Lib.hid (And.intro q0 (And.intro q1 (And.intro q2 q3)))
  clear hB1 q0 q1 q2 q3
  go_wp2_with fail
  refine (HPT.out _).mono ?_
  rintro e w3 ⟨rfl, k3, hk3⟩
  have HB3 := Lib.hid (show Below w.heap.size w w3 from by rw [hk3]; exact below_drewN HB1.out k3)
  have q0 : w3.cell? ⟨w.heap.size, 0, none⟩ = some (.int .i64 a) := by rw [hk3]; exact Q.out.1 k3
  have q1 : w3.cell? ⟨w.heap.size, 1, none⟩ = some (.int .i64 b) := by rw [hk3]; exact Q.out.2.1 k3
  have q2 : w3.cell? ⟨w.heap.size, 2, none⟩ = some (.int .i64 c) := by rw [hk3]; exact Q.out.2.2.1 k3
  have q3 : w3.cell? ⟨w.heap.size, 3, none⟩ = some (.int .i64 d) := by rw [hk3]; exact Q.out.2.2.2 k3
  clear hk3
  go_wp2_with (go_at_call 26; (with_reducible refine (wakes22 _).mono ?_); rintro e w9 ⟨rfl, hB9⟩; have HB9 := Lib.hid hB9; clear hB9)
  go_ret
  exact ⟨rfl, HB3.out.trans (HB9.out.mono HB3.out.size)⟩
theorem fixupBack_calls (a0_0 a0_1 a0_2 a0_3 : Int) (w : World) (_w0_0 : (Lit.int .i64 a0_0).wf = true) (_w0_1 : (Lit.int .i64 a0_1).wf = true) (_w0_2 : (Lit.int .i64 a0_2).wf = true) (_w0_3 : (Lit.int .i64 a0_3).wf = true) :
    Calls Try.prog 12 #[.agg #[.int .i64 a0_0, .int .i64 a0_1, .int .i64 a0_2, .int .i64 a0_3]] w fun e w' => e = .returned (.bool true) ∧ Below w.heap.size w w' := by
  cases h : linkB a0_0 a0_1 a0_2 a0_3 with
  | false => exact back_no _ _ _ _ w h
  | true =>
    obtain ⟨⟨a0, a1⟩, ⟨b0, b1⟩, ⟨c0, c1⟩, ⟨d0, d1⟩⟩ := of_decide_eq_true h
    obtain ⟨a, rfl⟩ := Int.eq_ofNat_of_zero_le a0
    obtain ⟨b, rfl⟩ := Int.eq_ofNat_of_zero_le b0
    obtain ⟨c, rfl⟩ := Int.eq_ofNat_of_zero_le c0
    obtain ⟨d, rfl⟩ := Int.eq_ofNat_of_zero_le d0
    obtain ⟨x, hx⟩ : ∃ x, x = a * 268435456 + b * 67108864 + c * 1048576 + d := ⟨_, rfl⟩
    obtain ⟨h1, h2, h3, h4, h5, h6⟩ := link_parts a b c d (by omega) (by omega) (by omega) (by omega) x hx
    refine back_yes a b c d x w (fun wx => ?_) (fun wx => ?_)
    · have := link_calls a b c d wx
      unfold LinkV at this
      rw [h, if_pos rfl, if_pos rfl, show linkZ a b c d = (x : Int) by rw [hx]; unfold linkZ; omega] at this
      exact this
    · have := parts_yes x h1 h2 wx
      rw [h3, h4, h5, h6] at this
      exact this
end Go.Proofs.Ytbhdejoljappfaa
namespace Go.Proofs.Ytbhdejoljappfaa.fixupBack
open Go.ChangeShapes Go.WideShapes Go.ChangeAt Go.RowKit Go.Joins
open Go.ChangeMaps (open_string shut_string)
set_option linter.unusedVariables false
theorem own : ownKnob Try.prog.godebug = none := by kernel_rfl
set_option maxRecDepth 100000 in
theorem lifted (os : Os) (started : os.Started) (H : Type) (enc : TypeId × Value → H) :
    ReturnsInHanded {} Try.checked os 12 .any (Rows.fixupBackSpec.pre6 enc Try.prog Try.f12 Rows.fixupBackRow.domain false) (Rows.fixupBackSpec.post enc Try.prog Try.f12 false true false false) := by
  refine returnsInHanded_of_change_sized (C := Try.checked) own started (by kernel_rfl) Try.func12
    (ChangeSpec.witness6 (enc := enc) (C := Try.checked) false ⟨#[], #[.agg #[.int .i64 0, .int .i64 0, .int .i64 0, .int .i64 0]], []⟩ 8 (by kernel_rfl) (by kernel_rfl) (by kernel_rfl) (by kernel_rfl)) ?_
  intro W base args ds gs before hval0 hW hcnd hsz0 _
  have hval : ∀ (j : Nat) t v, Try.f12.params[j]? = some t → args[j]? = some v → Value.okWide Try.prog W .any base t v := hval0
  have hW' := hW
  obtain ⟨p, q, hA0, hV, rfl, hfz, hnd⟩ := hW
  have hA : DataW.TrodAll enc Try.prog W 0 (fun _ => true) true Try.f12.params.toList args.toList ds p := hA0
  rw [Try.params12] at hA hval
  obtain ⟨v0, vs0, d0, ds0, p0, q0, hargs, rfl, rfl, h0, r0⟩ := trodAll_cons hA
  obtain ⟨rfl, rfl, rfl⟩ := trodAll_nil r0
  obtain rfl : args = #[v0] := by cases args; simp_all
  obtain ⟨rfl, rfl⟩ := trodVars_none hV
  obtain ⟨a0_0, a0_1, a0_2, a0_3, rfl, rfl, rfl, w0_0, w0_1, w0_2, w0_3⟩ := open_arr4 Try.underlying42 Try.underlying3 (by kernel_rfl) (by kernel_rfl) (hval 0 42 v0 rfl rfl) h0
  try simp only [List.append_nil] at hW'
  refine (fixupBack_calls a0_0 a0_1 a0_2 a0_3 W w0_0 w0_1 w0_2 w0_3).mono fun e W' ⟨he, hd⟩ => ?_
  subst he
  exact ⟨_, rfl, _, _, _, [], _, [], hW', trodAll_mk1 (shut_bool Try.underlying4 _), (trodAll_cons_mk (shut_arr4 Try.underlying42 Try.underlying3 (by kernel_rfl) (by kernel_rfl) w0_0 w0_1 w0_2 w0_3) trodAll_mk0), rfl, hd.frame _, fun h => by cases h⟩
theorem over : Rows.fixupBackRow.holds Try.pinned (OpenSpec.ofChange Rows.fixupBackSpec) :=
  OpenClaim.holds_of_wide 12 Try.f12 rfl rfl rfl rfl rfl rfl rfl ⟨rfl, rfl, rfl, rfl, rfl⟩ rfl rfl rfl rfl rfl (by kernel_rfl) Try.func12 (by kernel_rfl)
    (of_decide_eq_true (by kernel_rfl)) (by unfold Func.isWrapper; first | (rw [if_pos (by decide +kernel)]; kernel_rfl) | (rw [if_neg (by decide +kernel)]; exact ⟨rfl, rfl⟩))
    (fun os started H enc _ => lifted os started H enc)
theorem proved : Rows.FixupBackSaid := over
#print axioms proved
end Go.Proofs.Ytbhdejoljappfaa.fixupBack
namespace Go.Proofs.Ytbhdejoljappfaa
theorem fixupBack_holds : Rows.FixupBackSaid := fixupBack.proved
end Go.Proofs.Ytbhdejoljappfaa
