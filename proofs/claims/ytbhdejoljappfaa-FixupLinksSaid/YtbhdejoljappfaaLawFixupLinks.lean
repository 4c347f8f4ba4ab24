/- FixupLinks: the word of every link, and what every word says, as the reference has them. For every input, without a condition. -/
import Derived.Test.YtbhdejoljappfaaRows
import Derived.Test.YtbhdejoljappfaaArr
import Derived.Test.YtbhdejoljappfaaWakes22
import Derived.WalkKit
import Derived.WalkSmall
import Derived.ProofKit
import Derived.OpenShut
import Derived.ShutString
import Derived.ChangeOld
import Derived.Below
import Derived.SizedLaws
import Derived.Lib.SmallJoins
import Derived.Outline
namespace Go.Proofs.Ytbhdejoljappfaa
open Go.RowKit

theorem links_way (a b c d lz le : Int) (x : Nat) (f : Bool) (r s m q : Nat) (w : World)
    (LK : ∀ wx, Calls Try.prog 22 #[.int .i64 a, .int .i64 b, .int .i64 c, .int .i64 d] wx fun e w' => e = .returned (.tuple #[.int .u32 lz, .int .i64 le]) ∧ Below wx.heap.size wx w')
    (RL : ∀ wx, Calls Try.prog 23 #[.agg #[.int .i64 a, .int .i64 b, .int .i64 c, .int .i64 d]] wx fun e w' => e = .returned (.tuple #[.int .u32 lz, .int .i64 le]) ∧ Below wx.heap.size wx w')
    (PT : ∀ wx, Calls Try.prog 24 #[.int .u32 x] wx fun e w' => e = .returned (.tuple #[.int .i64 (r : Nat), .int .i64 (s : Nat), .int .i64 (m : Nat), .int .i64 (q : Nat), .bool f]) ∧ ∃ k, w' = wx.drewN k)
    (RP : ∀ wx, Calls Try.prog 25 #[.int .u32 x] wx fun e w' => e = .returned (.tuple #[.agg #[.int .i64 (r : Nat), .int .i64 (s : Nat), .int .i64 (m : Nat), .int .i64 (q : Nat)], .bool f]) ∧ Below wx.heap.size wx w') :
    Calls Try.prog 9 #[.agg #[.int .i64 a, .int .i64 b, .int .i64 c, .int .i64 d], .int .u32 x] w fun e w' => e = .returned (.bool true) ∧ Below w.heap.size w w' := by
  have HLK := Lib.hid LK
  have HRL := Lib.hid RL
  have HPT := Lib.hid PT
  have HRP := Lib.hid RP
  clear LK RL PT RP
  go_enter Try.func9, Try.ntmps9
  go_wp2_with fail
  refine (HLK.out _).mono ?_
  rintro e w1 ⟨rfl, hB1⟩
  have HB1 := Lib.hid (((Below.refl w.heap.size w).alloc (Nat.le_refl _) _).trans (hB1.mono (by simp)))
  have q0 : w1.cell? ⟨w.heap.size, 0, none⟩ = some (.int .i64 a) := (hB1.cell (p := ⟨w.heap.size, 0, none⟩) (by simp)).trans (box_lit w _ _ 0)
  have q1 : w1.cell? ⟨w.heap.size, 1, none⟩ = some (.int .i64 b) := (hB1.cell (p := ⟨w.heap.size, 1, none⟩) (by simp)).trans (box_lit w _ _ 1)
  have q2 : w1.cell? ⟨w.heap.size, 2, none⟩ = some (.int .i64 c) := (hB1.cell (p := ⟨w.heap.size, 2, none⟩) (by simp)).trans (box_lit w _ _ 2)
  have q3 : w1.cell? ⟨w.heap.size, 3, none⟩ = some (.int .i64 d) := (hB1.cell (p := ⟨w.heap.size, 3, none⟩) (by simp)).trans (box_lit w _ _ 3)
  clear hB1
  go_wp2_with fail
  refine (HRL.out _).mono ?_
  rintro e w2 ⟨rfl, hB2⟩
  have HB2 := Lib.hid (HB1.out.trans (hB2.mono HB1.out.size))
  clear hB2 q0 q1 q2 q3
  go_wp2_with fail
  refine (HPT.out _).mono ?_
  rintro e w3 ⟨rfl, k3, hk3⟩
  have HB3 := Lib.hid (show Below w.heap.size w w3 from by rw [hk3]; exact below_drewN HB2.out k3)
  clear hk3
  go_wp2_with fail
  refine (HRP.out _).mono ?_
  rintro e w4 ⟨rfl, hB4⟩
  have HB4 := Lib.hid (HB3.out.trans (hB4.mono HB3.out.size))
  clear hB4
  go_wp2_with (go_at_call 26; (with_reducible refine (wakes22 _).mono ?_); rintro e w9 ⟨rfl, hB9⟩; have HB9 := Lib.hid hB9; clear hB9)
  go_ret
  exact ⟨rfl, (HB4.out.alloc HB4.out.size _).trans (HB9.out.mono (HB4.out.alloc HB4.out.size _).size)⟩
theorem fixupLinks_calls (a0_0 a0_1 a0_2 a0_3 a1 : Int) (w : World) (_w0_0 : (Lit.int .i64 a0_0).wf = true) (_w0_1 : (Lit.int .i64 a0_1).wf = true) (_w0_2 : (Lit.int .i64 a0_2).wf = true) (_w0_3 : (Lit.int .i64 a0_3).wf = true) (w1 : (Lit.int .u32 a1).wf = true) :
    Calls Try.prog 9 #[.agg #[.int .i64 a0_0, .int .i64 a0_1, .int .i64 a0_2, .int .i64 a0_3], .int .u32 a1] w fun e w' => e = .returned (.bool true) ∧ Below w.heap.size w w' := by
  obtain ⟨h0, h1⟩ := bounds_u32 w1
  obtain ⟨x, rfl⟩ := Int.eq_ofNat_of_zero_le h0
  have hx : x < 4294967296 := by omega
  cases hp : pOk x with
  | true =>
    have hz : x / 16384 % 64 = 0 := by simpa [pOk] using hp
    exact links_way a0_0 a0_1 a0_2 a0_3 _ _ x true (pReg x) (pSort x) (pMod x) (pBack x) w (fun wx => link_calls _ _ _ _ wx) (fun wx => rlink_calls _ _ _ _ wx) (fun wx => parts_yes x hx hz wx) (fun wx => rparts_yes x hx hz wx)
  | false => exact links_way a0_0 a0_1 a0_2 a0_3 _ _ x false 0 0 0 0 w (fun wx => link_calls _ _ _ _ wx) (fun wx => rlink_calls _ _ _ _ wx) (fun wx => parts_not x hx hp wx) (fun wx => rparts_not x hx hp wx)
end Go.Proofs.Ytbhdejoljappfaa
namespace Go.Proofs.Ytbhdejoljappfaa.fixupLinks
open Go.ChangeShapes Go.WideShapes Go.ChangeAt Go.RowKit Go.Joins
open Go.ChangeMaps (open_string shut_string)
set_option linter.unusedVariables false
theorem own : ownKnob Try.prog.godebug = none := by kernel_rfl
set_option maxRecDepth 100000 in
theorem lifted (os : Os) (started : os.Started) (H : Type) (enc : TypeId × Value → H) :
    ReturnsInHanded {} Try.checked os 9 .any (Rows.fixupLinksSpec.pre6 enc Try.prog Try.f9 Rows.fixupLinksRow.domain false) (Rows.fixupLinksSpec.post enc Try.prog Try.f9 false true false false) := by
  refine returnsInHanded_of_change_sized (C := Try.checked) own started (by kernel_rfl) Try.func9
    (ChangeSpec.witness6 (enc := enc) (C := Try.checked) false ⟨#[], #[.agg #[.int .i64 0, .int .i64 0, .int .i64 0, .int .i64 0], .int .u32 0], []⟩ 8 (by kernel_rfl) (by kernel_rfl) (by kernel_rfl) (by kernel_rfl)) ?_
  intro W base args ds gs before hval0 hW hcnd hsz0 _
  have hval : ∀ (j : Nat) t v, Try.f9.params[j]? = some t → args[j]? = some v → Value.okWide Try.prog W .any base t v := hval0
  have hW' := hW
  obtain ⟨p, q, hA0, hV, rfl, hfz, hnd⟩ := hW
  have hA : DataW.TrodAll enc Try.prog W 0 (fun _ => true) true Try.f9.params.toList args.toList ds p := hA0
  rw [Try.params9] at hA hval
  obtain ⟨v0, vs0, d0, ds0, p0, q0, hargs, rfl, rfl, h0, r0⟩ := trodAll_cons hA
  obtain ⟨v1, vs1, d1, ds1, p1, q1, rfl, rfl, rfl, h1, r1⟩ := trodAll_cons r0
  obtain ⟨rfl, rfl, rfl⟩ := trodAll_nil r1
  obtain rfl : args = #[v0, v1] := by cases args; simp_all
  obtain ⟨rfl, rfl⟩ := trodVars_none hV
  obtain ⟨a0_0, a0_1, a0_2, a0_3, rfl, rfl, rfl, w0_0, w0_1, w0_2, w0_3⟩ := open_arr4 Try.underlying42 Try.underlying3 (by kernel_rfl) (by kernel_rfl) (hval 0 42 v0 rfl rfl) h0
  obtain ⟨a1, rfl, rfl, rfl, w1⟩ := open_int Try.underlying24 (hval 1 24 v1 rfl rfl) h1
  try simp only [List.append_nil] at hW'
  refine (fixupLinks_calls a0_0 a0_1 a0_2 a0_3 a1 W w0_0 w0_1 w0_2 w0_3 w1).mono fun e W' ⟨he, hd⟩ => ?_
  subst he
  exact ⟨_, rfl, _, _, _, [], _, [], hW', trodAll_mk1 (shut_bool Try.underlying4 _), (trodAll_cons_mk (shut_arr4 Try.underlying42 Try.underlying3 (by kernel_rfl) (by kernel_rfl) w0_0 w0_1 w0_2 w0_3) (trodAll_cons_mk (shut_int Try.underlying24 w1) trodAll_mk0)), rfl, hd.frame _, fun h => by cases h⟩
theorem over : Rows.fixupLinksRow.holds Try.pinned (OpenSpec.ofChange Rows.fixupLinksSpec) :=
  OpenClaim.holds_of_wide 9 Try.f9 rfl rfl rfl rfl rfl rfl rfl ⟨rfl, rfl, rfl, rfl, rfl⟩ rfl rfl rfl rfl rfl (by kernel_rfl) Try.func9 (by kernel_rfl)
    (of_decide_eq_true (by kernel_rfl)) (by unfold Func.isWrapper; first | (rw [if_pos (by decide +kernel)]; kernel_rfl) | (rw [if_neg (by decide +kernel)]; exact ⟨rfl, rfl⟩))
    (fun os started H enc _ => lifted os started H enc)
theorem proved : Rows.FixupLinksSaid := over
#print axioms proved
end Go.Proofs.Ytbhdejoljappfaa.fixupLinks
namespace Go.Proofs.Ytbhdejoljappfaa
theorem fixupLinks_holds : Rows.FixupLinksSaid := fixupLinks.proved
end Go.Proofs.Ytbhdejoljappfaa
