/- BitsSigns: the number of every word, and the word of every number, are the document's. For every input, without a condition. -/
import Derived.Test.YtibhfonmpefloaaRows
import Derived.Test.YtibhfonmpefloaaWakes01
import Derived.Test.YtibhfonmpefloaaRefBits
import Derived.WalkKit
import Derived.WalkSmall
import Derived.ProofKit
import Derived.OpenShut
import Derived.ShutString
import Derived.ChangeOld
import Derived.Below
import Derived.SizedLaws
import Derived.Lib.SmallJoins
import Derived.Outline
namespace Go.Proofs.Ytibhfonmpefloaa
open Go.RowKit
theorem below_draws {w w' : World} (h : ∃ k, w' = w.drewN k) : Below w.heap.size w w' := by
  obtain ⟨k, rfl⟩ := h
  exact below_drewN (Below.refl _ _) k
theorem word_back (x : Nat) (hx : x < 4294967296) : wrap32 (x : Int) % 4294967296 = x := by unfold wrap32; omega
theorem bitsSigns_calls (a0 a1 : Int) (w : World) (w0 : (Lit.int .u32 a0).wf = true) (w1 : (Lit.int .i64 a1).wf = true) :
    Calls Try.prog 6 #[.int .u32 a0, .int .i64 a1] w fun e w' => e = .returned (.bool true) ∧ Below w.heap.size w w' := by
  obtain ⟨h0, h1⟩ := bounds_u32 w0
  obtain ⟨h2, h3⟩ := bounds_i64 w1
  obtain ⟨x, rfl⟩ := Int.eq_ofNat_of_zero_le h0
  have B := word_back x (by omega)
  have X := Lib.hid h1
  have Y := Lib.hid h2
  have Z := Lib.hid h3
  clear w0 w1 h0 h1 h2 h3
  go_enter Try.func6, Try.ntmps6
  go_wp2_with (first | (go_at_call 26; refine (signed_calls _ _).mono ?_; rintro e w' ⟨rfl, rfl⟩) | (go_at_call 27; refine (rsigned_calls _ (by have := X.out; omega) _).mono ?_; rintro e w' ⟨rfl, rfl⟩) | (go_at_call 28; refine (word_calls _ _).mono ?_; rintro e w' ⟨rfl, rfl⟩) | (go_at_call 29; refine (rword_calls _ Y.out Z.out _).mono ?_; rintro e w' ⟨rfl, rfl⟩) | (go_at_call 18; refine (wakes_calls _).mono ?_; rintro e w' ⟨rfl, nd, rfl⟩))
  go_ret
  exact ⟨rfl, below_draws ⟨nd, rfl⟩⟩
end Go.Proofs.Ytibhfonmpefloaa
namespace Go.Proofs.Ytibhfonmpefloaa.bitsSigns
open Go.ChangeShapes Go.WideShapes Go.ChangeAt Go.RowKit Go.Joins
open Go.ChangeMaps (open_string shut_string)
set_option linter.unusedVariables false
theorem own : ownKnob Try.prog.godebug = none := by kernel_rfl
set_option maxRecDepth 100000 in
theorem lifted (os : Os) (started : os.Started) (H : Type) (enc : TypeId × Value → H) :
    ReturnsInHanded {} Try.checked os 6 .any (Rows.bitsSignsSpec.pre6 enc Try.prog Try.f6 Rows.bitsSignsRow.domain false) (Rows.bitsSignsSpec.post enc Try.prog Try.f6 false true false false) := by
  refine returnsInHanded_of_change_sized (C := Try.checked) own started (by kernel_rfl) Try.func6
    (ChangeSpec.witness6 (enc := enc) (C := Try.checked) false ⟨#[], #[.int .u32 0, .int .i64 0], []⟩ 8 (by kernel_rfl) (by kernel_rfl) (by kernel_rfl) (by kernel_rfl)) ?_
  intro W base args ds gs before hval0 hW hcnd hsz0 _
  have hval : ∀ (j : Nat) t v, Try.f6.params[j]? = some t → args[j]? = some v → Value.okWide Try.prog W .any base t v := hval0
  have hW' := hW
  obtain ⟨p, q, hA0, hV, rfl, hfz, hnd⟩ := hW
  have hA : DataW.TrodAll enc Try.prog W 0 (fun _ => true) true Try.f6.params.toList args.toList ds p := hA0
  rw [Try.params6] at hA hval
  obtain ⟨v0, vs0, d0, ds0, p0, q0, hargs, rfl, rfl, h0, r0⟩ := trodAll_cons hA
  obtain ⟨v1, vs1, d1, ds1, p1, q1, rfl, rfl, rfl, h1, r1⟩ := trodAll_cons r0
  obtain ⟨rfl, rfl, rfl⟩ := trodAll_nil r1
  obtain rfl : args = #[v0, v1] := by cases args; simp_all
  obtain ⟨rfl, rfl⟩ := trodVars_none hV
  obtain ⟨a0, rfl, rfl, rfl, w0⟩ := open_int Try.underlying22 (hval 0 22 v0 rfl rfl) h0
  obtain ⟨a1, rfl, rfl, rfl, w1⟩ := open_int Try.underlying3 (hval 1 3 v1 rfl rfl) h1
  refine (bitsSigns_calls a0 a1 W w0 w1).mono fun e W' ⟨he, hd⟩ => ?_
  subst he
  exact ⟨_, rfl, _, _, _, [], _, [], hW', trodAll_mk1 (shut_bool Try.underlying4 _), (trodAll_cons_mk (shut_int Try.underlying22 w0) (trodAll_cons_mk (shut_int Try.underlying3 w1) trodAll_mk0)), rfl, hd.frame _, fun h => by cases h⟩
theorem over : Rows.bitsSignsRow.holds Try.pinned (OpenSpec.ofChange Rows.bitsSignsSpec) :=
  OpenClaim.holds_of_wide 6 Try.f6 rfl rfl rfl rfl rfl rfl rfl ⟨rfl, rfl, rfl, rfl, rfl⟩ rfl rfl rfl rfl rfl (by kernel_rfl) Try.func6 (by kernel_rfl)
    (of_decide_eq_true (by kernel_rfl)) (by unfold Func.isWrapper; first | (rw [if_pos (by decide +kernel)]; kernel_rfl) | (rw [if_neg (by decide +kernel)]; exact ⟨rfl, rfl⟩))
    (fun os started H enc _ => lifted os started H enc)
theorem proved : Rows.BitsSignsSaid := over
#print axioms proved
end Go.Proofs.Ytibhfonmpefloaa.bitsSigns
namespace Go.Proofs.Ytibhfonmpefloaa
theorem bitsSigns_holds : Rows.BitsSignsSaid := bitsSigns.proved
end Go.Proofs.Ytibhfonmpefloaa
