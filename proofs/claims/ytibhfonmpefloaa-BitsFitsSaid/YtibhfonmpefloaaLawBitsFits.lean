/- BitsFits: a number that fits is what its lower bits say, and one that does not is not. For every input, without a condition. -/
import Derived.Test.YtibhfonmpefloaaRows
import Derived.Test.YtibhfonmpefloaaWakes01
import Derived.WalkKit
import Derived.WalkSmall
import Derived.ProofKit
import Derived.OpenShut
import Derived.ShutString
import Derived.ChangeOld
import Derived.Below
import Derived.SizedLaws
import Derived.Lib.SmallJoins
import Derived.Outline
namespace Go.Proofs.Ytibhfonmpefloaa
open Go.RowKit
theorem below_draws {w w' : World} (h : ∃ k, w' = w.drewN k) : Below w.heap.size w w' := by
  obtain ⟨k, rfl⟩ := h
  exact below_drewN (Below.refl _ _) k
theorem fits_is (v : Int) (u n : Nat) (h1 : 1 ≤ n) (h2 : n ≤ 32) (hu : v % 4294967296 = u) : (fitsB v n == (ext u n == v)) = true := by
  have hp := pow_le31 (n - 1) (by omega)
  have h0 := Nat.two_pow_pos (n - 1)
  have h5 : 2 ^ n = 2 * 2 ^ (n - 1) := by rw [← Nat.pow_succ']; congr 1; omega
  have h6 : 2 ^ n * 2 ^ (32 - n) = 4294967296 := by rw [← Nat.pow_add, show n + (32 - n) = 32 by omega]
  have e : ((u % 2 ^ n : Nat) : Int) = v % ((2 ^ n : Nat) : Int) := by
    have hd : ((2 ^ n : Nat) : Int) ∣ 4294967296 := ⟨((2 ^ (32 - n) : Nat) : Int), by rw [← Int.natCast_mul, h6]; rfl⟩
    rw [Int.natCast_emod, ← hu, Int.emod_emod_of_dvd _ hd]
  have g : (2 : Int) ^ (n - 1) = ((2 ^ (n - 1) : Nat) : Int) := by simp
  rw [beq_iff_eq, Bool.eq_iff_iff, beq_iff_eq]
  unfold fitsB ext
  rw [decide_eq_true_iff, g]
  generalize u % 2 ^ n = r at *
  rw [h5] at *
  generalize 2 ^ (n - 1) = q at *
  clear h5 h6 g hu
  have e1 : 0 ≤ v → v < ((2 * q : Nat) : Int) → (r : Int) = v := fun a b => by rw [e, Int.emod_eq_of_lt a b]
  have e2 : v < 0 → -((2 * q : Nat) : Int) ≤ v → (r : Int) = v + ((2 * q : Nat) : Int) := fun a b => by rw [e, ← Int.add_emod_right, Int.emod_eq_of_lt (by omega) (by omega)]
  have b0 : (r : Int) < ((2 * q : Nat) : Int) := by rw [e]; exact Int.emod_lt_of_pos _ (by omega)
  constructor
  · intro ⟨c1, c2⟩
    by_cases hn : 0 ≤ v
    · have := e1 hn (by omega)
      rw [if_neg (by omega)]; exact this
    · have := e2 (by omega) (by omega)
      rw [if_pos (by omega)]; omega
  · intro h
    split at h <;> omega
theorem bitsFits_calls (a0 a1 : Int) (w : World) (_w0 : (Lit.int .i64 a0).wf = true) (_w1 : (Lit.int .i64 a1).wf = true) :
    Calls Try.prog 7 #[.int .i64 a0, .int .i64 a1] w fun e w' => e = .returned (.bool true) ∧ Below w.heap.size w w' := by
  clear _w0 _w1
  obtain ⟨u, hu⟩ := Int.eq_ofNat_of_zero_le (show 0 ≤ a0 % 4294967296 by omega)
  have U := Lib.hid hu
  by_cases c : 1 ≤ a1 ∧ a1 ≤ 32
  · obtain ⟨c1, c2⟩ := c
    obtain ⟨n, rfl⟩ := Int.eq_ofNat_of_zero_le (show 0 ≤ a1 by omega)
    have E1 := fits_is a0 u n (by omega) (by omega) hu
    have E2 : (fitsB a0 32 == (wrap32 (u : Int) == a0)) = true := by
      rw [show wrap32 (u : Int) = ext u 32 by unfold ext wrap32; omega]
      exact fits_is a0 u 32 (by decide) (by decide) hu
    have F := Lib.hid (show ∀ w : World, Calls Try.prog 16 #[.int .i64 a0, .int .i64 32] w fun e w' => e = .returned (.bool (fitsB a0 32)) ∧ w = w' from fun w => fits_yes a0 32 (by decide) (by decide) w)
    have b1 : decide ((n : Int) < 1) = false := by simp; omega
    have b2 : decide (32 < (n : Int)) = false := by simp; omega
    go_enter Try.func7, Try.ntmps7
    go_wp2_with (first | (go_at_call 14; refine (extend_yes _ _ (by omega) (by omega) _).mono ?_; rintro e w' ⟨rfl, rfl⟩) | (go_at_call 28; refine (word_calls _ _).mono ?_; rintro e w' ⟨rfl, rfl⟩) | (go_at_call 26; refine (signed_calls _ _).mono ?_; rintro e w' ⟨rfl, rfl⟩) | (go_at_call 16; (first | (with_reducible refine (fits_yes _ _ (by omega) (by omega) _).mono ?_) | (with_reducible refine (F.out _).mono ?_)); rintro e w' ⟨rfl, rfl⟩) | (go_at_call 18; refine (wakes_calls _).mono ?_; rintro e w' ⟨rfl, nd, rfl⟩))
    go_ret
    exact ⟨rfl, below_draws ⟨nd, rfl⟩⟩
  · have C := Lib.hid c
    by_cases c1 : a1 < 1
    · clear c hu
      have b1 : decide (a1 < 1) = true := decide_eq_true c1
      go_enter Try.func7, Try.ntmps7
      go_wp2_with (first | (go_at_call 14; refine (extend_no _ _ C.out _).mono ?_; rintro e w' ⟨rfl, rfl⟩) | (go_at_call 28; refine (word_calls _ _).mono ?_; rintro e w' ⟨rfl, rfl⟩) | (go_at_call 16; refine (fits_no _ _ C.out _).mono ?_; rintro e w' ⟨rfl, rfl⟩) | (go_at_call 18; refine (wakes_calls _).mono ?_; rintro e w' ⟨rfl, nd, rfl⟩))
      go_ret
      exact ⟨rfl, below_draws ⟨nd, rfl⟩⟩
    · have b1 : decide (a1 < 1) = false := decide_eq_false c1
      have b2 : decide (32 < a1) = true := decide_eq_true (by omega)
      clear c hu c1
      go_enter Try.func7, Try.ntmps7
      go_wp2_with (first | (go_at_call 14; refine (extend_no _ _ C.out _).mono ?_; rintro e w' ⟨rfl, rfl⟩) | (go_at_call 28; refine (word_calls _ _).mono ?_; rintro e w' ⟨rfl, rfl⟩) | (go_at_call 16; refine (fits_no _ _ C.out _).mono ?_; rintro e w' ⟨rfl, rfl⟩) | (go_at_call 18; refine (wakes_calls _).mono ?_; rintro e w' ⟨rfl, nd, rfl⟩))
      go_ret
      exact ⟨rfl, below_draws ⟨nd, rfl⟩⟩
end Go.Proofs.Ytibhfonmpefloaa
namespace Go.Proofs.Ytibhfonmpefloaa.bitsFits
open Go.ChangeShapes Go.WideShapes Go.ChangeAt Go.RowKit Go.Joins
open Go.ChangeMaps (open_string shut_string)
set_option linter.unusedVariables false
theorem own : ownKnob Try.prog.godebug = none := by kernel_rfl
set_option maxRecDepth 100000 in
theorem lifted (os : Os) (started : os.Started) (H : Type) (enc : TypeId × Value → H) :
    ReturnsInHanded {} Try.checked os 7 .any (Rows.bitsFitsSpec.pre6 enc Try.prog Try.f7 Rows.bitsFitsRow.domain false) (Rows.bitsFitsSpec.post enc Try.prog Try.f7 false true false false) := by
  refine returnsInHanded_of_change_sized (C := Try.checked) own started (by kernel_rfl) Try.func7
    (ChangeSpec.witness6 (enc := enc) (C := Try.checked) false ⟨#[], #[.int .i64 0, .int .i64 0], []⟩ 8 (by kernel_rfl) (by kernel_rfl) (by kernel_rfl) (by kernel_rfl)) ?_
  intro W base args ds gs before hval0 hW hcnd hsz0 _
  have hval : ∀ (j : Nat) t v, Try.f7.params[j]? = some t → args[j]? = some v → Value.okWide Try.prog W .any base t v := hval0
  have hW' := hW
  obtain ⟨p, q, hA0, hV, rfl, hfz, hnd⟩ := hW
  have hA : DataW.TrodAll enc Try.prog W 0 (fun _ => true) true Try.f7.params.toList args.toList ds p := hA0
  rw [Try.params7] at hA hval
  obtain ⟨v0, vs0, d0, ds0, p0, q0, hargs, rfl, rfl, h0, r0⟩ := trodAll_cons hA
  obtain ⟨v1, vs1, d1, ds1, p1, q1, rfl, rfl, rfl, h1, r1⟩ := trodAll_cons r0
  obtain ⟨rfl, rfl, rfl⟩ := trodAll_nil r1
  obtain rfl : args = #[v0, v1] := by cases args; simp_all
  obtain ⟨rfl, rfl⟩ := trodVars_none hV
  obtain ⟨a0, rfl, rfl, rfl, w0⟩ := open_int Try.underlying3 (hval 0 3 v0 rfl rfl) h0
  obtain ⟨a1, rfl, rfl, rfl, w1⟩ := open_int Try.underlying3 (hval 1 3 v1 rfl rfl) h1
  refine (bitsFits_calls a0 a1 W w0 w1).mono fun e W' ⟨he, hd⟩ => ?_
  subst he
  exact ⟨_, rfl, _, _, _, [], _, [], hW', trodAll_mk1 (shut_bool Try.underlying4 _), (trodAll_cons_mk (shut_int Try.underlying3 w0) (trodAll_cons_mk (shut_int Try.underlying3 w1) trodAll_mk0)), rfl, hd.frame _, fun h => by cases h⟩
theorem over : Rows.bitsFitsRow.holds Try.pinned (OpenSpec.ofChange Rows.bitsFitsSpec) :=
  OpenClaim.holds_of_wide 7 Try.f7 rfl rfl rfl rfl rfl rfl rfl ⟨rfl, rfl, rfl, rfl, rfl⟩ rfl rfl rfl rfl rfl (by kernel_rfl) Try.func7 (by kernel_rfl)
    (of_decide_eq_true (by kernel_rfl)) (by unfold Func.isWrapper; first | (rw [if_pos (by decide +kernel)]; kernel_rfl) | (rw [if_neg (by decide +kernel)]; exact ⟨rfl, rfl⟩))
    (fun os started H enc _ => lifted os started H enc)
theorem proved : Rows.BitsFitsSaid := over
#print axioms proved
end Go.Proofs.Ytibhfonmpefloaa.bitsFits
namespace Go.Proofs.Ytibhfonmpefloaa
theorem bitsFits_holds : Rows.BitsFitsSaid := bitsFits.proved
end Go.Proofs.Ytibhfonmpefloaa
