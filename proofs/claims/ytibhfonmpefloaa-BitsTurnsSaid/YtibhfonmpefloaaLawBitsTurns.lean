/- BitsTurns: a word turned by n and by the rest is as it was; turned left and right by shifts it is put together. For every input, without a condition. -/
import Derived.Test.YtibhfonmpefloaaRows
import Derived.Test.YtibhfonmpefloaaWakes01
import Derived.WalkKit
import Derived.WalkSmall
import Derived.ProofKit
import Derived.OpenShut
import Derived.ShutString
import Derived.ChangeOld
import Derived.Below
import Derived.SizedLaws
import Derived.Lib.SmallJoins
import Derived.Outline
namespace Go.Proofs.Ytibhfonmpefloaa
open Go.RowKit
theorem below_draws {w w' : World} (h : ∃ k, w' = w.drewN k) : Below w.heap.size w w' := by
  obtain ⟨k, rfl⟩ := h
  exact below_drewN (Below.refl _ _) k
theorem ror_back (x k : Nat) (h1 : 1 ≤ k) (h2 : k < 32) (hx : x < 4294967296) : rorN (rorN x k) (32 - k) = x := by
  have e1 : 2 ^ (32 - k) * 2 ^ k = 4294967296 := by rw [← Nat.pow_add, show 32 - k + k = 32 by omega]
  have h3 : x / 2 ^ k < 2 ^ (32 - k) := by rw [Nat.div_lt_iff_lt_mul (Nat.two_pow_pos _), e1]; exact hx
  have e2 : rorN x k / 2 ^ (32 - k) = x % 2 ^ k := by
    unfold rorN
    rw [Nat.add_mul_div_left _ _ (Nat.two_pow_pos _), Nat.div_eq_of_lt h3, Nat.zero_add]
  have e3 : rorN x k % 2 ^ (32 - k) = x / 2 ^ k := by
    unfold rorN
    rw [Nat.add_mul_mod_self_left, Nat.mod_eq_of_lt h3]
  rw [rorN, e2, e3, show 32 - (32 - k) = k by omega]
  have := Nat.div_add_mod x (2 ^ k)
  omega
theorem ror_or (x k : Nat) (_h1 : 1 ≤ k) (h2 : k < 32) (hx : x < 4294967296) : Go.bits .or .u32 ((x / 2 ^ k % 2 ^ (32 - k) : Nat) : Int) ((x * 2 ^ (32 - k) % 4294967296 : Nat) : Int) = (rorN x k : Int) := by
  have e1 : 2 ^ (32 - k) * 2 ^ k = 4294967296 := by rw [← Nat.pow_add, show 32 - k + k = 32 by omega]
  have h3 : x / 2 ^ k < 2 ^ (32 - k) := by rw [Nat.div_lt_iff_lt_mul (Nat.two_pow_pos _), e1]; exact hx
  have e2 : x * 2 ^ (32 - k) % 4294967296 = 2 ^ (32 - k) * (x % 2 ^ k) := by rw [← e1, Nat.mul_comm x, Nat.mul_mod_mul_left]
  rw [or_u32 _ _ (Nat.lt_of_le_of_lt (Nat.mod_le _ _) (Nat.lt_of_le_of_lt (Nat.div_le_self _ _) hx)) (Nat.mod_lt _ (by decide)), Nat.mod_eq_of_lt h3, e2, Nat.or_comm, ← Nat.two_pow_add_eq_or_of_lt h3, Nat.add_comm]
  rfl
theorem bitsTurns_calls (a0 a1 : Int) (w : World) (w0 : (Lit.int .u32 a0).wf = true) (w1 : (Lit.int .u32 a1).wf = true) :
    Calls Try.prog 5 #[.int .u32 a0, .int .u32 a1] w fun e w' => e = .returned (.bool true) ∧ Below w.heap.size w w' := by
  obtain ⟨h0, h1⟩ := bounds_u32 w0
  obtain ⟨h2, h3⟩ := bounds_u32 w1
  obtain ⟨x, rfl⟩ := Int.eq_ofNat_of_zero_le h0
  obtain ⟨n, rfl⟩ := Int.eq_ofNat_of_zero_le h2
  have hx : x < 4294967296 := by omega
  obtain ⟨k, hk⟩ : ∃ k : Nat, k = n % 32 := ⟨_, rfl⟩
  have hr : (n : Int) % 32 = (k : Int) := by omega
  have k2 : k < 32 := by omega
  clear w0 w1 h0 h1 h2 h3
  by_cases c : k = 0
  · have A1 := Lib.hid (show ∀ w : World, Calls Try.prog 23 #[.int .u32 x, .int .u32 0] w fun e w' => e = .returned (.int .u32 x) ∧ w = w' from fun w => by have h := ror_calls x 0 hx w; rw [Nat.zero_mod, ror_zero] at h; exact h)
    have A2 := Lib.hid (show ∀ w : World, Calls Try.prog 23 #[.int .u32 x, .int .u32 32] w fun e w' => e = .returned (.int .u32 x) ∧ w = w' from fun w => by have h := ror_calls x 32 hx w; rw [Nat.mod_self, ror_zero] at h; exact h)
    have A3 := Lib.hid (show ∀ w : World, Calls Try.prog 23 #[.int .u32 x, .int .u32 n] w fun e w' => e = .returned (.int .u32 x) ∧ w = w' from fun w => by have h := ror_calls x n hx w; rw [← hk, c, ror_zero] at h; exact h)
    have A4 := Lib.hid (show ∀ w : World, Calls Try.prog 19 #[.int .u32 x, .int .u32 n] w fun e w' => e = .returned (.int .u32 x) ∧ w = w' from fun w => by have h := lsl_calls x n w; rw [← hk, c, Nat.pow_zero, Nat.mul_one, Nat.mod_eq_of_lt hx] at h; exact h)
    have A5 := Lib.hid (show ∀ w : World, Calls Try.prog 19 #[.int .u32 x, .int .u32 32] w fun e w' => e = .returned (.int .u32 x) ∧ w = w' from fun w => by have h := lsl_calls x 32 w; rw [Nat.mod_self, Nat.pow_zero, Nat.mul_one, Nat.mod_eq_of_lt hx] at h; exact h)
    have A6 := Lib.hid (show ∀ w : World, Calls Try.prog 21 #[.int .u32 x, .int .u32 n] w fun e w' => e = .returned (.int .u32 x) ∧ w = w' from fun w => by have h := asr_calls x n w; rw [← hk, c, show asrZ x 0 = (x : Int) by unfold asrZ wrap32; omega] at h; exact h)
    rw [c] at hr
    clear hk c k2 hx
    go_enter Try.func5, Try.ntmps5
    go_wp2_with (first | (go_at_call 23; (first | (with_reducible refine (A1.out _).mono ?_) | (with_reducible refine (A2.out _).mono ?_) | (with_reducible refine (A3.out _).mono ?_)); rintro e w' ⟨rfl, rfl⟩) | (go_at_call 19; (first | (with_reducible refine (A4.out _).mono ?_) | (with_reducible refine (A5.out _).mono ?_)); rintro e w' ⟨rfl, rfl⟩) | (go_at_call 21; (with_reducible refine (A6.out _).mono ?_); rintro e w' ⟨rfl, rfl⟩) | (go_at_call 18; refine (wakes_calls _).mono ?_; rintro e w' ⟨rfl, nd, rfl⟩))
    go_ret
    exact ⟨rfl, below_draws ⟨nd, rfl⟩⟩
  · have k1 : 1 ≤ k := by omega
    obtain ⟨m, hm⟩ : ∃ m : Nat, m = 32 - k := ⟨_, rfl⟩
    have hs : 32 - (k : Int) = (m : Int) := by omega
    obtain ⟨y, hy⟩ : ∃ y : Nat, y = rorN x k := ⟨_, rfl⟩
    have hyl : y < 4294967296 := by rw [hy]; exact ror_lt x k hx (by omega)
    obtain ⟨l, hl⟩ : ∃ l : Nat, l = x / 2 ^ k % 2 ^ m := ⟨_, rfl⟩
    obtain ⟨z, hz⟩ : ∃ z : Nat, z = x * 2 ^ m % 4294967296 := ⟨_, rfl⟩
    have A1 := Lib.hid (show ∀ w : World, Calls Try.prog 23 #[.int .u32 x, .int .u32 k] w fun e w' => e = .returned (.int .u32 y) ∧ w = w' from fun w => by have h := ror_calls x k hx w; rw [Nat.mod_eq_of_lt k2, ← hy] at h; exact h)
    have A2 := Lib.hid (show ∀ w : World, Calls Try.prog 23 #[.int .u32 y, .int .u32 m] w fun e w' => e = .returned (.int .u32 x) ∧ w = w' from fun w => by have h := ror_calls y m hyl w; rw [hm, Nat.mod_eq_of_lt (by omega), hy, ror_back x k k1 k2 hx, ← hy, ← hm] at h; exact h)
    have A3 := Lib.hid (show ∀ w : World, Calls Try.prog 23 #[.int .u32 x, .int .u32 n] w fun e w' => e = .returned (.int .u32 y) ∧ w = w' from fun w => by have h := ror_calls x n hx w; rw [← hk, ← hy] at h; exact h)
    have A4 := Lib.hid (show ∀ w : World, Calls Try.prog 19 #[.int .u32 x, .int .u32 m] w fun e w' => e = .returned (.int .u32 z) ∧ w = w' from fun w => by have h := lsl_calls x m w; rw [Nat.mod_eq_of_lt (show m < 32 by omega), ← hz] at h; exact h)
    have A5 := Lib.hid (show ∀ w : World, Calls Try.prog 25 #[.int .u32 x, .int .i64 k, .int .i64 m] w fun e w' => e = .returned (.int .u32 l) ∧ ∃ k, w' = w.drewN k from fun w => by have h := get_yes x k m hx (by omega) (by omega) w; rw [← hl] at h; exact h)
    have E : Go.bits .or .u32 (l : Int) (z : Int) = (y : Int) := by rw [hl, hz, hm, ror_or x k k1 k2 hx, hy]
    have b : ((k : Int) == 0) = false := by simp; omega
    have m1 : (m : Int) < 32 := by omega
    clear hk hm hy hl hz hx hyl c
    go_enter Try.func5, Try.ntmps5
    go_wp2_with (first | (go_at_call 23; (first | (with_reducible refine (A1.out _).mono ?_) | (with_reducible refine (A2.out _).mono ?_) | (with_reducible refine (A3.out _).mono ?_)); rintro e w' ⟨rfl, rfl⟩) | (go_at_call 19; (with_reducible refine (A4.out _).mono ?_); rintro e w' ⟨rfl, rfl⟩) | (go_at_call 25; (with_reducible refine (A5.out _).mono ?_); rintro e w' ⟨rfl, nd, rfl⟩) | (go_at_call 18; refine (wakes_calls _).mono ?_; rintro e w' ⟨rfl, nd2, rfl⟩))
    go_ret
    exact ⟨rfl, below_draws ⟨_, rfl⟩⟩
end Go.Proofs.Ytibhfonmpefloaa
namespace Go.Proofs.Ytibhfonmpefloaa.bitsTurns
open Go.ChangeShapes Go.WideShapes Go.ChangeAt Go.RowKit Go.Joins
open Go.ChangeMaps (open_string shut_string)
set_option linter.unusedVariables false
theorem own : ownKnob Try.prog.godebug = none := by kernel_rfl
set_option maxRecDepth 100000 in
theorem lifted (os : Os) (started : os.Started) (H : Type) (enc : TypeId × Value → H) :
    ReturnsInHanded {} Try.checked os 5 .any (Rows.bitsTurnsSpec.pre6 enc Try.prog Try.f5 Rows.bitsTurnsRow.domain false) (Rows.bitsTurnsSpec.post enc Try.prog Try.f5 false true false false) := by
  refine returnsInHanded_of_change_sized (C := Try.checked) own started (by kernel_rfl) Try.func5
    (ChangeSpec.witness6 (enc := enc) (C := Try.checked) false ⟨#[], #[.int .u32 0, .int .u32 0], []⟩ 8 (by kernel_rfl) (by kernel_rfl) (by kernel_rfl) (by kernel_rfl)) ?_
  intro W base args ds gs before hval0 hW hcnd hsz0 _
  have hval : ∀ (j : Nat) t v, Try.f5.params[j]? = some t → args[j]? = some v → Value.okWide Try.prog W .any base t v := hval0
  have hW' := hW
  obtain ⟨p, q, hA0, hV, rfl, hfz, hnd⟩ := hW
  have hA : DataW.TrodAll enc Try.prog W 0 (fun _ => true) true Try.f5.params.toList args.toList ds p := hA0
  rw [Try.params5] at hA hval
  obtain ⟨v0, vs0, d0, ds0, p0, q0, hargs, rfl, rfl, h0, r0⟩ := trodAll_cons hA
  obtain ⟨v1, vs1, d1, ds1, p1, q1, rfl, rfl, rfl, h1, r1⟩ := trodAll_cons r0
  obtain ⟨rfl, rfl, rfl⟩ := trodAll_nil r1
  obtain rfl : args = #[v0, v1] := by cases args; simp_all
  obtain ⟨rfl, rfl⟩ := trodVars_none hV
  obtain ⟨a0, rfl, rfl, rfl, w0⟩ := open_int Try.underlying22 (hval 0 22 v0 rfl rfl) h0
  obtain ⟨a1, rfl, rfl, rfl, w1⟩ := open_int Try.underlying22 (hval 1 22 v1 rfl rfl) h1
  refine (bitsTurns_calls a0 a1 W w0 w1).mono fun e W' ⟨he, hd⟩ => ?_
  subst he
  exact ⟨_, rfl, _, _, _, [], _, [], hW', trodAll_mk1 (shut_bool Try.underlying4 _), (trodAll_cons_mk (shut_int Try.underlying22 w0) (trodAll_cons_mk (shut_int Try.underlying22 w1) trodAll_mk0)), rfl, hd.frame _, fun h => by cases h⟩
theorem over : Rows.bitsTurnsRow.holds Try.pinned (OpenSpec.ofChange Rows.bitsTurnsSpec) :=
  OpenClaim.holds_of_wide 5 Try.f5 rfl rfl rfl rfl rfl rfl rfl ⟨rfl, rfl, rfl, rfl, rfl⟩ rfl rfl rfl rfl rfl (by kernel_rfl) Try.func5 (by kernel_rfl)
    (of_decide_eq_true (by kernel_rfl)) (by unfold Func.isWrapper; first | (rw [if_pos (by decide +kernel)]; kernel_rfl) | (rw [if_neg (by decide +kernel)]; exact ⟨rfl, rfl⟩))
    (fun os started H enc _ => lifted os started H enc)
theorem proved : Rows.BitsTurnsSaid := over
#print axioms proved
end Go.Proofs.Ytibhfonmpefloaa.bitsTurns
namespace Go.Proofs.Ytibhfonmpefloaa
theorem bitsTurns_holds : Rows.BitsTurnsSaid := bitsTurns.proved
end Go.Proofs.Ytibhfonmpefloaa
