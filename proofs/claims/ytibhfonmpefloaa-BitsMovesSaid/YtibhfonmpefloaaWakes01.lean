/- The small inputs that each statement of layer 1 asks first. -/
import Derived.Test.YtibhfonmpefloaaBits
namespace Go.Proofs.Ytibhfonmpefloaa
open Go.RowKit
theorem w_asr (w : World) : Calls Try.prog 21 #[.int .u32 2147483648, .int .u32 33] w fun e w' => e = .returned (.int .u32 3221225472) ∧ w = w' := by
  have h := asr_calls 2147483648 33 w
  rw [show asrZ 2147483648 (33 % 32) = 3221225472 from by decide +kernel] at h
  exact h
theorem w_ror (w : World) : Calls Try.prog 23 #[.int .u32 1, .int .u32 1] w fun e w' => e = .returned (.int .u32 2147483648) ∧ w = w' := by
  have h := ror_calls 1 1 (by decide) w
  rw [show ((rorN 1 (1 % 32) : Nat) : Int) = 2147483648 from by decide +kernel] at h
  exact h
theorem w_ext (w : World) : Calls Try.prog 14 #[.int .u32 4095, .int .i64 12] w fun e w' => e = .returned (.int .i64 (-1)) ∧ w = w' := by
  have h := extend_yes 4095 12 (by decide) (by decide) w
  rw [show ext 4095 12 = -1 from by decide +kernel] at h
  exact h
theorem w_get (w : World) : Calls Try.prog 25 #[.int .u32 305419896, .int .i64 8, .int .i64 8] w fun e w' => e = .returned (.int .u32 86) ∧ ∃ k, w' = w.drewN k := by
  have h := get_yes 305419896 8 8 (by decide) (by decide) (by decide) w
  rw [show ((305419896 / 2 ^ 8 % 2 ^ 8 : Nat) : Int) = 86 from by decide +kernel] at h
  exact h
theorem w_fits (w : World) : Calls Try.prog 16 #[.int .i64 (-128), .int .i64 8] w fun e w' => e = .returned (.bool true) ∧ w = w' := by
  have h := fits_yes (-128) 8 (by decide) (by decide) w
  rw [show fitsB (-128) 8 = true from by decide +kernel] at h
  exact h
theorem wakes_calls (w : World) : Calls Try.prog 18 #[] w fun e w' => e = .returned (.bool true) ∧ ∃ k, w' = w.drewN k := by
  go_enter Try.func18, Try.ntmps18
  go_wp2_with (first | (go_at_call 21; refine (w_asr _).mono ?_; rintro e w' ⟨rfl, rfl⟩) | (go_at_call 23; refine (w_ror _).mono ?_; rintro e w' ⟨rfl, rfl⟩) | (go_at_call 14; refine (w_ext _).mono ?_; rintro e w' ⟨rfl, rfl⟩) | (go_at_call 25; refine (w_get _).mono ?_; rintro e w' ⟨rfl, nd, rfl⟩) | (go_at_call 16; refine (w_fits _).mono ?_; rintro e w' ⟨rfl, rfl⟩))
  go_ret
  exact ⟨rfl, nd, rfl⟩
end Go.Proofs.Ytibhfonmpefloaa
