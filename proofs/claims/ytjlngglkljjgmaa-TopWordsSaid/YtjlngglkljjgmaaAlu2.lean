/- alu.Holds: whether a condition holds. -/
import Derived.Test.YtjlngglkljjgmaaAlu
namespace Go.Proofs.Ytjlngglkljjgmaa
open Go.RowKit
/-- Whether a condition holds. -/
def holdB (k : Nat) (f : Fl) : Bool :=
  (match k % 8 with
    | 0 => f.n
    | 1 => f.z
    | 2 => f.c
    | 3 => f.v
    | 4 => f.c || f.z
    | 5 => f.n != f.v
    | 6 => f.n != f.v || f.z
    | _ => true) == decide (k < 8)
theorem holds_calls (k : Nat) (f : Fl) (hk : k < 16) (w : World) : Calls Try.prog 34 #[.int .i64 k, f.val] w fun e w' => e = .returned (.bool (holdB k f)) ∧ ∃ o, w' = w.alloc o := by
  obtain ⟨a, b, c, d⟩ := f
  unfold Fl.val
  dsimp only
  have h : k = 0 ∨ k = 1 ∨ k = 2 ∨ k = 3 ∨ k = 4 ∨ k = 5 ∨ k = 6 ∨ k = 7 ∨ k = 8 ∨ k = 9 ∨ k = 10 ∨ k = 11 ∨ k = 12 ∨ k = 13 ∨ k = 14 ∨ k = 15 := by omega
  clear hk
  rcases h with rfl | rfl | rfl | rfl | rfl | rfl | rfl | rfl | rfl | rfl | rfl | rfl | rfl | rfl | rfl | rfl
  all_goals
    go_enter Try.func34, Try.ntmps34
    go_wp2
  all_goals go_ret
  all_goals refine ⟨ret_b ?_, _, rfl⟩
  all_goals (simp [holdB]; try (cases a <;> cases b <;> cases c <;> cases d <;> simp_all))
end Go.Proofs.Ytjlngglkljjgmaa
