/- Package alu: what each operation reckons, call by call. -/
import Derived.Test.YtjlngglkljjgmaaBits
import Derived.BigRegion
import Derived.RegionTactic
import Derived.WalkSmall
import Derived.WalkSpells
import Derived.Below
namespace Go.Proofs.Ytjlngglkljjgmaa
open Go.RowKit
theorem below_drew1' {B : Nat} {a w : World} (h : Below B a w) : Below B a w.drew := below_drewN h 1
/-- The flags. -/
structure Fl where
  n : Bool
  z : Bool
  c : Bool
  v : Bool
def Fl.val (f : Fl) : Value := .agg #[.bool f.n, .bool f.z, .bool f.c, .bool f.v]
def overB (n : Int) : Bool := n != wrap64 (wrap32 n)
theorem over_calls (n : Int) (w : World) : Calls Try.prog 51 #[.int .i64 n] w fun e w' => e = .returned (.bool (overB n)) ∧ w = w' := by
  go_enter Try.func51, Try.ntmps51
  go_wp2
  go_ret
  exact ⟨rfl, rfl⟩
def prodP (u : Bool) (b n : Nat) : Int := if u then IntKind.u64.wrap (IntKind.u64.wrap b * IntKind.u64.wrap n) else IntKind.u64.wrap (wrap64 (wrap64 (wrap32 b) * wrap64 (wrap32 n)))
theorem product_calls (u : Bool) (b n : Nat) (w : World) : Calls Try.prog 52 #[.bool u, .int .u32 b, .int .u32 n] w fun e w' => e = .returned (.tuple #[.int .u32 (prodP u b n % 4294967296), .int .u32 (prodP u b n / 4294967296 % 4294967296)]) ∧ w = w' := by
  cases u
  · rw [show prodP false b n = IntKind.u64.wrap (wrap64 (wrap64 (wrap32 b) * wrap64 (wrap32 n))) from if_neg (by decide)]
    go_enter Try.func52, Try.ntmps52
    go_wp2
    go_ret2
    exact ⟨rfl, rfl⟩
  · rw [show prodP true b n = IntKind.u64.wrap (IntKind.u64.wrap b * IntKind.u64.wrap n) from if_pos rfl]
    go_enter Try.func52, Try.ntmps52
    go_wp2
    go_ret2
    exact ⟨rfl, rfl⟩
/-- A quotient, rounded down, and the rest. -/
def quoP (b n : Nat) : Int × Int :=
  if wrap64 (wrap32 n) ≤ 0 then (0, b)
  else if (wrap64 (wrap32 b)).tmod (wrap64 (wrap32 n)) < 0 then ((wrap64 (wrap64 ((wrap64 (wrap32 b)).tdiv (wrap64 (wrap32 n))) - 1)) % 4294967296, wrap64 ((wrap64 (wrap32 b)).tmod (wrap64 (wrap32 n)) + wrap64 (wrap32 n)) % 4294967296)
  else (wrap64 ((wrap64 (wrap32 b)).tdiv (wrap64 (wrap32 n))) % 4294967296, (wrap64 (wrap32 b)).tmod (wrap64 (wrap32 n)) % 4294967296)
theorem quotient_low (b n : Nat) (h : decide (wrap64 (wrap32 (n : Int)) ≤ 0) = true) (w : World) : Calls Try.prog 53 #[.int .u32 b, .int .u32 n] w fun e w' => e = .returned (.tuple #[.int .u32 0, .int .u32 b]) ∧ ∃ k, w' = w.drewN k := by
  go_enter Try.func53, Try.ntmps53
  go_wp2
  go_ret2
  exact ⟨rfl, 0, rfl⟩
theorem quotient_high (b n : Nat) (h : decide (wrap64 (wrap32 (n : Int)) ≤ 0) = false) (w : World) : Calls Try.prog 53 #[.int .u32 b, .int .u32 n] w fun e w' => e = .returned (.tuple #[.int .u32 (quoP b n).1, .int .u32 (quoP b n).2]) ∧ ∃ k, w' = w.drewN k := by
  have h1 : (wrap64 (wrap32 (n : Int)) == 0) = false := by simp at *; omega
  have h2 : ¬ wrap64 (wrap32 (n : Int)) = 0 := by simp at *; omega
  have QH := Lib.hid (show quoP b n = if (wrap64 (wrap32 b)).tmod (wrap64 (wrap32 n)) < 0 then ((wrap64 (wrap64 ((wrap64 (wrap32 b)).tdiv (wrap64 (wrap32 n))) - 1)) % 4294967296, wrap64 ((wrap64 (wrap32 b)).tmod (wrap64 (wrap32 n)) + wrap64 (wrap32 n)) % 4294967296)
    else (wrap64 ((wrap64 (wrap32 b)).tdiv (wrap64 (wrap32 n))) % 4294967296, (wrap64 (wrap32 b)).tmod (wrap64 (wrap32 n)) % 4294967296) from if_neg (of_decide_eq_false h))
  go_enter Try.func53, Try.ntmps53
  go_wp2
  go_quiet (fail)
  go_wp2
  · go_ret2
    rw [QH.out, if_pos (by omega)]
    exact ⟨rfl, _, rfl⟩
  · go_ret2
    rw [QH.out, if_neg (by omega)]
    exact ⟨rfl, _, rfl⟩
theorem quotient_calls (b n : Nat) (w : World) : Calls Try.prog 53 #[.int .u32 b, .int .u32 n] w fun e w' => e = .returned (.tuple #[.int .u32 (quoP b n).1, .int .u32 (quoP b n).2]) ∧ ∃ k, w' = w.drewN k := by
  cases h : decide (wrap64 (wrap32 (n : Int)) ≤ 0)
  · exact quotient_high b n h w
  · rw [show quoP b n = (0, (b : Int)) from if_pos (of_decide_eq_true h)]
    exact quotient_low b n h w
end Go.Proofs.Ytjlngglkljjgmaa
