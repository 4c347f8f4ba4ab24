/- alu.Do: what each operation tells of two words. -/
import Derived.Test.YtjlngglkljjgmaaAlu
namespace Go.Proofs.Ytjlngglkljjgmaa
open Go.RowKit
/-- What an operation tells: the word, the upper word, carry and overflow. -/
structure Out where
  r : Int
  h : Int
  c : Bool
  v : Bool
def Out.val (o : Out) : Value := .tuple #[.int .u32 o.r, .int .u32 o.h, .agg #[.bool (o.r / 2147483648 == 1), .bool (o.r == 0), .bool o.c, .bool o.v], .bool true]
set_option maxHeartbeats 4000000 in
set_option maxRecDepth 100000 in
theorem do0 (b n h : Nat) (f0 f1 c f3 : Bool) (w : World) :
    Calls Try.prog 36 #[.int .i64 0, .bool false, .int .u32 b, .int .u32 n, .int .u32 h, .agg #[.bool f0, .bool f1, .bool c, .bool f3]] w fun e w' => e = .returned (Out.val ⟨(n : Int), (h : Int), c, f3⟩) ∧ Below w.heap.size w w' := by
  go_enter Try.func36, Try.ntmps36
  go_wp2_with fail
  go_region
  go_wp2
  refine bodyPost_ret (v := Out.val ⟨(n : Int), (h : Int), c, f3⟩) (by simp [results, Try.results36, go_sem, Out.val]) rfl ⟨rfl, ?_⟩
  repeat (with_reducible (first | exact Below.refl _ _ | refine below_drewN ?_ _ | apply below_drew1' | refine Below.alloc ?_ (by simp) _ | refine Below.setCell ?_ (by simp) _))
set_option maxHeartbeats 4000000 in
set_option maxRecDepth 100000 in
theorem do0u (b n h : Nat) (f0 f1 c f3 : Bool) (w : World) :
    Calls Try.prog 36 #[.int .i64 0, .bool true, .int .u32 b, .int .u32 n, .int .u32 h, .agg #[.bool f0, .bool f1, .bool c, .bool f3]] w fun e w' => e = .returned (Out.val ⟨(h : Int), (h : Int), c, f3⟩) ∧ Below w.heap.size w w' := by
  cases c
  all_goals
    go_enter Try.func36, Try.ntmps36
    go_wp2_with fail
    go_region
    go_wp2
    first
      | refine bodyPost_ret (v := Out.val ⟨(h : Int), (h : Int), false, f3⟩) (by simp [results, Try.results36, go_sem, Out.val]) rfl ⟨rfl, ?_⟩
      | refine bodyPost_ret (v := Out.val ⟨(h : Int), (h : Int), true, f3⟩) (by simp [results, Try.results36, go_sem, Out.val]) rfl ⟨rfl, ?_⟩
    repeat (with_reducible (first | exact Below.refl _ _ | refine below_drewN ?_ _ | apply below_drew1' | refine Below.alloc ?_ (by simp) _ | refine Below.setCell ?_ (by simp) _))
set_option maxHeartbeats 4000000 in
set_option maxRecDepth 100000 in
theorem do1 (b n h : Nat) (f0 f1 c f3 : Bool) (r : Int) (X : ∀ w : World, Calls Try.prog 48 #[.int .u32 b, .int .u32 n] w fun e w' => e = .returned (.int .u32 r) ∧ w = w') (w : World) :
    Calls Try.prog 36 #[.int .i64 1, .bool false, .int .u32 b, .int .u32 n, .int .u32 h, .agg #[.bool f0, .bool f1, .bool c, .bool f3]] w fun e w' => e = .returned (Out.val ⟨r, (h : Int), c, f3⟩) ∧ Below w.heap.size w w' := by
  replace X := Lib.hid X
  go_enter Try.func36, Try.ntmps36
  go_wp2_with (go_at_call 48; (with_reducible refine (X.out _).mono ?_); rintro e w' ⟨rfl, rfl⟩)
  go_region
  go_wp2
  refine bodyPost_ret (v := Out.val ⟨r, (h : Int), c, f3⟩) (by simp [results, Try.results36, go_sem, Out.val]) rfl ⟨rfl, ?_⟩
  repeat (with_reducible (first | exact Below.refl _ _ | refine below_drewN ?_ _ | apply below_drew1' | refine Below.alloc ?_ (by simp) _ | refine Below.setCell ?_ (by simp) _))
set_option maxHeartbeats 4000000 in
set_option maxRecDepth 100000 in
theorem do2 (b n h : Nat) (f0 f1 c f3 : Bool) (r : Int) (X : ∀ w : World, Calls Try.prog 49 #[.int .u32 b, .int .u32 n] w fun e w' => e = .returned (.int .u32 r) ∧ w = w') (w : World) :
    Calls Try.prog 36 #[.int .i64 2, .bool false, .int .u32 b, .int .u32 n, .int .u32 h, .agg #[.bool f0, .bool f1, .bool c, .bool f3]] w fun e w' => e = .returned (Out.val ⟨r, (h : Int), c, f3⟩) ∧ Below w.heap.size w w' := by
  replace X := Lib.hid X
  go_enter Try.func36, Try.ntmps36
  go_wp2_with (go_at_call 49; (with_reducible refine (X.out _).mono ?_); rintro e w' ⟨rfl, rfl⟩)
  go_region
  go_wp2
  refine bodyPost_ret (v := Out.val ⟨r, (h : Int), c, f3⟩) (by simp [results, Try.results36, go_sem, Out.val]) rfl ⟨rfl, ?_⟩
  repeat (with_reducible (first | exact Below.refl _ _ | refine below_drewN ?_ _ | apply below_drew1' | refine Below.alloc ?_ (by simp) _ | refine Below.setCell ?_ (by simp) _))
set_option maxHeartbeats 4000000 in
set_option maxRecDepth 100000 in
theorem do3 (b n h : Nat) (f0 f1 c f3 : Bool) (r : Int) (X : ∀ w : World, Calls Try.prog 50 #[.int .u32 b, .int .u32 n] w fun e w' => e = .returned (.int .u32 r) ∧ w = w') (w : World) :
    Calls Try.prog 36 #[.int .i64 3, .bool false, .int .u32 b, .int .u32 n, .int .u32 h, .agg #[.bool f0, .bool f1, .bool c, .bool f3]] w fun e w' => e = .returned (Out.val ⟨r, (h : Int), c, f3⟩) ∧ Below w.heap.size w w' := by
  replace X := Lib.hid X
  go_enter Try.func36, Try.ntmps36
  go_wp2_with (go_at_call 50; (with_reducible refine (X.out _).mono ?_); rintro e w' ⟨rfl, rfl⟩)
  go_region
  go_wp2
  refine bodyPost_ret (v := Out.val ⟨r, (h : Int), c, f3⟩) (by simp [results, Try.results36, go_sem, Out.val]) rfl ⟨rfl, ?_⟩
  repeat (with_reducible (first | exact Below.refl _ _ | refine below_drewN ?_ _ | apply below_drew1' | refine Below.alloc ?_ (by simp) _ | refine Below.setCell ?_ (by simp) _))
set_option maxHeartbeats 4000000 in
set_option maxRecDepth 100000 in
theorem do4 (b n h : Nat) (f0 f1 c f3 : Bool) (w : World) :
    Calls Try.prog 36 #[.int .i64 4, .bool false, .int .u32 b, .int .u32 n, .int .u32 h, .agg #[.bool f0, .bool f1, .bool c, .bool f3]] w fun e w' => e = .returned (Out.val ⟨Go.bits .and .u32 (b : Int) (n : Int), (h : Int), c, f3⟩) ∧ Below w.heap.size w w' := by
  go_enter Try.func36, Try.ntmps36
  go_wp2_with fail
  go_region
  go_wp2
  refine bodyPost_ret (v := Out.val ⟨Go.bits .and .u32 (b : Int) (n : Int), (h : Int), c, f3⟩) (by simp [results, Try.results36, go_sem, Out.val]) rfl ⟨rfl, ?_⟩
  repeat (with_reducible (first | exact Below.refl _ _ | refine below_drewN ?_ _ | apply below_drew1' | refine Below.alloc ?_ (by simp) _ | refine Below.setCell ?_ (by simp) _))
set_option maxHeartbeats 4000000 in
set_option maxRecDepth 100000 in
theorem do5 (b n h : Nat) (f0 f1 c f3 : Bool) (w : World) :
    Calls Try.prog 36 #[.int .i64 5, .bool false, .int .u32 b, .int .u32 n, .int .u32 h, .agg #[.bool f0, .bool f1, .bool c, .bool f3]] w fun e w' => e = .returned (Out.val ⟨Go.bits .andNot .u32 (b : Int) (n : Int), (h : Int), c, f3⟩) ∧ Below w.heap.size w w' := by
  go_enter Try.func36, Try.ntmps36
  go_wp2_with fail
  go_region
  go_wp2
  refine bodyPost_ret (v := Out.val ⟨Go.bits .andNot .u32 (b : Int) (n : Int), (h : Int), c, f3⟩) (by simp [results, Try.results36, go_sem, Out.val]) rfl ⟨rfl, ?_⟩
  repeat (with_reducible (first | exact Below.refl _ _ | refine below_drewN ?_ _ | apply below_drew1' | refine Below.alloc ?_ (by simp) _ | refine Below.setCell ?_ (by simp) _))
set_option maxHeartbeats 4000000 in
set_option maxRecDepth 100000 in
theorem do6 (b n h : Nat) (f0 f1 c f3 : Bool) (w : World) :
    Calls Try.prog 36 #[.int .i64 6, .bool false, .int .u32 b, .int .u32 n, .int .u32 h, .agg #[.bool f0, .bool f1, .bool c, .bool f3]] w fun e w' => e = .returned (Out.val ⟨Go.bits .or .u32 (b : Int) (n : Int), (h : Int), c, f3⟩) ∧ Below w.heap.size w w' := by
  go_enter Try.func36, Try.ntmps36
  go_wp2_with fail
  go_region
  go_wp2
  refine bodyPost_ret (v := Out.val ⟨Go.bits .or .u32 (b : Int) (n : Int), (h : Int), c, f3⟩) (by simp [results, Try.results36, go_sem, Out.val]) rfl ⟨rfl, ?_⟩
  repeat (with_reducible (first | exact Below.refl _ _ | refine below_drewN ?_ _ | apply below_drew1' | refine Below.alloc ?_ (by simp) _ | refine Below.setCell ?_ (by simp) _))
set_option maxHeartbeats 4000000 in
set_option maxRecDepth 100000 in
theorem do7 (b n h : Nat) (f0 f1 c f3 : Bool) (w : World) :
    Calls Try.prog 36 #[.int .i64 7, .bool false, .int .u32 b, .int .u32 n, .int .u32 h, .agg #[.bool f0, .bool f1, .bool c, .bool f3]] w fun e w' => e = .returned (Out.val ⟨Go.bits .xor .u32 (b : Int) (n : Int), (h : Int), c, f3⟩) ∧ Below w.heap.size w w' := by
  go_enter Try.func36, Try.ntmps36
  go_wp2_with fail
  go_region
  go_wp2
  refine bodyPost_ret (v := Out.val ⟨Go.bits .xor .u32 (b : Int) (n : Int), (h : Int), c, f3⟩) (by simp [results, Try.results36, go_sem, Out.val]) rfl ⟨rfl, ?_⟩
  repeat (with_reducible (first | exact Below.refl _ _ | refine below_drewN ?_ _ | apply below_drew1' | refine Below.alloc ?_ (by simp) _ | refine Below.setCell ?_ (by simp) _))
set_option maxHeartbeats 4000000 in
set_option maxRecDepth 100000 in
theorem do8 (b n h : Nat) (f0 f1 c f3 : Bool) (w : World) :
    Calls Try.prog 36 #[.int .i64 8, .bool false, .int .u32 b, .int .u32 n, .int .u32 h, .agg #[.bool f0, .bool f1, .bool c, .bool f3]] w fun e w' => e = .returned (Out.val ⟨((b : Int) + n) % 4294967296, (h : Int), decide (4294967296 ≤ IntKind.u64.wrap (IntKind.u64.wrap (IntKind.u64.wrap b + IntKind.u64.wrap n))), overB (wrap64 (wrap64 (wrap64 (wrap32 b) + wrap64 (wrap32 n))))⟩) ∧ Below w.heap.size w w' := by
  go_enter Try.func36, Try.ntmps36
  go_wp2_with (go_at_call 51; (with_reducible refine (over_calls _ _).mono ?_); rintro e w' ⟨rfl, rfl⟩)
  go_region
  go_wp2
  refine bodyPost_ret (v := Out.val ⟨((b : Int) + n) % 4294967296, (h : Int), decide (4294967296 ≤ IntKind.u64.wrap (IntKind.u64.wrap (IntKind.u64.wrap b + IntKind.u64.wrap n))), overB (wrap64 (wrap64 (wrap64 (wrap32 b) + wrap64 (wrap32 n))))⟩) (by simp [results, Try.results36, go_sem, Out.val]) rfl ⟨rfl, ?_⟩
  repeat (with_reducible (first | exact Below.refl _ _ | refine below_drewN ?_ _ | apply below_drew1' | refine Below.alloc ?_ (by simp) _ | refine Below.setCell ?_ (by simp) _))
set_option maxHeartbeats 4000000 in
set_option maxRecDepth 100000 in
theorem do8u (b n h : Nat) (f0 f1 f3 : Bool) (w : World) :
    Calls Try.prog 36 #[.int .i64 8, .bool true, .int .u32 b, .int .u32 n, .int .u32 h, .agg #[.bool f0, .bool f1, .bool false, .bool f3]] w fun e w' => e = .returned (Out.val ⟨((b : Int) + n) % 4294967296, (h : Int), decide (4294967296 ≤ IntKind.u64.wrap (IntKind.u64.wrap (IntKind.u64.wrap b + IntKind.u64.wrap n))), overB (wrap64 (wrap64 (wrap64 (wrap32 b) + wrap64 (wrap32 n))))⟩) ∧ Below w.heap.size w w' := by
  go_enter Try.func36, Try.ntmps36
  go_wp2_with (go_at_call 51; (with_reducible refine (over_calls _ _).mono ?_); rintro e w' ⟨rfl, rfl⟩)
  go_region
  go_wp2
  refine bodyPost_ret (v := Out.val ⟨((b : Int) + n) % 4294967296, (h : Int), decide (4294967296 ≤ IntKind.u64.wrap (IntKind.u64.wrap (IntKind.u64.wrap b + IntKind.u64.wrap n))), overB (wrap64 (wrap64 (wrap64 (wrap32 b) + wrap64 (wrap32 n))))⟩) (by simp [results, Try.results36, go_sem, Out.val]) rfl ⟨rfl, ?_⟩
  repeat (with_reducible (first | exact Below.refl _ _ | refine below_drewN ?_ _ | apply below_drew1' | refine Below.alloc ?_ (by simp) _ | refine Below.setCell ?_ (by simp) _))
set_option maxHeartbeats 4000000 in
set_option maxRecDepth 100000 in
theorem do8uc (b n h : Nat) (f0 f1 f3 : Bool) (w : World) :
    Calls Try.prog 36 #[.int .i64 8, .bool true, .int .u32 b, .int .u32 n, .int .u32 h, .agg #[.bool f0, .bool f1, .bool true, .bool f3]] w fun e w' => e = .returned (Out.val ⟨((b : Int) + n + 1) % 4294967296, (h : Int), decide (4294967296 ≤ IntKind.u64.wrap (IntKind.u64.wrap (IntKind.u64.wrap b + IntKind.u64.wrap n) + 1)), overB (wrap64 (wrap64 (wrap64 (wrap32 b) + wrap64 (wrap32 n)) + 1))⟩) ∧ Below w.heap.size w w' := by
  go_enter Try.func36, Try.ntmps36
  go_wp2_with (go_at_call 51; (with_reducible refine (over_calls _ _).mono ?_); rintro e w' ⟨rfl, rfl⟩)
  go_region
  go_wp2
  refine bodyPost_ret (v := Out.val ⟨((b : Int) + n + 1) % 4294967296, (h : Int), decide (4294967296 ≤ IntKind.u64.wrap (IntKind.u64.wrap (IntKind.u64.wrap b + IntKind.u64.wrap n) + 1)), overB (wrap64 (wrap64 (wrap64 (wrap32 b) + wrap64 (wrap32 n)) + 1))⟩) (by simp [results, Try.results36, go_sem, Out.val]) rfl ⟨rfl, ?_⟩
  repeat (with_reducible (first | exact Below.refl _ _ | refine below_drewN ?_ _ | apply below_drew1' | refine Below.alloc ?_ (by simp) _ | refine Below.setCell ?_ (by simp) _))
set_option maxHeartbeats 4000000 in
set_option maxRecDepth 100000 in
theorem do9 (b n h : Nat) (f0 f1 c f3 : Bool) (w : World) :
    Calls Try.prog 36 #[.int .i64 9, .bool false, .int .u32 b, .int .u32 n, .int .u32 h, .agg #[.bool f0, .bool f1, .bool c, .bool f3]] w fun e w' => e = .returned (Out.val ⟨((b : Int) - n) % 4294967296, (h : Int), decide (IntKind.u64.wrap b < IntKind.u64.wrap (IntKind.u64.wrap n)), overB (wrap64 (wrap64 (wrap64 (wrap32 b) - wrap64 (wrap32 n))))⟩) ∧ Below w.heap.size w w' := by
  go_enter Try.func36, Try.ntmps36
  go_wp2_with (go_at_call 51; (with_reducible refine (over_calls _ _).mono ?_); rintro e w' ⟨rfl, rfl⟩)
  go_region
  go_wp2
  refine bodyPost_ret (v := Out.val ⟨((b : Int) - n) % 4294967296, (h : Int), decide (IntKind.u64.wrap b < IntKind.u64.wrap (IntKind.u64.wrap n)), overB (wrap64 (wrap64 (wrap64 (wrap32 b) - wrap64 (wrap32 n))))⟩) (by simp [results, Try.results36, go_sem, Out.val]) rfl ⟨rfl, ?_⟩
  repeat (with_reducible (first | exact Below.refl _ _ | refine below_drewN ?_ _ | apply below_drew1' | refine Below.alloc ?_ (by simp) _ | refine Below.setCell ?_ (by simp) _))
set_option maxHeartbeats 4000000 in
set_option maxRecDepth 100000 in
theorem do9u (b n h : Nat) (f0 f1 f3 : Bool) (w : World) :
    Calls Try.prog 36 #[.int .i64 9, .bool true, .int .u32 b, .int .u32 n, .int .u32 h, .agg #[.bool f0, .bool f1, .bool false, .bool f3]] w fun e w' => e = .returned (Out.val ⟨((b : Int) - n) % 4294967296, (h : Int), decide (IntKind.u64.wrap b < IntKind.u64.wrap (IntKind.u64.wrap n)), overB (wrap64 (wrap64 (wrap64 (wrap32 b) - wrap64 (wrap32 n))))⟩) ∧ Below w.heap.size w w' := by
  go_enter Try.func36, Try.ntmps36
  go_wp2_with (go_at_call 51; (with_reducible refine (over_calls _ _).mono ?_); rintro e w' ⟨rfl, rfl⟩)
  go_region
  go_wp2
  refine bodyPost_ret (v := Out.val ⟨((b : Int) - n) % 4294967296, (h : Int), decide (IntKind.u64.wrap b < IntKind.u64.wrap (IntKind.u64.wrap n)), overB (wrap64 (wrap64 (wrap64 (wrap32 b) - wrap64 (wrap32 n))))⟩) (by simp [results, Try.results36, go_sem, Out.val]) rfl ⟨rfl, ?_⟩
  repeat (with_reducible (first | exact Below.refl _ _ | refine below_drewN ?_ _ | apply below_drew1' | refine Below.alloc ?_ (by simp) _ | refine Below.setCell ?_ (by simp) _))
set_option maxHeartbeats 4000000 in
set_option maxRecDepth 100000 in
theorem do9uc (b n h : Nat) (f0 f1 f3 : Bool) (w : World) :
    Calls Try.prog 36 #[.int .i64 9, .bool true, .int .u32 b, .int .u32 n, .int .u32 h, .agg #[.bool f0, .bool f1, .bool true, .bool f3]] w fun e w' => e = .returned (Out.val ⟨((b : Int) - n - 1) % 4294967296, (h : Int), decide (IntKind.u64.wrap b < IntKind.u64.wrap (IntKind.u64.wrap n + 1)), overB (wrap64 (wrap64 (wrap64 (wrap32 b) - wrap64 (wrap32 n)) - 1))⟩) ∧ Below w.heap.size w w' := by
  go_enter Try.func36, Try.ntmps36
  go_wp2_with (go_at_call 51; (with_reducible refine (over_calls _ _).mono ?_); rintro e w' ⟨rfl, rfl⟩)
  go_region
  go_wp2
  refine bodyPost_ret (v := Out.val ⟨((b : Int) - n - 1) % 4294967296, (h : Int), decide (IntKind.u64.wrap b < IntKind.u64.wrap (IntKind.u64.wrap n + 1)), overB (wrap64 (wrap64 (wrap64 (wrap32 b) - wrap64 (wrap32 n)) - 1))⟩) (by simp [results, Try.results36, go_sem, Out.val]) rfl ⟨rfl, ?_⟩
  repeat (with_reducible (first | exact Below.refl _ _ | refine below_drewN ?_ _ | apply below_drew1' | refine Below.alloc ?_ (by simp) _ | refine Below.setCell ?_ (by simp) _))
set_option maxHeartbeats 4000000 in
set_option maxRecDepth 100000 in
theorem do10 (b n h : Nat) (f0 f1 c f3 : Bool) (r t : Int) (X : ∀ w : World, Calls Try.prog 52 #[.bool false, .int .u32 b, .int .u32 n] w fun e w' => e = .returned (.tuple #[.int .u32 r, .int .u32 t]) ∧ w = w') (w : World) :
    Calls Try.prog 36 #[.int .i64 10, .bool false, .int .u32 b, .int .u32 n, .int .u32 h, .agg #[.bool f0, .bool f1, .bool c, .bool f3]] w fun e w' => e = .returned (Out.val ⟨r, t, c, f3⟩) ∧ Below w.heap.size w w' := by
  replace X := Lib.hid X
  go_enter Try.func36, Try.ntmps36
  go_wp2_with (go_at_call 52; (with_reducible refine (X.out _).mono ?_); rintro e w' ⟨rfl, rfl⟩)
  go_region
  go_wp2
  refine bodyPost_ret (v := Out.val ⟨r, t, c, f3⟩) (by simp [results, Try.results36, go_sem, Out.val]) rfl ⟨rfl, ?_⟩
  repeat (with_reducible (first | exact Below.refl _ _ | refine below_drewN ?_ _ | apply below_drew1' | refine Below.alloc ?_ (by simp) _ | refine Below.setCell ?_ (by simp) _))
set_option maxHeartbeats 4000000 in
set_option maxRecDepth 100000 in
theorem do10u (b n h : Nat) (f0 f1 c f3 : Bool) (r t : Int) (X : ∀ w : World, Calls Try.prog 52 #[.bool true, .int .u32 b, .int .u32 n] w fun e w' => e = .returned (.tuple #[.int .u32 r, .int .u32 t]) ∧ w = w') (w : World) :
    Calls Try.prog 36 #[.int .i64 10, .bool true, .int .u32 b, .int .u32 n, .int .u32 h, .agg #[.bool f0, .bool f1, .bool c, .bool f3]] w fun e w' => e = .returned (Out.val ⟨r, t, c, f3⟩) ∧ Below w.heap.size w w' := by
  replace X := Lib.hid X
  cases c
  all_goals
    go_enter Try.func36, Try.ntmps36
    go_wp2_with (go_at_call 52; (with_reducible refine (X.out _).mono ?_); rintro e w' ⟨rfl, rfl⟩)
    go_region
    go_wp2
    first
      | refine bodyPost_ret (v := Out.val ⟨r, t, false, f3⟩) (by simp [results, Try.results36, go_sem, Out.val]) rfl ⟨rfl, ?_⟩
      | refine bodyPost_ret (v := Out.val ⟨r, t, true, f3⟩) (by simp [results, Try.results36, go_sem, Out.val]) rfl ⟨rfl, ?_⟩
    repeat (with_reducible (first | exact Below.refl _ _ | refine below_drewN ?_ _ | apply below_drew1' | refine Below.alloc ?_ (by simp) _ | refine Below.setCell ?_ (by simp) _))
set_option maxHeartbeats 4000000 in
set_option maxRecDepth 100000 in
theorem do11 (b n h : Nat) (f0 f1 c f3 : Bool) (r t : Int) (X : ∀ w : World, Calls Try.prog 53 #[.int .u32 b, .int .u32 n] w fun e w' => e = .returned (.tuple #[.int .u32 r, .int .u32 t]) ∧ ∃ k, w' = w.drewN k) (w : World) :
    Calls Try.prog 36 #[.int .i64 11, .bool false, .int .u32 b, .int .u32 n, .int .u32 h, .agg #[.bool f0, .bool f1, .bool c, .bool f3]] w fun e w' => e = .returned (Out.val ⟨r, t, c, f3⟩) ∧ Below w.heap.size w w' := by
  replace X := Lib.hid X
  go_enter Try.func36, Try.ntmps36
  go_wp2_with (go_at_call 53; (with_reducible refine (X.out _).mono ?_); rintro e w' ⟨rfl, k, rfl⟩)
  go_region
  go_wp2
  refine bodyPost_ret (v := Out.val ⟨r, t, c, f3⟩) (by simp [results, Try.results36, go_sem, Out.val]) rfl ⟨rfl, ?_⟩
  repeat (with_reducible (first | exact Below.refl _ _ | refine below_drewN ?_ _ | apply below_drew1' | refine Below.alloc ?_ (by simp) _ | refine Below.setCell ?_ (by simp) _))
end Go.Proofs.Ytjlngglkljjgmaa
