/- The functions of package bits, each with the number that it gives. -/
import Derived.Test.YtjlngglkljjgmaaProg
import Derived.Test.YtjlngglkljjgmaaArith
import Derived.Below
import Derived.WalkKit
import Derived.Deep.QuietTactic
import Derived.BigQuiet
import Derived.KernelRfl
import Derived.IntWalk
import Derived.Lib.Hide
import Derived.Outline
namespace Go.Proofs.Ytjlngglkljjgmaa
open Go.RowKit
def insB (lo n : Int) : Bool := decide (0 ≤ lo ∧ 1 ≤ n ∧ n ≤ 32 ∧ lo ≤ 32 - n)
theorem insB_yes (lo n : Nat) (h1 : 1 ≤ n) (h2 : lo + n ≤ 32) : insB (lo : Int) (n : Int) = true := by simp [insB]; omega
theorem ret_b {a b : Bool} (h : a = b) : Ending.returned (.bool a) = .returned (.bool b) := by rw [h]
theorem ret_i {k : IntKind} {a b : Int} (h : a = b) : Ending.returned (.int k a) = .returned (.int k b) := by rw [h]
theorem q0 {P : Program} {f : FuncId} {args : Array Value} {w : World} {n : Nat} {v : Value}
    (h : Calls P f args (w.drewN n) fun e w' => e = .returned v ∧ w.drewN n = w') : Calls P f args (w.drewN n) fun e w'' => e = .returned v ∧ ∃ m, w'' = w.drewN m :=
  h.mono fun _ _ ⟨he, hm⟩ => ⟨he, n, hm.symm⟩
theorem quietA {P : Program} {f : FuncId} {args : Array Value} {w : World} {a n : Nat} {v : Value}
    (h : Calls P f args (w.drewN (a + n)) fun e w' => e = .returned v ∧ ∃ m, w' = (w.drewN (a + n)).drewN m) : Calls P f args (w.drewN (a + n)) fun e w'' => e = .returned v ∧ ∃ m, w'' = w.drewN (a + m) :=
  h.mono fun _ _ ⟨he, m, hm⟩ => ⟨he, n + m, by rw [hm, World.drewN_drewN, Nat.add_assoc]⟩
theorem inside_calls (lo n : Int) (w : World) :
    Calls Try.prog 23 #[.int .i64 lo, .int .i64 n] w fun e w' => e = .returned (.bool (insB lo n)) ∧ w = w' := by
  by_cases h1 : 0 ≤ lo
  · by_cases h2 : 1 ≤ n
    · by_cases h3 : n ≤ 32
      · go_enter Try.func23, Try.ntmps23
        go_wp2
        go_ret
        exact ⟨ret_b (by simp [insB, *]), rfl⟩
      · go_enter Try.func23, Try.ntmps23
        go_wp2
        go_ret
        exact ⟨ret_b (by simp [insB]; omega), rfl⟩
    · go_enter Try.func23, Try.ntmps23
      go_wp2
      go_ret
      exact ⟨ret_b (by simp [insB]; omega), rfl⟩
  · go_enter Try.func23, Try.ntmps23
    go_wp2
    go_ret
    exact ⟨ret_b (by simp [insB]; omega), rfl⟩
theorem mask_fin (n : Nat) (h : n ≤ 32) : ((2 : Int) ^ n % 4294967296 - 1) % 4294967296 = ((2 ^ n - 1 : Nat) : Int) := by
  have h3 := pow_le32 n h
  have h4 := Nat.two_pow_pos n
  have h5 : (2 : Int) ^ n = ((2 ^ n : Nat) : Int) := by simp
  rw [h5]
  generalize 2 ^ n = p at *
  omega
theorem mask_calls (n : Nat) (h : n ≤ 32) (w : World) :
    Calls Try.prog 24 #[.int .i64 n] w fun e w' => e = .returned (.int .u32 ((2 ^ n - 1 : Nat) : Int)) ∧ w = w' := by
  have H := Lib.hid (mask_fin n h)
  go_enter Try.func24, Try.ntmps24
  go_wp2
  go_ret
  exact ⟨ret_i H.out, rfl⟩
theorem get_fin (x lo n : Nat) (hx : x < 4294967296) (h2 : lo + n ≤ 32) : Go.bits .and .u32 ((x : Int) / 2 ^ lo) ((2 ^ n - 1 : Nat) : Int) = ((x / 2 ^ lo % 2 ^ n : Nat) : Int) := by
  rw [← and_mask, show (x : Int) / 2 ^ lo = ((x / 2 ^ lo : Nat) : Int) by simp, and_u32 _ _ (Nat.lt_of_le_of_lt (Nat.div_le_self _ _) hx) (by have := pow_le32 n (by omega); have := Nat.two_pow_pos n; omega)]
theorem get_yes (x lo n : Nat) (hx : x < 4294967296) (h1 : 1 ≤ n) (h2 : lo + n ≤ 32) (w : World) :
    Calls Try.prog 15 #[.int .u32 x, .int .i64 lo, .int .i64 n] w fun e w' => e = .returned (.int .u32 ((x / 2 ^ lo % 2 ^ n : Nat) : Int)) ∧ ∃ k, w' = w.drewN k := by
  have hI := insB_yes lo n h1 h2
  have H := Lib.hid (get_fin x lo n hx h2)
  go_enter Try.func15, Try.ntmps15
  go_wp2_with (go_at_call 23; refine (inside_calls _ _ _).mono ?_; rintro e w' ⟨rfl, rfl⟩)
  go_quiet ((go_at_call 24; exact q0 (mask_calls n (by omega) _)))
  go_wp2
  go_ret
  exact ⟨ret_i H.out, nq, rfl⟩
theorem get_no (x lo n : Int) (h : insB lo n = false) (w : World) :
    Calls Try.prog 15 #[.int .u32 x, .int .i64 lo, .int .i64 n] w fun e w' => e = .returned (.int .u32 0) ∧ w = w' := by
  go_enter Try.func15, Try.ntmps15
  go_wp2_with (go_at_call 23; refine (inside_calls _ _ _).mono ?_; rintro e w' ⟨rfl, rfl⟩)
  go_ret
  exact ⟨rfl, rfl⟩
def putN (x lo n v : Nat) : Nat := 2 ^ lo * (2 ^ n * (x / 2 ^ lo / 2 ^ n) + v % 2 ^ n) + x % 2 ^ lo
theorem put_fin (x lo n v : Nat) (hx : x < 4294967296) (h2 : lo + n ≤ 32) :
    Go.bits .or .u32 (Go.bits .andNot .u32 (x : Int) (((2 ^ n - 1 : Nat) : Int) * 2 ^ lo % 4294967296)) (Go.bits .and .u32 ((v : Int) * 2 ^ lo % 4294967296) (((2 ^ n - 1 : Nat) : Int) * 2 ^ lo % 4294967296)) = (putN x lo n v : Int) := by
  have hm := maskAt_lt lo n h2
  have e1 : ((2 ^ n - 1 : Nat) : Int) * 2 ^ lo % 4294967296 = ((2 ^ lo * (2 ^ n - 1) : Nat) : Int) := by
    have g : ((2 ^ n - 1 : Nat) : Int) * 2 ^ lo = ((2 ^ lo * (2 ^ n - 1) : Nat) : Int) := by rw [Nat.mul_comm, Int.natCast_mul (2 ^ n - 1)]; simp
    rw [g]; omega
  have e2 : (v : Int) * 2 ^ lo % 4294967296 = ((v * 2 ^ lo % 4294967296 : Nat) : Int) := by
    rw [Int.natCast_emod, Int.natCast_mul]; simp
  rw [e1, e2, andNot_u32 _ _ hx hm, and_u32 _ _ (Nat.mod_lt _ (by omega)) hm, or_u32 _ _ (Nat.lt_of_le_of_lt Nat.and_le_left hx) (Nat.lt_of_le_of_lt Nat.and_le_right hm), put_bits x v lo n hx h2]
  rfl
theorem put_yes (x lo n v : Nat) (hx : x < 4294967296) (h1 : 1 ≤ n) (h2 : lo + n ≤ 32) (w : World) :
    Calls Try.prog 47 #[.int .u32 x, .int .i64 lo, .int .i64 n, .int .u32 v] w fun e w' => e = .returned (.int .u32 (putN x lo n v)) ∧ ∃ k, w' = w.drewN k := by
  have hI := insB_yes lo n h1 h2
  have H := Lib.hid (put_fin x lo n v hx h2)
  go_enter Try.func47, Try.ntmps47
  go_wp2_with (first | (go_at_call 23; refine (inside_calls _ _ _).mono ?_; rintro e w' ⟨rfl, rfl⟩) | (go_at_call 24; refine (mask_calls n (by omega) _).mono ?_; rintro e w' ⟨rfl, rfl⟩))
  go_ret
  exact ⟨ret_i H.out, 0, rfl⟩
theorem put_no (x lo n v : Int) (h : insB lo n = false) (w : World) :
    Calls Try.prog 47 #[.int .u32 x, .int .i64 lo, .int .i64 n, .int .u32 v] w fun e w' => e = .returned (.int .u32 x) ∧ w = w' := by
  go_enter Try.func47, Try.ntmps47
  go_wp2_with (go_at_call 23; refine (inside_calls _ _ _).mono ?_; rintro e w' ⟨rfl, rfl⟩)
  go_ret
  exact ⟨rfl, rfl⟩
theorem extend_no (v n : Int) (h : ¬ (1 ≤ n ∧ n ≤ 32)) (w : World) :
    Calls Try.prog 16 #[.int .u32 v, .int .i64 n] w fun e w' => e = .returned (.int .i64 0) ∧ w = w' := by
  by_cases h1 : n < 1
  · go_enter Try.func16, Try.ntmps16
    go_wp2
    go_ret
    exact ⟨rfl, rfl⟩
  · have h2 : 32 < n := by omega
    go_enter Try.func16, Try.ntmps16
    go_wp2
    go_ret
    exact ⟨rfl, rfl⟩
theorem ext_fin (v n : Nat) (h1 : 1 ≤ n) (h2 : n ≤ 32) : wrap64 (wrap32 ((v : Int) * 2 ^ (32 - n) % 4294967296) / 2 ^ (32 - n)) = ext v n := by
  have e2 : (v : Int) * 2 ^ (32 - n) % 4294967296 = ((v * 2 ^ (32 - n) % 4294967296 : Nat) : Int) := by
    rw [Int.natCast_emod, Int.natCast_mul]; simp
  rw [e2, sext v n h1 h2]
  have := ext_bd v n h1 h2
  unfold wrap64
  omega
theorem extend_yes (v n : Nat) (h1 : 1 ≤ n) (h2 : n ≤ 32) (w : World) :
    Calls Try.prog 16 #[.int .u32 v, .int .i64 n] w fun e w' => e = .returned (.int .i64 (ext v n)) ∧ w = w' := by
  have H := Lib.hid (ext_fin v n h1 h2)
  have b1 : decide ((n : Int) < 1) = false := by simp; omega
  have b2 : decide (32 < (n : Int)) = false := by simp; omega
  go_enter Try.func16, Try.ntmps16
  go_wp2
  go_ret
  exact ⟨ret_i H.out, rfl⟩
theorem fits_no (v n : Int) (h : ¬ (1 ≤ n ∧ n ≤ 32)) (w : World) :
    Calls Try.prog 38 #[.int .i64 v, .int .i64 n] w fun e w' => e = .returned (.bool false) ∧ w = w' := by
  by_cases h1 : n < 1
  · go_enter Try.func38, Try.ntmps38
    go_wp2
    go_ret
    exact ⟨rfl, rfl⟩
  · have h2 : 32 < n := by omega
    go_enter Try.func38, Try.ntmps38
    go_wp2
    go_ret
    exact ⟨rfl, rfl⟩
def fitsB (v : Int) (n : Nat) : Bool := decide (-(2 ^ (n - 1) : Int) ≤ v ∧ v < 2 ^ (n - 1))
theorem pow31_int (n : Nat) (h2 : n ≤ 32) : (0 : Int) < 2 ^ (n - 1) ∧ (2 : Int) ^ (n - 1) ≤ 2147483648 :=
  ⟨Int.pow_pos (by decide), by have h := pow_le31 (n - 1) (by omega); have e : (2 : Int) ^ (n - 1) = ((2 ^ (n - 1) : Nat) : Int) := by simp
                               rw [e]; omega⟩
theorem fits_hi (n : Nat) (h2 : n ≤ 32) : wrap64 ((2 : Int) ^ (n - 1)) = 2 ^ (n - 1) := by
  have := pow31_int n h2
  unfold wrap64; omega
theorem fits_lo (n : Nat) (h2 : n ≤ 32) : wrap64 (-(2 : Int) ^ (n - 1)) = -2 ^ (n - 1) := by
  have := pow31_int n h2
  unfold wrap64; omega
theorem fits_yes (v : Int) (n : Nat) (h1 : 1 ≤ n) (h2 : n ≤ 32) (w : World) :
    Calls Try.prog 38 #[.int .i64 v, .int .i64 n] w fun e w' => e = .returned (.bool (fitsB v n)) ∧ w = w' := by
  have L := Lib.hid (fits_lo n h2)
  have U := Lib.hid (fits_hi n h2)
  by_cases c : wrap64 (-(2 : Int) ^ (n - 1)) ≤ v
  · have C := Lib.hid c
    have b : decide (wrap64 (-(2 : Int) ^ (n - 1)) ≤ v) = true := decide_eq_true c
    clear c
    go_enter Try.func38, Try.ntmps38
    go_wp2
    go_ret
    exact ⟨ret_b (by have c := C.out; rw [L.out] at c; rw [U.out]; simp [fitsB, c]), rfl⟩
  · have C := Lib.hid c
    have b : decide (wrap64 (-(2 : Int) ^ (n - 1)) ≤ v) = false := decide_eq_false c
    clear c
    go_enter Try.func38, Try.ntmps38
    go_wp2
    go_ret
    exact ⟨ret_b (by have c := C.out; rw [L.out] at c; exact (decide_eq_false (fun h => by omega)).symm), rfl⟩
theorem lsl_calls (x n : Nat) (w : World) :
    Calls Try.prog 48 #[.int .u32 x, .int .u32 n] w fun e w' => e = .returned (.int .u32 ((x * 2 ^ (n % 32) % 4294967296 : Nat) : Int)) ∧ w = w' := by
  go_enter Try.func48, Try.ntmps48
  go_wp2
  go_ret
  exact ⟨ret_i (by rw [Int.natCast_emod, Int.natCast_mul]; simp), rfl⟩
/-- A word, moved right with its sign, as a number. -/
def asrZ (x k : Nat) : Int := wrap32 x / 2 ^ k % 4294967296
theorem asr_calls (x n : Nat) (w : World) :
    Calls Try.prog 49 #[.int .u32 x, .int .u32 n] w fun e w' => e = .returned (.int .u32 (asrZ x (n % 32))) ∧ w = w' := by
  go_enter Try.func49, Try.ntmps49
  go_wp2
  go_ret
  exact ⟨rfl, rfl⟩
theorem rot_cnt (k : Int) (s : Nat) (hk : k % 32 = s) : Go.bits .and .u64 (IntKind.u64.wrap k) 31 = (s : Int) := by
  have e : IntKind.u64.wrap k = ((k % 18446744073709551616).toNat : Int) := by
    simp [IntKind.wrap, IntKind.bits, IntKind.signed]
    omega
  rw [e, show (31 : Int) = ((31 : Nat) : Int) from rfl, and_u64 _ _ (by omega) (by omega), show (31 : Nat) = 2 ^ 5 - 1 from rfl, and_mask]
  omega
theorem rot_back (s : Nat) (hs : s < 32) : IntKind.u64.wrap (32 - (s : Int)) = ((32 - s : Nat) : Int) := by
  simp [IntKind.wrap, IntKind.bits, IntKind.signed]
  omega
theorem rot_fin (x s : Nat) (hx : x < 4294967296) (hs : s < 32) : Go.bits .or .u32 ((x : Int) * 2 ^ s % 4294967296) ((x : Int) / 2 ^ (32 - s)) = ((x * 2 ^ s % 4294967296 + x / 2 ^ (32 - s) : Nat) : Int) := by
  have e2 : (x : Int) * 2 ^ s % 4294967296 = ((x * 2 ^ s % 4294967296 : Nat) : Int) := by
    rw [Int.natCast_emod, Int.natCast_mul]; simp
  have h1 : 2 ^ s * 2 ^ (32 - s) = 4294967296 := by rw [← Nat.pow_add, show s + (32 - s) = 32 by omega]
  have h2 : x * 2 ^ s % 4294967296 = 2 ^ s * (x % 2 ^ (32 - s)) := by rw [← h1, Nat.mul_comm x, Nat.mul_mod_mul_left]
  have h3 : x / 2 ^ (32 - s) < 2 ^ s := by rw [Nat.div_lt_iff_lt_mul (Nat.two_pow_pos _), h1]; exact hx
  rw [e2, show (x : Int) / 2 ^ (32 - s) = ((x / 2 ^ (32 - s) : Nat) : Int) by simp, or_u32 _ _ (Nat.mod_lt _ (by omega)) (Nat.lt_of_le_of_lt (Nat.div_le_self _ _) hx), h2, Nat.two_pow_add_eq_or_of_lt h3]
theorem rot_calls (x : Nat) (k : Int) (s : Nat) (hx : x < 4294967296) (hs : s < 32) (hk : k % 32 = s) (w : World) :
    Calls Try.prog 54 #[.int .u32 x, .int .i64 k] w fun e w' => e = .returned (.int .u32 ((x * 2 ^ s % 4294967296 + x / 2 ^ (32 - s) : Nat) : Int)) ∧ w = w' := by
  have h1 := rot_cnt k s hk
  have h2 := rot_back s hs
  have H := Lib.hid (rot_fin x s hx hs)
  clear hk
  go_enter Try.func54, Try.ntmps54
  go_wp2
  go_ret
  exact ⟨ret_i H.out, rfl⟩
/-- A word, turned right. -/
def rorN (x k : Nat) : Nat := x / 2 ^ k + 2 ^ (32 - k) * (x % 2 ^ k)
theorem ror_zero (x : Nat) : rorN x 0 = x := by simp [rorN, Nat.mod_one]
theorem ror_lt (x k : Nat) (hx : x < 4294967296) (hk : k ≤ 32) : rorN x k < 4294967296 := by
  have h1 : 2 ^ (32 - k) * 2 ^ k = 4294967296 := by rw [← Nat.pow_add, show 32 - k + k = 32 by omega]
  have h2 : x / 2 ^ k < 2 ^ (32 - k) := by rw [Nat.div_lt_iff_lt_mul (Nat.two_pow_pos _), h1]; exact hx
  have h3 : 2 ^ (32 - k) * (x % 2 ^ k) + 2 ^ (32 - k) ≤ 2 ^ (32 - k) * 2 ^ k := by
    rw [← Nat.mul_succ]
    exact Nat.mul_le_mul_left _ (Nat.mod_lt _ (Nat.two_pow_pos _))
  unfold rorN
  omega
theorem ror_fin (x n : Nat) (hx : x < 4294967296) : ((x * 2 ^ ((32 - n % 32) % 32) % 4294967296 + x / 2 ^ (32 - (32 - n % 32) % 32) : Nat) : Int) = (rorN x (n % 32) : Int) := by
  by_cases h : n % 32 = 0
  · rw [h, ror_zero]
    simp only [Nat.sub_zero, Nat.mod_self, Nat.pow_zero, Nat.mul_one, Nat.mod_eq_of_lt hx, Nat.div_eq_of_lt hx, Nat.add_zero]
  · have hk : n % 32 < 32 := Nat.mod_lt _ (by decide)
    generalize n % 32 = k at *
    rw [show (32 - k) % 32 = 32 - k by omega, show 32 - (32 - k) = k by omega]
    have h1 : 2 ^ (32 - k) * 2 ^ k = 4294967296 := by rw [← Nat.pow_add, show 32 - k + k = 32 by omega]
    rw [← h1, Nat.mul_comm x, Nat.mul_mod_mul_left, Nat.add_comm]
    rfl
theorem ror_calls (x n : Nat) (hx : x < 4294967296) (w : World) :
    Calls Try.prog 50 #[.int .u32 x, .int .u32 n] w fun e w' => e = .returned (.int .u32 (rorN x (n % 32))) ∧ w = w' := by
  have H := Lib.hid (ror_fin x n hx)
  go_enter Try.func50, Try.ntmps50
  go_wp2_with (go_at_call 54; refine (rot_calls x _ ((32 - n % 32) % 32) hx (by omega) (by omega) _).mono ?_; rintro e w' ⟨rfl, rfl⟩)
  go_ret
  exact ⟨ret_i H.out, rfl⟩
theorem signed_calls (x : Nat) (w : World) :
    Calls Try.prog 44 #[.int .u32 x] w fun e w' => e = .returned (.int .i64 (wrap32 x)) ∧ w = w' := by
  go_enter Try.func44, Try.ntmps44
  go_wp2
  go_ret
  exact ⟨ret_i (by unfold wrap32 wrap64; omega), rfl⟩
end Go.Proofs.Ytjlngglkljjgmaa
