/- The reference's functions of package bits, each with the number that it gives. -/
import Derived.Test.YtjlngglkljjgmaaBits
import Derived.LoopTactic
namespace Go.Proofs.Ytjlngglkljjgmaa
open Go.RowKit
theorem pow_step (k : Nat) (h : k < 63) : IntKind.u64.wrap ((2 : Int) ^ k * 2) = 2 ^ (k + 1) := by
  have e : (2 : Int) ^ k = ((2 ^ k : Nat) : Int) := by simp
  have h1 : 2 ^ k ≤ 2 ^ 62 := Nat.pow_le_pow_right (by decide) (by omega)
  rw [Int.pow_succ, e]
  simp only [IntKind.wrap, IntKind.bits, IntKind.signed]
  generalize 2 ^ k = p at *
  simp
  omega
/-- Go's rest, by Lean's. -/
theorem tmod_of (n m : Int) : n.tmod m = if 0 ≤ n then n % m else -((-n) % m) := by
  by_cases h : 0 ≤ n
  · rw [if_pos h, Int.tmod_eq_emod_of_nonneg h]
  · rw [if_neg h, ← Int.tmod_eq_emod_of_nonneg (by omega : 0 ≤ -n), Int.neg_tmod, Int.neg_neg]
theorem pow_calls (a : Int) (h0 : 0 ≤ a) (h1 : a ≤ 63) (w : World) :
    Calls Try.prog 43 #[.int .u32 a] w fun e w' => e = .returned (.int .u64 (2 ^ a.toNat)) ∧ w = w' := by
  obtain ⟨n, rfl⟩ := Int.eq_ofNat_of_zero_le h0
  rw [Int.toNat_natCast]
  clear h0
  go_enter Try.func43, Try.ntmps43
  go_wp2
  go_loop [3, 4] (fun p i => ∃ k : Nat, k ≤ n ∧ i = .int .u32 k ∧ p = .int .u64 (2 ^ k)) (fun _ i => n - (intOf i).toNat)
  case atStart => exact ⟨0, Nat.zero_le _, rfl, rfl⟩
  case round =>
    obtain ⟨k, hk, rfl, rfl⟩ := hrel
    by_cases hlt : k < n
    · have H := Lib.hid (pow_step k (by omega))
      go_wp2
      go_round
      case rel => exact ⟨k + 1, by omega, by go_num, by rw [H.out]⟩
      case measure => simp [intOf]; omega
    · go_wp2
      go_ret
      exact ⟨ret_i (by rw [show k = n by omega]), rfl⟩
/-- The power by a name of one's own. -/
theorem pow_as (a p : Int) (h0 : 0 ≤ a) (h1 : a ≤ 63) (hp : Hid (p = 2 ^ a.toNat)) (w : World) :
    Calls Try.prog 43 #[.int .u32 a] w fun e w' => e = .returned (.int .u64 p) ∧ w = w' := by
  rw [hp.out]
  exact pow_calls a h0 h1 w
/-- A power of two, halved. -/
theorem half_pow (n : Nat) (h1 : 1 ≤ n) : 2 ^ n = 2 * 2 ^ (n - 1) := by
  rw [← Nat.pow_succ']; congr 1; omega
theorem u32_id (x : Int) (h0 : 0 ≤ x) (h1 : x < 4294967296) : IntKind.u32.wrap x = x := by rw [IntKind.wrap_u32]; omega
theorem u64_id (x : Int) (h0 : 0 ≤ x) (h1 : x < 18446744073709551616) : IntKind.u64.wrap x = x := by
  simp [IntKind.wrap, IntKind.bits, IntKind.signed]
  omega
theorem may_calls (lo n : Int) (w : World) :
    Calls Try.prog 41 #[.int .i64 lo, .int .i64 n] w fun e w' => e = .returned (.bool (insB lo n)) ∧ w = w' := by
  by_cases h1 : 0 ≤ lo
  · by_cases h2 : 1 ≤ n
    · by_cases h3 : lo ≤ 31
      · go_enter Try.func41, Try.ntmps41
        go_wp2
        go_ret
        exact ⟨ret_b (by unfold insB; rw [decide_eq_decide]; omega), rfl⟩
      · go_enter Try.func41, Try.ntmps41
        go_wp2
        go_ret
        exact ⟨ret_b (by simp [insB]; omega), rfl⟩
    · go_enter Try.func41, Try.ntmps41
      go_wp2
      go_ret
      exact ⟨ret_b (by simp [insB]; omega), rfl⟩
  · go_enter Try.func41, Try.ntmps41
    go_wp2
    go_ret
    exact ⟨ret_b (by simp [insB]; omega), rfl⟩
theorem rword_calls (n : Int) (h0 : -9223372036854775808 ≤ n) (h1 : n ≤ 9223372036854775807) (w : World) :
    Calls Try.prog 30 #[.int .i64 n] w fun e w' => e = .returned (.int .u32 (n % 4294967296)) ∧ w = w' := by
  have T := Lib.hid (tmod_of n 4294967296)
  by_cases c : n.tmod 4294967296 < 0
  · have C := Lib.hid c
    go_enter Try.func30, Try.ntmps30
    go_wp2
    go_ret
    exact ⟨ret_i (by have := C.out; rw [T.out] at *; unfold wrap64; split at * <;> omega), rfl⟩
  · have C := Lib.hid c
    go_enter Try.func30, Try.ntmps30
    go_wp2
    go_ret
    exact ⟨ret_i (by have := C.out; rw [T.out] at *; split at * <;> omega), rfl⟩
theorem rfits_no (v n : Int) (h : ¬ (1 ≤ n ∧ n ≤ 32)) (w : World) :
    Calls Try.prog 40 #[.int .i64 v, .int .i64 n] w fun e w' => e = .returned (.bool false) ∧ w = w' := by
  by_cases h1 : n < 1
  · go_enter Try.func40, Try.ntmps40
    go_wp2
    go_ret
    exact ⟨rfl, rfl⟩
  · have h2 : 32 < n := by omega
    go_enter Try.func40, Try.ntmps40
    go_wp2
    go_ret
    exact ⟨rfl, rfl⟩
theorem rfits_yes (v : Int) (n : Nat) (h1 : 1 ≤ n) (h2 : n ≤ 32) (w : World) :
    Calls Try.prog 40 #[.int .i64 v, .int .i64 n] w fun e w' => e = .returned (.bool (fitsB v n)) ∧ w = w' := by
  have b1 : decide ((n : Int) < 1) = false := by simp; omega
  have b2 : decide (32 < (n : Int)) = false := by simp; omega
  obtain ⟨q, hq⟩ : ∃ q : Nat, q = 2 ^ (n - 1) := ⟨_, rfl⟩
  have q0 : (0 : Int) < q := by have := Nat.two_pow_pos (n - 1); omega
  have q1 : (q : Int) ≤ 2147483648 := by have := pow_le31 (n - 1) (by omega); omega
  have P := Lib.hid (show (2 * q : Int) = 2 ^ ((n : Int)).toNat by
    have e := half_pow n h1
    rw [Int.toNat_natCast, hq, show (2 : Int) ^ n = ((2 ^ n : Nat) : Int) by simp, e]; simp)
  have Q := Lib.hid (show (q : Int) = 2 ^ (n - 1) by rw [hq]; simp)
  clear hq
  by_cases c : -(q : Int) ≤ v
  · have b : decide (-(q : Int) ≤ v) = true := decide_eq_true c
    go_enter Try.func40, Try.ntmps40
    go_wp2_with (go_at_call 43; refine (pow_as _ _ (by omega) (by omega) P _).mono ?_; rintro e w' ⟨rfl, rfl⟩)
    go_ret
    exact ⟨ret_b (by unfold fitsB; rw [← Q.out, decide_eq_decide]; omega), rfl⟩
  · have b : decide (-(q : Int) ≤ v) = false := decide_eq_false c
    go_enter Try.func40, Try.ntmps40
    go_wp2_with (go_at_call 43; refine (pow_as _ _ (by omega) (by omega) P _).mono ?_; rintro e w' ⟨rfl, rfl⟩)
    go_ret
    exact ⟨ret_b (by unfold fitsB; rw [← Q.out]; exact (decide_eq_false (by omega)).symm), rfl⟩
theorem rget_fin (x p q : Nat) (hx : x < 4294967296) : (IntKind.u64.wrap ((x : Int) / (p : Int))).tmod (q : Int) % 4294967296 = ((x / p % q : Nat) : Int) := by
  have e : (x : Int) / (p : Int) = ((x / p : Nat) : Int) := by simp
  have h1 : x / p ≤ x := Nat.div_le_self _ _
  have h2 : x / p % q ≤ x / p := Nat.mod_le _ _
  rw [e, u64_id _ (by omega) (by omega), Int.tmod_eq_emod_of_nonneg (by omega), ← Int.natCast_emod]
  omega
theorem rget_yes (x lo n : Nat) (hx : (x : Int) < 4294967296) (h1 : 1 ≤ n) (h2 : lo + n ≤ 32) (w : World) :
    Calls Try.prog 42 #[.int .u32 x, .int .i64 lo, .int .i64 n] w fun e w' => e = .returned (.int .u32 ((x / 2 ^ lo % 2 ^ n : Nat) : Int)) ∧ ∃ k, w' = w.drewN k := by
  have hI := insB_yes lo n h1 h2
  obtain ⟨p, hp⟩ : ∃ p : Nat, p = 2 ^ lo := ⟨_, rfl⟩
  obtain ⟨q, hq⟩ : ∃ q : Nat, q = 2 ^ n := ⟨_, rfl⟩
  have p0 : (0 : Int) < p := by have := Nat.two_pow_pos lo; omega
  have p1 : (p : Int) ≤ 4294967296 := by have := pow_le32 lo (by omega); omega
  have q0 : (0 : Int) < q := by have := Nat.two_pow_pos n; omega
  have q1 : (q : Int) ≤ 4294967296 := by have := pow_le32 n (by omega); omega
  have P := Lib.hid (show (p : Int) = 2 ^ ((lo : Int)).toNat by rw [Int.toNat_natCast, hp]; simp)
  have Q := Lib.hid (show (q : Int) = 2 ^ ((n : Int)).toNat by rw [Int.toNat_natCast, hq]; simp)
  have e1 := u64_id (x : Int) (by omega) (by omega)
  have e2 := u32_id (lo : Int) (by omega) (by omega)
  have e3 := u32_id (n : Int) (by omega) (by omega)
  have H := Lib.hid (show (IntKind.u64.wrap ((x : Int) / (p : Int))).tmod (q : Int) % 4294967296 = ((x / 2 ^ lo % 2 ^ n : Nat) : Int) by
    rw [← hp, ← hq]
    exact rget_fin x p q (by omega))
  clear hp hq
  go_enter Try.func42, Try.ntmps42
  go_wp2_with (go_at_call 41; refine (may_calls _ _ _).mono ?_; rintro e w' ⟨rfl, rfl⟩)
  go_quiet ((go_at_call 43; first | (with_reducible exact Go.Proofs.Ytjlngglkljjgmaa.q0 (pow_as (lo : Int) (p : Int) (by omega) (by omega) P _)) | (with_reducible exact Go.Proofs.Ytjlngglkljjgmaa.q0 (pow_as (n : Int) (q : Int) (by omega) (by omega) Q _))))
  go_wp2
  go_ret
  exact ⟨ret_i H.out, nq, rfl⟩
theorem rget_no (x lo n : Int) (h : insB lo n = false) (w : World) :
    Calls Try.prog 42 #[.int .u32 x, .int .i64 lo, .int .i64 n] w fun e w' => e = .returned (.int .u32 0) ∧ w = w' := by
  go_enter Try.func42, Try.ntmps42
  go_wp2_with (go_at_call 41; refine (may_calls _ _ _).mono ?_; rintro e w' ⟨rfl, rfl⟩)
  go_ret
  exact ⟨rfl, rfl⟩
theorem putN_lt (x lo n v : Nat) (hx : x < 4294967296) (h2 : lo + n ≤ 32) : putN x lo n v < 4294967296 := by
  have hm := maskAt_lt lo n h2
  unfold putN
  rw [← put_bits x v lo n hx h2]
  exact Nat.or_lt_two_pow (n := 32) (Nat.lt_of_le_of_lt Nat.and_le_left hx) (Nat.lt_of_le_of_lt Nat.and_le_right hm)
theorem wrap_u64_mod (n : Int) : IntKind.u64.wrap n = n % 18446744073709551616 := by simp [IntKind.wrap, IntKind.bits, IntKind.signed]
theorem rput_fin (x lo n v p q g : Nat) (hx : x < 4294967296) (h2 : lo + n ≤ 32) (hp : p = 2 ^ lo) (hq : q = 2 ^ n) (hg : g = x / 2 ^ lo % 2 ^ n) :
    IntKind.u64.wrap (IntKind.u64.wrap ((x : Int) - IntKind.u64.wrap ((g : Int) * (p : Int))) + IntKind.u64.wrap ((v : Int) % (q : Int) * (p : Int))) % 4294967296 = (putN x lo n v : Int) := by
  have hlt := putN_lt x lo n v hx h2
  have e1 : putN x lo n v + g * p = x + v % q * p := by
    have h := cut3 x lo n
    unfold putN
    rw [← hp, ← hq] at *
    rw [← hg] at h
    have a1 : p * (q * (x / p / q) + v % q) = p * (q * (x / p / q)) + v % q * p := by rw [Nat.mul_add, Nat.mul_comm p (v % q)]
    have a2 : p * (q * (x / p / q) + g) = p * (q * (x / p / q)) + g * p := by rw [Nat.mul_add, Nat.mul_comm p g]
    rw [a2] at h
    rw [a1]
    omega
  have e2 : (g : Int) * (p : Int) = ((g * p : Nat) : Int) := by simp
  have e3 : (v : Int) % (q : Int) * (p : Int) = ((v % q * p : Nat) : Int) := by simp
  rw [e2, e3]
  simp only [wrap_u64_mod]
  generalize g * p = a at *
  generalize v % q * p = b at *
  omega
theorem rput_no (x lo n v : Int) (h : insB lo n = false) (w : World) :
    Calls Try.prog 28 #[.int .u32 x, .int .i64 lo, .int .i64 n, .int .u32 v] w fun e w' => e = .returned (.int .u32 x) ∧ w = w' := by
  go_enter Try.func28, Try.ntmps28
  go_wp2_with (go_at_call 41; refine (may_calls _ _ _).mono ?_; rintro e w' ⟨rfl, rfl⟩)
  go_ret
  exact ⟨rfl, rfl⟩
theorem rput_yes (x lo n v : Nat) (hx : (x : Int) < 4294967296) (hv : (v : Int) < 4294967296) (h1 : 1 ≤ n) (h2 : lo + n ≤ 32) (w : World) :
    Calls Try.prog 28 #[.int .u32 x, .int .i64 lo, .int .i64 n, .int .u32 v] w fun e w' => e = .returned (.int .u32 (putN x lo n v)) ∧ ∃ k, w' = w.drewN k := by
  have hI := insB_yes lo n h1 h2
  obtain ⟨p, hp⟩ : ∃ p : Nat, p = 2 ^ lo := ⟨_, rfl⟩
  obtain ⟨q, hq⟩ : ∃ q : Nat, q = 2 ^ n := ⟨_, rfl⟩
  have p0 : (0 : Int) < p := by have := Nat.two_pow_pos lo; omega
  have p1 : (p : Int) ≤ 4294967296 := by have := pow_le32 lo (by omega); omega
  have q0 : (0 : Int) < q := by have := Nat.two_pow_pos n; omega
  have q1 : (q : Int) ≤ 4294967296 := by have := pow_le32 n (by omega); omega
  have P := Lib.hid (show (p : Int) = 2 ^ ((lo : Int)).toNat by rw [Int.toNat_natCast, hp]; simp)
  have Q := Lib.hid (show (q : Int) = 2 ^ ((n : Int)).toNat by rw [Int.toNat_natCast, hq]; simp)
  have G := Lib.hid (fun w => rget_yes x lo n hx h1 h2 w)
  have e1 := u64_id (x : Int) (by omega) (by omega)
  have e2 := u32_id (lo : Int) (by omega) (by omega)
  have e3 := u32_id (n : Int) (by omega) (by omega)
  have e4 := u64_id (v : Int) (by omega) (by omega)
  obtain ⟨g, hg⟩ : ∃ g : Nat, g = x / 2 ^ lo % 2 ^ n := ⟨_, rfl⟩
  have g1 : (g : Int) < 4294967296 := by
    have h3 : x / 2 ^ lo % 2 ^ n ≤ x := Nat.le_trans (Nat.mod_le _ _) (Nat.div_le_self _ _)
    omega
  rw [← hg] at G
  have HG := Lib.hid hg
  have HP := Lib.hid hp
  have HQ := Lib.hid hq
  clear hp hq hg
  go_enter Try.func28, Try.ntmps28
  go_wp2_with (first | (go_at_call 41; refine (may_calls _ _ _).mono ?_; rintro e w' ⟨rfl, rfl⟩) | (go_at_call 42; refine (G.out _).mono ?_; rintro e w1 ⟨rfl, hw1⟩; have HW := Lib.hid hw1; clear hw1) | (go_at_call 43; refine (pow_as _ _ (by omega) (by omega) P _).mono ?_; rintro e w' ⟨rfl, rfl⟩))
  go_quiet ((go_at_call 43; first | (with_reducible exact Go.Proofs.Ytjlngglkljjgmaa.q0 (pow_as (lo : Int) (p : Int) (by omega) (by omega) P _)) | (with_reducible exact Go.Proofs.Ytjlngglkljjgmaa.q0 (pow_as (n : Int) (q : Int) (by omega) (by omega) Q _))))
  go_wp2
  go_ret
  exact ⟨ret_i (rput_fin x lo n v p q g (by omega) h2 HP.out HQ.out HG.out), by obtain ⟨k, hk⟩ := HW.out; exact ⟨k + nq, by rw [hk, World.drewN_drewN]⟩⟩
theorem asr_zero (x : Nat) (hx : x < 4294967296) : asrZ x 0 = x := by unfold asrZ wrap32; omega
theorem asr_succ (x k : Nat) : asrZ x (k + 1) = (asrZ x k / 2 + asrZ x k / 2147483648 * 2147483648) % 4294967296 := by
  have h1 : wrap32 (x : Int) / 2 ^ (k + 1) = wrap32 (x : Int) / 2 ^ k / 2 := by
    rw [Int.pow_succ, Int.ediv_ediv_of_nonneg (Int.pow_nonneg (by decide))]
  have h2 : -2147483648 ≤ wrap32 (x : Int) / 2 ^ k ∧ wrap32 (x : Int) / 2 ^ k < 2147483648 := by
    have hp : (0 : Int) < 2 ^ k := Int.pow_pos (by decide)
    have hw : -2147483648 ≤ wrap32 (x : Int) ∧ wrap32 (x : Int) < 2147483648 := by unfold wrap32; omega
    constructor
    · rw [Int.le_ediv_iff_mul_le hp]
      have : (-2147483648 : Int) * 2 ^ k ≤ -2147483648 * 1 := Int.mul_le_mul_of_nonpos_left (by omega) (by omega)
      omega
    · rw [Int.ediv_lt_iff_lt_mul hp]
      have : (2147483648 : Int) * 1 ≤ 2147483648 * 2 ^ k := Int.mul_le_mul_of_nonneg_left (by omega) (by omega)
      omega
  unfold asrZ
  rw [h1]
  generalize wrap32 (x : Int) / 2 ^ k = a at *
  omega
theorem ror_succ (x k : Nat) (hk : k < 32) : rorN x (k + 1) = rorN x k / 2 + rorN x k % 2 * 2147483648 := by
  have e1 : x / 2 ^ (k + 1) = x / 2 ^ k / 2 := by rw [Nat.pow_succ, Nat.div_div_eq_div_mul]
  have e2 : x % 2 ^ (k + 1) = x % 2 ^ k + 2 ^ k * (x / 2 ^ k % 2) := Nat.mod_pow_succ
  have e3 : 2 ^ (32 - k) = 2 * 2 ^ (32 - (k + 1)) := by rw [← Nat.pow_succ']; congr 1; omega
  have e4 : 2 ^ (32 - (k + 1)) * 2 ^ k = 2147483648 := by rw [← Nat.pow_add, show 32 - (k + 1) + k = 31 by omega]
  unfold rorN
  rw [e1, e2, e3]
  generalize x / 2 ^ k = a
  have e5 : 2 * 2 ^ (32 - (k + 1)) * (x % 2 ^ k) = 2 * (2 ^ (32 - (k + 1)) * (x % 2 ^ k)) := Nat.mul_assoc _ _ _
  have e6 : 2 ^ (32 - (k + 1)) * (x % 2 ^ k + 2 ^ k * (a % 2)) = 2 ^ (32 - (k + 1)) * (x % 2 ^ k) + 2147483648 * (a % 2) := by
    rw [Nat.mul_add, ← Nat.mul_assoc, e4]
  rw [e5, e6]
  generalize 2 ^ (32 - (k + 1)) * (x % 2 ^ k) = b
  omega
end Go.Proofs.Ytjlngglkljjgmaa
