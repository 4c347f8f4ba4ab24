/- The reference's Good, Encode, Decode and Same. -/
import Derived.Test.YtjlngglkljjgmaaDecode
import Derived.Test.YtjlngglkljjgmaaRefBits
namespace Go.Proofs.Ytjlngglkljjgmaa
open Go.RowKit
def inR (n a b : Int) : Bool := decide (a ≤ n ∧ n ≤ b)
theorem in_calls (n a b : Int) (w : World) :
    Calls Try.prog 39 #[.int .i64 n, .int .i64 a, .int .i64 b] w fun e w' => e = .returned (.bool (inR n a b)) ∧ w = w' := by
  by_cases h : a ≤ n
  · go_enter Try.func39, Try.ntmps39
    go_wp2
    go_ret
    exact ⟨ret_b (by unfold inR; simp [h]), rfl⟩
  · go_enter Try.func39, Try.ntmps39
    go_wp2
    go_ret
    exact ⟨ret_b (by unfold inR; exact (decide_eq_false (by omega)).symm), rfl⟩
theorem rfits_any (v n : Int) (h1 : 1 ≤ n) (h2 : n ≤ 32) (w : World) : Calls Try.prog 40 #[.int .i64 v, .int .i64 n] w fun e w' => e = .returned (.bool (fitsB v n.toNat)) ∧ w = w' := by
  obtain ⟨k, rfl⟩ := Int.eq_ofNat_of_zero_le (show 0 ≤ n by omega)
  exact rfits_yes v k (by omega) (by omega) w
set_option maxRecDepth 100000 in
set_option maxHeartbeats 4000000 in
theorem rgood_reg (u v : Bool) (a b c op im : Int) (w : World) :
    Calls Try.prog 27 #[.agg #[.int .i64 0, .bool u, .bool v, .int .i64 a, .int .i64 b, .int .i64 c, .int .i64 op, .int .i64 im]] w fun e w' => e = .returned (.bool (goodB ⟨0, u, v, a, b, c, op, im⟩)) ∧ Below w.heap.size w w' := by
  go_enter Try.func27, Try.ntmps27
  go_wp2_with (first | (go_at_call 39; refine (in_calls _ _ _ _).mono ?_; rintro e w' ⟨rfl, rfl⟩) | (go_at_call 40; refine (rfits_any _ _ (by omega) (by omega) _).mono ?_; rintro e w' ⟨rfl, rfl⟩))
  all_goals go_ret
  all_goals refine ⟨ret_b ?_, ?_⟩
  all_goals first | (repeat (first | exact Below.refl _ _ | apply below_drew1 | refine Below.alloc ?_ (by simp) _)) | skip
  all_goals rw [Bool.eq_iff_iff]
  all_goals simp only [goodB, inR, decide_eq_true_eq] at *
  all_goals (simp only [Good]; cases u <;> cases v <;> simp at * <;> omega)
set_option maxRecDepth 100000 in
set_option maxHeartbeats 4000000 in
theorem rgood_im (u v : Bool) (a b c op im : Int) (w : World) :
    Calls Try.prog 27 #[.agg #[.int .i64 1, .bool u, .bool v, .int .i64 a, .int .i64 b, .int .i64 c, .int .i64 op, .int .i64 im]] w fun e w' => e = .returned (.bool (goodB ⟨1, u, v, a, b, c, op, im⟩)) ∧ Below w.heap.size w w' := by
  go_enter Try.func27, Try.ntmps27
  go_wp2_with (first | (go_at_call 39; refine (in_calls _ _ _ _).mono ?_; rintro e w' ⟨rfl, rfl⟩) | (go_at_call 40; refine (rfits_any _ _ (by omega) (by omega) _).mono ?_; rintro e w' ⟨rfl, rfl⟩))
  all_goals go_ret
  all_goals refine ⟨ret_b ?_, ?_⟩
  all_goals first | (repeat (first | exact Below.refl _ _ | apply below_drew1 | refine Below.alloc ?_ (by simp) _)) | skip
  all_goals rw [Bool.eq_iff_iff]
  all_goals simp only [goodB, inR, decide_eq_true_eq] at *
  all_goals (simp only [Good]; cases u <;> cases v <;> simp at * <;> omega)
set_option maxRecDepth 100000 in
set_option maxHeartbeats 4000000 in
theorem rgood_mem (u v : Bool) (a b c op im : Int) (w : World) :
    Calls Try.prog 27 #[.agg #[.int .i64 2, .bool u, .bool v, .int .i64 a, .int .i64 b, .int .i64 c, .int .i64 op, .int .i64 im]] w fun e w' => e = .returned (.bool (goodB ⟨2, u, v, a, b, c, op, im⟩)) ∧ Below w.heap.size w w' := by
  go_enter Try.func27, Try.ntmps27
  go_wp2_with (first | (go_at_call 39; refine (in_calls _ _ _ _).mono ?_; rintro e w' ⟨rfl, rfl⟩) | (go_at_call 40; refine (rfits_any _ _ (by omega) (by omega) _).mono ?_; rintro e w' ⟨rfl, rfl⟩))
  all_goals go_ret
  all_goals refine ⟨ret_b ?_, ?_⟩
  all_goals first | (repeat (first | exact Below.refl _ _ | apply below_drew1 | refine Below.alloc ?_ (by simp) _)) | skip
  all_goals rw [Bool.eq_iff_iff]
  all_goals simp only [goodB, inR, fitsB, decide_eq_true_eq] at *
  all_goals (simp only [Good]; cases u <;> cases v <;> simp at * <;> omega)
set_option maxRecDepth 100000 in
set_option maxHeartbeats 4000000 in
theorem rgood_jump (v : Bool) (a b c op im : Int) (w : World) :
    Calls Try.prog 27 #[.agg #[.int .i64 3, .bool true, .bool v, .int .i64 a, .int .i64 b, .int .i64 c, .int .i64 op, .int .i64 im]] w fun e w' => e = .returned (.bool (goodB ⟨3, true, v, a, b, c, op, im⟩)) ∧ Below w.heap.size w w' := by
  go_enter Try.func27, Try.ntmps27
  go_wp2_with (first | (go_at_call 39; refine (in_calls _ _ _ _).mono ?_; rintro e w' ⟨rfl, rfl⟩) | (go_at_call 40; refine (rfits_any _ _ (by omega) (by omega) _).mono ?_; rintro e w' ⟨rfl, rfl⟩))
  all_goals go_ret
  all_goals refine ⟨ret_b ?_, ?_⟩
  all_goals first | (repeat (first | exact Below.refl _ _ | apply below_drew1 | refine Below.alloc ?_ (by simp) _)) | skip
  all_goals rw [Bool.eq_iff_iff]
  all_goals simp only [goodB, inR, fitsB, decide_eq_true_eq] at *
  all_goals (simp only [Good]; cases v <;> simp at * <;> omega)
set_option maxRecDepth 100000 in
set_option maxHeartbeats 4000000 in
theorem rgood_back (v : Bool) (a b c op im : Int) (w : World) :
    Calls Try.prog 27 #[.agg #[.int .i64 3, .bool false, .bool v, .int .i64 a, .int .i64 b, .int .i64 c, .int .i64 op, .int .i64 im]] w fun e w' => e = .returned (.bool (goodB ⟨3, false, v, a, b, c, op, im⟩)) ∧ Below w.heap.size w w' := by
  go_enter Try.func27, Try.ntmps27
  go_wp2_with (first | (go_at_call 39; refine (in_calls _ _ _ _).mono ?_; rintro e w' ⟨rfl, rfl⟩) | (go_at_call 40; refine (rfits_any _ _ (by omega) (by omega) _).mono ?_; rintro e w' ⟨rfl, rfl⟩))
  all_goals go_ret
  all_goals refine ⟨ret_b ?_, ?_⟩
  all_goals first | (repeat (first | exact Below.refl _ _ | apply below_drew1 | refine Below.alloc ?_ (by simp) _)) | skip
  all_goals rw [Bool.eq_iff_iff]
  all_goals simp only [goodB, inR, decide_eq_true_eq] at *
  all_goals (simp only [Good]; cases v <;> simp at * <;> omega)
set_option maxRecDepth 100000 in
set_option maxHeartbeats 4000000 in
theorem rgood_else (form : Int) (u v : Bool) (a b c op im : Int) (h0 : (form == 0) = false) (h1 : (form == 1) = false) (h2 : (form == 2) = false) (h3 : (form == 3) = false) (w : World) :
    Calls Try.prog 27 #[.agg #[.int .i64 form, .bool u, .bool v, .int .i64 a, .int .i64 b, .int .i64 c, .int .i64 op, .int .i64 im]] w fun e w' => e = .returned (.bool (goodB ⟨form, u, v, a, b, c, op, im⟩)) ∧ Below w.heap.size w w' := by
  have hn : false = goodB ⟨form, u, v, a, b, c, op, im⟩ := by
    symm
    refine decide_eq_false ?_
    simp only [Good]
    simp at h0 h1 h2 h3
    omega
  have HN := Lib.hid hn
  clear hn
  go_enter Try.func27, Try.ntmps27
  go_wp2_with (first | (go_at_call 39; refine (in_calls _ _ _ _).mono ?_; rintro e w' ⟨rfl, rfl⟩) | (go_at_call 40; refine (rfits_any _ _ (by omega) (by omega) _).mono ?_; rintro e w' ⟨rfl, rfl⟩))
  all_goals go_ret
  all_goals refine ⟨ret_b ?_, ?_⟩
  all_goals first | exact HN.out | (repeat (first | exact Below.refl _ _ | apply below_drew1 | refine Below.alloc ?_ (by simp) _))
theorem rgood_calls (x : Ins) (w : World) : Calls Try.prog 27 #[x.val] w fun e w' => e = .returned (.bool (goodB x)) ∧ Below w.heap.size w w' := by
  obtain ⟨form, u, v, a, b, c, op, im⟩ := x
  by_cases h0 : form = 0
  · subst h0; exact rgood_reg u v a b c op im w
  · by_cases h1 : form = 1
    · subst h1; exact rgood_im u v a b c op im w
    · by_cases h2 : form = 2
      · subst h2; exact rgood_mem u v a b c op im w
      · by_cases h3 : form = 3
        · subst h3
          cases u
          · exact rgood_back v a b c op im w
          · exact rgood_jump v a b c op im w
        · exact rgood_else form u v a b c op im (by simp [h0]) (by simp [h1]) (by simp [h2]) (by simp [h3]) w
/-- Bits of a word, as whole numbers. -/
def putZ (x lo n v : Int) : Int := (putN x.toNat lo.toNat n.toNat v.toNat : Int)
theorem rput_any (x lo n v : Int) (x0 : 0 ≤ x) (x1 : x < 4294967296) (l0 : 0 ≤ lo) (n1 : 1 ≤ n) (ln : lo + n ≤ 32) (v0 : 0 ≤ v) (v1 : v < 4294967296) (w : World) :
    Calls Try.prog 28 #[.int .u32 x, .int .i64 lo, .int .i64 n, .int .u32 v] w fun e w' => ∃ y : Int, e = .returned (.int .u32 y) ∧ Hid (y = putZ x lo n v) ∧ 0 ≤ y ∧ y < 4294967296 ∧ ∃ k, w' = w.drewN k := by
  obtain ⟨x, rfl⟩ := Int.eq_ofNat_of_zero_le x0
  obtain ⟨lo, rfl⟩ := Int.eq_ofNat_of_zero_le l0
  obtain ⟨n, rfl⟩ := Int.eq_ofNat_of_zero_le (show 0 ≤ n by omega)
  obtain ⟨v, rfl⟩ := Int.eq_ofNat_of_zero_le v0
  have h := putN_lt x lo n v (by omega) (by omega)
  exact (rput_yes x lo n v x1 v1 (by omega) (by omega) w).mono fun e w' ⟨he, hw⟩ => ⟨_, he, rfl, by omega, by omega, hw⟩
/-- What is put under a number's upper bits. -/
theorem putZ_top (x lo n v P Q : Int) (hP : P = ((2 ^ lo.toNat : Nat) : Int)) (hQ : Q = ((2 ^ n.toNat : Nat) : Int)) (x0 : 0 ≤ x) (v0 : 0 ≤ v) (hx : x % (P * Q) = 0) : putZ x lo n v = x + v % Q * P := by
  obtain ⟨x, rfl⟩ := Int.eq_ofNat_of_zero_le x0
  obtain ⟨v, rfl⟩ := Int.eq_ofNat_of_zero_le v0
  subst hP hQ
  have h := cut3 x lo.toNat n.toNat
  have e : x % (2 ^ lo.toNat * 2 ^ n.toNat) = 0 := by exact_mod_cast hx
  have d : x % (2 ^ lo.toNat * 2 ^ n.toNat) = x % 2 ^ lo.toNat + 2 ^ lo.toNat * (x / 2 ^ lo.toNat % 2 ^ n.toNat) := Nat.mod_mul
  have p1 := Nat.two_pow_pos lo.toNat
  have l0 : x % 2 ^ lo.toNat = 0 := by omega
  have g0 : x / 2 ^ lo.toNat % 2 ^ n.toNat = 0 := by
    have : 2 ^ lo.toNat * (x / 2 ^ lo.toNat % 2 ^ n.toNat) = 0 := by omega
    rcases Nat.mul_eq_zero.1 this with h | h <;> omega
  unfold putZ putN
  simp only [Int.toNat_natCast]
  rw [l0] at h ⊢
  rw [g0] at h
  rw [Nat.mul_add]
  rw [Nat.mul_add, Nat.mul_zero] at h
  have e2 : (v : Int) % ((2 ^ n.toNat : Nat) : Int) * ((2 ^ lo.toNat : Nat) : Int) = ((2 ^ lo.toNat * (v % 2 ^ n.toNat) : Nat) : Int) := by rw [Int.natCast_mul, Int.natCast_emod, Int.mul_comm]
  rw [e2]
  omega
theorem rbit_calls (b : Bool) (w : World) : Calls Try.prog 29 #[.bool b] w fun e w' => e = .returned (.int .u32 (F b 1)) ∧ w = w' := by
  cases b
  · go_enter Try.func29, Try.ntmps29
    go_wp2
    go_ret
    exact ⟨rfl, rfl⟩
  · go_enter Try.func29, Try.ntmps29
    go_wp2
    go_ret
    exact ⟨rfl, rfl⟩
theorem F_bd (b : Bool) : 0 ≤ F b 1 ∧ F b 1 ≤ 1 := by cases b <;> simp [F]
theorem F_mul (b : Bool) (k : Int) : F b k = F b 1 * k := by cases b <;> simp [F]
set_option maxRecDepth 100000 in
set_option maxHeartbeats 1000000 in
theorem renc_reg (u v : Bool) (a b c op im : Int) (w : World) (hg : goodB ⟨0, u, v, a, b, c, op, im⟩ = true) :
    Calls Try.prog 18 #[.agg #[.int .i64 0, .bool u, .bool v, .int .i64 a, .int .i64 b, .int .i64 c, .int .i64 op, .int .i64 im]] w fun e w' => e = .returned (.tuple #[.int .u32 (encZ ⟨0, u, v, a, b, c, op, im⟩), .int .i64 0]) ∧ Below w.heap.size w w' := by
  obtain ⟨ha, hb, hc, ho, hr⟩ := of_decide_eq_true hg
  simp at ha hb hc ho hr
  have G := Lib.hid (fun w => rgood_calls ⟨0, u, v, a, b, c, op, im⟩ w)
  rw [hg] at G
  clear hg
  obtain rfl : im = 0 := by omega
  obtain ⟨a1, a2⟩ := ha
  obtain ⟨b1, b2⟩ := hb
  obtain ⟨c1, c2⟩ := hc
  obtain ⟨o1, o2⟩ := ho
  clear hr
  obtain ⟨u1, u2⟩ := F_bd u
  obtain ⟨v1, v2⟩ := F_bd v
  go_enter Try.func18, Try.ntmps18
  go_wp2_with (first | (go_at_call 27; refine (G.out _).mono ?_; rintro e w1 ⟨rfl, hb1⟩; obtain ⟨k0, k1, k2, k3, k4, k5, k6, k7⟩ := boxed hb1; have HB := Lib.hid hb1; clear hb1) | (go_at_call 29; refine (rbit_calls _ _).mono ?_; rintro e w' ⟨rfl, rfl⟩) | (go_at_call 30; refine (rword_calls _ (by omega) (by omega) _).mono ?_; rintro e w' ⟨rfl, rfl⟩) | (go_at_call 28; refine (rput_any _ _ _ _ (by omega) (by omega) (by omega) (by omega) (by omega) (by omega) (by omega) _).mono ?_; rintro e w' ⟨y, rfl, hy, y0, y1, nd, rfl⟩))
  go_ret2
  rename_i z1 g1 _ _ _ z2 g2 _ _ _ z3 g3 _ _ _ z4 g4 _ _ _ z5 g5 _ _ _ z6 g6 _ _ _
  refine ⟨ret_t ?_, below_box HB.out _⟩
  have fu := F_mul u 536870912
  have fv := F_mul v 268435456
  have e1 := g1.out
  rw [putZ_top 0 30 2 _ 1073741824 4 (by rfl) (by rfl) (by omega) (by omega) (by omega)] at e1
  have e2 := g2.out
  rw [putZ_top z1 29 1 _ 536870912 2 (by rfl) (by rfl) (by omega) (by omega) (by omega)] at e2
  have e3 := g3.out
  rw [putZ_top z2 28 1 _ 268435456 2 (by rfl) (by rfl) (by omega) (by omega) (by omega)] at e3
  have e4 := g4.out
  rw [putZ_top z3 24 4 _ 16777216 16 (by rfl) (by rfl) (by omega) (by omega) (by omega)] at e4
  have e5 := g5.out
  rw [putZ_top z4 20 4 _ 1048576 16 (by rfl) (by rfl) (by omega) (by omega) (by omega)] at e5
  have e6 := g6.out
  rw [putZ_top z5 16 4 _ 65536 16 (by rfl) (by rfl) (by omega) (by omega) (by omega)] at e6
  have e7 := hy.out
  rw [putZ_top z6 0 4 _ 1 16 (by rfl) (by rfl) (by omega) (by omega) (by omega)] at e7
  simp only [encZ] at *
  rw [if_neg (by decide), if_neg (by decide)]
  omega
set_option maxRecDepth 100000 in
set_option maxHeartbeats 1000000 in
theorem renc_im (u v : Bool) (a b c op im : Int) (w : World) (hg : goodB ⟨1, u, v, a, b, c, op, im⟩ = true) :
    Calls Try.prog 18 #[.agg #[.int .i64 1, .bool u, .bool v, .int .i64 a, .int .i64 b, .int .i64 c, .int .i64 op, .int .i64 im]] w fun e w' => e = .returned (.tuple #[.int .u32 (encZ ⟨1, u, v, a, b, c, op, im⟩), .int .i64 0]) ∧ Below w.heap.size w w' := by
  obtain ⟨ha, hb, hc, ho, hr⟩ := of_decide_eq_true hg
  simp at ha hb hc ho hr
  have G := Lib.hid (fun w => rgood_calls ⟨1, u, v, a, b, c, op, im⟩ w)
  rw [hg] at G
  clear hg
  obtain rfl : c = 0 := by omega
  obtain ⟨r1, r2⟩ : 0 ≤ im ∧ im < 65536 := by omega
  obtain ⟨a1, a2⟩ := ha
  obtain ⟨b1, b2⟩ := hb
  obtain ⟨o1, o2⟩ := ho
  clear hr hc
  obtain ⟨u1, u2⟩ := F_bd u
  obtain ⟨v1, v2⟩ := F_bd v
  go_enter Try.func18, Try.ntmps18
  go_wp2_with (first | (go_at_call 27; refine (G.out _).mono ?_; rintro e w1 ⟨rfl, hb1⟩; obtain ⟨k0, k1, k2, k3, k4, k5, k6, k7⟩ := boxed hb1; have HB := Lib.hid hb1; clear hb1) | (go_at_call 29; refine (rbit_calls _ _).mono ?_; rintro e w' ⟨rfl, rfl⟩) | (go_at_call 30; refine (rword_calls _ (by omega) (by omega) _).mono ?_; rintro e w' ⟨rfl, rfl⟩) | (go_at_call 28; refine (rput_any _ _ _ _ (by omega) (by omega) (by omega) (by omega) (by omega) (by omega) (by omega) _).mono ?_; rintro e w' ⟨y, rfl, hy, y0, y1, nd, rfl⟩))
  go_ret2
  rename_i z1 g1 _ _ _ z2 g2 _ _ _ z3 g3 _ _ _ z4 g4 _ _ _ z5 g5 _ _ _ z6 g6 _ _ _
  refine ⟨ret_t ?_, below_box HB.out _⟩
  have fu := F_mul u 536870912
  have fv := F_mul v 268435456
  have e1 := g1.out
  rw [putZ_top 0 30 2 _ 1073741824 4 (by rfl) (by rfl) (by omega) (by omega) (by omega)] at e1
  have e2 := g2.out
  rw [putZ_top z1 29 1 _ 536870912 2 (by rfl) (by rfl) (by omega) (by omega) (by omega)] at e2
  have e3 := g3.out
  rw [putZ_top z2 28 1 _ 268435456 2 (by rfl) (by rfl) (by omega) (by omega) (by omega)] at e3
  have e4 := g4.out
  rw [putZ_top z3 24 4 _ 16777216 16 (by rfl) (by rfl) (by omega) (by omega) (by omega)] at e4
  have e5 := g5.out
  rw [putZ_top z4 20 4 _ 1048576 16 (by rfl) (by rfl) (by omega) (by omega) (by omega)] at e5
  have e6 := g6.out
  rw [putZ_top z5 16 4 _ 65536 16 (by rfl) (by rfl) (by omega) (by omega) (by omega)] at e6
  have e7 := hy.out
  rw [putZ_top z6 0 16 _ 1 65536 (by rfl) (by rfl) (by omega) (by omega) (by omega)] at e7
  simp only [encZ] at *
  rw [if_neg (by decide), if_neg (by decide)]
  omega
set_option maxRecDepth 100000 in
set_option maxHeartbeats 1000000 in
theorem renc_mem (u v : Bool) (a b c op im : Int) (w : World) (hg : goodB ⟨2, u, v, a, b, c, op, im⟩ = true) :
    Calls Try.prog 18 #[.agg #[.int .i64 2, .bool u, .bool v, .int .i64 a, .int .i64 b, .int .i64 c, .int .i64 op, .int .i64 im]] w fun e w' => e = .returned (.tuple #[.int .u32 (encZ ⟨2, u, v, a, b, c, op, im⟩), .int .i64 0]) ∧ Below w.heap.size w w' := by
  obtain ⟨ha, hb, hc, ho, hr⟩ := of_decide_eq_true hg
  simp at ha hb hc ho hr
  have G := Lib.hid (fun w => rgood_calls ⟨2, u, v, a, b, c, op, im⟩ w)
  rw [hg] at G
  clear hg
  obtain rfl : c = 0 := by omega
  obtain rfl : op = 0 := by omega
  obtain ⟨r1, r2⟩ : -524288 ≤ im ∧ im < 524288 := by omega
  obtain ⟨a1, a2⟩ := ha
  obtain ⟨b1, b2⟩ := hb
  clear hr hc ho
  obtain ⟨u1, u2⟩ := F_bd u
  obtain ⟨v1, v2⟩ := F_bd v
  go_enter Try.func18, Try.ntmps18
  go_wp2_with (first | (go_at_call 27; refine (G.out _).mono ?_; rintro e w1 ⟨rfl, hb1⟩; obtain ⟨k0, k1, k2, k3, k4, k5, k6, k7⟩ := boxed hb1; have HB := Lib.hid hb1; clear hb1) | (go_at_call 29; refine (rbit_calls _ _).mono ?_; rintro e w' ⟨rfl, rfl⟩) | (go_at_call 30; refine (rword_calls _ (by omega) (by omega) _).mono ?_; rintro e w' ⟨rfl, rfl⟩) | (go_at_call 28; refine (rput_any _ _ _ _ (by omega) (by omega) (by omega) (by omega) (by omega) (by omega) (by omega) _).mono ?_; rintro e w' ⟨y, rfl, hy, y0, y1, nd, rfl⟩))
  go_ret2
  rename_i z1 g1 _ _ _ z2 g2 _ _ _ z3 g3 _ _ _ z4 g4 _ _ _ z5 g5 _ _ _
  refine ⟨ret_t ?_, below_box HB.out _⟩
  have fu := F_mul u 536870912
  have fv := F_mul v 268435456
  have e1 := g1.out
  rw [putZ_top 0 30 2 _ 1073741824 4 (by rfl) (by rfl) (by omega) (by omega) (by omega)] at e1
  have e2 := g2.out
  rw [putZ_top z1 29 1 _ 536870912 2 (by rfl) (by rfl) (by omega) (by omega) (by omega)] at e2
  have e3 := g3.out
  rw [putZ_top z2 28 1 _ 268435456 2 (by rfl) (by rfl) (by omega) (by omega) (by omega)] at e3
  have e4 := g4.out
  rw [putZ_top z3 24 4 _ 16777216 16 (by rfl) (by rfl) (by omega) (by omega) (by omega)] at e4
  have e5 := g5.out
  rw [putZ_top z4 20 4 _ 1048576 16 (by rfl) (by rfl) (by omega) (by omega) (by omega)] at e5
  have e6 := hy.out
  rw [putZ_top z5 0 20 _ 1 1048576 (by rfl) (by rfl) (by omega) (by omega) (by omega)] at e6
  simp only [encZ] at *
  rw [if_neg (by decide), if_pos trivial]
  omega
set_option maxRecDepth 100000 in
set_option maxHeartbeats 1000000 in
theorem renc_jump (v : Bool) (a b c op im : Int) (w : World) (hg : goodB ⟨3, true, v, a, b, c, op, im⟩ = true) :
    Calls Try.prog 18 #[.agg #[.int .i64 3, .bool true, .bool v, .int .i64 a, .int .i64 b, .int .i64 c, .int .i64 op, .int .i64 im]] w fun e w' => e = .returned (.tuple #[.int .u32 (encZ ⟨3, true, v, a, b, c, op, im⟩), .int .i64 0]) ∧ Below w.heap.size w w' := by
  obtain ⟨ha, hb, hc, ho, hr⟩ := of_decide_eq_true hg
  simp at ha hb hc ho hr
  have G := Lib.hid (fun w => rgood_calls ⟨3, true, v, a, b, c, op, im⟩ w)
  rw [hg] at G
  clear hg
  obtain rfl : b = 0 := by omega
  obtain rfl : c = 0 := by omega
  obtain rfl : op = 0 := by omega
  obtain ⟨r1, r2⟩ : -8388608 ≤ im ∧ im < 8388608 := by omega
  obtain ⟨a1, a2⟩ := ha
  clear hr hc ho hb
  obtain ⟨u1, u2⟩ := F_bd true
  obtain ⟨v1, v2⟩ := F_bd v
  go_enter Try.func18, Try.ntmps18
  go_wp2_with (first | (go_at_call 27; refine (G.out _).mono ?_; rintro e w1 ⟨rfl, hb1⟩; obtain ⟨k0, k1, k2, k3, k4, k5, k6, k7⟩ := boxed hb1; have HB := Lib.hid hb1; clear hb1) | (go_at_call 29; refine (rbit_calls _ _).mono ?_; rintro e w' ⟨rfl, rfl⟩) | (go_at_call 30; refine (rword_calls _ (by omega) (by omega) _).mono ?_; rintro e w' ⟨rfl, rfl⟩) | (go_at_call 28; refine (rput_any _ _ _ _ (by omega) (by omega) (by omega) (by omega) (by omega) (by omega) (by omega) _).mono ?_; rintro e w' ⟨y, rfl, hy, y0, y1, nd, rfl⟩))
  go_ret2
  rename_i z1 g1 _ _ _ z2 g2 _ _ _ z3 g3 _ _ _ z4 g4 _ _ _
  refine ⟨ret_t ?_, below_box HB.out _⟩
  have fu := F_mul true 536870912
  have fv := F_mul v 268435456
  have e1 := g1.out
  rw [putZ_top 0 30 2 _ 1073741824 4 (by rfl) (by rfl) (by omega) (by omega) (by omega)] at e1
  have e2 := g2.out
  rw [putZ_top z1 29 1 _ 536870912 2 (by rfl) (by rfl) (by omega) (by omega) (by omega)] at e2
  have e3 := g3.out
  rw [putZ_top z2 28 1 _ 268435456 2 (by rfl) (by rfl) (by omega) (by omega) (by omega)] at e3
  have e4 := g4.out
  rw [putZ_top z3 24 4 _ 16777216 16 (by rfl) (by rfl) (by omega) (by omega) (by omega)] at e4
  have e5 := hy.out
  rw [putZ_top z4 0 24 _ 1 16777216 (by rfl) (by rfl) (by omega) (by omega) (by omega)] at e5
  simp only [encZ] at *
  rw [if_pos trivial]
  omega
set_option maxRecDepth 100000 in
set_option maxHeartbeats 1000000 in
theorem renc_back (v : Bool) (a b c op im : Int) (w : World) (hg : goodB ⟨3, false, v, a, b, c, op, im⟩ = true) :
    Calls Try.prog 18 #[.agg #[.int .i64 3, .bool false, .bool v, .int .i64 a, .int .i64 b, .int .i64 c, .int .i64 op, .int .i64 im]] w fun e w' => e = .returned (.tuple #[.int .u32 (encZ ⟨3, false, v, a, b, c, op, im⟩), .int .i64 0]) ∧ Below w.heap.size w w' := by
  obtain ⟨ha, hb, hc, ho, hr⟩ := of_decide_eq_true hg
  simp at ha hb hc ho hr
  have G := Lib.hid (fun w => rgood_calls ⟨3, false, v, a, b, c, op, im⟩ w)
  rw [hg] at G
  clear hg
  obtain rfl : b = 0 := by omega
  obtain rfl : op = 0 := by omega
  obtain rfl : im = 0 := by omega
  obtain ⟨a1, a2⟩ := ha
  obtain ⟨c1, c2⟩ := hc
  clear hr ho hb
  obtain ⟨u1, u2⟩ := F_bd false
  obtain ⟨v1, v2⟩ := F_bd v
  go_enter Try.func18, Try.ntmps18
  go_wp2_with (first | (go_at_call 27; refine (G.out _).mono ?_; rintro e w1 ⟨rfl, hb1⟩; obtain ⟨k0, k1, k2, k3, k4, k5, k6, k7⟩ := boxed hb1; have HB := Lib.hid hb1; clear hb1) | (go_at_call 29; refine (rbit_calls _ _).mono ?_; rintro e w' ⟨rfl, rfl⟩) | (go_at_call 30; refine (rword_calls _ (by omega) (by omega) _).mono ?_; rintro e w' ⟨rfl, rfl⟩) | (go_at_call 28; refine (rput_any _ _ _ _ (by omega) (by omega) (by omega) (by omega) (by omega) (by omega) (by omega) _).mono ?_; rintro e w' ⟨y, rfl, hy, y0, y1, nd, rfl⟩))
  go_ret2
  rename_i z1 g1 _ _ _ z2 g2 _ _ _ z3 g3 _ _ _ z4 g4 _ _ _
  refine ⟨ret_t ?_, below_box HB.out _⟩
  have fu := F_mul false 536870912
  have fv := F_mul v 268435456
  have e1 := g1.out
  rw [putZ_top 0 30 2 _ 1073741824 4 (by rfl) (by rfl) (by omega) (by omega) (by omega)] at e1
  have e2 := g2.out
  rw [putZ_top z1 29 1 _ 536870912 2 (by rfl) (by rfl) (by omega) (by omega) (by omega)] at e2
  have e3 := g3.out
  rw [putZ_top z2 28 1 _ 268435456 2 (by rfl) (by rfl) (by omega) (by omega) (by omega)] at e3
  have e4 := g4.out
  rw [putZ_top z3 24 4 _ 16777216 16 (by rfl) (by rfl) (by omega) (by omega) (by omega)] at e4
  have e5 := hy.out
  rw [putZ_top z4 0 4 _ 1 16 (by rfl) (by rfl) (by omega) (by omega) (by omega)] at e5
  simp only [encZ] at *
  rw [if_pos trivial]
  omega
end Go.Proofs.Ytjlngglkljjgmaa
