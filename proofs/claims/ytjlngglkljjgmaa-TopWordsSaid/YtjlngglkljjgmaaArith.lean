/- Plain facts about words of 32 bits. -/
import Derived.Laws.BitsLemmas
import Derived.OpenShut
namespace Go.Proofs.Ytjlngglkljjgmaa
open Go.RowKit

theorem and_u32 (x y : Nat) (hx : x < 4294967296) (hy : y < 4294967296) : Go.bits .and .u32 (x : Int) (y : Int) = ((x &&& y : Nat) : Int) :=
  (bits_nat .u32 32 (by decide) (fun n h0 h1 => by rw [IntKind.wrap_u32]; omega) x y (by omega) (by omega)).1
theorem or_u32 (x y : Nat) (hx : x < 4294967296) (hy : y < 4294967296) : Go.bits .or .u32 (x : Int) (y : Int) = ((x ||| y : Nat) : Int) :=
  (bits_nat .u32 32 (by decide) (fun n h0 h1 => by rw [IntKind.wrap_u32]; omega) x y (by omega) (by omega)).2
theorem and_u64 (x y : Nat) (hx : x < 18446744073709551616) (hy : y < 18446744073709551616) : Go.bits .and .u64 (x : Int) (y : Int) = ((x &&& y : Nat) : Int) :=
  (bits_nat .u64 64 (by decide) (fun n h0 h1 => by simp [IntKind.wrap, IntKind.bits, IntKind.signed]; omega) x y (by omega) (by omega)).1
theorem andNot_u32 (x y : Nat) (hx : x < 4294967296) (hy : y < 4294967296) : Go.bits .andNot .u32 (x : Int) (y : Int) = ((x &&& (4294967295 - y) : Nat) : Int) := by
  have e : Go.bits .andNot .u32 (x : Int) (y : Int) = IntKind.u32.wrap (((BitVec.ofInt 32 x &&& ~~~ BitVec.ofInt 32 y).toNat : Nat) : Int) := rfl
  rw [e, IntKind.wrap_u32]
  simp only [BitVec.ofInt_natCast, BitVec.toNat_and, BitVec.toNat_not, BitVec.toNat_ofNat]
  have h1 : x % 2 ^ 32 = x := by omega
  have h2 : y % 2 ^ 32 = y := by omega
  rw [h1, h2]
  have h3 : x &&& (2 ^ 32 - 1 - y) < 2 ^ 32 := Nat.and_lt_two_pow _ (by omega)
  rw [show (2 ^ 32 - 1 - y) = 4294967295 - y by omega] at *
  omega
theorem xor_u32 (x y : Nat) (hx : x < 4294967296) (hy : y < 4294967296) : Go.bits .xor .u32 (x : Int) (y : Int) = ((x ^^^ y : Nat) : Int) := by
  have e : Go.bits .xor .u32 (x : Int) (y : Int) = IntKind.u32.wrap (((BitVec.ofInt 32 x ^^^ BitVec.ofInt 32 y).toNat : Nat) : Int) := rfl
  rw [e, IntKind.wrap_u32]
  simp only [BitVec.ofInt_natCast, BitVec.toNat_xor, BitVec.toNat_ofNat]
  have h1 : x % 2 ^ 32 = x := by omega
  have h2 : y % 2 ^ 32 = y := by omega
  rw [h1, h2]
  have h3 : x ^^^ y < 2 ^ 32 := Nat.xor_lt_two_pow (by omega) (by omega)
  omega
/-- The lower bits. -/
theorem and_mask (x n : Nat) : x &&& (2 ^ n - 1) = x % 2 ^ n := Nat.and_two_pow_sub_one_eq_mod x n
theorem pow_le32 (n : Nat) (h : n ≤ 32) : 2 ^ n ≤ 4294967296 := by
  have := Nat.pow_le_pow_right (n := 2) (by decide) h
  simpa using this
theorem pow_split (lo n : Nat) (h : lo + n ≤ 32) : 2 ^ lo * 2 ^ n * 2 ^ (32 - lo - n) = 4294967296 := by
  rw [← Nat.pow_add, ← Nat.pow_add, show lo + n + (32 - lo - n) = 32 by omega]
/-- A number, cut in three. -/
theorem cut3 (x lo n : Nat) : x = 2 ^ lo * (2 ^ n * (x / 2 ^ lo / 2 ^ n) + x / 2 ^ lo % 2 ^ n) + x % 2 ^ lo := by
  have h1 := Nat.div_add_mod x (2 ^ lo)
  have h2 := Nat.div_add_mod (x / 2 ^ lo) (2 ^ n)
  rw [h2, h1]
theorem testBit_cut3 (a g l lo n j : Nat) (hl : l < 2 ^ lo) (hg : g < 2 ^ n) :
    (2 ^ lo * (2 ^ n * a + g) + l).testBit j = if j < lo then l.testBit j else if j < lo + n then g.testBit (j - lo) else a.testBit (j - lo - n) := by
  rw [Nat.testBit_two_pow_mul_add _ hl, Nat.testBit_two_pow_mul_add _ hg]
  by_cases h : j < lo
  · simp [h]
  · simp only [h, if_false]
    by_cases h2 : j - lo < n
    · rw [if_pos h2, if_pos (by omega)]
    · rw [if_neg h2, if_neg (by omega)]
theorem testBit_maskAt (lo n j : Nat) : (2 ^ lo * (2 ^ n - 1)).testBit j = decide (lo ≤ j ∧ j < lo + n) := by
  rw [Nat.testBit_two_pow_mul, Nat.testBit_two_pow_sub_one]
  by_cases h : lo ≤ j
  · simp [h]; omega
  · simp [h]
theorem testBit_not32 (m j : Nat) (hm : m < 4294967296) : (4294967295 - m).testBit j = (decide (j < 32) && !m.testBit j) := by
  have := Nat.testBit_two_pow_sub_succ (n := 32) (x := m) (by omega) j
  rw [show 2 ^ 32 - (m + 1) = 4294967295 - m by omega] at this
  exact this
theorem maskAt_lt (lo n : Nat) (hn : lo + n ≤ 32) : 2 ^ lo * (2 ^ n - 1) < 4294967296 := by
  have h1 := pow_split lo n hn
  have h2 := Nat.two_pow_pos (32 - lo - n)
  have h3 := Nat.two_pow_pos lo
  have h4 := Nat.two_pow_pos n
  have h5 : 2 ^ lo * (2 ^ n - 1) < 2 ^ lo * 2 ^ n := Nat.mul_lt_mul_of_pos_left (by omega) h3
  have h6 : 2 ^ lo * 2 ^ n * 1 ≤ 2 ^ lo * 2 ^ n * 2 ^ (32 - lo - n) := Nat.mul_le_mul_left _ h2
  omega
theorem pow_le31 (n : Nat) (h : n ≤ 31) : 2 ^ n ≤ 2147483648 := by
  have := Nat.pow_le_pow_right (n := 2) (by decide) h
  simpa using this
/-- The number of the lower n bits in two's complement. -/
def ext (v n : Nat) : Int := if 2 ^ (n - 1) ≤ v % 2 ^ n then ((v % 2 ^ n : Nat) : Int) - ((2 ^ n : Nat) : Int) else ((v % 2 ^ n : Nat) : Int)
theorem ext_bd (v n : Nat) (h1 : 1 ≤ n) (h2 : n ≤ 32) : -2147483648 ≤ ext v n ∧ ext v n < 2147483648 := by
  unfold ext
  have h3 := pow_le31 (n - 1) (by omega)
  have h4 : v % 2 ^ n < 2 ^ n := Nat.mod_lt _ (Nat.two_pow_pos n)
  have h5 : 2 ^ n = 2 * 2 ^ (n - 1) := by rw [← Nat.pow_succ']; congr 1; omega
  generalize v % 2 ^ n = r at *
  generalize 2 ^ (n - 1) = q at *
  split <;> omega
theorem sext (v n : Nat) (h1 : 1 ≤ n) (h2 : n ≤ 32) : wrap32 ((v * 2 ^ (32 - n) % 4294967296 : Nat) : Int) / 2 ^ (32 - n) = ext v n := by
  have h4 : v % 2 ^ n < 2 ^ n := Nat.mod_lt _ (Nat.two_pow_pos n)
  have h5 : 2 ^ n = 2 * 2 ^ (n - 1) := by rw [← Nat.pow_succ']; congr 1; omega
  have h6 : 2 ^ (32 - n) * 2 ^ n = 4294967296 := by rw [← Nat.pow_add, show 32 - n + n = 32 by omega]
  have h7 : 2 ^ (32 - n) * 2 ^ (n - 1) = 2147483648 := by rw [← Nat.pow_add, show 32 - n + (n - 1) = 31 by omega]
  have h8 : v * 2 ^ (32 - n) % 4294967296 = 2 ^ (32 - n) * (v % 2 ^ n) := by rw [← h6, Nat.mul_comm, Nat.mul_mod_mul_left]
  have h9 : 0 < 2 ^ (32 - n) := Nat.two_pow_pos _
  rw [h8]
  unfold ext wrap32
  have h10 : ((2 : Int) ^ (32 - n)) = ((2 ^ (32 - n) : Nat) : Int) := by simp
  rw [h10]
  generalize v % 2 ^ n = r at *
  generalize 2 ^ (32 - n) = p at *
  by_cases c : 2 ^ (n - 1) ≤ r
  · rw [if_pos c]
    have g1 : p * 2 ^ (n - 1) ≤ p * r := Nat.mul_le_mul_left _ c
    have g2 : p * r < p * 2 ^ n := Nat.mul_lt_mul_of_pos_left h4 h9
    have e : (((p * r : Nat) : Int) + 2147483648) % 4294967296 - 2147483648 = ((p : Nat) : Int) * ((r : Int) - ((2 ^ n : Nat) : Int)) := by
      rw [Int.mul_sub, ← Int.natCast_mul, ← Int.natCast_mul, h6]; omega
    rw [e, Int.mul_ediv_cancel_left _ (by omega)]
  · rw [if_neg c]
    have g1 : p * r < p * 2 ^ (n - 1) := Nat.mul_lt_mul_of_pos_left (by omega) h9
    have e : (((p * r : Nat) : Int) + 2147483648) % 4294967296 - 2147483648 = ((p : Nat) : Int) * (r : Int) := by
      rw [← Int.natCast_mul]; omega
    rw [e, Int.mul_ediv_cancel_left _ (by omega)]
/-- Some bits are put. -/
theorem put_bits (x v lo n : Nat) (hx : x < 4294967296) (hn : lo + n ≤ 32) :
    ((x &&& (4294967295 - 2 ^ lo * (2 ^ n - 1))) ||| ((v * 2 ^ lo % 4294967296) &&& (2 ^ lo * (2 ^ n - 1)))) = 2 ^ lo * (2 ^ n * (x / 2 ^ lo / 2 ^ n) + v % 2 ^ n) + x % 2 ^ lo := by
  have hm : 2 ^ lo * (2 ^ n - 1) < 4294967296 := by
    have h1 := pow_split lo n hn
    have h2 := Nat.two_pow_pos (32 - lo - n)
    have h3 := Nat.two_pow_pos lo
    have h4 := Nat.two_pow_pos n
    have h5 : 2 ^ lo * (2 ^ n - 1) < 2 ^ lo * 2 ^ n := Nat.mul_lt_mul_of_pos_left (by omega) h3
    have h6 : 2 ^ lo * 2 ^ n * 1 ≤ 2 ^ lo * 2 ^ n * 2 ^ (32 - lo - n) := Nat.mul_le_mul_left _ h2
    omega
  apply Nat.eq_of_testBit_eq
  intro j
  rw [testBit_cut3 _ _ _ _ _ _ (Nat.mod_lt _ (Nat.two_pow_pos _)) (Nat.mod_lt _ (Nat.two_pow_pos _))]
  rw [Nat.testBit_or, Nat.testBit_and, Nat.testBit_and, testBit_not32 _ _ hm, testBit_maskAt]
  rw [show (4294967296 : Nat) = 2 ^ 32 from rfl, Nat.testBit_mod_two_pow, Nat.testBit_mul_two_pow, Nat.testBit_mod_two_pow, Nat.testBit_mod_two_pow, Nat.testBit_div_two_pow, Nat.testBit_div_two_pow]
  have hx32 : 32 ≤ j → x.testBit j = false := fun h => Nat.testBit_lt_two_pow (Nat.lt_of_lt_of_le hx (by have := Nat.pow_le_pow_right (n := 2) (by decide) h; simpa using this))
  by_cases h1 : j < lo
  · simp [h1, show ¬ lo ≤ j by omega, show j < 32 by omega]
  · by_cases h2 : j < lo + n
    · simp [h1, h2, show lo ≤ j by omega, show j < 32 by omega, show j - lo < n by omega]
    · by_cases h3 : j < 32
      · simp [h1, h2, h3]; rw [show j - lo - n + n + lo = j by omega]
      · simp [h1, h2, h3]; rw [show j - lo - n + n + lo = j by omega]; exact hx32 (by omega)
end Go.Proofs.Ytjlngglkljjgmaa
