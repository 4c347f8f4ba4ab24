/- One field of an instruction, in its word. -/
import Derived.Test.YtbhdejoljappfaaRiscMath
namespace Go.Proofs.Ytbhdejoljappfaa
open Go.RowKit
theorem putN_add (n lo k : Nat) : (putN n lo 4 k : Int) = (n : Int) + ((k % 16 : Nat) : Int) * ((2 ^ lo : Nat) : Int) - ((n / 2 ^ lo % 16 : Nat) : Int) * ((2 ^ lo : Nat) : Int) := by
  have h := cut3 n lo 4
  have e1 : 2 ^ lo * (2 ^ 4 * (n / 2 ^ lo / 2 ^ 4) + k % 2 ^ 4) = 2 ^ lo * (2 ^ 4 * (n / 2 ^ lo / 2 ^ 4)) + k % 16 * 2 ^ lo := by rw [Nat.mul_add, Nat.mul_comm (2 ^ lo) (k % 2 ^ 4)]
  have e2 : 2 ^ lo * (2 ^ 4 * (n / 2 ^ lo / 2 ^ 4) + n / 2 ^ lo % 2 ^ 4) = 2 ^ lo * (2 ^ 4 * (n / 2 ^ lo / 2 ^ 4)) + n / 2 ^ lo % 16 * 2 ^ lo := by rw [Nat.mul_add, Nat.mul_comm (2 ^ lo) (n / 2 ^ lo % 2 ^ 4)]
  unfold putN
  rw [e2] at h
  rw [e1]
  rw [← Int.natCast_mul, ← Int.natCast_mul]
  omega
theorem enc_a (x : Ins) (k : Int) : encZ ⟨x.form, x.u, x.v, k, x.b, x.c, x.op, x.im⟩ = encZ x + k * 16777216 - x.a * 16777216 := by
  simp only [encZ]; omega
theorem enc_b (x : Ins) (k : Int) (h : x.form ≠ 3) : encZ ⟨x.form, x.u, x.v, x.a, k, x.c, x.op, x.im⟩ = encZ x + k * 1048576 - x.b * 1048576 := by
  simp only [encZ]
  rw [if_neg h, if_neg h]
  split <;> omega
theorem cand_a (n : Nat) : (cand n).a = ((n / 16777216 % 16 : Nat) : Int) := by
  unfold cand
  repeat' split
  all_goals rfl
theorem cand_b (n : Nat) (h : (cand n).form ≠ 3) : (cand n).b = ((n / 1048576 % 16 : Nat) : Int) := by
  unfold cand at *
  repeat' split
  all_goals first | rfl | skip
  all_goals simp_all
/-- Other bits are not touched. -/
theorem put_xor (n lo k : Nat) (_hn : n < 4294967296) (hl : lo + 4 ≤ 32) : (n ^^^ putN n lo 4 k) &&& (4294967295 - 2 ^ lo * (2 ^ 4 - 1)) = 0 := by
  have hm := maskAt_lt lo 4 hl
  apply Nat.eq_of_testBit_eq
  intro j
  have hc := cut3 n lo 4
  have t1 := testBit_cut3 (n / 2 ^ lo / 2 ^ 4) (n / 2 ^ lo % 2 ^ 4) (n % 2 ^ lo) lo 4 j (Nat.mod_lt _ (Nat.two_pow_pos _)) (Nat.mod_lt _ (Nat.two_pow_pos _))
  have t2 := testBit_cut3 (n / 2 ^ lo / 2 ^ 4) (k % 2 ^ 4) (n % 2 ^ lo) lo 4 j (Nat.mod_lt _ (Nat.two_pow_pos _)) (Nat.mod_lt _ (Nat.two_pow_pos _))
  rw [← hc] at t1
  rw [Nat.testBit_and, Nat.testBit_xor, testBit_not32 _ _ hm, testBit_maskAt]
  unfold putN
  rw [t1, t2, Nat.zero_testBit]
  by_cases h1 : j < lo
  · simp [h1]
  · by_cases h2 : j < lo + 4
    · simp [h2, show lo ≤ j by omega]
    · simp [h1, h2]
theorem putN_small (n lo k : Nat) (hn : n < 4294967296) (hl : lo + 4 ≤ 32) : putN n lo 4 k < 4294967296 := by
  have hm := maskAt_lt lo 4 hl
  unfold putN
  rw [← put_bits n k lo 4 hn hl]
  exact Nat.or_lt_two_pow (n := 32) (Nat.lt_of_le_of_lt Nat.and_le_left hn) (Nat.lt_of_le_of_lt Nat.and_le_right hm)
theorem putN_at (n lo k : Nat) (hk : k < 16) : putN n lo 4 k / 2 ^ lo % 16 = k := by
  have h1 : n % 2 ^ lo < 2 ^ lo := Nat.mod_lt _ (Nat.two_pow_pos _)
  unfold putN
  rw [Nat.mul_add_div (Nat.two_pow_pos _), Nat.div_eq_of_lt h1, Nat.add_zero, show 2 ^ 4 = 16 from rfl, Nat.mul_add_mod, Nat.mod_mod, Nat.mod_eq_of_lt hk]
/-- Another register in a field: the word, the bits that it turns, and what stands there. -/
theorem field_turn (n m lo k : Nat) (M : Nat) (hM : M = 2 ^ lo * (2 ^ 4 - 1)) (P : Nat) (hP : P = 2 ^ lo) (hn : n < 4294967296) (hl : lo + 4 ≤ 32) (hk : k < 16) (hm : m = putN n lo 4 k) :
    Go.bits .andNot .u32 (Go.bits .xor .u32 (n : Int) (m : Int)) (M : Int) = 0 ∧ Go.bits .and .u32 ((m : Int) / (P : Int)) 15 = (k : Int) := by
  have h1 := putN_small n lo k hn hl
  have h2 := maskAt_lt lo 4 hl
  rw [← hm] at h1
  have hx : n ^^^ m < 4294967296 := Nat.xor_lt_two_pow (n := 32) hn h1
  constructor
  · rw [xor_u32 n m hn h1, hM, andNot_u32 _ _ hx h2, hm, put_xor n lo k hn hl]
    rfl
  · have hd := Nat.div_le_self m P
    rw [show (m : Int) / (P : Int) = ((m / P : Nat) : Int) by simp, low4 _ (by omega), hP, hm, putN_at n lo k hk]
theorem turn_a (x : Ins) (k : Nat) (hk : k < 16) (hg : goodB x = true) : ∃ n m : Nat, encZ x = n ∧ encZ ⟨x.form, x.u, x.v, k, x.b, x.c, x.op, x.im⟩ = m ∧
    Go.bits .andNot .u32 (Go.bits .xor .u32 (n : Int) (m : Int)) 251658240 = 0 ∧ Go.bits .and .u32 ((m : Int) / 16777216) 15 = (k : Int) := by
  obtain ⟨n, h1, h2, h3⟩ := cand_enc x hg
  have ha : x.a = ((n / 16777216 % 16 : Nat) : Int) := by rw [← h3, cand_a]
  have h4 : encZ ⟨x.form, x.u, x.v, k, x.b, x.c, x.op, x.im⟩ = (putN n 24 4 k : Int) := by
    rw [enc_a, putN_add, h1, ha, show 2 ^ 24 = 16777216 from rfl, Nat.mod_eq_of_lt hk]
    rfl
  obtain ⟨t1, t2⟩ := field_turn n (putN n 24 4 k) 24 k 251658240 (by rfl) 16777216 (by rfl) h2 (by decide) hk rfl
  exact ⟨n, _, h1, h4, t1, t2⟩
theorem turn_b (x : Ins) (k : Nat) (hk : k < 16) (hg : goodB x = true) (hf : x.form ≠ 3) : ∃ m : Nat, encZ ⟨x.form, x.u, x.v, x.a, k, x.c, x.op, x.im⟩ = m ∧
    (∀ n : Nat, encZ x = n → Go.bits .andNot .u32 (Go.bits .xor .u32 (n : Int) (m : Int)) 15728640 = 0) ∧ Go.bits .and .u32 ((m : Int) / 1048576) 15 = (k : Int) := by
  obtain ⟨n, h1, h2, h3⟩ := cand_enc x hg
  have hb : x.b = ((n / 1048576 % 16 : Nat) : Int) := by
    have := cand_b n (by rw [h3]; exact hf)
    rw [h3] at this
    exact this
  have h4 : encZ ⟨x.form, x.u, x.v, x.a, k, x.c, x.op, x.im⟩ = (putN n 20 4 k : Int) := by
    rw [enc_b x k hf, putN_add, h1, hb, show 2 ^ 20 = 1048576 from rfl, Nat.mod_eq_of_lt hk]
    rfl
  obtain ⟨t1, t2⟩ := field_turn n (putN n 20 4 k) 20 k 15728640 (by rfl) 1048576 (by rfl) h2 (by decide) hk rfl
  refine ⟨_, h4, fun n' hn' => ?_, t2⟩
  rw [h1] at hn'
  rw [show n' = n by omega]
  exact t1
theorem good_a (x : Ins) (k : Nat) (hk : k < 16) (hg : goodB x = true) : goodB ⟨x.form, x.u, x.v, k, x.b, x.c, x.op, x.im⟩ = true := by
  have h := of_decide_eq_true hg
  refine decide_eq_true ?_
  exact ⟨⟨by simp only; omega, by simp only; omega⟩, h.2⟩
theorem good_b (x : Ins) (k : Nat) (hk : k < 16) (hg : goodB x = true) (hf : x.form ≠ 3) : goodB ⟨x.form, x.u, x.v, x.a, k, x.c, x.op, x.im⟩ = true := by
  obtain ⟨h1, h2, h3, h4, h5⟩ := of_decide_eq_true hg
  refine decide_eq_true ?_
  refine ⟨h1, ⟨by simp only; omega, by simp only; omega⟩, h3, h4, ?_⟩
  rcases h5 with h | h | h | h
  · exact .inl h
  · exact .inr (.inl h)
  · exact .inr (.inr (.inl h))
  · exact absurd h.1 hf
end Go.Proofs.Ytbhdejoljappfaa
