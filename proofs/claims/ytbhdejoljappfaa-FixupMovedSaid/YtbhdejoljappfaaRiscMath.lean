/- Plain facts about instructions and their words. -/
import Derived.Test.YtbhdejoljappfaaDecode
namespace Go.Proofs.Ytbhdejoljappfaa
open Go.RowKit
theorem ext20_of (n : Nat) (im : Int) (h0 : -524288 ≤ im) (h1 : im < 524288) (h : (n : Int) % 1048576 = im % 1048576) : ext n 20 = im := by
  unfold ext
  rw [show 2 ^ (20 - 1) = 524288 from rfl, show 2 ^ 20 = 1048576 from rfl]
  split <;> omega
theorem ext24_of (n : Nat) (im : Int) (h0 : -8388608 ≤ im) (h1 : im < 8388608) (h : (n : Int) % 16777216 = im % 16777216) : ext n 24 = im := by
  unfold ext
  rw [show 2 ^ (24 - 1) = 8388608 from rfl, show 2 ^ 24 = 16777216 from rfl]
  split <;> omega
theorem bitv (n k : Nat) (v : Bool) (h : ((n / k : Nat) : Int) % 2 = F v 1) : (n / k % 2 == 1) = v := by
  cases v
  · rw [show F false 1 = 0 from rfl] at h
    rw [beq_eq_false_iff_ne]; omega
  · rw [show F true 1 = 1 from rfl] at h
    rw [beq_iff_eq]; omega
theorem F_parts (v : Bool) (k : Int) : (v = false ∧ F v k = 0) ∨ (v = true ∧ F v k = k) := by cases v <;> simp [F]
/-- What was written is read as it was. -/
theorem cand_enc (x : Ins) (hg : goodB x = true) : ∃ n : Nat, encZ x = (n : Int) ∧ n < 4294967296 ∧ cand n = x := by
  obtain ⟨form, u, v, a, b, c, op, im⟩ := x
  obtain ⟨ha, hb, hc, ho, hr⟩ := of_decide_eq_true hg
  simp only at ha hb hc ho hr
  have hu := F_parts u 536870912
  have hv := F_parts v 268435456
  rcases hr with ⟨rfl, h1⟩ | ⟨rfl, h1⟩ | ⟨rfl, h1⟩ | ⟨rfl, h1⟩
  · have he : encZ ⟨0, u, v, a, b, c, op, im⟩ = F u 536870912 + F v 268435456 + a * 16777216 + b * 1048576 + op * 65536 + c := by
      simp only [encZ]; rw [if_neg (by decide), if_neg (by decide)]; omega
    obtain ⟨n, hn⟩ := Int.eq_ofNat_of_zero_le (show 0 ≤ encZ ⟨0, u, v, a, b, c, op, im⟩ by rw [he]; omega)
    refine ⟨n, hn, by omega, ?_⟩
    rw [he] at hn
    have e1 : (n / 536870912 % 2 == 1) = u := by
      rcases hu with ⟨rfl, hu⟩ | ⟨rfl, hu⟩
      · rw [beq_eq_false_iff_ne]; omega
      · rw [beq_iff_eq]; omega
    have e2 : (n / 268435456 % 2 == 1) = v := by
      rcases hv with ⟨rfl, hv⟩ | ⟨rfl, hv⟩
      · rw [beq_eq_false_iff_ne]; omega
      · rw [beq_iff_eq]; omega
    unfold cand
    rw [if_pos (by omega), e1, e2]
    congr 1 <;> omega
  · have he : encZ ⟨1, u, v, a, b, c, op, im⟩ = 1073741824 + F u 536870912 + F v 268435456 + a * 16777216 + b * 1048576 + op * 65536 + im := by
      simp only [encZ]; rw [if_neg (by decide), if_neg (by decide)]; omega
    obtain ⟨n, hn⟩ := Int.eq_ofNat_of_zero_le (show 0 ≤ encZ ⟨1, u, v, a, b, c, op, im⟩ by rw [he]; omega)
    refine ⟨n, hn, by omega, ?_⟩
    rw [he] at hn
    have e1 : (n / 536870912 % 2 == 1) = u := by
      rcases hu with ⟨rfl, hu⟩ | ⟨rfl, hu⟩
      · rw [beq_eq_false_iff_ne]; omega
      · rw [beq_iff_eq]; omega
    have e2 : (n / 268435456 % 2 == 1) = v := by
      rcases hv with ⟨rfl, hv⟩ | ⟨rfl, hv⟩
      · rw [beq_eq_false_iff_ne]; omega
      · rw [beq_iff_eq]; omega
    unfold cand
    rw [if_neg (by omega), if_pos (by omega), e1, e2]
    congr 1 <;> omega
  · have he : encZ ⟨2, u, v, a, b, c, op, im⟩ = 2147483648 + F u 536870912 + F v 268435456 + a * 16777216 + b * 1048576 + im % 1048576 := by
      simp only [encZ]; rw [if_neg (by decide), if_pos trivial]; omega
    obtain ⟨n, hn⟩ := Int.eq_ofNat_of_zero_le (show 0 ≤ encZ ⟨2, u, v, a, b, c, op, im⟩ by rw [he]; omega)
    refine ⟨n, hn, by omega, ?_⟩
    rw [he] at hn
    have e1 : (n / 536870912 % 2 == 1) = u := by
      rcases hu with ⟨rfl, hu⟩ | ⟨rfl, hu⟩
      · rw [beq_eq_false_iff_ne]; omega
      · rw [beq_iff_eq]; omega
    have e2 : (n / 268435456 % 2 == 1) = v := by
      rcases hv with ⟨rfl, hv⟩ | ⟨rfl, hv⟩
      · rw [beq_eq_false_iff_ne]; omega
      · rw [beq_iff_eq]; omega
    have e3 := ext20_of n im (by omega) (by omega) (by omega)
    unfold cand
    rw [if_neg (by omega), if_neg (by omega), if_pos (by omega), e1, e2, e3]
    congr 1 <;> omega
  · have he : encZ ⟨3, u, v, a, b, c, op, im⟩ = 3221225472 + F u 536870912 + F v 268435456 + a * 16777216 + c + im % 16777216 := by
      simp only [encZ]; rw [if_pos trivial]; omega
    obtain ⟨n, hn⟩ := Int.eq_ofNat_of_zero_le (show 0 ≤ encZ ⟨3, u, v, a, b, c, op, im⟩ by rw [he]; omega)
    refine ⟨n, hn, by omega, ?_⟩
    rw [he] at hn
    have e2 : (n / 268435456 % 2 == 1) = v := by
      rcases hv with ⟨rfl, hv⟩ | ⟨rfl, hv⟩
      · rw [beq_eq_false_iff_ne]; omega
      · rw [beq_iff_eq]; omega
    unfold cand
    rcases h1.2.2 with ⟨rfl, h3, h4⟩ | ⟨rfl, h3⟩
    · rcases hu with ⟨h, _⟩ | ⟨_, hu⟩
      · cases h
      · have e3 := ext24_of n im (by omega) (by omega) (by omega)
        rw [if_neg (by omega), if_neg (by omega), if_neg (by omega), if_pos (by omega), e2, e3]
        congr 1 <;> omega
    · rcases hu with ⟨_, hu⟩ | ⟨h, _⟩
      · rw [if_neg (by omega), if_neg (by omega), if_neg (by omega), if_neg (by omega), e2]
        congr 1 <;> omega
      · cases h
theorem dec_enc (x : Ins) (hg : goodB x = true) : ∃ n : Nat, encZ x = (n : Int) ∧ n < 4294967296 ∧ decI n = x ∧ decE n = 0 := by
  obtain ⟨n, h1, h2, h3⟩ := cand_enc x hg
  have hw : isWord n = true := by
    unfold isWord
    rw [h3, hg, h1]
    simp
  exact ⟨n, h1, h2, by unfold decI; rw [hw, if_pos rfl, h3], by unfold decE; rw [hw, if_pos rfl]⟩
end Go.Proofs.Ytbhdejoljappfaa
