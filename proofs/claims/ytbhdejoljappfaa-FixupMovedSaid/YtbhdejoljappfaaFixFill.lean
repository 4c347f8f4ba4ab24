/- Filling a chain in: the plain law. -/
import Derived.Test.YtbhdejoljappfaaFixMap
import Derived.Test.YtbhdejoljappfaaRiscMath
namespace Go.Proofs.Ytbhdejoljappfaa
open Go.RowKit
def fiA (x : Nat) (at_ : Int) (p : Nat) (to : Int) : Ins := if pSort x = 0 then ⟨3, true, true, 7, 0, 0, 0, to - (at_ + p + 1)⟩ else ⟨1, true, false, pReg x, 0, 0, 0, 4 * to / 65536⟩
def fiB (x : Nat) (to : Int) : Ins := if pSort x = 0 then ⟨0, false, false, 0, 0, 0, 0, 0⟩ else ⟨1, false, false, pReg x, pReg x, 0, 6, 4 * to % 65536⟩
def wA (x : Nat) (at_ : Int) (p : Nat) (to : Int) : Nat := (encZ (fiA x at_ p to)).toNat
def wB (x : Nat) (to : Int) : Nat := (encZ (fiB x to)).toNat
def fillGo (code : List Nat) (at_ : Int) (V : Int → Int → Int → Option Int) : List Nat → List Nat → Option (List Nat)
  | [], ys => some ys
  | p :: l, ys => match V (pSort (code.getD p 0)) (pMod (code.getD p 0)) (code.getD (p + 1) 0) with
    | none => none
    | some to => if 0 ≤ to ∧ to < 65536 then fillGo code at_ V l ((ys.set p (wA (code.getD p 0) at_ p to)).set (p + 1) (wB (code.getD p 0) to)) else none
def fillF (code : List Nat) (head at_ : Int) (V : Int → Int → Int → Option Int) : Option (List Nat) := match chainF code head with
  | none => none
  | some l => if at_ < 0 ∨ 65536 < at_ ∨ 65536 - at_ < code.length then none else fillGo code at_ V l code
/-- A chain's links lie in the code, each two words or more ahead of the one behind it. -/
def Links (code : List Nat) (out : List Nat) : Prop := (∀ p ∈ out, p + 1 < code.length ∧ pOk (code.getD p 0) = true) ∧ out.Pairwise (fun p q => q + 2 ≤ p)
theorem chainGo_links (code : List Nat) : ∀ (f : Nat) (a : Int) (out l : List Nat), Links code out → chainGo code f a out = some l → Links code l ∧ l.length ≤ out.length + f
  | 0, _, _, _, _, h => by simp [chainGo] at h
  | f + 1, a, out, l, hL, h => by
    unfold chainGo at h
    split at h
    · rename_i ho
      split at h
      · rename_i hp
        have hk : ∃ k : Nat, a = (k : Int) ∧ k + 1 < code.length ∧ (∀ y, out.getLast? = some y → k + 2 ≤ y) := by
          unfold okAt at ho
          simp only [Bool.and_eq_true, decide_eq_true_eq] at ho
          obtain ⟨k, rfl⟩ := Int.eq_ofNat_of_zero_le ho.1.1
          refine ⟨k, rfl, by omega, fun y hy => ?_⟩
          have h2 := ho.2
          rw [hy] at h2
          simp only [decide_eq_true_eq] at h2
          omega
        obtain ⟨k, rfl, hk1, hk2⟩ := hk
        rw [Int.toNat_natCast] at h hp
        have hL' : Links code (out ++ [k]) := by
          refine ⟨fun p hm => ?_, ?_⟩
          · rcases List.mem_append.1 hm with hm | hm
            · exact hL.1 p hm
            · simp at hm
              subst hm
              exact ⟨hk1, hp⟩
          · rw [List.pairwise_append]
            refine ⟨hL.2, List.pairwise_singleton _ _, fun p hm q hq => ?_⟩
            simp at hq
            subst hq
            rcases List.eq_nil_or_concat out with rfl | ⟨o, y, rfl⟩
            · simp at hm
            · rw [List.concat_eq_append] at *
              have hy := hk2 y (by simp)
              rcases List.mem_append.1 hm with hm | hm
              · have := (List.pairwise_append.1 hL.2).2.2 p hm y (by simp)
                omega
              · simp at hm
                omega
        split at h
        · simp at h
          subst h
          exact ⟨hL', by simp⟩
        · obtain ⟨h1, h2⟩ := chainGo_links code f _ _ l hL' h
          exact ⟨h1, by simp at h2; omega⟩
      · cases h
    · cases h
theorem chainF_links {code : List Nat} {head : Int} {l : List Nat} (h : chainF code head = some l) : Links code l ∧ l.length ≤ code.length + 2 := by
  unfold chainF at h
  split at h
  · simp at h
    subst h
    exact ⟨⟨fun p h => by simp at h, List.Pairwise.nil⟩, by simp⟩
  · have := chainGo_links code _ _ _ l ⟨fun p h => by simp at h, List.Pairwise.nil⟩ h
    simpa using this
theorem good_a0 (im : Int) (h0 : -200000 ≤ im) (h1 : im ≤ 70000) : goodB ⟨3, true, true, 7, 0, 0, 0, im⟩ = true := by
  unfold goodB Good
  simp
  omega
theorem good_a1 (r im : Int) (h0 : 0 ≤ r) (h1 : r < 16) (h2 : 0 ≤ im) (h3 : im < 65536) : goodB ⟨1, true, false, r, 0, 0, 0, im⟩ = true := by
  unfold goodB Good
  simp
  omega
theorem good_b0 : goodB ⟨0, false, false, 0, 0, 0, 0, 0⟩ = true := by decide
theorem good_b1 (r im : Int) (h0 : 0 ≤ r) (h1 : r < 16) (h2 : 0 ≤ im) (h3 : im < 65536) : goodB ⟨1, false, false, r, r, 0, 6, im⟩ = true := by
  unfold goodB Good
  simp
  omega
theorem pReg_lt (x : Nat) (hx : x < 4294967296) : pReg x < 16 := by unfold pReg; omega
theorem good_fiA (x : Nat) (at_ : Int) (p : Nat) (to : Int) (hx : x < 4294967296) (h0 : 0 ≤ at_) (h1 : at_ ≤ 65536) (hp : p ≤ 70000) (t0 : 0 ≤ to) (t1 : to < 65536) : goodB (fiA x at_ p to) = true := by
  unfold fiA
  split
  · exact good_a0 _ (by omega) (by omega)
  · exact good_a1 _ _ (by omega) (by have := pReg_lt x hx; omega) (by omega) (by omega)
theorem good_fiB (x : Nat) (to : Int) (hx : x < 4294967296) : goodB (fiB x to) = true := by
  unfold fiB
  split
  · exact good_b0
  · exact good_b1 _ _ (by omega) (by have := pReg_lt x hx; omega) (by omega) (by omega)
/-- An instruction's word, as a number. -/
theorem enc_nat (x : Ins) (h : goodB x = true) : encZ x = ((encZ x).toNat : Int) ∧ (encZ x).toNat < 4294967296 ∧ decE (encZ x).toNat = 0 ∧ decI (encZ x).toNat = x := by
  obtain ⟨n, h1, h2, h3, h4⟩ := dec_enc x h
  rw [h1]
  exact ⟨by simp, by simpa using h2, by simpa using h4, by simpa using h3⟩
end Go.Proofs.Ytbhdejoljappfaa
