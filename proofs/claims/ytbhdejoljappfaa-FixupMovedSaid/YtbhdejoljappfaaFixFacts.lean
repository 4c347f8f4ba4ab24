/- What is filled in, and what stays: the plain law. -/
import Derived.Test.YtbhdejoljappfaaFixFill
namespace Go.Proofs.Ytbhdejoljappfaa
open Go.RowKit
/-- Does a place lie in one of these links? -/
def isIn (l : List Nat) (i : Nat) : Bool := l.any fun p => i == p || i == p + 1
theorem isIn_snoc (l : List Nat) (p i : Nat) : isIn (l ++ [p]) i = (isIn l i || (i == p || i == p + 1)) := by simp [isIn]
/-- Code in which the links done are filled in. -/
def Filled (code done ys : List Nat) : Prop := ys.length = code.length ∧ ∀ i x, ys[i]? = some x → (isIn done i = false → code[i]? = some x) ∧ (isIn done i = true → decE x = 0 ∧ x < 4294967296)
theorem filled_step {code done ys : List Nat} {p a b : Nat} (h : Filled code done ys) (ha : decE a = 0 ∧ a < 4294967296) (hb : decE b = 0 ∧ b < 4294967296) : Filled code (done ++ [p]) ((ys.set p a).set (p + 1) b) := by
  refine ⟨by simp [h.1], fun i x hx => ?_⟩
  have hl : i < ys.length := by
    have := (List.getElem?_eq_some_iff.1 hx).1
    simpa using this
  rw [isIn_snoc]
  by_cases h1 : i = p + 1
  · subst h1
    rw [List.getElem?_set_self (by simpa using hl)] at hx
    cases hx
    simp [hb]
  · rw [List.getElem?_set_ne (Ne.symm h1)] at hx
    by_cases h2 : i = p
    · subst h2
      rw [List.getElem?_set_self hl] at hx
      cases hx
      simp [ha]
    · rw [List.getElem?_set_ne (Ne.symm h2)] at hx
      have e : (i == p || i == p + 1) = false := by simp [h1, h2]
      rw [e, Bool.or_false]
      exact h.2 i x hx
theorem fillGo_filled {code : List Nat} {at_ : Int} {V : Int → Int → Int → Option Int} (hs : ∀ x ∈ code, x < 4294967296) (hm : code.length ≤ 70000) (h0 : 0 ≤ at_) (h1 : at_ ≤ 65536) : ∀ (l done ys ys' : List Nat), (∀ p ∈ l, p + 1 < code.length) → Filled code done ys → fillGo code at_ V l ys = some ys' → Filled code (done ++ l) ys'
  | [], done, ys, ys', _, hF, h => by
    simp [fillGo] at h
    subst h
    simpa using hF
  | p :: l, done, ys, ys', hp, hF, h => by
    have hpl := hp p (by simp)
    have hx : code.getD p 0 < 4294967296 := by
      rw [List.getD_eq_getElem?_getD, List.getElem?_eq_getElem (by omega)]
      exact hs _ (List.getElem_mem _)
    unfold fillGo at h
    split at h
    · cases h
    · rename_i to hv
      split at h
      · rename_i ht
        have eA := enc_nat _ (good_fiA (code.getD p 0) at_ p to hx h0 h1 (by omega) ht.1 ht.2)
        have eB := enc_nat _ (good_fiB (code.getD p 0) to hx)
        have := fillGo_filled hs hm h0 h1 l (done ++ [p]) _ ys' (fun q hq => hp q (by simp [hq])) (filled_step hF ⟨eA.2.2.1, eA.2.1⟩ ⟨eB.2.2.1, eB.2.1⟩) h
        simpa using this
      · cases h
theorem fillF_some {code : List Nat} {head at_ : Int} {V : Int → Int → Int → Option Int} {ys : List Nat} (h : fillF code head at_ V = some ys) : ∃ l, chainF code head = some l ∧ (0 ≤ at_ ∧ at_ ≤ 65536) ∧ fillGo code at_ V l code = some ys := by
  unfold fillF at h
  split at h
  · cases h
  · rename_i l hl
    split at h
    · cases h
    · rename_i hn
      exact ⟨l, hl, by omega, h⟩
theorem fillF_filled {code : List Nat} {head at_ : Int} {V : Int → Int → Int → Option Int} {ys l : List Nat} (hs : ∀ x ∈ code, x < 4294967296) (hm : code.length ≤ 70000) (hl : chainF code head = some l) (h : fillF code head at_ V = some ys) : Filled code l ys := by
  obtain ⟨l', hl', ⟨h0, h1⟩, hg⟩ := fillF_some h
  rw [hl] at hl'
  cases hl'
  have := fillGo_filled hs hm h0 h1 l [] code ys (fun p hp => ((chainF_links hl).1.1 p hp).1) ⟨rfl, fun i x hx => ⟨fun _ => hx, fun h => by simp [isIn] at h⟩⟩ hg
  simpa using this
/-- The marks of the places that lie in these links. -/
def marks (n : Nat) (l : List Nat) : List Nat := (List.range n).map fun i => if isIn l i then 1 else 0
theorem marks_len (n : Nat) (l : List Nat) : (marks n l).length = n := by simp [marks]
theorem marks_nil (n : Nat) : marks n [] = List.replicate n 0 := by
  apply List.ext_getElem
  · simp [marks]
  · intro i h1 h2
    simp [marks, isIn]
theorem marks_at (n : Nat) (l : List Nat) (i : Nat) (h : i < n) : (marks n l)[i]? = some (if isIn l i then 1 else 0) := by simp [marks, h]
theorem marks_snoc (n : Nat) (l : List Nat) (p : Nat) : marks n (l ++ [p]) = ((marks n l).set p 1).set (p + 1) 1 := by
  apply List.ext_getElem?
  intro i
  by_cases hi : i < n
  · rw [marks_at n _ i hi, isIn_snoc]
    by_cases h1 : i = p + 1
    · subst h1
      rw [List.getElem?_set_self (by simpa [marks_len] using hi)]
      simp
    · rw [List.getElem?_set_ne (Ne.symm h1)]
      by_cases h2 : i = p
      · subst h2
        rw [List.getElem?_set_self (by simpa [marks_len] using hi)]
        simp
      · rw [List.getElem?_set_ne (Ne.symm h2), marks_at n _ i hi]
        simp [h1, h2]
  · rw [List.getElem?_eq_none (by rw [marks_len]; omega), List.getElem?_eq_none (by simp [marks_len]; omega)]
end Go.Proofs.Ytbhdejoljappfaa
