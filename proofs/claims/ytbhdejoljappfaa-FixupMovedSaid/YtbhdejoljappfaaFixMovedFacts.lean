/- Code filled in at two places: the plain law. -/
import Derived.Test.YtbhdejoljappfaaFixFacts
import Derived.Test.YtbhdejoljappfaaFixPlaces
namespace Go.Proofs.Ytbhdejoljappfaa
open Go.RowKit
/-- The places, each so much further on. -/
def movedV (k : Int) (V : Int → Int → Int → Option Int) (ps : List Pl) : Int → Int → Int → Option Int := ps.foldl (fun U p => putV U p.1 p.2.1 p.2.2.1 ((V p.1 p.2.1 p.2.2.1).getD 0 + k)) (fun _ _ _ => none)
theorem movedV_snoc (k : Int) (V : Int → Int → Int → Option Int) (ps : List Pl) (p : Pl) : movedV k V (ps ++ [p]) = putV (movedV k V ps) p.1 p.2.1 p.2.2.1 ((V p.1 p.2.1 p.2.2.1).getD 0 + k) := by simp [movedV, List.foldl_append]
theorem movedV_is {k : Int} {V : Int → Int → Int → Option Int} : ∀ (ps : List Pl) (U : Int → Int → Int → Option Int), (∀ i j z t, U i j z = some t → t = (V i j z).getD 0 + k) → ∀ i j z t, ps.foldl (fun U p => putV U p.1 p.2.1 p.2.2.1 ((V p.1 p.2.1 p.2.2.1).getD 0 + k)) U i j z = some t → t = (V i j z).getD 0 + k
  | [], U, h, i, j, z, t, ht => h i j z t ht
  | p :: ps, U, h, i, j, z, t, ht => by
    refine movedV_is ps _ ?_ i j z t ht
    intro i j z t ht
    simp only [putV] at ht
    split at ht
    · rename_i he
      obtain ⟨rfl, rfl, rfl⟩ := he
      exact (Option.some.inj ht).symm
    · exact h i j z t ht
theorem movedV_some {k : Int} {V : Int → Int → Int → Option Int} {ps : List Pl} {i j z t : Int} (h : movedV k V ps i j z = some t) : t = (V i j z).getD 0 + k := movedV_is ps _ (fun _ _ _ _ h => by cases h) i j z t h
theorem fillGo_far {code : List Nat} {at_ : Int} {V : Int → Int → Int → Option Int} : ∀ (l ys ys' : List Nat) (i : Nat), fillGo code at_ V l ys = some ys' → (∀ p ∈ l, i ≠ p ∧ i ≠ p + 1) → ys'[i]? = ys[i]?
  | [], ys, ys', i, h, _ => by
    simp [fillGo] at h
    rw [h]
  | p :: l, ys, ys', i, h, hn => by
    unfold fillGo at h
    split at h
    · cases h
    · split at h
      · have h1 := fillGo_far l _ ys' i h (fun q hq => hn q (by simp [hq]))
        have h2 := hn p (by simp)
        rw [h1, List.getElem?_set_ne (Ne.symm h2.2), List.getElem?_set_ne (Ne.symm h2.1)]
      · cases h
/-- What a link is filled in with. -/
theorem fillGo_at {code : List Nat} {at_ : Int} {V : Int → Int → Int → Option Int} : ∀ (l ys ys' : List Nat), fillGo code at_ V l ys = some ys' → ys.length = code.length → (∀ p ∈ l, p + 1 < code.length) → l.Pairwise (fun p q => q + 2 ≤ p) →
    ∀ p ∈ l, ∃ to, V (pSort (code.getD p 0)) (pMod (code.getD p 0)) (code.getD (p + 1) 0) = some to ∧ (0 ≤ to ∧ to < 65536) ∧ ys'[p]? = some (wA (code.getD p 0) at_ p to) ∧ ys'[p + 1]? = some (wB (code.getD p 0) to)
  | [], _, _, _, _, _, _, p, hp => by simp at hp
  | q :: l, ys, ys', h, hl, hb, hP, p, hp => by
    unfold fillGo at h
    split at h
    · cases h
    · rename_i to hv
      split at h
      · rename_i ht
        rw [List.pairwise_cons] at hP
        rcases List.mem_cons.1 hp with rfl | hp'
        · have hpl := hb p (by simp)
          have f1 := fillGo_far l _ ys' p h (fun r hr => by have := hP.1 r hr; omega)
          have f2 := fillGo_far l _ ys' (p + 1) h (fun r hr => by have := hP.1 r hr; omega)
          refine ⟨to, hv, ht, ?_, ?_⟩
          · rw [f1, List.getElem?_set_ne (by omega), List.getElem?_set_self (by omega)]
          · rw [f2, List.getElem?_set_self (by simp; omega)]
        · exact fillGo_at l _ ys' h (by simp [hl]) (fun r hr => hb r (by simp [hr])) hP.2 p hp'
      · cases h
/-- The lower halves of the two words. -/
theorem low_words {x : Nat} {at_ to : Int} {p : Nat} (hx : x < 4294967296) (h0 : 0 ≤ at_) (h1 : at_ ≤ 65536) (hp : p ≤ 70000) (t0 : 0 ≤ to) (t1 : to < 65536) (hs : pSort x ≠ 0) : ((wA x at_ p to % 65536 : Nat) : Int) = 4 * to / 65536 ∧ ((wB x to % 65536 : Nat) : Int) = 4 * to % 65536 := by
  have eA := (enc_nat _ (good_fiA x at_ p to hx h0 h1 hp t0 t1)).1
  have eB := (enc_nat _ (good_fiB x to hx)).1
  have hA : encZ (fiA x at_ p to) = (wA x at_ p to : Nat) := eA
  have hB : encZ (fiB x to) = (wB x to : Nat) := eB
  have a1 : fiA x at_ p to = ⟨1, true, false, pReg x, 0, 0, 0, 4 * to / 65536⟩ := if_neg hs
  have b1 : fiB x to = ⟨1, false, false, pReg x, pReg x, 0, 6, 4 * to % 65536⟩ := if_neg hs
  rw [a1] at hA
  rw [b1] at hB
  simp [encZ, F] at hA hB
  constructor <;> omega
theorem word_moved {x : Nat} {at_ to k : Int} {p : Nat} (hs : pSort x = 0) : wA x (at_ + k) p (to + k) = wA x at_ p to ∧ wB x (to + k) = wB x to := by
  have a1 : ∀ (a t : Int), fiA x a p t = ⟨3, true, true, 7, 0, 0, 0, t - (a + p + 1)⟩ := fun a t => if_pos hs
  have b1 : ∀ t : Int, fiB x t = ⟨0, false, false, 0, 0, 0, 0, 0⟩ := fun t => if_pos hs
  unfold wA wB
  rw [a1, a1, b1, b1, show to + k - (at_ + k + (p : Int) + 1) = to - (at_ + (p : Int) + 1) by omega]
  exact ⟨rfl, rfl⟩
/-- Go's x&65535<<16 | y&65535. -/
theorem two_halves (a b : Nat) (ha : a < 4294967296) (hb : b < 4294967296) : Go.bits .or .u32 (Go.bits .and .u32 (a : Int) 65535 * 65536 % 4294967296) (Go.bits .and .u32 (b : Int) 65535) = ((a % 65536 * 65536 + b % 65536 : Nat) : Int) := by
  have e : ∀ z : Nat, z < 4294967296 → Go.bits .and .u32 (z : Int) 65535 = ((z % 65536 : Nat) : Int) := fun z hz => by
    have h := and_u32 z 65535 hz (by decide)
    rw [show z &&& 65535 = z % 65536 from Nat.and_two_pow_sub_one_eq_mod z 16] at h
    exact h
  rw [e a ha, e b hb, show ((a % 65536 : Nat) : Int) * 65536 % 4294967296 = ((a % 65536 * 65536 : Nat) : Int) by omega]
  rw [orAdd 16 ((a % 65536 * 65536 : Nat) : Int) ((b % 65536 : Nat) : Int) (by omega) (by omega) (by omega) (by omega) (by omega) (by omega)]
  omega
/-- A link's two words in both: what the law asks of them. -/
theorem moved_link {code l ya yb : List Nat} {head at_ k : Int} {V : Int → Int → Int → Option Int} {ps : List Pl} (hs : ∀ x ∈ code, x < 4294967296) (hm : code.length ≤ 70000) (hl : chainF code head = some l) (hA : fillF code head at_ V = some ya) (hB : fillF code head (at_ + k) (movedV k V ps) = some yb) :
    ∀ p ∈ l, ∃ a b c d x : Nat, ya[p]? = some a ∧ ya[p + 1]? = some b ∧ yb[p]? = some c ∧ yb[p + 1]? = some d ∧ code[p]? = some x ∧ x < 4294967296 ∧ pOk x = true ∧ (a < 4294967296 ∧ b < 4294967296 ∧ c < 4294967296 ∧ d < 4294967296) ∧
      (pSort x = 0 → a = c ∧ b = d) ∧ (pSort x ≠ 0 → ((c % 65536 * 65536 + d % 65536 : Nat) : Int) = ((a % 65536 * 65536 + b % 65536 : Nat) : Int) + 4 * k) := by
  intro p hp
  obtain ⟨l1, h1, hat, hgA⟩ := fillF_some hA
  rw [hl] at h1
  cases h1
  obtain ⟨l2, h2, hat2, hgB⟩ := fillF_some hB
  rw [hl] at h2
  cases h2
  have hL := (chainF_links hl).1
  obtain ⟨to, hv, ht, a1, a2⟩ := fillGo_at l code ya hgA rfl (fun q hq => (hL.1 q hq).1) hL.2 p hp
  obtain ⟨to2, hv2, ht2, b1, b2⟩ := fillGo_at l code yb hgB rfl (fun q hq => (hL.1 q hq).1) hL.2 p hp
  have e := movedV_some hv2
  rw [hv] at e
  simp only [Option.getD_some] at e
  subst e
  have hpl := hL.1 p hp
  have hx : code[p]? = some (code.getD p 0) := by rw [List.getD_eq_getElem?_getD, List.getElem?_eq_getElem (by omega)]; rfl
  have hx32 : code.getD p 0 < 4294967296 := by
    rw [List.getD_eq_getElem?_getD, List.getElem?_eq_getElem (by omega)]
    exact hs _ (List.getElem_mem _)
  generalize code.getD p 0 = x at *
  have gA := (enc_nat _ (good_fiA x at_ p to hx32 hat.1 hat.2 (by omega) ht.1 ht.2)).2.1
  have gB := (enc_nat _ (good_fiB x to hx32)).2.1
  have gC := (enc_nat _ (good_fiA x (at_ + k) p (to + k) hx32 hat2.1 hat2.2 (by omega) ht2.1 ht2.2)).2.1
  have gD := (enc_nat _ (good_fiB x (to + k) hx32)).2.1
  refine ⟨_, _, _, _, x, a1, a2, b1, b2, hx, hx32, hpl.2, ⟨gA, gB, gC, gD⟩, fun h0 => ?_, fun h0 => ?_⟩
  · have := word_moved (at_ := at_) (to := to) (k := k) (p := p) h0
    exact ⟨this.1.symm, this.2.symm⟩
  · have q1 := low_words hx32 hat.1 hat.2 (show p ≤ 70000 by omega) ht.1 ht.2 h0
    have q2 := low_words hx32 hat2.1 hat2.2 (show p ≤ 70000 by omega) ht2.1 ht2.2 h0
    omega
end Go.Proofs.Ytbhdejoljappfaa
