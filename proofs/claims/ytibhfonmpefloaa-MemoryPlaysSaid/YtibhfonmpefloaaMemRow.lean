/- Words that came in as a slice, and their copy by append([]uint32{}, words...). -/
import Derived.Test.YtibhfonmpefloaaWakes04
import Derived.ChangeSlices
namespace Go.Proofs.Ytibhfonmpefloaa
open Go.RowKit Go.ChangeShapes
/-- A slice of these words. -/
def Words (w : World) (a : Option Addr) (len : Nat) (xs : List Nat) : Prop :=
  xs.length = len ∧ len ≤ maxLen ∧ (∀ x ∈ xs, x < 4294967296) ∧ (0 < len → ∃ b off, a = some ⟨b, off, none⟩ ∧ ∀ j (h : j < xs.length), w.cell? ⟨b, off + j, none⟩ = some (.int .u32 (xs[j] : Nat)))
theorem add_at (b off j : Nat) : (⟨b, off, none⟩ : Addr).add j = ⟨b, off + j, none⟩ := by
  unfold Addr.add
  split <;> simp_all
theorem words_row {w : World} {x : Addr} {len cap : Nat} {zs : List Int} (hl : len ≤ cap) (hm : cap ≤ maxLen) (hz : zs.length = cap) (hcell : ∀ i, i < zs.length → w.cell? (x.add i) = some (.int .u32 (zs.getD i 0))) (hwz : ∀ n ∈ zs, (Lit.int .u32 n).wf = true) :
    ∃ xs, Words w (some x) len xs := by
  have hlen : ((zs.take len).map Int.toNat).length = len := by simp; omega
  refine ⟨(zs.take len).map Int.toNat, hlen, Nat.le_trans hl hm, ?_, ?_⟩
  · intro n hn
    obtain ⟨z, hz', rfl⟩ := List.mem_map.1 hn
    have := bounds_u32 (hwz z (List.mem_of_mem_take hz'))
    omega
  · intro h0
    obtain ⟨b, off, spot⟩ := x
    have hspot : spot = none := by simpa [Addr.add] using World.cell?_spot (hcell 0 (by omega))
    subst hspot
    refine ⟨b, off, rfl, fun j hj => ?_⟩
    have hj' : j < zs.length := by rw [hlen] at hj; omega
    have h := hcell j hj'
    rw [add_at] at h
    rw [h]
    have hw := bounds_u32 (hwz zs[j] (List.getElem_mem hj'))
    have e : zs.getD j 0 = zs[j] := by simp [hj']
    rw [e]
    simp
    omega
/-- What the copy of these words is, as an argument of New. -/
def Copied (w : World) (v : Value) (xs : List Nat) : Prop := ∃ g c, v = .slice (some ⟨g, 0, none⟩) xs.length c ∧ Calls Try.prog 34 #[.slice (some ⟨g, 0, none⟩) xs.length c] w (NewM w xs)
theorem copied {w : World} {base n : Nat} {v : Value} {xs : List Nat} (h : w.ownsRow base 22 1 v n (W32 xs)) (hv : v ≠ .slice none 0 0) (hn : n = xs.length) (hm : (xs.length : Int) ≤ 65536) (hs : ∀ x ∈ xs, x < 4294967296) : Copied w v xs := by
  subst hn
  obtain ⟨g, cur, rfl, hn, ht, hg, _⟩ := sl_of_row h hv
  refine ⟨g, cur.length, rfl, new_mem _ _ _ xs w rfl hm hs (fun _ => ⟨_, rfl, fun j u hu => ?_⟩)⟩
  have hj : j < xs.length := by
    rcases Nat.lt_or_ge j xs.length with h' | h'
    · exact h'
    · rw [List.getElem?_eq_none (by simp [W32]; omega)] at hu; cases hu
  rw [add_at0]
  unfold World.cell?
  dsimp only
  rw [hg]
  rw [← ht, List.getElem?_take_of_lt hj] at hu
  simp [hu]
theorem W32_cells {w : World} {b off : Nat} {xs : List Nat} (h : ∀ j (_ : j < xs.length), w.cell? ⟨b, off + j, none⟩ = some (.int .u32 (xs[j] : Nat))) : ∀ j u, (W32 xs)[j]? = some u → w.cell? ((⟨b, off, none⟩ : Addr).add j) = some u := by
  intro j u hu
  have hj : j < xs.length := by
    rcases Nat.lt_or_ge j xs.length with h' | h'
    · exact h'
    · rw [List.getElem?_eq_none (by simp [W32]; omega)] at hu; cases hu
  rw [add_at, h j hj]
  simpa [W32, hj] using hu
end Go.Proofs.Ytibhfonmpefloaa
