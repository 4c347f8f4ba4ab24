/- Words that came in as a slice. -/
import Derived.Test.YtbhdejoljappfaaSl
import Derived.ChangeSlices
import Derived.OpenShut
namespace Go.Proofs.Ytbhdejoljappfaa
open Go.RowKit Go.ChangeShapes
/-- A slice of these words. -/
def Words (w : World) (a : Option Addr) (len : Nat) (xs : List Nat) : Prop :=
  xs.length = len ∧ len ≤ maxLen ∧ (∀ x ∈ xs, x < 4294967296) ∧ SlK .u32 w a xs
theorem words_row {w : World} {x : Addr} {len cap : Nat} {zs : List Int} (hl : len ≤ cap) (hm : cap ≤ maxLen) (hz : zs.length = cap) (hcell : ∀ i, i < zs.length → w.cell? (x.add i) = some (.int .u32 (zs.getD i 0))) (hwz : ∀ n ∈ zs, (Lit.int .u32 n).wf = true) :
    ∃ xs, Words w (some x) len xs := by
  have hlen : ((zs.take len).map Int.toNat).length = len := by simp; omega
  refine ⟨(zs.take len).map Int.toNat, hlen, Nat.le_trans hl hm, ?_, ?_⟩
  · intro n hn
    obtain ⟨z, hz', rfl⟩ := List.mem_map.1 hn
    have := bounds_u32 (hwz z (List.mem_of_mem_take hz'))
    omega
  · intro h0
    obtain ⟨b, off, spot⟩ := x
    have hspot : spot = none := by simpa [Addr.add] using World.cell?_spot (hcell 0 (by omega))
    subst hspot
    refine ⟨b, off, rfl, fun j hj => ?_⟩
    have hj' : j < zs.length := by omega
    have h := hcell j hj'
    rw [add_at] at h
    rw [h]
    have hw := bounds_u32 (hwz zs[j] (List.getElem_mem hj'))
    have e : zs.getD j 0 = zs[j] := by simp [hj']
    rw [e]
    simp
    omega
end Go.Proofs.Ytbhdejoljappfaa
