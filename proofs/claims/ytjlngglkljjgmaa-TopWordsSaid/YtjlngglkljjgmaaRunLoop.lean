/- Run: a loop of steps. -/
import Derived.Test.YtjlngglkljjgmaaStep
import Derived.LoopTactic
import Derived.Laws.BytesArg
namespace Go.Proofs.Ytjlngglkljjgmaa
open Go.RowKit
/-- Bytes as a string. -/
def strOf (xs : List Nat) : ByteArray := strOfNums (xs.map fun (x : Nat) => (x : Int))
theorem out_str {w : World} {p b d : Nat} {inp : ByteArray} {ov : Value} {s : St} (M : Mach w p b d inp ov s) : (convert 49 9 ov).run Try.prog w = .ok (.string (strOf s.out)) w := by
  rcases M.out.2 with ⟨h, h0⟩ | ⟨g, cap, cur, h, _, h3, h4, h5, h6, h7⟩
  · rw [h, show s.out = [] from List.length_eq_zero_iff.1 h0]
    exact run_convert_bytes_nil w _ 5 Try.underlying49 Try.underlying5 0 0 _ Try.underlying9
  · rw [h]
    refine run_convert_bytes_arg w _ 5 Try.underlying49 Try.underlying5 g 0 s.out.length cap (s.out.map fun (x : Nat) => (x : Int)) (by simp) (fun i hi => ?_) _ Try.underlying9
    have hc : w.cell? ⟨g, 0 + i, none⟩ = cur[i]? := by simp [World.cell?, h3]
    have ht : (cur.toList.take (s.out.length * 1))[i]? = (u8s s.out)[i]? := by rw [h7]
    rw [hc]
    simp only [Nat.mul_one] at ht
    rw [List.getElem?_take_of_lt hi] at ht
    simp [u8s, hi] at ht
    simp [ht, hi]
/-- A write into an outcome's block. -/
theorem Mach.side {w : World} {p b d : Nat} {inp : ByteArray} {ov : Value} {s : St} (M : Mach w p b d inp ov s) (n k : Nat) (v : Value) {cs : List Value} (hr : w.heap[n]? = some (.cells cs.toArray 29 (0, 0))) (hg : s.g n = none) :
    Mach (w.setCell ⟨n, k, none⟩ v) p b d inp ov s ∧ (w.setCell ⟨n, k, none⟩ v).heap[n]? = some (.cells (cs.set k v).toArray 29 (0, 0)) := by
  have hp : p ≠ n := by
    intro e
    have h := M.row
    rw [e, hr] at h
    simp at h
  have hb : b ≠ n := by
    intro e
    have h := M.mem.choose_spec.1.2.1
    rw [← e, h] at hr
    simp at hr
  have hd : d ≠ n := by
    intro e
    have h := M.mem.choose_spec.1.2.2.1
    rw [← e, h] at hr
    simp at hr
  have hl := (Array.getElem?_eq_some_iff.1 hr).1
  refine ⟨⟨M.ok, ?_, ?_, ?_, M.bp, M.dp, fun j xs hj => ?_⟩, ?_⟩
  · rw [Below.heap_setCell _ _ _ _ hp]
    exact M.row
  · exact M.mem.kept (by rw [Below.heap_setCell _ _ _ _ hb]) (by rw [Below.heap_setCell _ _ _ _ hd])
  · refine M.out.kept (grown_set w n k v) ?_
    rcases M.out.2 with ⟨h, h0⟩ | ⟨g, cap, cur, h, _, h3, _⟩
    · rw [h]; exact .inl rfl
    · refine .inr ?_
      rw [h]
      simp only [Value.ownBlock, ne_eq, Option.some.injEq]
      intro e
      rw [e, hr] at h3
      simp at h3
  · rw [Below.heap_setCell _ _ _ _ (show j ≠ n by intro e; rw [e, hg] at hj; simp at hj)]
    exact M.keep j xs hj
  · exact row_set hr k v
end Go.Proofs.Ytjlngglkljjgmaa
