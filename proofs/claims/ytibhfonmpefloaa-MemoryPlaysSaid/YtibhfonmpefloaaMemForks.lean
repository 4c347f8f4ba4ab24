/- Fork, Words, Store and Load at a word, over lists. -/
import Derived.Test.YtibhfonmpefloaaMemRow
namespace Go.Proofs.Ytibhfonmpefloaa
open Go.RowKit
theorem fork_mem {w : World} {b d : Nat} {xs : List Nat} (h : Mem w b d xs) (hm : (xs.length : Int) ≤ 65536) :
    Calls Try.prog 38 #[.pointer (some ⟨b, 0, none⟩)] w fun e w' => ∃ b' d', e = .returned (.pointer (some ⟨b', 0, none⟩)) ∧ Mem w' b' d' xs ∧ w.heap.size ≤ b' ∧ w.heap.size ≤ d' ∧ Below w.heap.size w w' := by
  obtain ⟨cur, hM, ht, hs⟩ := h
  refine (fork_calls b d xs.length cur w hM hm (by rw [ht]; exact one_W32 xs)).mono ?_
  rintro e w' ⟨b', d', cur', rfl, hM', ht', hb, hd, hB⟩
  exact ⟨b', d', rfl, ⟨cur', hM', by rw [ht', ht], hs⟩, hb, hd, hB⟩
theorem words_all {w : World} {b d len : Nat} {xs : List Nat} (h : Mem w b d xs) (hl : xs.length = len) (h0 : 0 < len) (hm : (len : Int) ≤ 65536) :
    Calls Try.prog 40 #[.pointer (some ⟨b, 0, none⟩), .int .i64 0, .int .i64 len] w fun e w' => ∃ g c, e = .returned (.tuple #[.slice (some ⟨g, 0, none⟩) len c, .bool true]) ∧ (∀ j z : Nat, xs[j]? = some z → w'.cell? ⟨g, j, none⟩ = some (.int .u32 (z : Int))) ∧ w.heap.size ≤ g ∧ Below w.heap.size w w' := by
  subst hl
  obtain ⟨cur, hM, ht, hs⟩ := h
  refine (words_some b d xs.length cur 0 xs.length w hM hm (by rw [ht]; exact one_W32 xs) (by omega) (by omega)).mono ?_
  rintro e w' ⟨g, cur', rfl, hn, ht', hg, hb, hB⟩
  refine ⟨g, cur'.length, rfl, fun j z hz => ?_, hb, hB⟩
  have hj : j < xs.length := by
    rcases Nat.lt_or_ge j xs.length with h' | h'
    · exact h'
    · rw [List.getElem?_eq_none h'] at hz; cases hz
  have h1 : (cur'.take xs.length)[j]? = some (.int .u32 (z : Int)) := by
    rw [ht', List.drop_zero, ht]
    simp [W32, hz]
  rw [List.getElem?_take_of_lt hj] at h1
  unfold World.cell?
  dsimp only
  rw [hg]
  simpa using h1
theorem st_word {w : World} {b d : Nat} {ys : List Nat} (h : Mem w b d ys) (k q v : Nat) (hk : k = 4 * q) (hk2 : k < 4294967296) (hq : q < ys.length) (hv : v < 4294967296) :
    Calls Try.prog 39 #[.pointer (some ⟨b, 0, none⟩), .int .u32 k, .int .u32 v] w fun e w' => e = .returned (.bool true) ∧ Mem w' b d (ys.set q v) ∧ w.grownBy w' (some d) ∧ w'.heap.size = w.heap.size := by
  have e : full ys k = true := by simp [full]; omega
  refine Calls.mono (mem_store h k v hk2 hv) ?_
  rintro e' w' ⟨rfl, h1, h2, h3⟩
  rw [e, if_pos rfl, show k / 4 = q by omega] at h1
  exact ⟨by rw [e], h1, h2, h3⟩
theorem ld_word {w : World} {b d : Nat} {ys : List Nat} (h : Mem w b d ys) (k q z : Nat) (hk : k = 4 * q) (hk2 : k < 4294967296) (hz : ys[q]? = some z) :
    Calls Try.prog 36 #[.pointer (some ⟨b, 0, none⟩), .int .u32 k] w fun e w' => e = .returned (.tuple #[.int .u32 z, .bool true]) ∧ w = w' := by
  have hq : q < ys.length := by
    rcases Nat.lt_or_ge q ys.length with h' | h'
    · exact h'
    · rw [List.getElem?_eq_none h'] at hz; cases hz
  have e : full ys k = true := by simp [full]; omega
  refine Calls.mono (mem_load h k hk2) ?_
  rintro e' w' ⟨rfl, rfl⟩
  have ew : wordOf ys k = z := by unfold wordOf; rw [show k / 4 = q by omega]; simp [hz]
  rw [e, if_pos rfl, ew]
  exact ⟨rfl, rfl⟩
/-- A memory lies on where another's words are written. -/
theorem Mem.apart {w w' : World} {b d r : Nat} {xs : List Nat} (h : Mem w b d xs) (hg : w.grownBy w' (some r)) (hb : b ≠ r) (hd : d ≠ r) : Mem w' b d xs :=
  h.kept (hg.block b h.lt.1 (by simp; omega)) (hg.block d h.lt.2 (by simp; omega))
end Go.Proofs.Ytibhfonmpefloaa
