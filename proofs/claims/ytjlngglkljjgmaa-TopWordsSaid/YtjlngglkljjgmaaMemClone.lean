/- slices.Clone of words; Fork; Words. -/
import Derived.Test.YtjlngglkljjgmaaMemNew
import Derived.Laws.AppendOwn
namespace Go.Proofs.Ytjlngglkljjgmaa
open Go.RowKit
/-- A slice in new memory whose first n cells are these. -/
def NewSl (w : World) (n : Nat) (xs : List Value) (e : Ending) (w' : World) : Prop :=
  ∃ (g : Nat) (cur : List Value), e = .returned (.slice (some ⟨g, 0, none⟩) n cur.length) ∧ n ≤ cur.length ∧ cur.take n = xs ∧ w'.heap[g]? = some (.cells cur.toArray 32 (0, 0)) ∧ w.heap.size ≤ g ∧ Below w.heap.size w w'
theorem sl_of_row {w : World} {base n : Nat} {v : Value} {xs : List Value} (h : w.ownsRow base 32 1 v n xs) (hv : v ≠ .slice none 0 0) :
    ∃ (g : Nat) (cur : List Value), v = .slice (some ⟨g, 0, none⟩) n cur.length ∧ n ≤ cur.length ∧ cur.take n = xs ∧ w.heap[g]? = some (.cells cur.toArray 32 (0, 0)) ∧ base ≤ g := by
  rcases h.2 with ⟨h', _⟩ | ⟨g, cap, cur, h', hb, hg, hn, _, hc, ht⟩
  · exact absurd h' hv
  · have e : cur.toList.length = cap := by simpa using hc
    exact ⟨g, cur.toList, by rw [e]; exact h', by omega, by simpa using ht, by simpa using hg, hb⟩
theorem add_at0 (d j : Nat) : (⟨d, 0, none⟩ : Addr).add j = ⟨d, j, none⟩ := by
  unfold Addr.add
  split <;> simp_all
/-- A memory's words, as cells. -/
theorem memB_cell {w : World} {b d n : Nat} {cur : List Value} (h : MemB w b d n cur) (k : Nat) (x : Value) (hx : cur[k]? = some x) : w.cell? ⟨d, k, none⟩ = some x := by
  simp [World.cell?, h.2.2.1, hx]
theorem memB_free {w : World} {b d n : Nat} {cur : List Value} (h : MemB w b d n cur) (k : Nat) : w.frozen? ⟨d, k, none⟩ = false := by
  simp [World.frozen?, h.2.2.1]
theorem memB_ptr {w : World} {b d n : Nat} {cur : List Value} (h : MemB w b d n cur) : w.cell? ⟨b, 0, none⟩ = some (.slice (some ⟨d, 0, none⟩) n cur.length) := by
  simp [World.cell?, h.2.1]
/-- What Fork leaves. -/
def NewPtr (w : World) (n : Nat) (xs : List Value) (e : Ending) (w' : World) : Prop :=
  ∃ (b d : Nat) (cur : List Value), e = .returned (.pointer (some ⟨b, 0, none⟩)) ∧ MemB w' b d n cur ∧ cur.take n = xs ∧ w.heap.size ≤ b ∧ w.heap.size ≤ d ∧ Below w.heap.size w w'
/-- What Words leaves where it answers. -/
def NewWords (w : World) (n : Nat) (xs : List Value) (e : Ending) (w' : World) : Prop :=
  ∃ (g : Nat) (cur : List Value), e = .returned (.tuple #[.slice (some ⟨g, 0, none⟩) n cur.length, .bool true]) ∧ n ≤ cur.length ∧ cur.take n = xs ∧ w'.heap[g]? = some (.cells cur.toArray 32 (0, 0)) ∧ w.heap.size ≤ g ∧ Below w.heap.size w w'
theorem mem_window {α : Type} {l : List α} {a n N : Nat} {u : α} (h : u ∈ (l.drop a).take n) (hN : a + n ≤ N) : u ∈ l.take N := by
  obtain ⟨j, hj, rfl⟩ := List.mem_iff_getElem.1 h
  have hj' : j < n ∧ a + j < l.length := by simp at hj; omega
  rw [List.mem_iff_getElem]
  refine ⟨a + j, by simp; omega, ?_⟩
  simp
end Go.Proofs.Ytjlngglkljjgmaa
