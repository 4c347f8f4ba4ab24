/- A memory as a list of words: what each call tells and leaves. -/
import Derived.Test.YtjlngglkljjgmaaMemClone
namespace Go.Proofs.Ytjlngglkljjgmaa
open Go.RowKit
def W32 (xs : List Nat) : List Value := xs.map fun (x : Nat) => Value.int .u32 (x : Int)
theorem one_W32 (xs : List Nat) : ∀ u ∈ W32 xs, u.oneCell' = true := by
  intro u hu
  obtain ⟨x, _, rfl⟩ := List.mem_map.1 hu
  rfl
/-- A memory of these words lies at b, its words in block d. -/
def Mem (w : World) (b d : Nat) (xs : List Nat) : Prop := ∃ cur, MemB w b d xs.length cur ∧ cur.take xs.length = W32 xs ∧ ∀ x ∈ xs, x < 4294967296
theorem Mem.cell {w : World} {b d : Nat} {xs : List Nat} (h : Mem w b d xs) {k : Nat} (hk : k < xs.length) : w.cell? ⟨d, k, none⟩ = some (.int .u32 (xs[k] : Nat)) := by
  obtain ⟨cur, hM, ht, _⟩ := h
  refine memB_cell hM k _ ?_
  have h1 : (cur.take xs.length)[k]? = some (.int .u32 (xs[k] : Nat)) := by rw [ht]; simp [W32, hk]
  rwa [List.getElem?_take_of_lt hk] at h1
theorem Mem.free {w : World} {b d : Nat} {xs : List Nat} (h : Mem w b d xs) (k : Nat) : w.frozen? ⟨d, k, none⟩ = false := by
  obtain ⟨cur, hM, _⟩ := h
  exact memB_free hM k
theorem Mem.ptr {w : World} {b d : Nat} {xs : List Nat} (h : Mem w b d xs) : ∃ cap, w.cell? ⟨b, 0, none⟩ = some (.slice (some ⟨d, 0, none⟩) xs.length cap) := by
  obtain ⟨cur, hM, _⟩ := h
  exact ⟨_, memB_ptr hM⟩
theorem Mem.small {w : World} {b d : Nat} {xs : List Nat} (h : Mem w b d xs) : ∀ x ∈ xs, x < 4294967296 := h.choose_spec.2.2
theorem Mem.ne {w : World} {b d : Nat} {xs : List Nat} (h : Mem w b d xs) : b ≠ d := h.choose_spec.1.2.2.2
/-- It lies on where other blocks are written. -/
theorem Mem.kept {w w' : World} {b d : Nat} {xs : List Nat} (h : Mem w b d xs) (hb : w'.heap[b]? = w.heap[b]?) (hd : w'.heap[d]? = w.heap[d]?) : Mem w' b d xs := by
  obtain ⟨cur, ⟨h1, h2, h3, h4⟩, ht, hs⟩ := h
  exact ⟨cur, ⟨h1, by rw [hb]; exact h2, by rw [hd]; exact h3, h4⟩, ht, hs⟩
theorem Mem.lt {w : World} {b d : Nat} {xs : List Nat} (h : Mem w b d xs) : b < w.heap.size ∧ d < w.heap.size := by
  obtain ⟨cur, ⟨_, h2, h3, _⟩, _⟩ := h
  exact ⟨(Array.getElem?_eq_some_iff.1 h2).1, (Array.getElem?_eq_some_iff.1 h3).1⟩
theorem Mem.below {w w' : World} {b d B : Nat} {xs : List Nat} (h : Mem w b d xs) (hB : Below B w w') (hb : b < B) (hd : d < B) : Mem w' b d xs := h.kept (hB.block b hb) (hB.block d hd)
theorem Mem.below_all {w w' : World} {b d : Nat} {xs : List Nat} (h : Mem w b d xs) (hB : Below w.heap.size w w') : Mem w' b d xs := h.below hB h.lt.1 h.lt.2
theorem Mem.drewN {w : World} {b d : Nat} {xs : List Nat} (h : Mem w b d xs) (n : Nat) : Mem (w.drewN n) b d xs := h.kept rfl rfl
/-- Behind a store. -/
theorem Mem.set {w : World} {b d : Nat} {xs : List Nat} (h : Mem w b d xs) (k v : Nat) (hv : v < 4294967296) (_hk : k < xs.length) : Mem (w.setCell ⟨d, k, none⟩ (.int .u32 v)) b d (xs.set k v) := by
  obtain ⟨cur, ⟨h1, h2, h3, h4⟩, ht, hs⟩ := h
  refine ⟨cur.set k (.int .u32 v), ⟨by simpa using h1, ?_, ?_, h4⟩, ?_, ?_⟩
  · rw [Below.heap_setCell _ _ _ _ h4]; simpa using h2
  · simp only [World.setCell, Array.getElem?_modify, if_pos]
    rw [h3]
    simp
  · rw [List.length_set, List.take_set, ht]
    simp [W32, List.map_set]
  · intro x hx
    rcases List.mem_or_eq_of_mem_set hx with hx | rfl
    · exact hs x hx
    · exact hv
/-- The word that a byte's place is in is there. -/
def here (xs : List Nat) (at_ : Nat) : Bool := decide (at_ / 4 < xs.length)
def full (xs : List Nat) (at_ : Nat) : Bool := decide (at_ / 4 < xs.length) && at_ % 4 == 0
def wordOf (xs : List Nat) (at_ : Nat) : Nat := xs.getD (at_ / 4) 0
theorem word_here {w : World} {b d : Nat} {xs : List Nat} (h : Mem w b d xs) (at_ : Nat) (ha : at_ < 4294967296) (hh : at_ / 4 < xs.length) : WordAt w (.pointer (some ⟨b, 0, none⟩)) at_ (some ⟨d, at_ / 4, none⟩) := by
  obtain ⟨cap, hp⟩ := h.ptr
  intro w1 hw
  subst hw
  exact word_some b d xs.length cap (at_ / 4) at_ w1 hp (by omega) (by omega) (by omega)
theorem word_out {w : World} {b d : Nat} {xs : List Nat} (h : Mem w b d xs) (at_ : Nat) (ha : at_ < 4294967296) (hh : ¬ at_ / 4 < xs.length) : WordAt w (.pointer (some ⟨b, 0, none⟩)) at_ none := by
  obtain ⟨cap, hp⟩ := h.ptr
  intro w1 hw
  subst hw
  exact word_none b d xs.length cap (at_ / 4) at_ w1 hp (by omega) (by omega) (by omega)
theorem mem_size {w : World} {b d : Nat} {xs : List Nat} (h : Mem w b d xs) : Calls Try.prog 19 #[.pointer (some ⟨b, 0, none⟩)] w fun e w' => e = .returned (.int .i64 xs.length) ∧ w = w' := by
  obtain ⟨cap, hp⟩ := h.ptr
  exact size_some b d _ cap w hp
theorem mem_load {w : World} {b d : Nat} {xs : List Nat} (h : Mem w b d xs) (at_ : Nat) (ha : at_ < 4294967296) :
    Calls Try.prog 8 #[.pointer (some ⟨b, 0, none⟩), .int .u32 at_] w fun e w' => e = .returned (.tuple #[.int .u32 (if full xs at_ then (wordOf xs at_ : Int) else 0), .bool (full xs at_)]) ∧ w = w' := by
  by_cases hh : at_ / 4 < xs.length
  · by_cases hf : at_ % 4 = 0
    · have e : full xs at_ = true := by simp [full, hh, hf]
      rw [e, if_pos rfl]
      refine load_some _ d (at_ / 4) _ at_ w (word_here h at_ ha hh) (by omega) ?_
      rw [h.cell hh]
      simp [wordOf, hh]
    · have e : full xs at_ = false := by simp [full, hf]
      rw [e]
      exact load_odd _ _ at_ (at_ % 4) w (word_here h at_ ha hh) (by omega) (by simp; omega)
  · have e : full xs at_ = false := by simp [full, hh]
    rw [e]
    exact load_none _ at_ w (word_out h at_ ha hh)
/-- What a call that may store leaves. -/
def Stored (w : World) (b d : Nat) (ok : Bool) (xs : List Nat) (e : Ending) (w' : World) : Prop := e = .returned (.bool ok) ∧ Mem w' b d xs ∧ w.grownBy w' (some d) ∧ w'.heap.size = w.heap.size
theorem grown_self (w : World) (r : Option Nat) : w.grownBy w r := ⟨rfl, rfl, rfl, Nat.le_refl _, fun _ _ _ => rfl⟩
theorem grown_set (w : World) (d k : Nat) (v : Value) : w.grownBy (w.setCell ⟨d, k, none⟩ v) (some d) :=
  ⟨rfl, rfl, rfl, by simp [World.setCell], fun i _ hi => Below.heap_setCell _ _ _ _ (fun e => hi (by rw [e]))⟩
theorem mem_store {w : World} {b d : Nat} {xs : List Nat} (h : Mem w b d xs) (at_ v : Nat) (ha : at_ < 4294967296) (hv : v < 4294967296) :
    Calls Try.prog 46 #[.pointer (some ⟨b, 0, none⟩), .int .u32 at_, .int .u32 v] w (Stored w b d (full xs at_) (if full xs at_ then xs.set (at_ / 4) v else xs)) := by
  by_cases hh : at_ / 4 < xs.length
  · by_cases hf : at_ % 4 = 0
    · have e : full xs at_ = true := by simp [full, hh, hf]
      rw [e, if_pos rfl]
      refine (store_some _ d (at_ / 4) _ v at_ w (word_here h at_ ha hh) (by omega) (h.cell hh) (h.free _)).mono ?_
      rintro e' w' ⟨rfl, rfl⟩
      exact ⟨rfl, h.set _ v hv hh, grown_set _ _ _ _, by simp⟩
    · have e : full xs at_ = false := by simp [full, hf]
      rw [e]
      refine (store_odd _ _ at_ (at_ % 4) v w (word_here h at_ ha hh) (by omega) (by simp; omega)).mono ?_
      rintro e' w' ⟨rfl, rfl⟩
      exact ⟨rfl, h, grown_self _ _, rfl⟩
  · have e : full xs at_ = false := by simp [full, hh]
    rw [e]
    refine (store_none _ at_ v w (word_out h at_ ha hh)).mono ?_
    rintro e' w' ⟨rfl, rfl⟩
    exact ⟨rfl, h, grown_self _ _, rfl⟩
theorem mem_byte {w : World} {b d : Nat} {xs : List Nat} (h : Mem w b d xs) (at_ : Nat) (ha : at_ < 4294967296) :
    Calls Try.prog 32 #[.pointer (some ⟨b, 0, none⟩), .int .u32 at_] w fun e w' => e = .returned (.tuple #[.int .u32 (if here xs at_ then ((wordOf xs at_ / 2 ^ (8 * (at_ % 4)) % 256 : Nat) : Int) else 0), .bool (here xs at_)]) ∧ w = w' := by
  by_cases hh : at_ / 4 < xs.length
  · have e : here xs at_ = true := by simp [here, hh]
    rw [e, if_pos rfl]
    refine byte_some _ d (at_ / 4) _ at_ (at_ % 4) w (word_here h at_ ha hh) (by omega) (by omega) ?_
    rw [h.cell hh]
    simp [wordOf, hh]
  · have e : here xs at_ = false := by simp [here, hh]
    rw [e]
    exact byte_none _ at_ w (word_out h at_ ha hh)
theorem put_small (x lo n v : Nat) (hx : x < 4294967296) (h2 : lo + n ≤ 32) : putN x lo n v < 4294967296 := by
  have hm := maskAt_lt lo n h2
  unfold putN
  rw [← put_bits x v lo n hx h2]
  exact Nat.or_lt_two_pow (n := 32) (Nat.lt_of_le_of_lt Nat.and_le_left hx) (Nat.lt_of_le_of_lt Nat.and_le_right hm)
theorem mem_putb {w : World} {b d : Nat} {xs : List Nat} (h : Mem w b d xs) (at_ v : Nat) (ha : at_ < 4294967296) :
    Calls Try.prog 45 #[.pointer (some ⟨b, 0, none⟩), .int .u32 at_, .int .u32 v] w (Stored w b d (here xs at_) (if here xs at_ then xs.set (at_ / 4) (putN (wordOf xs at_) (8 * (at_ % 4)) 8 v) else xs)) := by
  by_cases hh : at_ / 4 < xs.length
  · have e : here xs at_ = true := by simp [here, hh]
    have ew : wordOf xs at_ = xs[at_ / 4] := by simp [wordOf, hh]
    have hx : xs[at_ / 4] < 4294967296 := h.small _ (List.getElem_mem hh)
    rw [e, if_pos rfl, ew]
    refine (putb_some _ d (at_ / 4) _ v at_ (at_ % 4) w (word_here h at_ ha hh) (by omega) (by omega) (h.cell hh) hx (h.free _)).mono ?_
    rintro e' w' ⟨rfl, rfl⟩
    exact ⟨rfl, h.set _ _ (put_small _ _ _ _ hx (by omega)) hh, grown_set _ _ _ _, by simp⟩
  · have e : here xs at_ = false := by simp [here, hh]
    rw [e]
    refine (putb_none _ at_ v w (word_out h at_ ha hh)).mono ?_
    rintro e' w' ⟨rfl, rfl⟩
    exact ⟨rfl, h, grown_self _ _, rfl⟩
end Go.Proofs.Ytjlngglkljjgmaa
