/- Memories, nil or not, as a place and a list of words; package memory's calls over them. -/
import Derived.Test.YtibhfonmpefloaaMemForks
import Derived.LoopTactic
import Derived.Laws.AppendOwnNone
namespace Go.Proofs.Ytibhfonmpefloaa
open Go.RowKit
/-- A memory of a type t: its struct at b, its words at d. -/
def MT (t : TypeId) (w : World) (b d : Nat) (xs : List Nat) : Prop :=
  ∃ cur : List Value, xs.length ≤ cur.length ∧ w.heap[b]? = some (.cells #[.slice (some ⟨d, 0, none⟩) xs.length cur.length] t (0, 0)) ∧ w.heap[d]? = some (.cells cur.toArray 22 (0, 0)) ∧ b ≠ d ∧ cur.take xs.length = W32 xs ∧ ∀ x ∈ xs, x < 4294967296
section
variable {t : TypeId} {w w' : World} {b d : Nat} {xs : List Nat}
theorem MT.of_mem (h : Mem w b d xs) : MT 65 w b d xs := by
  obtain ⟨cur, ⟨h1, h2, h3, h4⟩, ht, hs⟩ := h
  exact ⟨cur, h1, h2, h3, h4, ht, hs⟩
theorem MT.mem (h : MT 65 w b d xs) : Mem w b d xs := by
  obtain ⟨cur, h1, h2, h3, h4, ht, hs⟩ := h
  exact ⟨cur, ⟨h1, h2, h3, h4⟩, ht, hs⟩
theorem MT.cell (h : MT t w b d xs) {k : Nat} (hk : k < xs.length) : w.cell? ⟨d, k, none⟩ = some (.int .u32 (xs[k] : Nat)) := by
  obtain ⟨cur, _, _, h3, _, ht, _⟩ := h
  have h1 : (cur.take xs.length)[k]? = some (.int .u32 (xs[k] : Nat)) := by rw [ht]; simp [W32, hk]
  rw [List.getElem?_take_of_lt hk] at h1
  simp [World.cell?, h3, h1]
theorem MT.free (h : MT t w b d xs) (k : Nat) : w.frozen? ⟨d, k, none⟩ = false := by
  obtain ⟨cur, _, _, h3, _⟩ := h
  simp [World.frozen?, h3]
theorem MT.ptr (h : MT t w b d xs) : ∃ cap, w.cell? ⟨b, 0, none⟩ = some (.slice (some ⟨d, 0, none⟩) xs.length cap) := by
  obtain ⟨cur, _, h2, _⟩ := h
  exact ⟨cur.length, by simp [World.cell?, h2]⟩
theorem MT.small (h : MT t w b d xs) : ∀ x ∈ xs, x < 4294967296 := by
  obtain ⟨cur, _, _, _, _, _, hs⟩ := h
  exact hs
theorem MT.kept (h : MT t w b d xs) (hb : w'.heap[b]? = w.heap[b]?) (hd : w'.heap[d]? = w.heap[d]?) : MT t w' b d xs := by
  obtain ⟨cur, h1, h2, h3, h4, ht, hs⟩ := h
  exact ⟨cur, h1, by rw [hb]; exact h2, by rw [hd]; exact h3, h4, ht, hs⟩
theorem MT.lt (h : MT t w b d xs) : b < w.heap.size ∧ d < w.heap.size := by
  obtain ⟨cur, _, h2, h3, _⟩ := h
  exact ⟨(Array.getElem?_eq_some_iff.1 h2).1, (Array.getElem?_eq_some_iff.1 h3).1⟩
theorem MT.set (h : MT t w b d xs) (k v : Nat) (hv : v < 4294967296) : MT t (w.setCell ⟨d, k, none⟩ (.int .u32 v)) b d (xs.set k v) := by
  obtain ⟨cur, h1, h2, h3, h4, ht, hs⟩ := h
  refine ⟨cur.set k (.int .u32 v), by simpa using h1, ?_, ?_, h4, ?_, ?_⟩
  · rw [Below.heap_setCell _ _ _ _ h4]; simpa using h2
  · simp only [World.setCell, Array.getElem?_modify, if_pos]
    rw [h3]
    simp
  · rw [List.length_set, List.take_set, ht]
    simp [W32, List.map_set]
  · intro x hx
    rcases List.mem_or_eq_of_mem_set hx with hx | rfl
    · exact hs x hx
    · exact hv
end
/-- A memory's place: none, or its two blocks. -/
def pv (r : Option (Nat × Nat)) : Value := .pointer (r.map fun x => ⟨x.1, 0, none⟩)
def rowOf (r : Option (Nat × Nat)) : Option Nat := r.map (·.2)
def MV (t : TypeId) (w : World) (r : Option (Nat × Nat)) (xs : List Nat) : Prop :=
  xs.length ≤ 65536 ∧ match r with
    | none => xs = []
    | some x => MT t w x.1 x.2 xs
def Apart (r s : Option (Nat × Nat)) : Prop := ∀ x, r = some x → ∀ y, s = some y → x.1 ≠ y.2 ∧ x.2 ≠ y.2
def Above (B : Nat) (r : Option (Nat × Nat)) : Prop := ∀ x, r = some x → B ≤ x.1 ∧ B ≤ x.2
def ldI (xs : List Nat) (at_ : Nat) : Int := if full xs at_ then (wordOf xs at_ : Int) else 0
def byI (xs : List Nat) (at_ : Nat) : Int := if here xs at_ then ((wordOf xs at_ / 2 ^ (8 * (at_ % 4)) % 256 : Nat) : Int) else 0
def stL (xs : List Nat) (at_ v : Nat) : List Nat := if full xs at_ then xs.set (at_ / 4) v else xs
def pbL (xs : List Nat) (at_ v : Nat) : List Nat := if here xs at_ then xs.set (at_ / 4) (putN (wordOf xs at_) (8 * (at_ % 4)) 8 v) else xs
section
variable {t : TypeId} {w w' : World} {r s : Option (Nat × Nat)} {xs : List Nat} {B : Nat}
theorem MV.below (h : MV t w r xs) (hB : Below w.heap.size w w') : MV t w' r xs := by
  obtain ⟨hl, hm⟩ := h
  refine ⟨hl, ?_⟩
  rcases r with _ | x
  · exact hm
  · have hm : MT t w x.1 x.2 xs := hm
    exact hm.kept (hB.block _ hm.lt.1) (hB.block _ hm.lt.2)
theorem MV.drewN (h : MV t w r xs) (n : Nat) : MV t (w.drewN n) r xs := h
theorem MV.grown (h : MV t w s xs) (hg : w.grownBy w' (rowOf r)) (ha : Apart s r) : MV t w' s xs := by
  obtain ⟨hl, hm⟩ := h
  refine ⟨hl, ?_⟩
  rcases s with _ | x
  · exact hm
  · have hm : MT t w x.1 x.2 xs := hm
    rcases r with _ | y
    · exact hm.kept (hg.block _ hm.lt.1 (by simp [rowOf])) (hg.block _ hm.lt.2 (by simp [rowOf]))
    · obtain ⟨h1, h2⟩ := ha x rfl y rfl
      exact hm.kept (hg.block _ hm.lt.1 (by simp [rowOf]; exact h1)) (hg.block _ hm.lt.2 (by simp [rowOf]; exact h2))
theorem MV.lt (h : MV t w r xs) : ∀ x, r = some x → x.1 < w.heap.size ∧ x.2 < w.heap.size := by
  rintro x rfl
  have hm : MT t w x.1 x.2 xs := h.2
  exact hm.lt
theorem Above.apart (h : MV t w s xs) (ha : Above w.heap.size r) : Apart s r ∧ Apart r s := by
  refine ⟨fun x hx y hy => ?_, fun y hy x hx => ?_⟩
  all_goals
    have h1 := h.lt x hx
    have h2 := ha y hy
    omega
theorem Above.mono {B' : Nat} (h : Above B' r) (hB : B ≤ B') : Above B r := fun x hx => by have := h x hx; omega
theorem below_row (h : Below w.heap.size w w') {w2 : World} (hg : w'.grownBy w2 (rowOf r)) (ha : Above w.heap.size r) : Below w.heap.size w w2 :=
  h.grown hg h.size (fun k hk => by
    rcases r with _ | x
    · simp [rowOf] at hk
    · simp [rowOf] at hk
      have := ha x rfl
      omega)
end
/-- What a store leaves. -/
def StoredV (t : TypeId) (w : World) (r : Option (Nat × Nat)) (ok : Bool) (xs : List Nat) (e : Ending) (w' : World) : Prop := e = .returned (.bool ok) ∧ MV t w' r xs ∧ w.grownBy w' (rowOf r) ∧ w'.heap.size = w.heap.size
theorem full_nil (at_ : Nat) : full [] at_ = false := by simp [full]
theorem here_nil (at_ : Nat) : here [] at_ = false := by simp [here]
theorem nil_at (at_ : Nat) (ha : at_ < 4294967296) (w : World) : WordAt w (.pointer none) at_ none := by
  intro w1 hw
  subst hw
  exact word_nil (at_ / 4) at_ _ (by omega) (by omega)
section
variable {w : World} {r : Option (Nat × Nat)} {xs : List Nat}
theorem v_size (h : MV 65 w r xs) : Calls Try.prog 42 #[pv r] w fun e w' => e = .returned (.int .i64 xs.length) ∧ w = w' := by
  rcases r with _ | x
  · have : xs = [] := h.2
    subst this
    exact size_nil w
  · exact mem_size (MT.mem h.2)
theorem v_load (h : MV 65 w r xs) (at_ : Nat) (ha : at_ < 4294967296) : Calls Try.prog 36 #[pv r, .int .u32 at_] w fun e w' => e = .returned (.tuple #[.int .u32 (ldI xs at_), .bool (full xs at_)]) ∧ w = w' := by
  rcases r with _ | x
  · have : xs = [] := h.2
    subst this
    rw [ldI, full_nil]
    exact load_none _ _ w (nil_at at_ ha w)
  · exact mem_load (MT.mem h.2) at_ ha
theorem v_byte (h : MV 65 w r xs) (at_ : Nat) (ha : at_ < 4294967296) : Calls Try.prog 37 #[pv r, .int .u32 at_] w fun e w' => e = .returned (.tuple #[.int .u32 (byI xs at_), .bool (here xs at_)]) ∧ w = w' := by
  rcases r with _ | x
  · have : xs = [] := h.2
    subst this
    rw [byI, here_nil]
    exact byte_none _ _ w (nil_at at_ ha w)
  · exact mem_byte (MT.mem h.2) at_ ha
theorem v_store (h : MV 65 w r xs) (at_ v : Nat) (ha : at_ < 4294967296) (hv : v < 4294967296) : Calls Try.prog 39 #[pv r, .int .u32 at_, .int .u32 v] w (StoredV 65 w r (full xs at_) (stL xs at_ v)) := by
  rcases r with _ | x
  · have : xs = [] := h.2
    subst this
    refine Calls.mono (store_none _ at_ v w (nil_at at_ ha w)) ?_
    rintro e w' ⟨rfl, rfl⟩
    exact ⟨by rw [full_nil], ⟨by simp [stL, full_nil], by simp [stL, full_nil]⟩, grown_self _ _, rfl⟩
  · refine Calls.mono (mem_store (MT.mem h.2) at_ v ha hv) ?_
    rintro e w' ⟨rfl, h1, h2, h3⟩
    refine ⟨rfl, ⟨?_, MT.of_mem h1⟩, h2, h3⟩
    have := h.1
    unfold stL
    split <;> simpa using this
theorem v_putb (h : MV 65 w r xs) (at_ v : Nat) (ha : at_ < 4294967296) : Calls Try.prog 35 #[pv r, .int .u32 at_, .int .u32 v] w (StoredV 65 w r (here xs at_) (pbL xs at_ v)) := by
  rcases r with _ | x
  · have : xs = [] := h.2
    subst this
    refine Calls.mono (putb_none _ at_ v w (nil_at at_ ha w)) ?_
    rintro e w' ⟨rfl, rfl⟩
    exact ⟨by rw [here_nil], ⟨by simp [pbL, here_nil], by simp [pbL, here_nil]⟩, grown_self _ _, rfl⟩
  · refine Calls.mono (mem_putb (MT.mem h.2) at_ v ha) ?_
    rintro e w' ⟨rfl, h1, h2, h3⟩
    refine ⟨rfl, ⟨?_, MT.of_mem h1⟩, h2, h3⟩
    have := h.1
    unfold pbL
    split <;> simpa using this
theorem v_fork (h : MV 65 w r xs) : Calls Try.prog 38 #[pv r] w fun e w' => ∃ r', e = .returned (pv r') ∧ MV 65 w' r' xs ∧ Above w.heap.size r' ∧ Below w.heap.size w w' := by
  rcases r with _ | x
  · have : xs = [] := h.2
    subst this
    refine (fork_nil w).mono ?_
    rintro e w' ⟨rfl, rfl⟩
    exact ⟨none, rfl, ⟨by simp, rfl⟩, (fun _ h => by cases h), Below.refl _ _⟩
  · refine (fork_mem (MT.mem h.2) (by have := h.1; omega)).mono ?_
    rintro e w' ⟨b', d', rfl, hM, hb, hd, hB⟩
    exact ⟨some (b', d'), rfl, ⟨h.1, MT.of_mem hM⟩, (fun x hx => by cases hx; exact ⟨hb, hd⟩), hB⟩
end
/-- A slice that reads as these words. -/
def SlR (w : World) (A : Option Addr) (zs : List Nat) : Prop := 0 < zs.length → ∃ b off, A = some ⟨b, off, none⟩ ∧ ∀ j (h : j < zs.length), w.cell? ⟨b, off + j, none⟩ = some (.int .u32 (zs[j] : Nat))
theorem SlR.below {w w' : World} {A : Option Addr} {zs : List Nat} (h : SlR w A zs) (hB : Below w.heap.size w w') : SlR w' A zs := by
  intro h0
  obtain ⟨b, off, rfl, hc⟩ := h h0
  refine ⟨b, off, rfl, fun j hj => ?_⟩
  rw [hB.cell (World.block_lt_of_cell? w _ (hc j hj))]
  exact hc j hj
def wOk (xs : List Nat) (a n : Int) : Bool := decide (0 ≤ a ∧ 0 ≤ n ∧ a ≤ xs.length ∧ n ≤ xs.length - a)
def wL (xs : List Nat) (a n : Int) : List Nat := if wOk xs a n then (xs.drop a.toNat).take n.toNat else []
/-- What Words tells. -/
def WordsV (w : World) (zs : List Nat) (ok : Bool) (e : Ending) (w' : World) : Prop := ∃ A c, e = .returned (.tuple #[.slice A zs.length c, .bool ok]) ∧ SlR w' A zs ∧ Below w.heap.size w w'
/-- How many words a receiver has. -/
def SizeAt (w : World) (p : Value) (n : Nat) : Prop := ∀ w1 : World, w1 = w → Calls Try.prog 42 #[p] w1 fun e w' => e = .returned (.int .i64 n) ∧ w1 = w'
theorem sz_words_bad (p : Value) (N : Nat) (a n : Int) (w : World) (hp : SizeAt w p N) (hN : (N : Int) ≤ 65536) (h : ¬ (0 ≤ a ∧ 0 ≤ n ∧ a ≤ N ∧ n ≤ N - a)) :
    Calls Try.prog 40 #[p, .int .i64 a, .int .i64 n] w fun e w' => e = .returned (.tuple #[.slice none 0 0, .bool false]) ∧ w = w' := by
  have S := Lib.hid hp
  clear hp
  by_cases c1 : a < 0
  · have b1 : decide (a < 0) = true := decide_eq_true c1
    clear h
    go_enter Try.func40, Try.ntmps40
    go_wp2_with (go_at_call 42; refine (S.out _ rfl).mono ?_; rintro e w' ⟨rfl, rfl⟩)
    go_ret2
    exact ⟨rfl, rfl⟩
  · have b1 : decide (a < 0) = false := decide_eq_false c1
    by_cases c2 : n < 0
    · have b2 : decide (n < 0) = true := decide_eq_true c2
      clear h
      go_enter Try.func40, Try.ntmps40
      go_wp2_with (go_at_call 42; refine (S.out _ rfl).mono ?_; rintro e w' ⟨rfl, rfl⟩)
      go_ret2
      exact ⟨rfl, rfl⟩
    · have b2 : decide (n < 0) = false := decide_eq_false c2
      by_cases c3 : (N : Int) < a
      · have b3 : decide ((N : Int) < a) = true := decide_eq_true c3
        clear h
        go_enter Try.func40, Try.ntmps40
        go_wp2_with (go_at_call 42; refine (S.out _ rfl).mono ?_; rintro e w' ⟨rfl, rfl⟩)
        go_ret2
        exact ⟨rfl, rfl⟩
      · have b3 : decide ((N : Int) < a) = false := decide_eq_false c3
        have b4 : decide ((N : Int) - a < n) = true := decide_eq_true (by omega)
        have c1' : 0 ≤ a := by omega
        have c3' : a ≤ (N : Int) := by omega
        clear h
        go_enter Try.func40, Try.ntmps40
        go_wp2_with (go_at_call 42; refine (S.out _ rfl).mono ?_; rintro e w' ⟨rfl, rfl⟩)
        go_ret2
        exact ⟨rfl, rfl⟩
theorem sz_words_zero (p : Value) (N : Nat) (a : Nat) (w : World) (hp : SizeAt w p N) (hN : (N : Int) ≤ 65536) (h : (a : Int) ≤ (N : Int)) :
    Calls Try.prog 40 #[p, .int .i64 a, .int .i64 0] w fun e w' => e = .returned (.tuple #[.slice none 0 0, .bool true]) ∧ w = w' := by
  have S := Lib.hid hp
  clear hp
  go_enter Try.func40, Try.ntmps40
  go_wp2_with (go_at_call 42; refine (S.out _ rfl).mono ?_; rintro e w' ⟨rfl, rfl⟩)
  go_ret2
  exact ⟨rfl, rfl⟩
theorem slr_nil (w : World) (A : Option Addr) : SlR w A [] := fun h => by simp at h
theorem v_words {w : World} {r : Option (Nat × Nat)} {xs : List Nat} (h : MV 65 w r xs) (a n : Int) : Calls Try.prog 40 #[pv r, .int .i64 a, .int .i64 n] w (WordsV w (wL xs a n) (wOk xs a n)) := by
  have hS : SizeAt w (pv r) xs.length := fun w1 hw => by subst hw; exact v_size h
  by_cases hg : 0 ≤ a ∧ 0 ≤ n ∧ a ≤ xs.length ∧ n ≤ xs.length - a
  · have e1 : wOk xs a n = true := decide_eq_true hg
    obtain ⟨ha, hn, h1, h2⟩ := hg
    obtain ⟨a', rfl⟩ := Int.eq_ofNat_of_zero_le ha
    obtain ⟨n', rfl⟩ := Int.eq_ofNat_of_zero_le hn
    have e2 : wL xs a' n' = (xs.drop a').take n' := by simp [wL, e1]
    rw [e1, e2]
    by_cases h0 : n' = 0
    · subst h0
      refine (sz_words_zero (pv r) xs.length a' w hS (by have := h.1; omega) h1).mono ?_
      rintro e w' ⟨rfl, rfl⟩
      exact ⟨none, 0, by simp, by simpa using slr_nil w none, Below.refl _ _⟩
    · rcases r with _ | x
      · have hx : xs = [] := h.2
        subst hx
        simp at h2
        omega
      · obtain ⟨cur, hM, ht, hs⟩ := MT.mem h.2
        refine (words_some x.1 x.2 xs.length cur a' n' w hM (by have := h.1; omega) (by rw [ht]; exact one_W32 xs) (by omega) (by omega)).mono ?_
        rintro e w' ⟨g, cur', rfl, hn', ht', hg', hb, hB⟩
        have hlen : ((xs.drop a').take n').length = n' := by simp; omega
        refine ⟨some ⟨g, 0, none⟩, cur'.length, by rw [hlen], fun _ => ⟨g, 0, rfl, fun j hj => ?_⟩, hB⟩
        have hj' : j < n' := by omega
        have h3 : (cur'.take n')[j]? = some (.int .u32 (((xs.drop a').take n')[j] : Nat)) := by
          rw [ht', List.getElem?_take_of_lt hj', List.getElem?_drop]
          have hjx : a' + j < xs.length := by omega
          have h4 : (cur.take xs.length)[a' + j]? = some (.int .u32 (xs[a' + j] : Nat)) := by rw [ht]; simp [W32, hjx]
          rw [List.getElem?_take_of_lt hjx] at h4
          rw [h4]
          simp
        rw [List.getElem?_take_of_lt hj'] at h3
        unfold World.cell?
        dsimp only
        rw [hg', Nat.zero_add]
        simpa using h3
  · have e1 : wOk xs a n = false := decide_eq_false hg
    have e2 : wL xs a n = [] := by simp [wL, e1]
    rw [e1, e2]
    refine (sz_words_bad (pv r) xs.length a n w hS (by have := h.1; omega) hg).mono ?_
    rintro e w' ⟨rfl, rfl⟩
    exact ⟨none, 0, rfl, slr_nil _ _, Below.refl _ _⟩
def errOf (xs : List Nat) : Int := if xs.length ≤ 65536 then 0 else 3
def oldOf (xs : List Nat) : List Nat := if xs.length ≤ 65536 then xs else []
/-- What New leaves. -/
def NewV (t : TypeId) (w : World) (xs : List Nat) (e : Ending) (w' : World) : Prop := ∃ r, e = .returned (.tuple #[pv r, .int .i64 (errOf xs)]) ∧ MV t w' r (oldOf xs) ∧ Above w.heap.size r ∧ Below w.heap.size w w'
theorem new_many (A : Option Addr) (m c : Nat) (w : World) (hm : (65536 : Int) < (m : Int)) (_hm2 : (m : Int) ≤ 70000) :
    Calls Try.prog 34 #[.slice A m c] w fun e w' => e = .returned (.tuple #[.pointer none, .int .i64 3]) ∧ w = w' := by
  go_enter Try.func34, Try.ntmps34
  go_wp2
  go_ret2
  exact ⟨rfl, rfl⟩
theorem v_new (A : Option Addr) (c : Nat) (xs : List Nat) (w : World) (hm2 : (xs.length : Int) ≤ 70000) (hs : ∀ x ∈ xs, x < 4294967296) (h : SlR w A xs) : Calls Try.prog 34 #[.slice A xs.length c] w (NewV 65 w xs) := by
  by_cases hm : xs.length ≤ 65536
  · refine (new_mem A xs.length c xs w rfl (by omega) hs (fun h0 => ?_)).mono ?_
    · obtain ⟨b, off, rfl, hc⟩ := h h0
      exact ⟨_, rfl, W32_cells hc⟩
    · rintro e w' ⟨b, d, rfl, hM, hb, hd, hB⟩
      refine ⟨some (b, d), by simp [errOf, hm, pv], ⟨?_, ?_⟩, (fun x hx => by cases hx; exact ⟨hb, hd⟩), hB⟩
      · simp [oldOf, hm]
      · simpa [oldOf, hm] using MT.of_mem hM
  · refine (new_many A xs.length c w (by omega) hm2).mono ?_
    rintro e w' ⟨rfl, rfl⟩
    exact ⟨none, by simp [errOf, hm, pv], ⟨by simp [oldOf, hm], by simp [oldOf, hm]⟩, (fun _ h => by cases h), Below.refl _ _⟩
end Go.Proofs.Ytibhfonmpefloaa
