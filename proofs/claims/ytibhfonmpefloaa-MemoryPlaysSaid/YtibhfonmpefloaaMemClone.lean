/- slices.Clone of words; Fork; Words. -/
import Derived.Test.YtibhfonmpefloaaMemNew
import Derived.Laws.AppendOwn
namespace Go.Proofs.Ytibhfonmpefloaa
open Go.RowKit
/-- A slice in new memory whose first n cells are these. -/
def NewSl (w : World) (n : Nat) (xs : List Value) (e : Ending) (w' : World) : Prop :=
  ∃ (g : Nat) (cur : List Value), e = .returned (.slice (some ⟨g, 0, none⟩) n cur.length) ∧ n ≤ cur.length ∧ cur.take n = xs ∧ w'.heap[g]? = some (.cells cur.toArray 22 (0, 0)) ∧ w.heap.size ≤ g ∧ Below w.heap.size w w'
theorem sl_of_row {w : World} {base n : Nat} {v : Value} {xs : List Value} (h : w.ownsRow base 22 1 v n xs) (hv : v ≠ .slice none 0 0) :
    ∃ (g : Nat) (cur : List Value), v = .slice (some ⟨g, 0, none⟩) n cur.length ∧ n ≤ cur.length ∧ cur.take n = xs ∧ w.heap[g]? = some (.cells cur.toArray 22 (0, 0)) ∧ base ≤ g := by
  rcases h.2 with ⟨h', _⟩ | ⟨g, cap, cur, h', hb, hg, hn, _, hc, ht⟩
  · exact absurd h' hv
  · have e : cur.toList.length = cap := by simpa using hc
    exact ⟨g, cur.toList, by rw [e]; exact h', by omega, by simpa using ht, by simpa using hg, hb⟩
set_option maxHeartbeats 1000000 in
theorem clone_calls (ad : Addr) (m c : Nat) (news : List Value) (w : World) (hm : (m : Int) ≤ 65536) (hl : news.length = m)
    (hnews : ∀ j u, news[j]? = some u → w.cell? (ad.add j) = some u) (h1 : ∀ u ∈ news, u.oneCell' = true) :
    Calls Try.prog 57 #[.slice (some ad) m c] w (NewSl w m news) := by
  obtain ⟨i0, hi, hz0, hz1, hz2⟩ := info_parts info22
  have HL := Lib.hid hl
  have HP := Lib.hid hnews
  have H1 := Lib.hid h1
  have B2 := Lib.hid (show 0 + m ≤ maxLen by unfold maxLen; omega)
  have B3 := Lib.hid (show (0 + m) * 4 ≤ 140737488355328 by omega)
  clear hl hnews h1
  have NE : ∀ wx : World, (binOp .eql 38 (.slice (some ad) m c) (.slice none 0 0)).run Try.prog wx = .ok (.bool false) wx := fun wx => by
    first | exact Lib.run_eql_slice_nil wx 38 22 (some ad) m c 0 0 Try.underlying38 | exact Lib.run_eql_slice_nil wx 38 22 (some ad) m c Try.underlying38
  go_enter Try.func57, Try.ntmps57
  go_wp2_with (at_builtin; refine wpList_append_own _ rfl _ _ 38 rfl w.heap.size 22 i0 (.int .u32 0) 1 4 Try.underlying38 hi hz0 hz1 hz2 rfl (by decide) _ 0 [] rfl (World.ownsRow_lit w #[] 0 (Nat.le_refl _) (by decide) rfl) ad m c news rfl (by rw [HL.out]; simp) (fun j u hu => cell_kept ⟨rfl, rfl, rfl, Nat.le_refl _, fun _ _ _ => rfl⟩ (HP.out j u hu)) H1.out B2.out B3.out (by simp) ?_; intro v' w1 hown hgrow hnil)
  go_ret
  have hv : v' ≠ .slice none 0 0 := fun e => by have h : Value.slice (some ⟨w.heap.size, 0, none⟩) 0 0 = .slice none 0 0 := (hnil.1 e).1; simp at h
  have hgrow : (w.alloc (.cells #[] 22)).grownBy w1 (some w.heap.size) := hgrow
  obtain ⟨g, cur, rfl, hn, ht, hg, hb⟩ := sl_of_row hown hv
  rw [Nat.zero_add] at hn ht
  refine ⟨g, cur, ?_, hn, by simpa using ht, hg, hb, ?_⟩
  · simp
  · exact (((Below.refl w.heap.size w).alloc (Nat.le_refl _) _).grown hgrow (by simp) (fun k hk => by simp at hk; omega))
theorem add_at0 (d j : Nat) : (⟨d, 0, none⟩ : Addr).add j = ⟨d, j, none⟩ := by
  unfold Addr.add
  split <;> simp_all
/-- A memory's words, as cells. -/
theorem memB_cell {w : World} {b d n : Nat} {cur : List Value} (h : MemB w b d n cur) (k : Nat) (x : Value) (hx : cur[k]? = some x) : w.cell? ⟨d, k, none⟩ = some x := by
  simp [World.cell?, h.2.2.1, hx]
theorem memB_free {w : World} {b d n : Nat} {cur : List Value} (h : MemB w b d n cur) (k : Nat) : w.frozen? ⟨d, k, none⟩ = false := by
  simp [World.frozen?, h.2.2.1]
theorem memB_ptr {w : World} {b d n : Nat} {cur : List Value} (h : MemB w b d n cur) : w.cell? ⟨b, 0, none⟩ = some (.slice (some ⟨d, 0, none⟩) n cur.length) := by
  simp [World.cell?, h.2.1]
/-- What Fork leaves. -/
def NewPtr (w : World) (n : Nat) (xs : List Value) (e : Ending) (w' : World) : Prop :=
  ∃ (b d : Nat) (cur : List Value), e = .returned (.pointer (some ⟨b, 0, none⟩)) ∧ MemB w' b d n cur ∧ cur.take n = xs ∧ w.heap.size ≤ b ∧ w.heap.size ≤ d ∧ Below w.heap.size w w'
theorem fork_nil (w : World) : Calls Try.prog 38 #[.pointer none] w fun e w' => e = .returned (.pointer none) ∧ w = w' := by
  go_enter Try.func38, Try.ntmps38
  go_wp2
  go_ret
  exact ⟨rfl, rfl⟩
theorem fork_calls (b d n : Nat) (cur : List Value) (w : World) (hM : MemB w b d n cur) (hm : (n : Int) ≤ 65536) (h1 : ∀ u ∈ cur.take n, u.oneCell' = true) :
    Calls Try.prog 38 #[.pointer (some ⟨b, 0, none⟩)] w (NewPtr w n (cur.take n)) := by
  have hp := memB_ptr hM
  have CL := Lib.hid (clone_calls ⟨d, 0, none⟩ n cur.length (cur.take n) w hm (by have := hM.1; simp; omega) (fun j u hu => by
    have hj : j < n := by
      rcases Nat.lt_or_ge j n with h | h
      · exact h
      · rw [List.getElem?_eq_none (by simp; omega)] at hu; cases hu
    rw [List.getElem?_take_of_lt hj] at hu
    rw [add_at0]; exact memB_cell hM j u hu) h1)
  have HM := Lib.hid hM
  clear hM h1
  go_enter Try.func38, Try.ntmps38
  go_wp2_with (go_at_call 57; refine CL.out.mono ?_; rintro e w1 ⟨g, cur1, rfl, hn, ht, hg, hb, hB⟩; have H1 := Lib.hid hn; have H2 := Lib.hid ht; have H3 := Lib.hid hg; have H4 := Lib.hid hb; have H5 := Lib.hid hB; clear hn ht hg hb hB)
  go_ret
  have hg : g < w1.heap.size := (Array.getElem?_eq_some_iff.1 H3.out).1
  refine ⟨w1.heap.size, g, cur1, by simp, ⟨H1.out, heap_alloc_new w1 _, ?_, by omega⟩, H2.out, H5.out.size, H4.out, H5.out.alloc H5.out.size _⟩
  rw [Below.heap_alloc _ _ _ hg]
  exact H3.out
/-- What Words leaves where it answers. -/
def NewWords (w : World) (n : Nat) (xs : List Value) (e : Ending) (w' : World) : Prop :=
  ∃ (g : Nat) (cur : List Value), e = .returned (.tuple #[.slice (some ⟨g, 0, none⟩) n cur.length, .bool true]) ∧ n ≤ cur.length ∧ cur.take n = xs ∧ w'.heap[g]? = some (.cells cur.toArray 22 (0, 0)) ∧ w.heap.size ≤ g ∧ Below w.heap.size w w'
theorem words_bad (b d N cap : Nat) (a n : Int) (w : World) (hp : w.cell? ⟨b, 0, none⟩ = some (.slice (some ⟨d, 0, none⟩) N cap)) (hN : (N : Int) ≤ 65536) (h : ¬ (0 ≤ a ∧ 0 ≤ n ∧ a ≤ N ∧ n ≤ N - a)) :
    Calls Try.prog 40 #[.pointer (some ⟨b, 0, none⟩), .int .i64 a, .int .i64 n] w fun e w' => e = .returned (.tuple #[.slice none 0 0, .bool false]) ∧ w = w' := by
  have S := Lib.hid (fun (wx : World) (hx : wx = w) => size_some b d N cap wx (by rw [hx]; exact hp))
  by_cases c1 : a < 0
  · have b1 : decide (a < 0) = true := decide_eq_true c1
    clear h
    go_enter Try.func40, Try.ntmps40
    go_wp2_with (go_at_call 42; refine (S.out _ rfl).mono ?_; rintro e w' ⟨rfl, rfl⟩)
    go_ret2
    exact ⟨rfl, rfl⟩
  · have b1 : decide (a < 0) = false := decide_eq_false c1
    by_cases c2 : n < 0
    · have b2 : decide (n < 0) = true := decide_eq_true c2
      clear h
      go_enter Try.func40, Try.ntmps40
      go_wp2_with (go_at_call 42; refine (S.out _ rfl).mono ?_; rintro e w' ⟨rfl, rfl⟩)
      go_ret2
      exact ⟨rfl, rfl⟩
    · have b2 : decide (n < 0) = false := decide_eq_false c2
      by_cases c3 : (N : Int) < a
      · have b3 : decide ((N : Int) < a) = true := decide_eq_true c3
        clear h
        go_enter Try.func40, Try.ntmps40
        go_wp2_with (go_at_call 42; refine (S.out _ rfl).mono ?_; rintro e w' ⟨rfl, rfl⟩)
        go_ret2
        exact ⟨rfl, rfl⟩
      · have b3 : decide ((N : Int) < a) = false := decide_eq_false c3
        have b4 : decide ((N : Int) - a < n) = true := decide_eq_true (by omega)
        have c1' : 0 ≤ a := by omega
        have c3' : a ≤ (N : Int) := by omega
        clear h
        go_enter Try.func40, Try.ntmps40
        go_wp2_with (go_at_call 42; refine (S.out _ rfl).mono ?_; rintro e w' ⟨rfl, rfl⟩)
        go_ret2
        exact ⟨rfl, rfl⟩
theorem words_zero (b d N cap : Nat) (a : Nat) (w : World) (hp : w.cell? ⟨b, 0, none⟩ = some (.slice (some ⟨d, 0, none⟩) N cap)) (hN : (N : Int) ≤ 65536) (h : (a : Int) ≤ (N : Int)) :
    Calls Try.prog 40 #[.pointer (some ⟨b, 0, none⟩), .int .i64 a, .int .i64 0] w fun e w' => e = .returned (.tuple #[.slice none 0 0, .bool true]) ∧ w = w' := by
  have S := Lib.hid (fun (wx : World) (hx : wx = w) => size_some b d N cap wx (by rw [hx]; exact hp))
  go_enter Try.func40, Try.ntmps40
  go_wp2_with (go_at_call 42; refine (S.out _ rfl).mono ?_; rintro e w' ⟨rfl, rfl⟩)
  go_ret2
  exact ⟨rfl, rfl⟩
theorem words_nil (w : World) :
    Calls Try.prog 40 #[.pointer none, .int .i64 0, .int .i64 0] w fun e w' => e = .returned (.tuple #[.slice none 0 0, .bool true]) ∧ w = w' := by
  go_enter Try.func40, Try.ntmps40
  go_wp2_with (go_at_call 42; refine (size_nil _).mono ?_; rintro e w' ⟨rfl, rfl⟩)
  go_ret2
  exact ⟨rfl, rfl⟩
theorem mem_window {α : Type} {l : List α} {a n N : Nat} {u : α} (h : u ∈ (l.drop a).take n) (hN : a + n ≤ N) : u ∈ l.take N := by
  obtain ⟨j, hj, rfl⟩ := List.mem_iff_getElem.1 h
  have hj' : j < n ∧ a + j < l.length := by simp at hj; omega
  rw [List.mem_iff_getElem]
  refine ⟨a + j, by simp; omega, ?_⟩
  simp
theorem words_some (b d N : Nat) (cur : List Value) (a n : Nat) (w : World) (hM : MemB w b d N cur) (hN : (N : Int) ≤ 65536) (h1 : ∀ u ∈ cur.take N, u.oneCell' = true) (hn : (0 : Int) < (n : Int)) (h : (a : Int) + (n : Int) ≤ (N : Int)) :
    Calls Try.prog 40 #[.pointer (some ⟨b, 0, none⟩), .int .i64 a, .int .i64 n] w (NewWords w n ((cur.drop a).take n)) := by
  have hp := memB_ptr hM
  have hcN : (N : Int) ≤ (cur.length : Int) := by have := hM.1; omega
  have CL := Lib.hid (fun c => clone_calls ⟨d, a, none⟩ n c ((cur.drop a).take n) w (by omega) (by have := hM.1; simp; omega) (fun j u hu => by
    have hj : j < n := by
      rcases Nat.lt_or_ge j n with h | h
      · exact h
      · rw [List.getElem?_eq_none (by simp; omega)] at hu; cases hu
    rw [List.getElem?_take_of_lt hj, List.getElem?_drop] at hu
    rw [show (⟨d, a, none⟩ : Addr).add j = ⟨d, a + j, none⟩ by unfold Addr.add; split <;> simp_all]
    exact memB_cell hM (a + j) u hu) (fun u hu => h1 u (mem_window hu (by omega))))
  have S := Lib.hid (fun (wx : World) (hx : wx = w) => size_some b d N cur.length wx (by rw [hx]; exact hp))
  have b1 : decide ((N : Int) < (a : Int)) = false := decide_eq_false (by omega)
  have b2 : decide ((N : Int) - (a : Int) < (n : Int)) = false := decide_eq_false (by omega)
  have b3 : ((n : Int) == 0) = false := by simp; omega
  clear hM h1
  go_enter Try.func40, Try.ntmps40
  go_wp2_with (first | (go_at_call 42; refine (S.out _ rfl).mono ?_; rintro e w' ⟨rfl, rfl⟩) | (go_at_call 57; refine (CL.out _).mono ?_; rintro e w1 ⟨g, cur1, rfl, hn, ht, hg, hb, hB⟩; have H1 := Lib.hid hn; have H2 := Lib.hid ht; have H3 := Lib.hid hg; have H4 := Lib.hid hb; have H5 := Lib.hid hB; clear hn ht hg hb hB))
  go_ret2
  exact ⟨g, cur1, by simp, H1.out, H2.out, H3.out, H4.out, H5.out⟩
end Go.Proofs.Ytibhfonmpefloaa
