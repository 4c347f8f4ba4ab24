/- What the laws of layer 4 lean on: New of words, the small inputs asked first. -/
import Derived.Test.YtibhfonmpefloaaMemLaw
namespace Go.Proofs.Ytibhfonmpefloaa
open Go.RowKit
theorem mem_of_new {w : World} {b d m : Nat} {xs : List Nat} (h : MemB w b d m (W32 xs)) (hl : xs.length = m) (hs : ∀ x ∈ xs, x < 4294967296) : Mem w b d xs := by
  subst hl
  exact ⟨W32 xs, h, List.take_of_length_le (by simp [W32]), hs⟩
/-- A memory in new blocks. -/
def NewM (w : World) (xs : List Nat) (e : Ending) (w' : World) : Prop :=
  ∃ b d, e = .returned (.tuple #[.pointer (some ⟨b, 0, none⟩), .int .i64 0]) ∧ Mem w' b d xs ∧ w.heap.size ≤ b ∧ w.heap.size ≤ d ∧ Below w.heap.size w w'
theorem new_mem (ad : Option Addr) (m c : Nat) (xs : List Nat) (w : World) (hl : xs.length = m) (hm : (m : Int) ≤ 65536) (hs : ∀ x ∈ xs, x < 4294967296)
    (hpos : 0 < m → ∃ a, ad = some a ∧ ∀ j u, (W32 xs)[j]? = some u → w.cell? (a.add j) = some u) :
    Calls Try.prog 34 #[.slice ad m c] w (NewM w xs) := by
  refine (new_calls ad m c (W32 xs) w hm (by simp [W32, hl]) hpos (one_W32 xs)).mono ?_
  rintro e w' ⟨b, d, rfl, hM, hb, hd, hB⟩
  exact ⟨b, d, rfl, mem_of_new hM hl hs, hb, hd, hB⟩
theorem w4_byte {w : World} {b d : Nat} (h : Mem w b d [67305985]) : Calls Try.prog 37 #[.pointer (some ⟨b, 0, none⟩), .int .u32 2] w fun e w' => e = .returned (.tuple #[.int .u32 3, .bool true]) ∧ w = w' := by
  refine (mem_byte h 2 (by decide)).mono ?_
  rintro e w' ⟨rfl, rfl⟩
  exact ⟨by simp [here, wordOf], rfl⟩
theorem w4_load2 {w : World} {b d : Nat} (h : Mem w b d [67305985]) : Calls Try.prog 36 #[.pointer (some ⟨b, 0, none⟩), .int .u32 2] w fun e w' => e = .returned (.tuple #[.int .u32 0, .bool false]) ∧ w = w' := by
  refine (mem_load h 2 (by decide)).mono ?_
  rintro e w' ⟨rfl, rfl⟩
  exact ⟨by simp [full], rfl⟩
theorem w4_load4 {w : World} {b d : Nat} (h : Mem w b d [67305985]) : Calls Try.prog 36 #[.pointer (some ⟨b, 0, none⟩), .int .u32 4] w fun e w' => e = .returned (.tuple #[.int .u32 0, .bool false]) ∧ w = w' := by
  refine (mem_load h 4 (by decide)).mono ?_
  rintro e w' ⟨rfl, rfl⟩
  exact ⟨by simp [full], rfl⟩
theorem w4_size {w : World} {b d : Nat} (h : Mem w b d [67305985]) : Calls Try.prog 42 #[.pointer (some ⟨b, 0, none⟩)] w fun e w' => e = .returned (.int .i64 1) ∧ w = w' := mem_size h
theorem lit_cells (w : World) (xs : List Value) (t : TypeId) : ∀ j u, xs[j]? = some u → (w.alloc (.cells xs.toArray t)).cell? ((⟨w.heap.size, 0, none⟩ : Addr).add j) = some u := by
  intro j u hu
  rw [add_at0]
  unfold World.cell?
  dsimp only
  rw [heap_alloc_new]
  simp [hu]
theorem wakes04 (w : World) : Calls Try.prog 33 #[] w fun e w' => e = .returned (.bool true) ∧ Below w.heap.size w w' := by
  go_enter Try.func33, Try.ntmps33
  go_wp2_with fail
  refine (new_mem _ 1 _ [67305985] _ rfl (by decide) (by simp) (fun _ => ⟨_, rfl, ?_⟩)).mono ?_
  · exact lit_cells w [.int .u32 67305985] 22
  · rintro e w1 ⟨b, d, rfl, hM, hb, hd, hB⟩
    have HM := Lib.hid hM
    have HB := Lib.hid (show Below w.heap.size w w1 from ((Below.refl _ _).alloc (Nat.le_refl _) _).trans (hB.mono (by simp)))
    clear hM hb hd hB
    go_wp2_with (first | (go_at_call 37; (with_reducible refine (w4_byte HM.out).mono ?_); rintro e w2 ⟨rfl, rfl⟩) | (go_at_call 36; ((first | (with_reducible refine (w4_load2 HM.out).mono ?_) | (with_reducible refine (w4_load4 HM.out).mono ?_)); rintro e w2 ⟨rfl, rfl⟩)) | (go_at_call 42; (with_reducible refine (w4_size HM.out).mono ?_); rintro e w2 ⟨rfl, rfl⟩))
    go_ret
    exact ⟨rfl, HB.out⟩
end Go.Proofs.Ytibhfonmpefloaa
