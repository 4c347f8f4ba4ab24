/- fixup.Link. -/
import Derived.Test.YtbhdejoljappfaaFixParts
import Derived.Outline
namespace Go.Proofs.Ytbhdejoljappfaa
open Go.RowKit
def linkB (a b c d : Int) : Bool := decide ((0 ≤ a ∧ a < 16) ∧ (0 ≤ b ∧ b < 4) ∧ (0 ≤ c ∧ c < 64) ∧ (0 ≤ d ∧ d < 16384))
def linkZ (a b c d : Int) : Int := a * 268435456 + b * 67108864 + c * 1048576 + d
theorem box_lit (w : World) (cs : Array Value) (t : TypeId) (j : Nat) : (w.alloc (.cells cs t)).cell? ⟨w.heap.size, j, none⟩ = cs[j]? := by
  unfold World.cell?
  dsimp only
  rw [heap_alloc_new]
  simp
theorem link_fin (a b c d : Int) (a0 : 0 ≤ a) (a1 : a < 16) (b0 : 0 ≤ b) (b1 : b < 4) (c0 : 0 ≤ c) (c1 : c < 64) (d0 : 0 ≤ d) (d1 : d < 16384) :
    Go.bits .or .u32 (Go.bits .or .u32 (Go.bits .or .u32 (a * 268435456) (b * 67108864)) (c * 1048576)) d = linkZ a b c d := by
  unfold linkZ
  rw [orAdd 28 (a * 268435456) (b * 67108864) (by omega) (by omega) (by omega) (by omega) (by omega) (by omega), orAdd 26 _ (c * 1048576) (by omega) (by omega) (by omega) (by omega) (by omega) (by omega), orAdd 20 _ d (by omega) (by omega) (by omega) (by omega) (by omega) (by omega)]
theorem ret_li {a b : Int} {k : Int} (h : a = b) : Ending.returned (.tuple #[.int .u32 a, .int .i64 k]) = .returned (.tuple #[.int .u32 b, .int .i64 k]) := by rw [h]
def LinkV (w : World) (a b c d : Int) (e : Ending) (w' : World) : Prop :=
  e = .returned (.tuple #[.int .u32 (if linkB a b c d then linkZ a b c d else 0), .int .i64 (if linkB a b c d then 0 else 220)]) ∧ Below w.heap.size w w'
set_option maxHeartbeats 2000000 in
theorem link_calls (a b c d : Int) (w : World) : Calls Try.prog 22 #[.int .i64 a, .int .i64 b, .int .i64 c, .int .i64 d] w (LinkV w a b c d) := by
  go_enter Try.func22, Try.ntmps22
  go_wp2
  go_loopw [15] (fun i wr => ∃ k : Nat, k ≤ 4 ∧ i = .int .i64 k ∧ ((1 ≤ k → 0 ≤ a ∧ a < 16) ∧ (2 ≤ k → 0 ≤ b ∧ b < 4) ∧ (3 ≤ k → 0 ≤ c ∧ c < 64) ∧ (4 ≤ k → 0 ≤ d ∧ d < 16384)) ∧ Below (w.heap.size + 1) (w.alloc (.cells #[.int .i64 16, .int .i64 4, .int .i64 64, .int .i64 16384] 3)) wr) (fun i _ => 4 - (intOf i).toNat)
  case atStart => exact ⟨0, by omega, rfl, ⟨fun h => absurd h (by omega), fun h => absurd h (by omega), fun h => absurd h (by omega), fun h => absurd h (by omega)⟩, Below.refl _ _⟩
  case round =>
    obtain ⟨k, hk, rfl, ⟨g1, g2, g3, g4⟩, hB⟩ := hrel
    have HW := Lib.hid (show Below w.heap.size w wr from ((Below.refl _ _).alloc (Nat.le_refl _) _).trans (hB.mono (by omega)))
    have HB := Lib.hid hB
    have m0 : wr.cell? ⟨w.heap.size, 0, none⟩ = some (.int .i64 16) := (hB.cell (p := ⟨w.heap.size, 0, none⟩) (by simp)).trans (box_lit w _ _ 0)
    have m1 : wr.cell? ⟨w.heap.size, 1, none⟩ = some (.int .i64 4) := (hB.cell (p := ⟨w.heap.size, 1, none⟩) (by simp)).trans (box_lit w _ _ 1)
    have m2 : wr.cell? ⟨w.heap.size, 2, none⟩ = some (.int .i64 64) := (hB.cell (p := ⟨w.heap.size, 2, none⟩) (by simp)).trans (box_lit w _ _ 2)
    have m3 : wr.cell? ⟨w.heap.size, 3, none⟩ = some (.int .i64 16384) := (hB.cell (p := ⟨w.heap.size, 3, none⟩) (by simp)).trans (box_lit w _ _ 3)
    have HZ := Lib.hid hB.size
    clear hB
    have hk' : k = 0 ∨ k = 1 ∨ k = 2 ∨ k = 3 ∨ k = 4 := by omega
    clear hk
    rcases hk' with rfl | rfl | rfl | rfl | rfl
    · have G := Lib.hid (And.intro g1 (And.intro g2 (And.intro g3 g4)))
      clear g1 g2 g3 g4
      by_cases h1 : 0 ≤ a
      · by_cases h2 : a < 16
        · go_wp2
          go_roundw
          case rel => exact ⟨1, by omega, by go_num, ⟨fun _ => by have := G.out.1; omega, fun _ => by have := G.out.2.1; omega, fun _ => by have := G.out.2.2.1; omega, fun _ => by have := G.out.2.2.2; omega⟩, HB.out.alloc (by have := HZ.out; simpa using this) _⟩
          case measure => simp [intOf]
        · have HF := Lib.hid (show linkB a b c d = false from decide_eq_false (by omega))
          go_wp2
          go_ret2
          exact ⟨by rw [HF.out]; rfl, HW.out.alloc HW.out.size _⟩
      · have HF := Lib.hid (show linkB a b c d = false from decide_eq_false (by omega))
        have hx : a < 0 := by omega
        go_wp2
        go_ret2
        exact ⟨by rw [HF.out]; rfl, HW.out.alloc HW.out.size _⟩
    · have G := Lib.hid (And.intro g1 (And.intro g2 (And.intro g3 g4)))
      clear g1 g2 g3 g4
      by_cases h1 : 0 ≤ b
      · by_cases h2 : b < 4
        · go_wp2
          go_roundw
          case rel => exact ⟨2, by omega, by go_num, ⟨fun _ => by have := G.out.1; omega, fun _ => by have := G.out.2.1; omega, fun _ => by have := G.out.2.2.1; omega, fun _ => by have := G.out.2.2.2; omega⟩, HB.out.alloc (by have := HZ.out; simpa using this) _⟩
          case measure => simp [intOf]
        · have HF := Lib.hid (show linkB a b c d = false from decide_eq_false (by omega))
          go_wp2
          go_ret2
          exact ⟨by rw [HF.out]; rfl, HW.out.alloc HW.out.size _⟩
      · have HF := Lib.hid (show linkB a b c d = false from decide_eq_false (by omega))
        have hx : b < 0 := by omega
        go_wp2
        go_ret2
        exact ⟨by rw [HF.out]; rfl, HW.out.alloc HW.out.size _⟩
    · have G := Lib.hid (And.intro g1 (And.intro g2 (And.intro g3 g4)))
      clear g1 g2 g3 g4
      by_cases h1 : 0 ≤ c
      · by_cases h2 : c < 64
        · go_wp2
          go_roundw
          case rel => exact ⟨3, by omega, by go_num, ⟨fun _ => by have := G.out.1; omega, fun _ => by have := G.out.2.1; omega, fun _ => by have := G.out.2.2.1; omega, fun _ => by have := G.out.2.2.2; omega⟩, HB.out.alloc (by have := HZ.out; simpa using this) _⟩
          case measure => simp [intOf]
        · have HF := Lib.hid (show linkB a b c d = false from decide_eq_false (by omega))
          go_wp2
          go_ret2
          exact ⟨by rw [HF.out]; rfl, HW.out.alloc HW.out.size _⟩
      · have HF := Lib.hid (show linkB a b c d = false from decide_eq_false (by omega))
        have hx : c < 0 := by omega
        go_wp2
        go_ret2
        exact ⟨by rw [HF.out]; rfl, HW.out.alloc HW.out.size _⟩
    · have G := Lib.hid (And.intro g1 (And.intro g2 (And.intro g3 g4)))
      clear g1 g2 g3 g4
      by_cases h1 : 0 ≤ d
      · by_cases h2 : d < 16384
        · go_wp2
          go_roundw
          case rel => exact ⟨4, by omega, by go_num, ⟨fun _ => by have := G.out.1; omega, fun _ => by have := G.out.2.1; omega, fun _ => by have := G.out.2.2.1; omega, fun _ => by have := G.out.2.2.2; omega⟩, HB.out.alloc (by have := HZ.out; simpa using this) _⟩
          case measure => simp [intOf]
        · have HF := Lib.hid (show linkB a b c d = false from decide_eq_false (by omega))
          go_wp2
          go_ret2
          exact ⟨by rw [HF.out]; rfl, HW.out.alloc HW.out.size _⟩
      · have HF := Lib.hid (show linkB a b c d = false from decide_eq_false (by omega))
        have hx : d < 0 := by omega
        go_wp2
        go_ret2
        exact ⟨by rw [HF.out]; rfl, HW.out.alloc HW.out.size _⟩
    · obtain ⟨a0, a1⟩ := g1 (by omega)
      obtain ⟨b0, b1⟩ := g2 (by omega)
      obtain ⟨c0, c1⟩ := g3 (by omega)
      obtain ⟨d0, d1⟩ := g4 (by omega)
      have HF := Lib.hid (show linkB a b c d = true from decide_eq_true (by omega))
      have L := Lib.hid (link_fin a b c d a0 a1 b0 b1 c0 c1 d0 d1)
      clear g1 g2 g3 g4
      go_wp2
      go_ret2
      refine ⟨?_, HW.out⟩
      rw [HF.out]
      exact ret_li L.out
end Go.Proofs.Ytbhdejoljappfaa
