/- What the laws of layer 2 lean on: a boxed instruction, Same, the small inputs asked first. -/
import Derived.Test.YtbhdejoljappfaaDecode
import Derived.Test.YtbhdejoljappfaaRefDecode
import Derived.Deep.RegionWith
import Derived.Deep.RegionHeld3
namespace Go.Proofs.Ytbhdejoljappfaa
open Go.RowKit
/-- What a call leaves: the box's eight cells, and more blocks. -/
theorem box_on {w w1 : World} {B b : Nat} (h : Below B w w1) (hb : b < B) :
    (∀ o, w1.cell? ⟨b, o, none⟩ = w.cell? ⟨b, o, none⟩) ∧ w.heap.size ≤ w1.heap.size := ⟨fun o => h.cell (p := ⟨b, o, none⟩) hb, h.size⟩
/-- The same where a cell of the box is known. -/
theorem box_by {w w1 : World} {b : Nat} {z : Value} (h : Below w.heap.size w w1) (hz : w.cell? ⟨b, 0, none⟩ = some z) : ∀ o, w1.cell? ⟨b, o, none⟩ = w.cell? ⟨b, o, none⟩ :=
  have hlt : b < w.heap.size := World.block_lt_of_cell? w _ hz
  fun o => h.cell (p := ⟨b, o, none⟩) hlt
theorem below_call {B : Nat} {w W w1 : World} (h : Below B w W) (hb : Below W.heap.size W w1) (hB : B ≤ w.heap.size := by exact Nat.le_refl _) : Below B w w1 := h.trans (hb.mono (Nat.le_trans hB h.size))
theorem same_self (x : Ins) (w : World) : Calls Try.prog 21 #[x.val, x.val] w fun e w' => e = .returned (.bool true) ∧ Below w.heap.size w w' := by
  obtain ⟨form, u, v, a, b, c, op, im⟩ := x
  unfold Ins.val
  go_enter Try.func21, Try.ntmps21
  go_wp2
  all_goals go_ret
  all_goals refine ⟨rfl, ?_⟩
  all_goals repeat (first | exact Below.refl _ _ | apply below_drewN | refine Below.alloc ?_ (by simp) _)
theorem w_enc1 (w : World) : Calls Try.prog 14 #[.agg #[.int .i64 0, .bool false, .bool false, .int .i64 1, .int .i64 2, .int .i64 3, .int .i64 8, .int .i64 0]] w fun e w' => e = .returned (.tuple #[.int .u32 19398659, .int .i64 0]) ∧ Below w.heap.size w w' := by
  have h := enc_yes ⟨0, false, false, 1, 2, 3, 8, 0⟩ (by decide +kernel) w
  rw [show encZ ⟨0, false, false, 1, 2, 3, 8, 0⟩ = 19398659 by decide +kernel] at h
  exact h
theorem w_enc2 (w : World) : Calls Try.prog 14 #[.agg #[.int .i64 3, .bool true, .bool true, .int .i64 7, .int .i64 0, .int .i64 0, .int .i64 0, .int .i64 (-1)]] w fun e w' => e = .returned (.tuple #[.int .u32 4160749567, .int .i64 0]) ∧ Below w.heap.size w w' := by
  have h := enc_yes ⟨3, true, true, 7, 0, 0, 0, -1⟩ (by decide +kernel) w
  rw [show encZ ⟨3, true, true, 7, 0, 0, 0, -1⟩ = 4160749567 by decide +kernel] at h
  exact h
theorem w_dec (w : World) : Calls Try.prog 19 #[.int .u32 786432] w fun e w' => e = .returned (.tuple #[.agg #[.int .i64 0, .bool false, .bool false, .int .i64 0, .int .i64 0, .int .i64 0, .int .i64 0, .int .i64 0], .int .i64 20]) ∧ Below w.heap.size w w' := by
  have h := dec_calls 786432 (by decide) w
  rw [show decI 786432 = zeroIns by unfold decI; rw [show isWord 786432 = false by decide +kernel]; rfl, show decE 786432 = 20 by decide +kernel] at h
  exact h
theorem wakes02 (w : World) : Calls Try.prog 18 #[] w fun e w' => e = .returned (.bool true) ∧ Below w.heap.size w w' := by
  have HB := Lib.hid (Below.refl w.heap.size w)
  go_enter Try.func18, Try.ntmps18
  go_wp2_with (first | (go_at_call 14; ((first | (with_reducible refine (w_enc1 _).mono ?_) | (with_reducible refine (w_enc2 _).mono ?_)); rintro e w1 ⟨rfl, hb⟩; have HN := Lib.hid (below_call HB.out hb); clear HB hb; have HB := HN; clear HN)) | (go_at_call 19; (with_reducible refine (w_dec _).mono ?_); rintro e w1 ⟨rfl, hb⟩; have HN := Lib.hid (below_call HB.out hb); clear HB hb; have HB := HN; clear HN))
  go_ret
  exact ⟨rfl, HB.out.alloc HB.out.size _⟩
end Go.Proofs.Ytbhdejoljappfaa
