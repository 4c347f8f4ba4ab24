/- cpu.packed: the flags as bits. -/
import Derived.Test.YtjlngglkljjgmaaAlu
import Derived.Test.YtjlngglkljjgmaaBits
import Derived.LoopTactic
import Derived.KernelRfl
namespace Go.Proofs.Ytjlngglkljjgmaa
open Go.RowKit
def fbit (f : Fl) : Nat → Bool
  | 0 => f.v
  | 1 => f.c
  | 2 => f.z
  | _ => f.n
def pk (f : Fl) : Nat → Nat
  | 0 => 0
  | k + 1 => if fbit f k then putN (pk f k) (28 + k) 1 1 else pk f k
theorem put_lt1 (x lo : Nat) (hx : x < 4294967296) (h2 : lo < 32) : putN x lo 1 1 < 4294967296 := by
  have hm := maskAt_lt lo 1 (by omega)
  unfold putN
  rw [← put_bits x 1 lo 1 hx (by omega)]
  exact Nat.or_lt_two_pow (n := 32) (Nat.lt_of_le_of_lt Nat.and_le_left hx) (Nat.lt_of_le_of_lt Nat.and_le_right hm)
theorem pk_lt (f : Fl) : ∀ k, k ≤ 4 → pk f k < 4294967296
  | 0, _ => by simp [pk]
  | k + 1, h => by
    have := pk_lt f k (by omega)
    unfold pk
    split
    · exact put_lt1 _ _ this (by omega)
    · exact this
def packN (f : Fl) : Nat := pk f 4
theorem put28 (x k : Nat) (j : Int) (hj : j = 28 + (k : Int)) (hk : k < 4) (hx : x < 4294967296) (w : World) : Calls Try.prog 47 #[.int .u32 x, .int .i64 j, .int .i64 1, .int .u32 1] w fun e w' => e = .returned (.int .u32 (putN x (28 + k) 1 1)) ∧ ∃ k, w' = w.drewN k := by
  subst hj
  exact put_yes x (28 + k) 1 1 hx (by decide) (by omega) w
set_option maxHeartbeats 4000000 in
theorem packed_calls (f : Fl) (w : World) : Calls Try.prog 35 #[f.val] w fun e w' => e = .returned (.int .u32 (packN f)) ∧ Below w.heap.size w w' := by
  have L := Lib.hid (pk_lt f)
  obtain ⟨fn, fz, fc, fv⟩ := f
  unfold Fl.val
  dsimp only
  have P0 : pk ⟨fn, fz, fc, fv⟩ 0 = 0 := rfl
  have S0 := Lib.hid (show pk ⟨fn, fz, fc, fv⟩ 1 = if fv then putN (pk ⟨fn, fz, fc, fv⟩ 0) 28 1 1 else pk ⟨fn, fz, fc, fv⟩ 0 from rfl)
  have S1 := Lib.hid (show pk ⟨fn, fz, fc, fv⟩ 2 = if fc then putN (pk ⟨fn, fz, fc, fv⟩ 1) 29 1 1 else pk ⟨fn, fz, fc, fv⟩ 1 from rfl)
  have S2 := Lib.hid (show pk ⟨fn, fz, fc, fv⟩ 3 = if fz then putN (pk ⟨fn, fz, fc, fv⟩ 2) 30 1 1 else pk ⟨fn, fz, fc, fv⟩ 2 from rfl)
  have S3 := Lib.hid (show pk ⟨fn, fz, fc, fv⟩ 4 = if fn then putN (pk ⟨fn, fz, fc, fv⟩ 3) 31 1 1 else pk ⟨fn, fz, fc, fv⟩ 3 from rfl)
  unfold packN
  revert L P0 S0 S1 S2 S3
  generalize pk ⟨fn, fz, fc, fv⟩ = p
  intro L P0 S0 S1 S2 S3
  replace P0 := Lib.hid P0
  have i0 : ∀ w, (Instr.index 83 (.agg #[.bool fv, .bool fc, .bool fz, .bool fn]) (.int .i64 0)).run Try.prog w = .ok (.bool fv) w := fun _ => by kernel_rfl
  have i1 : ∀ w, (Instr.index 83 (.agg #[.bool fv, .bool fc, .bool fz, .bool fn]) (.int .i64 1)).run Try.prog w = .ok (.bool fc) w := fun _ => by kernel_rfl
  have i2 : ∀ w, (Instr.index 83 (.agg #[.bool fv, .bool fc, .bool fz, .bool fn]) (.int .i64 2)).run Try.prog w = .ok (.bool fz) w := fun _ => by kernel_rfl
  have i3 : ∀ w, (Instr.index 83 (.agg #[.bool fv, .bool fc, .bool fz, .bool fn]) (.int .i64 3)).run Try.prog w = .ok (.bool fn) w := fun _ => by kernel_rfl
  go_enter Try.func35, Try.ntmps35
  go_wp2
  go_loopw [15, 3] (fun i r wr => ∃ k : Nat, k ≤ 4 ∧ i = .int .i64 k ∧ r = .int .u32 (p k : Nat) ∧ Below w.heap.size w wr) (fun i _ _ => 4 - (intOf i).toNat)
  case atStart => exact ⟨0, by omega, rfl, by rw [P0.out]; rfl, by (repeat (with_reducible (first | exact Below.refl _ _ | refine below_drewN ?_ _ | apply below_drew1' | refine Below.alloc ?_ (by simp) _ | refine Below.setCell ?_ (by simp) _)))⟩
  case round =>
    obtain ⟨k, hk, rfl, rfl, hB⟩ := hrel
    have HB := Lib.hid hB
    clear hB
    have h : k = 0 ∨ k = 1 ∨ k = 2 ∨ k = 3 ∨ k = 4 := by omega
    have LK := Lib.hid (L.out k hk)
    clear hk
    rcases h with rfl | rfl | rfl | rfl | rfl
    · go_wp2_with (go_at_call 47; (with_reducible refine (put28 _ 0 _ (by decide) (by decide) LK.out _).mono ?_); rintro e w' ⟨rfl, nd, rfl⟩)
      · subst_vars
        go_roundw
        case rel => exact ⟨1, by omega, rfl, by rw [S0.out, if_pos rfl], below_drewN HB.out _⟩
        case measure => simp [intOf]
      · subst_vars
        go_roundw
        case rel => exact ⟨1, by omega, rfl, by rw [S0.out, if_neg (by decide)], HB.out⟩
        case measure => simp [intOf]
    · go_wp2_with (go_at_call 47; (with_reducible refine (put28 _ 1 _ (by decide) (by decide) LK.out _).mono ?_); rintro e w' ⟨rfl, nd, rfl⟩)
      · subst_vars
        go_roundw
        case rel => exact ⟨2, by omega, rfl, by rw [S1.out, if_pos rfl], below_drewN HB.out _⟩
        case measure => simp [intOf]
      · subst_vars
        go_roundw
        case rel => exact ⟨2, by omega, rfl, by rw [S1.out, if_neg (by decide)], HB.out⟩
        case measure => simp [intOf]
    · go_wp2_with (go_at_call 47; (with_reducible refine (put28 _ 2 _ (by decide) (by decide) LK.out _).mono ?_); rintro e w' ⟨rfl, nd, rfl⟩)
      · subst_vars
        go_roundw
        case rel => exact ⟨3, by omega, rfl, by rw [S2.out, if_pos rfl], below_drewN HB.out _⟩
        case measure => simp [intOf]
      · subst_vars
        go_roundw
        case rel => exact ⟨3, by omega, rfl, by rw [S2.out, if_neg (by decide)], HB.out⟩
        case measure => simp [intOf]
    · go_wp2_with (go_at_call 47; (with_reducible refine (put28 _ 3 _ (by decide) (by decide) LK.out _).mono ?_); rintro e w' ⟨rfl, nd, rfl⟩)
      · subst_vars
        go_roundw
        case rel => exact ⟨4, by omega, rfl, by rw [S3.out, if_pos rfl], below_drewN HB.out _⟩
        case measure => simp [intOf]
      · subst_vars
        go_roundw
        case rel => exact ⟨4, by omega, rfl, by rw [S3.out, if_neg (by decide)], HB.out⟩
        case measure => simp [intOf]
    · go_wp2
      go_ret
      exact ⟨rfl, HB.out⟩
end Go.Proofs.Ytjlngglkljjgmaa
