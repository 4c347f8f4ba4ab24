/- A word's bytes: plain law. -/
import Derived.Test.YtibhfonmpefloaaMemRow
namespace Go.Proofs.Ytibhfonmpefloaa
open Go.RowKit
theorem or_parts (s z j : Nat) (hs : s < 2 ^ j) (hz : s + z * 2 ^ j < 4294967296) : Go.bits .or .u32 (s : Int) ((z * 2 ^ j : Nat) : Int) = ((s + z * 2 ^ j : Nat) : Int) := by
  rw [or_u32 s (z * 2 ^ j) (by omega) (by omega), Nat.or_comm, Nat.mul_comm z, ← Nat.two_pow_add_eq_or_of_lt hs, Nat.add_comm]
theorem and255 (a : Nat) (ha : a < 4294967296) : Go.bits .and .u32 (a : Int) 255 = ((a % 256 : Nat) : Int) := by
  have h := and_u32 a 255 ha (by decide)
  rw [show a &&& 255 = a % 256 from Nat.and_two_pow_sub_one_eq_mod a 8] at h
  exact h
theorem byte_is0 (x y v r z : Nat) (hv : v < 4294967296) (hy : y = putN x (8 * r) 8 v) (hz : z = y / 2 ^ (8 * 0) % 256) (hr : r = 0) : Go.bits .and .u32 (v : Int) 255 = (z : Int) := by
  subst hr; rw [and255 v hv, hz, hy]; unfold putN; congr 1; omega
theorem byte_on0 (x y v r z : Nat) (hx : x < 4294967296) (hy : y = putN x (8 * r) 8 v) (hz : z = y / 2 ^ (8 * 0) % 256) (hr : r < 4) (hn : r ≠ 0) : Go.bits .and .u32 ((x : Nat) : Int) 255 = (z : Int) := by
  rw [and255 _ (by omega), hz, hy]; unfold putN
  have : r = 0 ∨ r = 1 ∨ r = 2 ∨ r = 3 := by omega
  rcases this with rfl | rfl | rfl | rfl <;> (congr 1; omega)
theorem byte_is1 (x y v r z : Nat) (hv : v < 4294967296) (hy : y = putN x (8 * r) 8 v) (hz : z = y / 2 ^ (8 * 1) % 256) (hr : r = 1) : Go.bits .and .u32 (v : Int) 255 = (z : Int) := by
  subst hr; rw [and255 v hv, hz, hy]; unfold putN; congr 1; omega
theorem byte_on1 (x y v r z : Nat) (hx : x < 4294967296) (hy : y = putN x (8 * r) 8 v) (hz : z = y / 2 ^ (8 * 1) % 256) (hr : r < 4) (hn : r ≠ 1) : Go.bits .and .u32 ((x : Int) / 256) 255 = (z : Int) := by
  rw [show (x : Int) / 256 = ((x / 256 : Nat) : Int) by omega]
  rw [and255 _ (by omega), hz, hy]; unfold putN
  have : r = 0 ∨ r = 1 ∨ r = 2 ∨ r = 3 := by omega
  rcases this with rfl | rfl | rfl | rfl <;> (congr 1; omega)
theorem byte_is2 (x y v r z : Nat) (hv : v < 4294967296) (hy : y = putN x (8 * r) 8 v) (hz : z = y / 2 ^ (8 * 2) % 256) (hr : r = 2) : Go.bits .and .u32 (v : Int) 255 = (z : Int) := by
  subst hr; rw [and255 v hv, hz, hy]; unfold putN; congr 1; omega
theorem byte_on2 (x y v r z : Nat) (hx : x < 4294967296) (hy : y = putN x (8 * r) 8 v) (hz : z = y / 2 ^ (8 * 2) % 256) (hr : r < 4) (hn : r ≠ 2) : Go.bits .and .u32 ((x : Int) / 65536) 255 = (z : Int) := by
  rw [show (x : Int) / 65536 = ((x / 65536 : Nat) : Int) by omega]
  rw [and255 _ (by omega), hz, hy]; unfold putN
  have : r = 0 ∨ r = 1 ∨ r = 2 ∨ r = 3 := by omega
  rcases this with rfl | rfl | rfl | rfl <;> (congr 1; omega)
theorem byte_is3 (x y v r z : Nat) (hv : v < 4294967296) (hy : y = putN x (8 * r) 8 v) (hz : z = y / 2 ^ (8 * 3) % 256) (hr : r = 3) : Go.bits .and .u32 (v : Int) 255 = (z : Int) := by
  subst hr; rw [and255 v hv, hz, hy]; unfold putN; congr 1; omega
theorem byte_on3 (x y v r z : Nat) (hx : x < 4294967296) (hy : y = putN x (8 * r) 8 v) (hz : z = y / 2 ^ (8 * 3) % 256) (hr : r < 4) (hn : r ≠ 3) : Go.bits .and .u32 ((x : Int) / 16777216) 255 = (z : Int) := by
  rw [show (x : Int) / 16777216 = ((x / 16777216 : Nat) : Int) by omega]
  rw [and255 _ (by omega), hz, hy]; unfold putN
  have : r = 0 ∨ r = 1 ∨ r = 2 ∨ r = 3 := by omega
  rcases this with rfl | rfl | rfl | rfl <;> (congr 1; omega)
end Go.Proofs.Ytibhfonmpefloaa
