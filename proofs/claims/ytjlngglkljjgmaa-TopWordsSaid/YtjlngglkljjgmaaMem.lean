/- Package memory, call by call, over the cells that it reads and writes. -/
import Derived.Test.YtjlngglkljjgmaaBits
import Derived.RegionTactic
import Derived.BigRegion
import Derived.WalkSmall
import Derived.WalkSpells
import Derived.WalkLawsBesides
namespace Go.Proofs.Ytjlngglkljjgmaa
open Go.RowKit
theorem size_some (b d n cap : Nat) (w : World) (hp : w.cell? ⟨b, 0, none⟩ = some (.slice (some ⟨d, 0, none⟩) n cap)) :
    Calls Try.prog 19 #[.pointer (some ⟨b, 0, none⟩)] w fun e w' => e = .returned (.int .i64 n) ∧ w = w' := by
  go_enter Try.func19, Try.ntmps19
  go_wp2
  go_ret
  exact ⟨rfl, rfl⟩
theorem size_nil (w : World) :
    Calls Try.prog 19 #[.pointer none] w fun e w' => e = .returned (.int .i64 0) ∧ w = w' := by
  go_enter Try.func19, Try.ntmps19
  go_wp2
  go_ret
  exact ⟨rfl, rfl⟩
theorem wrap_nat (k : Nat) (hb : (k : Int) < 1073741824) : wrap64 (k : Int) = (k : Int) := by unfold wrap64; omega
theorem word_some (b d n cap k : Nat) (at_ : Nat) (w : World) (hp : w.cell? ⟨b, 0, none⟩ = some (.slice (some ⟨d, 0, none⟩) n cap)) (hk : (at_ : Int) / 4 = (k : Int)) (hb : (k : Int) < 1073741824) (hn : (k : Int) < (n : Int)) :
    Calls Try.prog 14 #[.pointer (some ⟨b, 0, none⟩), .int .u32 at_] w fun e w' => e = .returned (.pointer (some ⟨d, k, none⟩)) ∧ w = w' := by
  have wk := wrap_nat k hb
  have h0 : (0 : Int) ≤ (k : Int) := Int.natCast_nonneg k
  clear hb
  go_enter Try.func14, Try.ntmps14
  go_wp2_with (go_at_call 19; refine (size_some b d n cap _ hp).mono ?_; rintro e w' ⟨rfl, rfl⟩)
  go_ret
  exact ⟨rfl, rfl⟩
theorem word_none (b d n cap k : Nat) (at_ : Nat) (w : World) (hp : w.cell? ⟨b, 0, none⟩ = some (.slice (some ⟨d, 0, none⟩) n cap)) (hk : (at_ : Int) / 4 = (k : Int)) (hb : (k : Int) < 1073741824) (hn : (n : Int) ≤ (k : Int)) :
    Calls Try.prog 14 #[.pointer (some ⟨b, 0, none⟩), .int .u32 at_] w fun e w' => e = .returned (.pointer none) ∧ w = w' := by
  go_enter Try.func14, Try.ntmps14
  go_wp2_with (go_at_call 19; refine (size_some b d n cap _ hp).mono ?_; rintro e w' ⟨rfl, rfl⟩)
  go_ret
  exact ⟨rfl, rfl⟩
theorem word_nil (k : Nat) (at_ : Nat) (w : World) (hk : (at_ : Int) / 4 = (k : Int)) (hb : (k : Int) < 1073741824) :
    Calls Try.prog 14 #[.pointer none, .int .u32 at_] w fun e w' => e = .returned (.pointer none) ∧ w = w' := by
  go_enter Try.func14, Try.ntmps14
  go_wp2_with (go_at_call 19; refine (size_nil _).mono ?_; rintro e w' ⟨rfl, rfl⟩)
  go_ret
  exact ⟨rfl, rfl⟩
theorem ret_tb {a b : Int} {c : Bool} (h : a = b) : Ending.returned (.tuple #[.int .u32 a, .bool c]) = .returned (.tuple #[.int .u32 b, .bool c]) := by rw [h]
theorem putb_fin (x v j : Nat) (hx : x < 4294967296) (hj : j < 4) :
    Go.bits .or .u32 (Go.bits .andNot .u32 (x : Int) (255 * 2 ^ (8 * j) % 4294967296)) ((v : Int) % 256 * 2 ^ (8 * j) % 4294967296) = (putN x (8 * j) 8 v : Int) := by
  have hm := maskAt_lt (8 * j) 8 (by omega)
  have e1 : (255 : Int) * 2 ^ (8 * j) % 4294967296 = ((2 ^ (8 * j) * (2 ^ 8 - 1) : Nat) : Int) := by
    have g : (255 : Int) * 2 ^ (8 * j) = ((2 ^ (8 * j) * (2 ^ 8 - 1) : Nat) : Int) := by rw [Int.natCast_mul, Int.mul_comm]; simp
    rw [g]; omega
  have e2 : (v : Int) % 256 * 2 ^ (8 * j) % 4294967296 = ((v % 256 * 2 ^ (8 * j) % 4294967296 : Nat) : Int) := by
    rw [Int.natCast_emod, Int.natCast_mul, Int.natCast_emod]; simp
  have e3 : v % 256 * 2 ^ (8 * j) % 4294967296 = (v * 2 ^ (8 * j) % 4294967296) &&& (2 ^ (8 * j) * (2 ^ 8 - 1)) := by
    apply Nat.eq_of_testBit_eq
    intro i
    rw [Nat.testBit_and, testBit_maskAt, show (4294967296 : Nat) = 2 ^ 32 from rfl, show 256 = 2 ^ 8 from rfl, Nat.testBit_mod_two_pow, Nat.testBit_mod_two_pow, Nat.testBit_mul_two_pow, Nat.testBit_mul_two_pow, Nat.testBit_mod_two_pow]
    by_cases h1 : i < 32
    · by_cases h2 : 8 * j ≤ i
      · by_cases h3 : i < 8 * j + 8
        · simp [h1, h2, h3, show i - 8 * j < 8 by omega]
        · simp [h1, h2, h3, show ¬ i - 8 * j < 8 by omega]
      · simp [h2]
    · simp [h1]
  rw [e1, e2, andNot_u32 _ _ hx hm, or_u32 _ _ (Nat.lt_of_le_of_lt Nat.and_le_left hx) (Nat.mod_lt _ (by decide)), e3, put_bits x v (8 * j) 8 hx (by omega)]
  rfl
/-- What a receiver is: nothing, or a memory whose words lie in a block. -/
def WordAt (w : World) (p : Value) (at_ : Nat) (r : Option Addr) : Prop := ∀ w1 : World, w1 = w → Calls Try.prog 14 #[p, .int .u32 at_] w1 fun e w' => e = .returned (.pointer r) ∧ w1 = w'
theorem load_none (p : Value) (at_ : Nat) (w : World) (h : WordAt w p at_ none) :
    Calls Try.prog 8 #[p, .int .u32 at_] w fun e w' => e = .returned (.tuple #[.int .u32 0, .bool false]) ∧ w = w' := by
  have H := Lib.hid (h w rfl)
  clear h
  go_enter Try.func8, Try.ntmps8
  go_wp2_with (go_at_call 14; refine H.out.mono ?_; rintro e w' ⟨rfl, rfl⟩)
  go_ret2
  exact ⟨rfl, rfl⟩
theorem load_odd (p : Value) (a : Addr) (at_ j : Nat) (w : World) (h : WordAt w p at_ (some a)) (hj : (at_ : Int) % 4 = (j : Int)) (h0 : ((j : Int) == 0) = false) :
    Calls Try.prog 8 #[p, .int .u32 at_] w fun e w' => e = .returned (.tuple #[.int .u32 0, .bool false]) ∧ w = w' := by
  have H := Lib.hid (h w rfl)
  clear h
  go_enter Try.func8, Try.ntmps8
  go_wp2_with (go_at_call 14; refine H.out.mono ?_; rintro e w' ⟨rfl, rfl⟩)
  go_ret2
  exact ⟨rfl, rfl⟩
theorem load_some (p : Value) (d k : Nat) (x : Int) (at_ : Nat) (w : World) (h : WordAt w p at_ (some ⟨d, k, none⟩)) (hj : (at_ : Int) % 4 = 0) (hx : w.cell? ⟨d, k, none⟩ = some (.int .u32 x)) :
    Calls Try.prog 8 #[p, .int .u32 at_] w fun e w' => e = .returned (.tuple #[.int .u32 x, .bool true]) ∧ w = w' := by
  have H := Lib.hid (h w rfl)
  clear h
  go_enter Try.func8, Try.ntmps8
  go_wp2_with (go_at_call 14; refine H.out.mono ?_; rintro e w' ⟨rfl, rfl⟩)
  go_ret2
  exact ⟨rfl, rfl⟩
theorem store_none (p : Value) (at_ : Nat) (v : Int) (w : World) (h : WordAt w p at_ none) :
    Calls Try.prog 46 #[p, .int .u32 at_, .int .u32 v] w fun e w' => e = .returned (.bool false) ∧ w = w' := by
  have H := Lib.hid (h w rfl)
  clear h
  go_enter Try.func46, Try.ntmps46
  go_wp2_with (go_at_call 14; refine H.out.mono ?_; rintro e w' ⟨rfl, rfl⟩)
  go_ret
  exact ⟨rfl, rfl⟩
theorem store_odd (p : Value) (a : Addr) (at_ j : Nat) (v : Int) (w : World) (h : WordAt w p at_ (some a)) (hj : (at_ : Int) % 4 = (j : Int)) (h0 : ((j : Int) == 0) = false) :
    Calls Try.prog 46 #[p, .int .u32 at_, .int .u32 v] w fun e w' => e = .returned (.bool false) ∧ w = w' := by
  have H := Lib.hid (h w rfl)
  clear h
  go_enter Try.func46, Try.ntmps46
  go_wp2_with (go_at_call 14; refine H.out.mono ?_; rintro e w' ⟨rfl, rfl⟩)
  go_ret
  exact ⟨rfl, rfl⟩
theorem store_some (p : Value) (d k : Nat) (x v : Int) (at_ : Nat) (w : World) (h : WordAt w p at_ (some ⟨d, k, none⟩)) (hj : (at_ : Int) % 4 = 0) (hx : w.cell? ⟨d, k, none⟩ = some (.int .u32 x)) (hf : w.frozen? ⟨d, k, none⟩ = false) :
    Calls Try.prog 46 #[p, .int .u32 at_, .int .u32 v] w fun e w' => e = .returned (.bool true) ∧ w' = w.setCell ⟨d, k, none⟩ (.int .u32 v) := by
  have H := Lib.hid (h w rfl)
  clear h
  go_enter Try.func46, Try.ntmps46
  go_wp2_with (go_at_call 14; refine H.out.mono ?_; rintro e w' ⟨rfl, rfl⟩)
  go_ret
  exact ⟨rfl, rfl⟩
theorem byte_none (p : Value) (at_ : Nat) (w : World) (h : WordAt w p at_ none) :
    Calls Try.prog 32 #[p, .int .u32 at_] w fun e w' => e = .returned (.tuple #[.int .u32 0, .bool false]) ∧ w = w' := by
  have H := Lib.hid (h w rfl)
  clear h
  go_enter Try.func32, Try.ntmps32
  go_wp2_with (go_at_call 14; refine H.out.mono ?_; rintro e w' ⟨rfl, rfl⟩)
  go_ret2
  exact ⟨rfl, rfl⟩
theorem byte_some (p : Value) (d k : Nat) (x : Nat) (at_ j : Nat) (w : World) (h : WordAt w p at_ (some ⟨d, k, none⟩)) (hj : (at_ : Int) % 4 = (j : Int)) (_hj3 : (j : Int) < 4) (hx : w.cell? ⟨d, k, none⟩ = some (.int .u32 x)) :
    Calls Try.prog 32 #[p, .int .u32 at_] w fun e w' => e = .returned (.tuple #[.int .u32 ((x / 2 ^ (8 * j) % 256 : Nat) : Int), .bool true]) ∧ w = w' := by
  have H := Lib.hid (h w rfl)
  clear h
  go_enter Try.func32, Try.ntmps32
  go_wp2_with (go_at_call 14; refine H.out.mono ?_; rintro e w' ⟨rfl, rfl⟩)
  go_ret2
  exact ⟨ret_tb (by simp), rfl⟩
theorem putb_none (p : Value) (at_ : Nat) (v : Int) (w : World) (h : WordAt w p at_ none) :
    Calls Try.prog 45 #[p, .int .u32 at_, .int .u32 v] w fun e w' => e = .returned (.bool false) ∧ w = w' := by
  have H := Lib.hid (h w rfl)
  clear h
  go_enter Try.func45, Try.ntmps45
  go_wp2_with (go_at_call 14; refine H.out.mono ?_; rintro e w' ⟨rfl, rfl⟩)
  go_ret
  exact ⟨rfl, rfl⟩
theorem putb_some (p : Value) (d k : Nat) (x v : Nat) (at_ j : Nat) (w : World) (h : WordAt w p at_ (some ⟨d, k, none⟩)) (hj : (at_ : Int) % 4 = (j : Int)) (_hj3 : (j : Int) < 4) (hx : w.cell? ⟨d, k, none⟩ = some (.int .u32 x)) (hx32 : x < 4294967296) (hf : w.frozen? ⟨d, k, none⟩ = false) :
    Calls Try.prog 45 #[p, .int .u32 at_, .int .u32 v] w fun e w' => e = .returned (.bool true) ∧ w' = w.setCell ⟨d, k, none⟩ (.int .u32 (putN x (8 * j) 8 v)) := by
  have H := Lib.hid (h w rfl)
  have X := Lib.hid hx32
  clear h hx32
  go_enter Try.func45, Try.ntmps45
  go_wp2_with (go_at_call 14; refine H.out.mono ?_; rintro e w' ⟨rfl, rfl⟩)
  go_ret
  exact ⟨rfl, by rw [putb_fin x v j X.out (by omega)]⟩
end Go.Proofs.Ytjlngglkljjgmaa
