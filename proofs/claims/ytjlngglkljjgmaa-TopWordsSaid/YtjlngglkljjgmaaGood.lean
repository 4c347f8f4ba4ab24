/- risc.Good: which values are instructions, decided as the document says. -/
import Derived.Test.YtjlngglkljjgmaaBits
import Derived.BigRegion
import Derived.RegionTactic
import Derived.ChangeAlike
import Derived.WalkSmall
namespace Go.Proofs.Ytjlngglkljjgmaa
open Go.RowKit
/-- An instruction. -/
structure Ins where
  form : Int
  u : Bool
  v : Bool
  a : Int
  b : Int
  c : Int
  op : Int
  im : Int
def Ins.val (x : Ins) : Value := .agg #[.int .i64 x.form, .bool x.u, .bool x.v, .int .i64 x.a, .int .i64 x.b, .int .i64 x.c, .int .i64 x.op, .int .i64 x.im]
def Good (x : Ins) : Prop :=
  (0 ≤ x.a ∧ x.a < 16) ∧ (0 ≤ x.b ∧ x.b < 16) ∧ (0 ≤ x.c ∧ x.c < 16) ∧ (0 ≤ x.op ∧ x.op ≤ 11) ∧
  ((x.form = 0 ∧ x.im = 0 ∧ (x.v = false ∨ x.u = true ∧ x.op = 0) ∧ (x.u = false ∨ x.op = 0 ∨ 8 ≤ x.op ∧ x.op ≤ 10)) ∨
   (x.form = 1 ∧ x.c = 0 ∧ (0 ≤ x.im ∧ x.im < 65536) ∧ (x.u = false ∨ x.op = 0 ∨ 8 ≤ x.op ∧ x.op ≤ 10)) ∨
   (x.form = 2 ∧ x.c = 0 ∧ x.op = 0 ∧ (-524288 ≤ x.im ∧ x.im < 524288)) ∨
   (x.form = 3 ∧ x.b = 0 ∧ x.op = 0 ∧ (x.u = true ∧ x.c = 0 ∧ (-8388608 ≤ x.im ∧ x.im < 8388608) ∨ x.u = false ∧ x.im = 0)))
instance (x : Ins) : Decidable (Good x) := by unfold Good; infer_instance
def goodB (x : Ins) : Bool := decide (Good x)
def halfB (v : Int) (n : Nat) : Bool := decide (0 ≤ v ∧ v < 2 ^ n)
theorem half_calls (v : Int) (n : Nat) (hn : n ≤ 32) (w : World) :
    Calls Try.prog 37 #[.int .i64 v, .int .i64 n] w fun e w' => e = .returned (.bool (halfB v n)) ∧ w = w' := by
  have hp : (2 : Int) ^ n ≤ 4294967296 ∧ 0 < (2 : Int) ^ n := by
    have h1 := pow_le32 n hn
    have h2 := Nat.two_pow_pos n
    have e : (2 : Int) ^ n = ((2 ^ n : Nat) : Int) := by simp
    rw [e]; omega
  have W := Lib.hid (show wrap64 ((2 : Int) ^ n) = 2 ^ n by unfold wrap64; omega)
  clear hp
  by_cases h : 0 ≤ v
  · go_enter Try.func37, Try.ntmps37
    go_wp2
    go_ret
    exact ⟨ret_b (by unfold halfB; rw [W.out]; simp [h]), rfl⟩
  · go_enter Try.func37, Try.ntmps37
    go_wp2
    go_ret
    exact ⟨ret_b (by unfold halfB; exact (decide_eq_false (by omega)).symm), rfl⟩
theorem half4 (v : Int) (w : World) : Calls Try.prog 37 #[.int .i64 v, .int .i64 4] w fun e w' => e = .returned (.bool (halfB v 4)) ∧ w = w' := half_calls v 4 (by decide) w
theorem half16 (v : Int) (w : World) : Calls Try.prog 37 #[.int .i64 v, .int .i64 16] w fun e w' => e = .returned (.bool (halfB v 16)) ∧ w = w' := half_calls v 16 (by decide) w
theorem fits20 (v : Int) (w : World) : Calls Try.prog 38 #[.int .i64 v, .int .i64 20] w fun e w' => e = .returned (.bool (fitsB v 20)) ∧ w = w' := fits_yes v 20 (by decide) (by decide) w
theorem fits24 (v : Int) (w : World) : Calls Try.prog 38 #[.int .i64 v, .int .i64 24] w fun e w' => e = .returned (.bool (fitsB v 24)) ∧ w = w' := fits_yes v 24 (by decide) (by decide) w
theorem below_drew1 {B : Nat} {a w : World} (h : Below B a w) : Below B a w.drew := below_drewN h 1
set_option maxHeartbeats 4000000 in
theorem good_reg (u v : Bool) (a b c op im : Int) (w : World) :
    Calls Try.prog 25 #[.agg #[.int .i64 0, .bool u, .bool v, .int .i64 a, .int .i64 b, .int .i64 c, .int .i64 op, .int .i64 im]] w fun e w' => e = .returned (.bool (goodB ⟨0, u, v, a, b, c, op, im⟩)) ∧ Below w.heap.size w w' := by
  go_enter Try.func25, Try.ntmps25
  go_wp2_with (go_at_call 37; first | (refine (half4 _ _).mono ?_; rintro e w' ⟨rfl, rfl⟩) | (refine (half16 _ _).mono ?_; rintro e w' ⟨rfl, rfl⟩))
  go_region
  go_wp2_with (go_at_call 37; first | (refine (half4 _ _).mono ?_; rintro e w' ⟨rfl, rfl⟩) | (refine (half16 _ _).mono ?_; rintro e w' ⟨rfl, rfl⟩))
  all_goals go_ret
  all_goals refine ⟨ret_b ?_, ?_⟩
  all_goals first | (repeat (first | exact Below.refl _ _ | apply below_drew1 | refine Below.alloc ?_ (by simp) _)) | skip
  all_goals (clear w; first | (symm; refine decide_eq_true ?_) | (symm; refine decide_eq_false ?_))
  all_goals simp only [halfB, decide_eq_true_eq] at *
  all_goals (simp only [Good]; cases u <;> cases v <;> simp at * <;> omega)
set_option maxHeartbeats 4000000 in
theorem good_im (u v : Bool) (a b c op im : Int) (w : World) :
    Calls Try.prog 25 #[.agg #[.int .i64 1, .bool u, .bool v, .int .i64 a, .int .i64 b, .int .i64 c, .int .i64 op, .int .i64 im]] w fun e w' => e = .returned (.bool (goodB ⟨1, u, v, a, b, c, op, im⟩)) ∧ Below w.heap.size w w' := by
  go_enter Try.func25, Try.ntmps25
  go_wp2_with (first | (go_at_call 37; ((first | (with_reducible refine (half4 _ _).mono ?_) | (with_reducible refine (half16 _ _).mono ?_)); rintro e w' ⟨rfl, rfl⟩)) | (go_at_call 38; ((first | (with_reducible refine (fits20 _ _).mono ?_) | (with_reducible refine (fits24 _ _).mono ?_)); rintro e w' ⟨rfl, rfl⟩)))
  go_region
  go_wp2_with (first | (go_at_call 37; ((first | (with_reducible refine (half4 _ _).mono ?_) | (with_reducible refine (half16 _ _).mono ?_)); rintro e w' ⟨rfl, rfl⟩)) | (go_at_call 38; ((first | (with_reducible refine (fits20 _ _).mono ?_) | (with_reducible refine (fits24 _ _).mono ?_)); rintro e w' ⟨rfl, rfl⟩)))
  all_goals go_ret
  all_goals refine ⟨ret_b ?_, ?_⟩
  all_goals first | (repeat (first | exact Below.refl _ _ | apply below_drew1 | refine Below.alloc ?_ (by simp) _)) | skip
  all_goals (clear w; first | (symm; refine decide_eq_true ?_) | (symm; refine decide_eq_false ?_))
  all_goals simp only [halfB, decide_eq_true_eq] at *
  all_goals (simp only [Good]; cases u <;> cases v <;> simp at * <;> omega)
set_option maxHeartbeats 4000000 in
theorem good_mem (u v : Bool) (a b c op im : Int) (w : World) :
    Calls Try.prog 25 #[.agg #[.int .i64 2, .bool u, .bool v, .int .i64 a, .int .i64 b, .int .i64 c, .int .i64 op, .int .i64 im]] w fun e w' => e = .returned (.bool (goodB ⟨2, u, v, a, b, c, op, im⟩)) ∧ Below w.heap.size w w' := by
  go_enter Try.func25, Try.ntmps25
  go_wp2_with (first | (go_at_call 37; ((first | (with_reducible refine (half4 _ _).mono ?_) | (with_reducible refine (half16 _ _).mono ?_)); rintro e w' ⟨rfl, rfl⟩)) | (go_at_call 38; ((first | (with_reducible refine (fits20 _ _).mono ?_) | (with_reducible refine (fits24 _ _).mono ?_)); rintro e w' ⟨rfl, rfl⟩)))
  go_region
  go_wp2_with (first | (go_at_call 37; ((first | (with_reducible refine (half4 _ _).mono ?_) | (with_reducible refine (half16 _ _).mono ?_)); rintro e w' ⟨rfl, rfl⟩)) | (go_at_call 38; ((first | (with_reducible refine (fits20 _ _).mono ?_) | (with_reducible refine (fits24 _ _).mono ?_)); rintro e w' ⟨rfl, rfl⟩)))
  all_goals go_ret
  all_goals refine ⟨ret_b ?_, ?_⟩
  all_goals first | (repeat (first | exact Below.refl _ _ | apply below_drew1 | refine Below.alloc ?_ (by simp) _)) | skip
  all_goals (clear w; first | (symm; refine decide_eq_true ?_) | (symm; refine decide_eq_false ?_))
  all_goals simp only [halfB, fitsB, decide_eq_true_eq] at *
  all_goals (simp only [Good]; cases u <;> cases v <;> simp at * <;> omega)
set_option maxHeartbeats 4000000 in
theorem good_jump (v : Bool) (a b c op im : Int) (w : World) :
    Calls Try.prog 25 #[.agg #[.int .i64 3, .bool true, .bool v, .int .i64 a, .int .i64 b, .int .i64 c, .int .i64 op, .int .i64 im]] w fun e w' => e = .returned (.bool (goodB ⟨3, true, v, a, b, c, op, im⟩)) ∧ Below w.heap.size w w' := by
  go_enter Try.func25, Try.ntmps25
  go_wp2_with (first | (go_at_call 37; ((first | (with_reducible refine (half4 _ _).mono ?_) | (with_reducible refine (half16 _ _).mono ?_)); rintro e w' ⟨rfl, rfl⟩)) | (go_at_call 38; ((first | (with_reducible refine (fits20 _ _).mono ?_) | (with_reducible refine (fits24 _ _).mono ?_)); rintro e w' ⟨rfl, rfl⟩)))
  all_goals go_ret
  all_goals refine ⟨ret_b ?_, ?_⟩
  all_goals first | (repeat (first | exact Below.refl _ _ | apply below_drew1 | refine Below.alloc ?_ (by simp) _)) | skip
  all_goals (clear w; first | (symm; refine decide_eq_true ?_) | (symm; refine decide_eq_false ?_))
  all_goals simp only [halfB, fitsB, decide_eq_true_eq] at *
  all_goals (simp only [Good]; cases v <;> simp at * <;> omega)
set_option maxHeartbeats 4000000 in
theorem good_back (v : Bool) (a b c op im : Int) (w : World) :
    Calls Try.prog 25 #[.agg #[.int .i64 3, .bool false, .bool v, .int .i64 a, .int .i64 b, .int .i64 c, .int .i64 op, .int .i64 im]] w fun e w' => e = .returned (.bool (goodB ⟨3, false, v, a, b, c, op, im⟩)) ∧ Below w.heap.size w w' := by
  go_enter Try.func25, Try.ntmps25
  go_wp2_with (first | (go_at_call 37; ((first | (with_reducible refine (half4 _ _).mono ?_) | (with_reducible refine (half16 _ _).mono ?_)); rintro e w' ⟨rfl, rfl⟩)) | (go_at_call 38; ((first | (with_reducible refine (fits20 _ _).mono ?_) | (with_reducible refine (fits24 _ _).mono ?_)); rintro e w' ⟨rfl, rfl⟩)))
  all_goals go_ret
  all_goals refine ⟨ret_b ?_, ?_⟩
  all_goals first | (repeat (first | exact Below.refl _ _ | apply below_drew1 | refine Below.alloc ?_ (by simp) _)) | skip
  all_goals (clear w; first | (symm; refine decide_eq_true ?_) | (symm; refine decide_eq_false ?_))
  all_goals simp only [halfB, fitsB, decide_eq_true_eq] at *
  all_goals (simp only [Good]; cases v <;> simp at * <;> omega)
theorem good_else (form : Int) (u v : Bool) (a b c op im : Int) (h0 : (form == 0) = false) (h1 : (form == 1) = false) (h2 : (form == 2) = false) (h3 : (form == 3) = false) (w : World) :
    Calls Try.prog 25 #[.agg #[.int .i64 form, .bool u, .bool v, .int .i64 a, .int .i64 b, .int .i64 c, .int .i64 op, .int .i64 im]] w fun e w' => e = .returned (.bool (goodB ⟨form, u, v, a, b, c, op, im⟩)) ∧ Below w.heap.size w w' := by
  go_enter Try.func25, Try.ntmps25
  go_wp2_with (go_at_call 37; refine (half4 _ _).mono ?_; rintro e w' ⟨rfl, rfl⟩)
  go_ret
  refine ⟨ret_b ?_, ?_⟩
  · symm
    refine decide_eq_false ?_
    simp only [Good]
    simp at h0 h1 h2 h3
    omega
  · repeat (first | exact Below.refl _ _ | apply below_drew1 | refine Below.alloc ?_ (by simp) _)
theorem good_calls (x : Ins) (w : World) : Calls Try.prog 25 #[x.val] w fun e w' => e = .returned (.bool (goodB x)) ∧ Below w.heap.size w w' := by
  obtain ⟨form, u, v, a, b, c, op, im⟩ := x
  by_cases h0 : form = 0
  · subst h0; exact good_reg u v a b c op im w
  · by_cases h1 : form = 1
    · subst h1; exact good_im u v a b c op im w
    · by_cases h2 : form = 2
      · subst h2; exact good_mem u v a b c op im w
      · by_cases h3 : form = 3
        · subst h3
          cases u
          · exact good_back v a b c op im w
          · exact good_jump v a b c op im w
        · exact good_else form u v a b c op im (by simp [h0]) (by simp [h1]) (by simp [h2]) (by simp [h3]) w
end Go.Proofs.Ytjlngglkljjgmaa
