/- risc.Encode: an instruction's word. -/
import Derived.Test.YtjlngglkljjgmaaGood
import Derived.Laws.BitsLemmas
namespace Go.Proofs.Ytjlngglkljjgmaa
open Go.RowKit
theorem bit_calls (x : Bool) (k : Nat) (hk : k < 32) (w : World) :
    Calls Try.prog 26 #[.bool x, .int .i64 k] w fun e w' => e = .returned (.int .u32 (if x then 2 ^ k else 0)) ∧ w = w' := by
  have hp : (2 : Int) ^ k % 4294967296 = 2 ^ k := by
    have h1 := pow_le31 k (by omega)
    have h2 := Nat.two_pow_pos k
    have e : (2 : Int) ^ k = ((2 ^ k : Nat) : Int) := by simp
    rw [e]; omega
  cases x
  · go_enter Try.func26, Try.ntmps26
    go_wp2
    go_ret
    exact ⟨rfl, rfl⟩
  · have H := Lib.hid hp
    clear hp
    go_enter Try.func26, Try.ntmps26
    go_wp2
    go_ret
    exact ⟨ret_i (by rw [H.out]), rfl⟩
def flagZ (x : Bool) (k : Int) : Int := if x then 2 ^ k.toNat else 0
theorem bit_any (x : Bool) (k : Int) (h0 : 0 ≤ k) (h1 : k < 32) (w : World) : Calls Try.prog 26 #[.bool x, .int .i64 k] w fun e w' => e = .returned (.int .u32 (flagZ x k)) ∧ w = w' := by
  obtain ⟨n, rfl⟩ := Int.eq_ofNat_of_zero_le h0
  have h := bit_calls x n (by omega) w
  unfold flagZ
  rw [Int.toNat_natCast]
  exact h
theorem bcell {B : Nat} {W w1 : World} (hb : Below B W w1) : (∀ b o, b < B → w1.cell? ⟨b, o, none⟩ = W.cell? ⟨b, o, none⟩) ∧ (∀ b o, b < B → w1.frozen? ⟨b, o, none⟩ = W.frozen? ⟨b, o, none⟩) :=
  ⟨fun b o h => hb.cell (p := ⟨b, o, none⟩) h, fun b o h => hb.frozen (p := ⟨b, o, none⟩) h⟩
/-- The cells of a boxed instruction, behind a call that leaves them alone. -/
theorem boxed {w w1 : World} {z0 z1 z2 z3 z4 z5 z6 z7 : Value} {t B : Nat} (h : Below B (w.alloc (.cells #[z0, z1, z2, z3, z4, z5, z6, z7] t)) w1) (hB : w.heap.size < B := by simp) :
    w1.cell? ⟨w.heap.size, 0, none⟩ = some z0 ∧ w1.cell? ⟨w.heap.size, 1, none⟩ = some z1 ∧ w1.cell? ⟨w.heap.size, 2, none⟩ = some z2 ∧ w1.cell? ⟨w.heap.size, 3, none⟩ = some z3 ∧
    w1.cell? ⟨w.heap.size, 4, none⟩ = some z4 ∧ w1.cell? ⟨w.heap.size, 5, none⟩ = some z5 ∧ w1.cell? ⟨w.heap.size, 6, none⟩ = some z6 ∧ w1.cell? ⟨w.heap.size, 7, none⟩ = some z7 := by
  have g : ∀ o, w1.cell? ⟨w.heap.size, o, none⟩ = (w.alloc (.cells #[z0, z1, z2, z3, z4, z5, z6, z7] t)).cell? ⟨w.heap.size, o, none⟩ := fun o => h.cell (p := ⟨_, o, none⟩) hB
  refine ⟨?_, ?_, ?_, ?_, ?_, ?_, ?_, ?_⟩ <;> (rw [g]; simp [go_sem])
def F (x : Bool) (k : Int) : Int := if x then k else 0
/-- An instruction's word. -/
def encZ (x : Ins) : Int := x.form * 1073741824 + F x.u 536870912 + F x.v 268435456 + x.a * 16777216 +
  (if x.form = 3 then x.c + x.im % 16777216 else if x.form = 2 then x.b * 1048576 + x.im % 1048576 else x.b * 1048576 + x.op * 65536 + x.c + x.im)
theorem orAdd (i : Nat) (x y : Int) (hx0 : 0 ≤ x) (hx : x % 2 ^ i = 0) (hx1 : x < 4294967296) (hy0 : 0 ≤ y) (hy : y < 2 ^ i) (hy1 : y < 4294967296) : Go.bits .or .u32 x y = x + y :=
  bits_join .u32 32 (by decide) (fun n h0 h1 => by rw [IntKind.wrap_u32]; omega) i x y hx0 hx hx1 hy0 hy hy1
theorem andMask (i : Nat) (hi : i ≤ 32) (x : Int) : Go.bits .and .u32 (x % 4294967296) (2 ^ i - 1) = x % 4294967296 % 2 ^ i :=
  bits_mask .u32 32 (by decide) (fun n h0 h1 => by rw [IntKind.wrap_u32]; omega) i hi (x % 4294967296) (by omega) (by omega)
theorem enc_head (f a : Int) (u v : Bool) (hf0 : 0 ≤ f) (hf : f % 1073741824 = 0) (hf1 : f < 4294967296) (a1 : 0 ≤ a) (a2 : a < 16) :
    Go.bits .or .u32 (Go.bits .or .u32 (Go.bits .or .u32 f (flagZ u 29)) (flagZ v 28)) (a * 16777216) = f + F u 536870912 + F v 268435456 + a * 16777216 := by
  have eu : flagZ u 29 = F u 536870912 := by cases u <;> decide
  have ev : flagZ v 28 = F v 268435456 := by cases v <;> decide
  have bu : F u 536870912 = 0 ∨ F u 536870912 = 536870912 := by cases u <;> simp [F]
  have bv : F v 268435456 = 0 ∨ F v 268435456 = 268435456 := by cases v <;> simp [F]
  rw [eu, ev]
  generalize F u 536870912 = p at *
  generalize F v 268435456 = q at *
  rw [orAdd 30 f p (by omega) (by omega) (by omega) (by omega) (by omega) (by omega), orAdd 29 (f + p) q (by omega) (by omega) (by omega) (by omega) (by omega) (by omega), orAdd 28 (f + p + q) (a * 16777216) (by omega) (by omega) (by omega) (by omega) (by omega) (by omega)]
/-- What stands in the upper byte. -/
theorem head_bd (f a : Int) (u v : Bool) (hf0 : 0 ≤ f) (hf : f % 1073741824 = 0) (hf1 : f < 4294967296) (a1 : 0 ≤ a) (a2 : a < 16) :
    0 ≤ f + F u 536870912 + F v 268435456 + a * 16777216 ∧ f + F u 536870912 + F v 268435456 + a * 16777216 < 4294967296 ∧ (f + F u 536870912 + F v 268435456 + a * 16777216) % 16777216 = 0 := by
  have bu : F u 536870912 = 0 ∨ F u 536870912 = 536870912 := by cases u <;> simp [F]
  have bv : F v 268435456 = 0 ∨ F v 268435456 = 268435456 := by cases v <;> simp [F]
  omega
theorem enc_tail (h b op c im : Int) (h0 : 0 ≤ h) (h1 : h < 4294967296) (h2 : h % 16777216 = 0) (b1 : 0 ≤ b) (b2 : b < 16) (o1 : 0 ≤ op) (o2 : op < 16) (c1 : 0 ≤ c) (c2 : c < 65536) (i1 : 0 ≤ im) (i2 : im < 65536) (hz : c = 0 ∨ im = 0) :
    Go.bits .or .u32 (Go.bits .or .u32 (Go.bits .or .u32 (Go.bits .or .u32 h (b * 1048576)) (op * 65536)) c) im = h + (b * 1048576 + op * 65536 + c + im) := by
  rw [orAdd 24 h (b * 1048576) (by omega) (by omega) (by omega) (by omega) (by omega) (by omega), orAdd 20 _ (op * 65536) (by omega) (by omega) (by omega) (by omega) (by omega) (by omega), orAdd 16 _ c (by omega) (by omega) (by omega) (by omega) (by omega) (by omega)]
  rcases hz with rfl | rfl
  · rw [orAdd 16 _ im (by omega) (by omega) (by omega) (by omega) (by omega) (by omega)]; omega
  · rw [orAdd 0 _ 0 (by omega) (by omega) (by omega) (by omega) (by omega) (by omega)]; omega
theorem enc_reg_fin (u v : Bool) (a b c op : Int) (a1 : 0 ≤ a) (a2 : a < 16) (b1 : 0 ≤ b) (b2 : b < 16) (c1 : 0 ≤ c) (c2 : c < 16) (o1 : 0 ≤ op) (o2 : op ≤ 11) :
    Go.bits .or .u32 (Go.bits .or .u32 (Go.bits .or .u32 (Go.bits .or .u32 (Go.bits .or .u32 (Go.bits .or .u32 (Go.bits .or .u32 0 (flagZ u 29)) (flagZ v 28)) (a * 16777216)) (b * 1048576)) (op * 65536)) c) 0 = encZ ⟨0, u, v, a, b, c, op, 0⟩ := by
  obtain ⟨h0, h1, h2⟩ := head_bd 0 a u v (by omega) (by omega) (by omega) a1 a2
  rw [enc_head 0 a u v (by omega) (by omega) (by omega) a1 a2, enc_tail _ b op c 0 h0 h1 h2 b1 b2 o1 (by omega) c1 (by omega) (by omega) (by omega) (.inr rfl)]
  simp [encZ]
theorem enc_im_fin (u v : Bool) (a b op im : Int) (a1 : 0 ≤ a) (a2 : a < 16) (b1 : 0 ≤ b) (b2 : b < 16) (o1 : 0 ≤ op) (o2 : op ≤ 11) (i1 : 0 ≤ im) (i2 : im < 65536) :
    Go.bits .or .u32 (Go.bits .or .u32 (Go.bits .or .u32 (Go.bits .or .u32 (Go.bits .or .u32 (Go.bits .or .u32 (Go.bits .or .u32 1073741824 (flagZ u 29)) (flagZ v 28)) (a * 16777216)) (b * 1048576)) (op * 65536)) 0) im = encZ ⟨1, u, v, a, b, 0, op, im⟩ := by
  obtain ⟨h0, h1, h2⟩ := head_bd 1073741824 a u v (by omega) (by omega) (by omega) a1 a2
  rw [enc_head 1073741824 a u v (by omega) (by omega) (by omega) a1 a2, enc_tail _ b op 0 im h0 h1 h2 b1 b2 o1 (by omega) (by omega) (by omega) i1 i2 (.inl rfl)]
  simp [encZ]
theorem enc_mem_fin (u v : Bool) (a b im : Int) (a1 : 0 ≤ a) (a2 : a < 16) (b1 : 0 ≤ b) (b2 : b < 16) :
    Go.bits .or .u32 (Go.bits .or .u32 (Go.bits .or .u32 (Go.bits .or .u32 (Go.bits .or .u32 2147483648 (flagZ u 29)) (flagZ v 28)) (a * 16777216)) (b * 1048576)) (Go.bits .and .u32 (im % 4294967296) 1048575) = encZ ⟨2, u, v, a, b, 0, 0, im⟩ := by
  obtain ⟨h0, h1, h2⟩ := head_bd 2147483648 a u v (by omega) (by omega) (by omega) a1 a2
  have m := andMask 20 (by decide) im
  rw [show (2 : Int) ^ 20 - 1 = 1048575 from rfl, show (2 : Int) ^ 20 = 1048576 from rfl] at m
  rw [enc_head 2147483648 a u v (by omega) (by omega) (by omega) a1 a2, m]
  simp only [encZ]
  rw [orAdd 24 _ (b * 1048576) (by omega) (by omega) (by omega) (by omega) (by omega) (by omega), orAdd 20 _ _ (by omega) (by omega) (by omega) (by omega) (by omega) (by omega), if_neg (by decide), if_pos trivial]
  omega
theorem enc_jump_fin (v : Bool) (a im : Int) (a1 : 0 ≤ a) (a2 : a < 16) :
    Go.bits .or .u32 (Go.bits .or .u32 (Go.bits .or .u32 (Go.bits .or .u32 (Go.bits .or .u32 3221225472 (flagZ true 29)) (flagZ v 28)) (a * 16777216)) 0) (Go.bits .and .u32 (im % 4294967296) 16777215) = encZ ⟨3, true, v, a, 0, 0, 0, im⟩ := by
  obtain ⟨h0, h1, h2⟩ := head_bd 3221225472 a true v (by omega) (by omega) (by omega) a1 a2
  have m := andMask 24 (by decide) im
  rw [show (2 : Int) ^ 24 - 1 = 16777215 from rfl, show (2 : Int) ^ 24 = 16777216 from rfl] at m
  rw [enc_head 3221225472 a true v (by omega) (by omega) (by omega) a1 a2, m]
  simp only [encZ]
  rw [orAdd 0 _ 0 (by omega) (by omega) (by omega) (by omega) (by omega) (by omega), orAdd 24 _ _ (by omega) (by omega) (by omega) (by omega) (by omega) (by omega), if_pos trivial]
  omega
theorem enc_back_fin (v : Bool) (a c : Int) (a1 : 0 ≤ a) (a2 : a < 16) (c1 : 0 ≤ c) (c2 : c < 16) :
    Go.bits .or .u32 (Go.bits .or .u32 (Go.bits .or .u32 (Go.bits .or .u32 (Go.bits .or .u32 3221225472 (flagZ false 29)) (flagZ v 28)) (a * 16777216)) c) (Go.bits .and .u32 0 16777215) = encZ ⟨3, false, v, a, 0, c, 0, 0⟩ := by
  obtain ⟨h0, h1, h2⟩ := head_bd 3221225472 a false v (by omega) (by omega) (by omega) a1 a2
  have m : Go.bits .and .u32 0 16777215 = 0 := by decide +kernel
  rw [enc_head 3221225472 a false v (by omega) (by omega) (by omega) a1 a2, m]
  simp only [encZ]
  rw [orAdd 24 _ c (by omega) (by omega) (by omega) (by omega) (by omega) (by omega), orAdd 0 _ 0 (by omega) (by omega) (by omega) (by omega) (by omega) (by omega), if_pos trivial]
  omega
theorem ret_t {a b : Int} (h : a = b) : Ending.returned (.tuple #[.int .u32 a, .int .i64 0]) = .returned (.tuple #[.int .u32 b, .int .i64 0]) := by rw [h]
theorem below_box {w w1 : World} {cs : Array Value} {t : TypeId} (h : Below (w.alloc (.cells cs t)).heap.size (w.alloc (.cells cs t)) w1) (n : Nat) : Below w.heap.size w (w1.drewN n) :=
  below_drewN (((Below.refl _ _).alloc (Nat.le_refl _) _).trans (h.mono (by simp))) n
theorem enc_reg (u v : Bool) (a b c op im : Int) (w : World) (hg : goodB ⟨0, u, v, a, b, c, op, im⟩ = true) :
    Calls Try.prog 17 #[.agg #[.int .i64 0, .bool u, .bool v, .int .i64 a, .int .i64 b, .int .i64 c, .int .i64 op, .int .i64 im]] w fun e w' => e = .returned (.tuple #[.int .u32 (encZ ⟨0, u, v, a, b, c, op, im⟩), .int .i64 0]) ∧ Below w.heap.size w w' := by
  obtain ⟨ha, hb, hc, ho, hr⟩ := of_decide_eq_true hg
  simp at ha hb hc ho hr
  have G := Lib.hid (fun w => good_calls ⟨0, u, v, a, b, c, op, im⟩ w)
  rw [hg] at G
  clear hg
  obtain rfl : im = 0 := by omega
  obtain ⟨a1, a2⟩ := ha
  obtain ⟨b1, b2⟩ := hb
  obtain ⟨c1, c2⟩ := hc
  obtain ⟨o1, o2⟩ := ho
  clear hr
  go_enter Try.func17, Try.ntmps17
  go_wp2_with (go_at_call 25; refine (G.out _).mono ?_; rintro e w1 ⟨rfl, hb1⟩; obtain ⟨k0, k1, k2, k3, k4, k5, k6, k7⟩ := boxed hb1; have HB := Lib.hid hb1; clear hb1)
  go_quiet ((go_at_call 26; exact q0 (bit_any _ _ (by omega) (by omega) _)))
  go_wp2
  go_ret2
  exact ⟨ret_t (enc_reg_fin u v a b c op a1 a2 b1 b2 c1 c2 o1 o2), below_box HB.out _⟩
theorem enc_im (u v : Bool) (a b c op im : Int) (w : World) (hg : goodB ⟨1, u, v, a, b, c, op, im⟩ = true) :
    Calls Try.prog 17 #[.agg #[.int .i64 1, .bool u, .bool v, .int .i64 a, .int .i64 b, .int .i64 c, .int .i64 op, .int .i64 im]] w fun e w' => e = .returned (.tuple #[.int .u32 (encZ ⟨1, u, v, a, b, c, op, im⟩), .int .i64 0]) ∧ Below w.heap.size w w' := by
  obtain ⟨ha, hb, hc, ho, hr⟩ := of_decide_eq_true hg
  simp at ha hb hc ho hr
  have G := Lib.hid (fun w => good_calls ⟨1, u, v, a, b, c, op, im⟩ w)
  rw [hg] at G
  clear hg
  obtain rfl : c = 0 := by omega
  obtain ⟨r1, r2⟩ : 0 ≤ im ∧ im < 65536 := by omega
  obtain ⟨a1, a2⟩ := ha
  obtain ⟨b1, b2⟩ := hb
  obtain ⟨o1, o2⟩ := ho
  clear hr hc
  go_enter Try.func17, Try.ntmps17
  go_wp2_with (go_at_call 25; refine (G.out _).mono ?_; rintro e w1 ⟨rfl, hb1⟩; obtain ⟨k0, k1, k2, k3, k4, k5, k6, k7⟩ := boxed hb1; have HB := Lib.hid hb1; clear hb1)
  go_quiet ((go_at_call 26; exact q0 (bit_any _ _ (by omega) (by omega) _)))
  go_wp2
  go_ret2
  exact ⟨ret_t (enc_im_fin u v a b op im a1 a2 b1 b2 o1 o2 r1 r2), below_box HB.out _⟩
theorem enc_mem (u v : Bool) (a b c op im : Int) (w : World) (hg : goodB ⟨2, u, v, a, b, c, op, im⟩ = true) :
    Calls Try.prog 17 #[.agg #[.int .i64 2, .bool u, .bool v, .int .i64 a, .int .i64 b, .int .i64 c, .int .i64 op, .int .i64 im]] w fun e w' => e = .returned (.tuple #[.int .u32 (encZ ⟨2, u, v, a, b, c, op, im⟩), .int .i64 0]) ∧ Below w.heap.size w w' := by
  obtain ⟨ha, hb, hc, ho, hr⟩ := of_decide_eq_true hg
  simp at ha hb hc ho hr
  have G := Lib.hid (fun w => good_calls ⟨2, u, v, a, b, c, op, im⟩ w)
  rw [hg] at G
  clear hg
  obtain rfl : c = 0 := by omega
  obtain rfl : op = 0 := by omega
  obtain ⟨r1, r2⟩ : -524288 ≤ im ∧ im < 524288 := by omega
  obtain ⟨a1, a2⟩ := ha
  obtain ⟨b1, b2⟩ := hb
  clear hr hc ho
  go_enter Try.func17, Try.ntmps17
  go_wp2_with (go_at_call 25; refine (G.out _).mono ?_; rintro e w1 ⟨rfl, hb1⟩; obtain ⟨k0, k1, k2, k3, k4, k5, k6, k7⟩ := boxed hb1; have HB := Lib.hid hb1; clear hb1)
  go_quiet ((go_at_call 26; exact q0 (bit_any _ _ (by omega) (by omega) _)))
  go_wp2
  go_ret2
  exact ⟨ret_t (enc_mem_fin u v a b im a1 a2 b1 b2), below_box HB.out _⟩
theorem enc_jump (v : Bool) (a b c op im : Int) (w : World) (hg : goodB ⟨3, true, v, a, b, c, op, im⟩ = true) :
    Calls Try.prog 17 #[.agg #[.int .i64 3, .bool true, .bool v, .int .i64 a, .int .i64 b, .int .i64 c, .int .i64 op, .int .i64 im]] w fun e w' => e = .returned (.tuple #[.int .u32 (encZ ⟨3, true, v, a, b, c, op, im⟩), .int .i64 0]) ∧ Below w.heap.size w w' := by
  obtain ⟨ha, hb, hc, ho, hr⟩ := of_decide_eq_true hg
  simp at ha hb hc ho hr
  have G := Lib.hid (fun w => good_calls ⟨3, true, v, a, b, c, op, im⟩ w)
  rw [hg] at G
  clear hg
  obtain rfl : b = 0 := by omega
  obtain rfl : c = 0 := by omega
  obtain rfl : op = 0 := by omega
  obtain ⟨r1, r2⟩ : -8388608 ≤ im ∧ im < 8388608 := by omega
  obtain ⟨a1, a2⟩ := ha
  clear hr hc ho hb
  go_enter Try.func17, Try.ntmps17
  go_wp2_with (go_at_call 25; refine (G.out _).mono ?_; rintro e w1 ⟨rfl, hb1⟩; obtain ⟨k0, k1, k2, k3, k4, k5, k6, k7⟩ := boxed hb1; have HB := Lib.hid hb1; clear hb1)
  go_quiet ((go_at_call 26; exact q0 (bit_any _ _ (by omega) (by omega) _)))
  go_wp2
  go_ret2
  exact ⟨ret_t (enc_jump_fin v a im a1 a2), below_box HB.out _⟩
theorem enc_back (v : Bool) (a b c op im : Int) (w : World) (hg : goodB ⟨3, false, v, a, b, c, op, im⟩ = true) :
    Calls Try.prog 17 #[.agg #[.int .i64 3, .bool false, .bool v, .int .i64 a, .int .i64 b, .int .i64 c, .int .i64 op, .int .i64 im]] w fun e w' => e = .returned (.tuple #[.int .u32 (encZ ⟨3, false, v, a, b, c, op, im⟩), .int .i64 0]) ∧ Below w.heap.size w w' := by
  obtain ⟨ha, hb, hc, ho, hr⟩ := of_decide_eq_true hg
  simp at ha hb hc ho hr
  have G := Lib.hid (fun w => good_calls ⟨3, false, v, a, b, c, op, im⟩ w)
  rw [hg] at G
  clear hg
  obtain rfl : b = 0 := by omega
  obtain rfl : op = 0 := by omega
  obtain rfl : im = 0 := by omega
  obtain ⟨a1, a2⟩ := ha
  obtain ⟨c1, c2⟩ := hc
  clear hr ho hb
  go_enter Try.func17, Try.ntmps17
  go_wp2_with (go_at_call 25; refine (G.out _).mono ?_; rintro e w1 ⟨rfl, hb1⟩; obtain ⟨k0, k1, k2, k3, k4, k5, k6, k7⟩ := boxed hb1; have HB := Lib.hid hb1; clear hb1)
  go_quiet ((go_at_call 26; exact q0 (bit_any _ _ (by omega) (by omega) _)))
  go_wp2
  go_ret2
  exact ⟨ret_t (enc_back_fin v a c a1 a2 c1 c2), below_box HB.out _⟩
theorem enc_no (x : Ins) (hg : goodB x = false) (w : World) :
    Calls Try.prog 17 #[x.val] w fun e w' => e = .returned (.tuple #[.int .u32 0, .int .i64 20]) ∧ Below w.heap.size w w' := by
  obtain ⟨form, u, v, a, b, c, op, im⟩ := x
  have G := Lib.hid (fun w => good_calls ⟨form, u, v, a, b, c, op, im⟩ w)
  rw [hg] at G
  clear hg
  unfold Ins.val
  go_enter Try.func17, Try.ntmps17
  go_wp2_with (go_at_call 25; refine (G.out _).mono ?_; rintro e w1 ⟨rfl, hb1⟩; have HB := Lib.hid hb1; clear hb1)
  go_ret2
  exact ⟨rfl, below_box HB.out 0⟩
theorem enc_yes (x : Ins) (hg : goodB x = true) (w : World) :
    Calls Try.prog 17 #[x.val] w fun e w' => e = .returned (.tuple #[.int .u32 (encZ x), .int .i64 0]) ∧ Below w.heap.size w w' := by
  obtain ⟨form, u, v, a, b, c, op, im⟩ := x
  have hr := (of_decide_eq_true hg).2.2.2.2
  simp only at hr
  rcases hr with ⟨rfl, _⟩ | ⟨rfl, _⟩ | ⟨rfl, _⟩ | ⟨rfl, _⟩
  · exact enc_reg u v a b c op im w hg
  · exact enc_im u v a b c op im w hg
  · exact enc_mem u v a b c op im w hg
  · cases u
    · exact enc_back v a b c op im w hg
    · exact enc_jump v a b c op im w hg
end Go.Proofs.Ytjlngglkljjgmaa
