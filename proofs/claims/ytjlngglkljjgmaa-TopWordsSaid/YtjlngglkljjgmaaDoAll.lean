/- alu.Do: any operation tells words and flags. -/
import Derived.Test.YtjlngglkljjgmaaDo
namespace Go.Proofs.Ytjlngglkljjgmaa
open Go.RowKit
/-- What Do tells, in natural numbers. -/
def Tells (op : Nat) (u : Bool) (b n h : Nat) (f : Fl) : Prop :=
  ∃ (r h2 : Nat) (f2 : Fl), r < 4294967296 ∧ h2 < 4294967296 ∧ ∀ w : World, Calls Try.prog 36 #[.int .i64 op, .bool u, .int .u32 b, .int .u32 n, .int .u32 h, f.val] w fun e w' => e = .returned (.tuple #[.int .u32 r, .int .u32 h2, f2.val, .bool true]) ∧ Below w.heap.size w w'
theorem tells_of {op : Nat} {u : Bool} {b n h : Nat} {f : Fl} (o : Out) (r0 : 0 ≤ o.r) (r1 : o.r < 4294967296) (h0 : 0 ≤ o.h) (h1 : o.h < 4294967296)
    (H : ∀ w : World, Calls Try.prog 36 #[.int .i64 op, .bool u, .int .u32 b, .int .u32 n, .int .u32 h, f.val] w fun e w' => e = .returned (Out.val o) ∧ Below w.heap.size w w') : Tells op u b n h f := by
  obtain ⟨r, h2, c, v⟩ := o
  dsimp only at r0 r1 h0 h1
  obtain ⟨k, rfl⟩ := Int.eq_ofNat_of_zero_le r0
  obtain ⟨j, rfl⟩ := Int.eq_ofNat_of_zero_le h0
  exact ⟨k, j, ⟨_, _, c, v⟩, by omega, by omega, H⟩
theorem lt_or {x y : Nat} (hx : x < 4294967296) (hy : y < 4294967296) : x ||| y < 4294967296 := Nat.or_lt_two_pow (n := 32) hx hy
theorem lt_xor {x y : Nat} (hx : x < 4294967296) (hy : y < 4294967296) : x ^^^ y < 4294967296 := Nat.xor_lt_two_pow (n := 32) hx hy
theorem lt_and {x : Nat} (y : Nat) (hx : x < 4294967296) : x &&& y < 4294967296 := Nat.lt_of_le_of_lt Nat.and_le_left hx
theorem quo_range (b n : Nat) (hb : b < 4294967296) : (0 ≤ (quoP b n).1 ∧ (quoP b n).1 < 4294967296) ∧ 0 ≤ (quoP b n).2 ∧ (quoP b n).2 < 4294967296 := by
  unfold quoP
  split
  · dsimp only; omega
  · split
    · dsimp only
      refine ⟨⟨Int.emod_nonneg _ (by decide), Int.emod_lt_of_pos _ (by decide)⟩, Int.emod_nonneg _ (by decide), Int.emod_lt_of_pos _ (by decide)⟩
    · dsimp only
      refine ⟨⟨Int.emod_nonneg _ (by decide), Int.emod_lt_of_pos _ (by decide)⟩, Int.emod_nonneg _ (by decide), Int.emod_lt_of_pos _ (by decide)⟩
theorem imod (x : Int) : 0 ≤ x % 4294967296 ∧ x % 4294967296 < 4294967296 := ⟨Int.emod_nonneg _ (by decide), Int.emod_lt_of_pos _ (by decide)⟩
theorem tells0 (b n h : Nat) (f0 f1 c f3 : Bool) (_hb : b < 4294967296) (_hn : n < 4294967296) (_hh : h < 4294967296) : Tells 0 false b n h ⟨f0, f1, c, f3⟩ := by
  have h0 : (0 : Int) ≤ h := by omega
  have h1 : (h : Int) < 4294967296 := by omega
  exact tells_of ⟨n, h, c, f3⟩ (by dsimp only; omega) (by dsimp only; omega) h0 h1 (fun w => do0 b n h f0 f1 c f3 w)
theorem tells0u (b n h : Nat) (f0 f1 c f3 : Bool) (_hb : b < 4294967296) (_hn : n < 4294967296) (_hh : h < 4294967296) : Tells 0 true b n h ⟨f0, f1, c, f3⟩ := by
  have h0 : (0 : Int) ≤ h := by omega
  have h1 : (h : Int) < 4294967296 := by omega
  exact tells_of ⟨h, h, c, f3⟩ h0 h1 h0 h1 (fun w => do0u b n h f0 f1 c f3 w)
theorem tells1 (b n h : Nat) (f0 f1 c f3 : Bool) (_hb : b < 4294967296) (_hn : n < 4294967296) (_hh : h < 4294967296) : Tells 1 false b n h ⟨f0, f1, c, f3⟩ := by
  have h0 : (0 : Int) ≤ h := by omega
  have h1 : (h : Int) < 4294967296 := by omega
  have hr : (0 : Int) ≤ ((b * 2 ^ (n % 32) % 4294967296 : Nat) : Int) ∧ ((b * 2 ^ (n % 32) % 4294967296 : Nat) : Int) < 4294967296 := by
    generalize b * 2 ^ (n % 32) = q
    omega
  exact tells_of ⟨_, h, c, f3⟩ hr.1 hr.2 h0 h1 (fun w => do1 b n h f0 f1 c f3 _ (lsl_calls b n) w)
theorem tells2 (b n h : Nat) (f0 f1 c f3 : Bool) (_hb : b < 4294967296) (_hn : n < 4294967296) (_hh : h < 4294967296) : Tells 2 false b n h ⟨f0, f1, c, f3⟩ := by
  have h0 : (0 : Int) ≤ h := by omega
  have h1 : (h : Int) < 4294967296 := by omega
  exact tells_of ⟨asrZ b (n % 32), h, c, f3⟩ (imod _).1 (imod _).2 h0 h1 (fun w => do2 b n h f0 f1 c f3 _ (asr_calls b n) w)
theorem tells3 (b n h : Nat) (f0 f1 c f3 : Bool) (_hb : b < 4294967296) (_hn : n < 4294967296) (_hh : h < 4294967296) : Tells 3 false b n h ⟨f0, f1, c, f3⟩ := by
  have h0 : (0 : Int) ≤ h := by omega
  have h1 : (h : Int) < 4294967296 := by omega
  have hr : (0 : Int) ≤ (rorN b (n % 32) : Nat) ∧ ((rorN b (n % 32) : Nat) : Int) < 4294967296 := by
    have := ror_lt b (n % 32) _hb (by omega)
    omega
  exact tells_of ⟨(rorN b (n % 32) : Nat), h, c, f3⟩ hr.1 hr.2 h0 h1 (fun w => do3 b n h f0 f1 c f3 _ (ror_calls b n _hb) w)
theorem tells4 (b n h : Nat) (f0 f1 c f3 : Bool) (_hb : b < 4294967296) (_hn : n < 4294967296) (_hh : h < 4294967296) : Tells 4 false b n h ⟨f0, f1, c, f3⟩ := by
  have h0 : (0 : Int) ≤ h := by omega
  have h1 : (h : Int) < 4294967296 := by omega
  have hr : 0 ≤ Go.bits .and .u32 (b : Int) (n : Int) ∧ Go.bits .and .u32 (b : Int) (n : Int) < 4294967296 := by
    rw [and_u32 b n _hb _hn]
    have := lt_and n _hb
    omega
  exact tells_of ⟨Go.bits .and .u32 (b : Int) (n : Int), h, c, f3⟩ hr.1 hr.2 h0 h1 (fun w => do4 b n h f0 f1 c f3 w)
theorem tells5 (b n h : Nat) (f0 f1 c f3 : Bool) (_hb : b < 4294967296) (_hn : n < 4294967296) (_hh : h < 4294967296) : Tells 5 false b n h ⟨f0, f1, c, f3⟩ := by
  have h0 : (0 : Int) ≤ h := by omega
  have h1 : (h : Int) < 4294967296 := by omega
  have hr : 0 ≤ Go.bits .andNot .u32 (b : Int) (n : Int) ∧ Go.bits .andNot .u32 (b : Int) (n : Int) < 4294967296 := by
    rw [andNot_u32 b n _hb _hn]
    have := lt_and (4294967295 - n) _hb
    omega
  exact tells_of ⟨Go.bits .andNot .u32 (b : Int) (n : Int), h, c, f3⟩ hr.1 hr.2 h0 h1 (fun w => do5 b n h f0 f1 c f3 w)
theorem tells6 (b n h : Nat) (f0 f1 c f3 : Bool) (_hb : b < 4294967296) (_hn : n < 4294967296) (_hh : h < 4294967296) : Tells 6 false b n h ⟨f0, f1, c, f3⟩ := by
  have h0 : (0 : Int) ≤ h := by omega
  have h1 : (h : Int) < 4294967296 := by omega
  have hr : 0 ≤ Go.bits .or .u32 (b : Int) (n : Int) ∧ Go.bits .or .u32 (b : Int) (n : Int) < 4294967296 := by
    rw [or_u32 b n _hb _hn]
    have := lt_or _hb _hn
    omega
  exact tells_of ⟨Go.bits .or .u32 (b : Int) (n : Int), h, c, f3⟩ hr.1 hr.2 h0 h1 (fun w => do6 b n h f0 f1 c f3 w)
theorem tells7 (b n h : Nat) (f0 f1 c f3 : Bool) (_hb : b < 4294967296) (_hn : n < 4294967296) (_hh : h < 4294967296) : Tells 7 false b n h ⟨f0, f1, c, f3⟩ := by
  have h0 : (0 : Int) ≤ h := by omega
  have h1 : (h : Int) < 4294967296 := by omega
  have hr : 0 ≤ Go.bits .xor .u32 (b : Int) (n : Int) ∧ Go.bits .xor .u32 (b : Int) (n : Int) < 4294967296 := by
    rw [xor_u32 b n _hb _hn]
    have := lt_xor _hb _hn
    omega
  exact tells_of ⟨Go.bits .xor .u32 (b : Int) (n : Int), h, c, f3⟩ hr.1 hr.2 h0 h1 (fun w => do7 b n h f0 f1 c f3 w)
theorem tells8 (b n h : Nat) (f0 f1 c f3 : Bool) (_hb : b < 4294967296) (_hn : n < 4294967296) (_hh : h < 4294967296) : Tells 8 false b n h ⟨f0, f1, c, f3⟩ := by
  have h0 : (0 : Int) ≤ h := by omega
  have h1 : (h : Int) < 4294967296 := by omega
  exact tells_of ⟨((b : Int) + n) % 4294967296, h, _, _⟩ (imod _).1 (imod _).2 h0 h1 (fun w => do8 b n h f0 f1 c f3 w)
theorem tells8u (b n h : Nat) (f0 f1 f3 : Bool) (_hb : b < 4294967296) (_hn : n < 4294967296) (_hh : h < 4294967296) : Tells 8 true b n h ⟨f0, f1, false, f3⟩ := by
  have h0 : (0 : Int) ≤ h := by omega
  have h1 : (h : Int) < 4294967296 := by omega
  exact tells_of ⟨((b : Int) + n) % 4294967296, h, _, _⟩ (imod _).1 (imod _).2 h0 h1 (fun w => do8u b n h f0 f1 f3 w)
theorem tells8uc (b n h : Nat) (f0 f1 f3 : Bool) (_hb : b < 4294967296) (_hn : n < 4294967296) (_hh : h < 4294967296) : Tells 8 true b n h ⟨f0, f1, true, f3⟩ := by
  have h0 : (0 : Int) ≤ h := by omega
  have h1 : (h : Int) < 4294967296 := by omega
  exact tells_of ⟨((b : Int) + n + 1) % 4294967296, h, _, _⟩ (imod _).1 (imod _).2 h0 h1 (fun w => do8uc b n h f0 f1 f3 w)
theorem tells9 (b n h : Nat) (f0 f1 c f3 : Bool) (_hb : b < 4294967296) (_hn : n < 4294967296) (_hh : h < 4294967296) : Tells 9 false b n h ⟨f0, f1, c, f3⟩ := by
  have h0 : (0 : Int) ≤ h := by omega
  have h1 : (h : Int) < 4294967296 := by omega
  exact tells_of ⟨((b : Int) - n) % 4294967296, h, _, _⟩ (imod _).1 (imod _).2 h0 h1 (fun w => do9 b n h f0 f1 c f3 w)
theorem tells9u (b n h : Nat) (f0 f1 f3 : Bool) (_hb : b < 4294967296) (_hn : n < 4294967296) (_hh : h < 4294967296) : Tells 9 true b n h ⟨f0, f1, false, f3⟩ := by
  have h0 : (0 : Int) ≤ h := by omega
  have h1 : (h : Int) < 4294967296 := by omega
  exact tells_of ⟨((b : Int) - n) % 4294967296, h, _, _⟩ (imod _).1 (imod _).2 h0 h1 (fun w => do9u b n h f0 f1 f3 w)
theorem tells9uc (b n h : Nat) (f0 f1 f3 : Bool) (_hb : b < 4294967296) (_hn : n < 4294967296) (_hh : h < 4294967296) : Tells 9 true b n h ⟨f0, f1, true, f3⟩ := by
  have h0 : (0 : Int) ≤ h := by omega
  have h1 : (h : Int) < 4294967296 := by omega
  exact tells_of ⟨((b : Int) - n - 1) % 4294967296, h, _, _⟩ (imod _).1 (imod _).2 h0 h1 (fun w => do9uc b n h f0 f1 f3 w)
theorem tells10 (b n h : Nat) (f0 f1 c f3 : Bool) (_hb : b < 4294967296) (_hn : n < 4294967296) (_hh : h < 4294967296) : Tells 10 false b n h ⟨f0, f1, c, f3⟩ := by
  have h0 : (0 : Int) ≤ h := by omega
  have h1 : (h : Int) < 4294967296 := by omega
  have X : ∀ w : World, Calls Try.prog 52 #[.bool false, .int .u32 b, .int .u32 n] w fun e w' => e = .returned (.tuple #[.int .u32 (prodP false b n % 4294967296), .int .u32 (prodP false b n / 4294967296 % 4294967296)]) ∧ w = w' := product_calls false b n
  have hr := imod (prodP false b n)
  have ht := imod (prodP false b n / 4294967296)
  revert X hr ht
  generalize prodP false b n / 4294967296 % 4294967296 = t
  generalize prodP false b n % 4294967296 = r
  intro X hr ht
  exact tells_of ⟨r, t, c, f3⟩ hr.1 hr.2 ht.1 ht.2 (fun w => do10 b n h f0 f1 c f3 r t X w)
theorem tells10u (b n h : Nat) (f0 f1 c f3 : Bool) (_hb : b < 4294967296) (_hn : n < 4294967296) (_hh : h < 4294967296) : Tells 10 true b n h ⟨f0, f1, c, f3⟩ := by
  have h0 : (0 : Int) ≤ h := by omega
  have h1 : (h : Int) < 4294967296 := by omega
  have X : ∀ w : World, Calls Try.prog 52 #[.bool true, .int .u32 b, .int .u32 n] w fun e w' => e = .returned (.tuple #[.int .u32 (prodP true b n % 4294967296), .int .u32 (prodP true b n / 4294967296 % 4294967296)]) ∧ w = w' := product_calls true b n
  have hr := imod (prodP true b n)
  have ht := imod (prodP true b n / 4294967296)
  revert X hr ht
  generalize prodP true b n / 4294967296 % 4294967296 = t
  generalize prodP true b n % 4294967296 = r
  intro X hr ht
  exact tells_of ⟨r, t, c, f3⟩ hr.1 hr.2 ht.1 ht.2 (fun w => do10u b n h f0 f1 c f3 r t X w)
theorem tells11' (b n h : Nat) (f0 f1 c f3 : Bool) (_hh : h < 4294967296) (q : Int × Int) (hq : (0 ≤ q.1 ∧ q.1 < 4294967296) ∧ 0 ≤ q.2 ∧ q.2 < 4294967296)
    (X : ∀ w : World, Calls Try.prog 53 #[.int .u32 b, .int .u32 n] w fun e w' => e = .returned (.tuple #[.int .u32 q.1, .int .u32 q.2]) ∧ ∃ k, w' = w.drewN k) : Tells 11 false b n h ⟨f0, f1, c, f3⟩ := by
  exact tells_of ⟨q.1, q.2, c, f3⟩ hq.1.1 hq.1.2 hq.2.1 hq.2.2 (fun w => do11 b n h f0 f1 c f3 q.1 q.2 X w)
theorem tells11 (b n h : Nat) (f0 f1 c f3 : Bool) (_hb : b < 4294967296) (_hh : h < 4294967296) : Tells 11 false b n h ⟨f0, f1, c, f3⟩ :=
  tells11' b n h f0 f1 c f3 _hh (quoP b n) (quo_range b n _hb) (quotient_calls b n)
theorem tells_all (op : Nat) (u : Bool) (b n h : Nat) (f : Fl) (ho : op ≤ 11) (hu : u = false ∨ op = 0 ∨ 8 ≤ op ∧ op ≤ 10) (hb : b < 4294967296) (hn : n < 4294967296) (hh : h < 4294967296) : Tells op u b n h f := by
  obtain ⟨f0, f1, c, f3⟩ := f
  have hc : op = 0 ∨ op = 1 ∨ op = 2 ∨ op = 3 ∨ op = 4 ∨ op = 5 ∨ op = 6 ∨ op = 7 ∨ op = 8 ∨ op = 9 ∨ op = 10 ∨ op = 11 := by omega
  clear ho
  rcases hc with rfl | rfl | rfl | rfl | rfl | rfl | rfl | rfl | rfl | rfl | rfl | rfl
  · cases u
    · exact tells0 b n h f0 f1 c f3 hb hn hh
    · exact tells0u b n h f0 f1 c f3 hb hn hh
  · obtain rfl : u = false := by simpa using hu
    exact tells1 b n h f0 f1 c f3 hb hn hh
  · obtain rfl : u = false := by simpa using hu
    exact tells2 b n h f0 f1 c f3 hb hn hh
  · obtain rfl : u = false := by simpa using hu
    exact tells3 b n h f0 f1 c f3 hb hn hh
  · obtain rfl : u = false := by simpa using hu
    exact tells4 b n h f0 f1 c f3 hb hn hh
  · obtain rfl : u = false := by simpa using hu
    exact tells5 b n h f0 f1 c f3 hb hn hh
  · obtain rfl : u = false := by simpa using hu
    exact tells6 b n h f0 f1 c f3 hb hn hh
  · obtain rfl : u = false := by simpa using hu
    exact tells7 b n h f0 f1 c f3 hb hn hh
  · cases u
    · exact tells8 b n h f0 f1 c f3 hb hn hh
    · cases c
      · exact tells8u b n h f0 f1 f3 hb hn hh
      · exact tells8uc b n h f0 f1 f3 hb hn hh
  · cases u
    · exact tells9 b n h f0 f1 c f3 hb hn hh
    · cases c
      · exact tells9u b n h f0 f1 f3 hb hn hh
      · exact tells9uc b n h f0 f1 f3 hb hn hh
  · cases u
    · exact tells10 b n h f0 f1 c f3 hb hn hh
    · exact tells10u b n h f0 f1 c f3 hb hn hh
  · obtain rfl : u = false := by simpa using hu
    exact tells11 b n h f0 f1 c f3 hb hh
end Go.Proofs.Ytjlngglkljjgmaa
