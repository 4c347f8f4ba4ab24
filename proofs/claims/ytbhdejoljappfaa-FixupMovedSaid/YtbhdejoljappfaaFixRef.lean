/- The reference's Parts and Link of layer 22. -/
import Derived.Test.YtbhdejoljappfaaFixLink
namespace Go.Proofs.Ytbhdejoljappfaa
open Go.RowKit
theorem rget_as (x lo n z : Nat) (l k : Int) (hl : l = (lo : Int)) (hk : k = (n : Int)) (hx : x < 4294967296) (h1 : 1 ≤ n) (h2 : lo + n ≤ 32) (hz : x / 2 ^ lo % 2 ^ n = z) (w : World) :
    Calls Try.prog 45 #[.int .u32 x, .int .i64 l, .int .i64 k] w fun e w' => e = .returned (.int .u32 (z : Int)) ∧ ∃ k, w' = w.drewN k := by
  subst hl hk
  rw [← hz]
  exact rget_yes x lo n (by omega) h1 h2 w
theorem rput_as (x lo n v z : Nat) (l k y : Int) (hl : l = (lo : Int)) (hk : k = (n : Int)) (hy : y = (x : Int)) (hx : x < 4294967296) (hv : v < 4294967296) (h1 : 1 ≤ n) (h2 : lo + n ≤ 32) (hz : putN x lo n v = z) (w : World) :
    Calls Try.prog 34 #[.int .u32 y, .int .i64 l, .int .i64 k, .int .u32 v] w fun e w' => e = .returned (.int .u32 (z : Int)) ∧ ∃ k, w' = w.drewN k := by
  subst hl hk hy
  rw [← hz]
  exact rput_yes x lo n v (by omega) (by omega) h1 h2 w
/-- What the reference's Parts tells. -/
def RPartsV (w : World) (x : Nat) (e : Ending) (w' : World) : Prop :=
  e = .returned (.tuple (if pOk x then #[.agg #[.int .i64 (pReg x : Nat), .int .i64 (pSort x : Nat), .int .i64 (pMod x : Nat), .int .i64 (pBack x : Nat)], .bool true] else #[.agg #[.int .i64 0, .int .i64 0, .int .i64 0, .int .i64 0], .bool false])) ∧ Below w.heap.size w w'
theorem rparts_no (x z : Nat) (hx : x < 4294967296) (hz : x / 16384 % 64 = z) (h0 : ((z : Int) != 0) = true) (w : World) :
    Calls Try.prog 25 #[.int .u32 x] w fun e w' => e = .returned (.tuple #[.agg #[.int .i64 0, .int .i64 0, .int .i64 0, .int .i64 0], .bool false]) ∧ Below w.heap.size w w' := by
  have G := Lib.hid (fun wx => rget_as x 14 6 z 14 6 rfl rfl hx (by decide) (by decide) hz wx)
  clear hx hz
  go_enter Try.func25, Try.ntmps25
  go_wp2_with (go_at_call 45; refine (G.out _).mono ?_; rintro e w1 ⟨rfl, k1, rfl⟩)
  exact bodyPost_ret (v := .tuple #[.agg #[.int .i64 0, .int .i64 0, .int .i64 0, .int .i64 0], .bool false]) (by simp [results, Try.results25, go_sem]) rfl ⟨rfl, ((((below_drewN ((Below.refl _ _).alloc (Nat.le_refl _) _) _).setCell (Nat.le_refl _) _).setCell (Nat.le_refl _) _).setCell (Nat.le_refl _) _).setCell (Nat.le_refl _) _⟩
set_option maxHeartbeats 2000000 in
theorem rparts_yes (x : Nat) (hx : x < 4294967296) (hz : x / 16384 % 64 = 0) (w : World) :
    Calls Try.prog 25 #[.int .u32 x] w fun e w' => e = .returned (.tuple #[.agg #[.int .i64 (pReg x : Nat), .int .i64 (pSort x : Nat), .int .i64 (pMod x : Nat), .int .i64 (pBack x : Nat)], .bool true]) ∧ Below w.heap.size w w' := by
  have G0 := Lib.hid (fun wx => rget_as x 14 6 0 14 6 rfl rfl hx (by decide) (by decide) hz wx)
  obtain ⟨s, hs⟩ : ∃ s, s = pSort x := ⟨_, rfl⟩
  obtain ⟨m, hm⟩ : ∃ m, m = pMod x := ⟨_, rfl⟩
  obtain ⟨b, hb⟩ : ∃ b, b = pBack x := ⟨_, rfl⟩
  obtain ⟨r, hr⟩ : ∃ r, r = pReg x := ⟨_, rfl⟩
  have G1 := Lib.hid (fun wx => rget_as x 26 2 s 26 2 rfl rfl hx (by decide) (by decide) (by rw [hs]; rfl) wx)
  have G2 := Lib.hid (fun wx => rget_as x 20 6 m 20 6 rfl rfl hx (by decide) (by decide) (by rw [hm]; rfl) wx)
  have G3 := Lib.hid (fun wx => rget_as x 0 14 b 0 14 rfl rfl hx (by decide) (by decide) (by rw [hb]; simp [pBack]) wx)
  have G4 := Lib.hid (fun wx => rget_as x 28 4 r 28 4 rfl rfl hx (by decide) (by decide) (by rw [hr]; unfold pReg; omega) wx)
  have bs : (s : Int) < 4 := by rw [hs]; unfold pSort; omega
  have bm : (m : Int) < 64 := by rw [hm]; unfold pMod; omega
  have bb : (b : Int) < 16384 := by rw [hb]; unfold pBack; omega
  have br : (r : Int) < 16 := by rw [hr]; unfold pReg; omega
  rw [← hs, ← hm, ← hb, ← hr]
  clear hx hz hs hm hb hr
  go_enter Try.func25, Try.ntmps25
  go_wp2_with (go_at_call 45; (first | (with_reducible refine (G0.out _).mono ?_) | (with_reducible refine (G1.out _).mono ?_) | (with_reducible refine (G2.out _).mono ?_) | (with_reducible refine (G3.out _).mono ?_) | (with_reducible refine (G4.out _).mono ?_)); rintro e w1 ⟨rfl, k1, rfl⟩)
  exact bodyPost_ret (v := .tuple #[.agg #[.int .i64 (r : Nat), .int .i64 (s : Nat), .int .i64 (m : Nat), .int .i64 (b : Nat)], .bool true]) (by simp [results, Try.results25, go_sem]) rfl ⟨rfl, ((((below_drewN ((Below.refl _ _).alloc (Nat.le_refl _) _) _).setCell (Nat.le_refl _) _).setCell (Nat.le_refl _) _).setCell (Nat.le_refl _) _).setCell (Nat.le_refl _) _⟩
theorem rparts_calls (x : Nat) (hx : x < 4294967296) (w : World) : Calls Try.prog 25 #[.int .u32 x] w (RPartsV w x) := by
  by_cases h : x / 16384 % 64 = 0
  · have e : pOk x = true := by simp [pOk, h]
    refine Calls.mono (rparts_yes x hx h w) ?_
    rintro e' w' ⟨rfl, hw⟩
    exact ⟨by rw [e]; rfl, hw⟩
  · have e : pOk x = false := by simp [pOk, h]
    refine Calls.mono (rparts_no x _ hx rfl (by simp; omega) w) ?_
    rintro e' w' ⟨rfl, hw⟩
    exact ⟨by rw [e]; rfl, hw⟩
theorem rlink_no (a b c d : Int) (hn : ¬ ((0 ≤ a ∧ a < 16) ∧ (0 ≤ b ∧ b < 4) ∧ (0 ≤ c ∧ c < 64) ∧ (0 ≤ d ∧ d < 16384))) (w : World) :
    Calls Try.prog 23 #[.agg #[.int .i64 a, .int .i64 b, .int .i64 c, .int .i64 d]] w fun e w' => e = .returned (.tuple #[.int .u32 0, .int .i64 220]) ∧ Below w.heap.size w w' := by
  by_cases t0 : a < 0
  · have d0 : decide (a < 0) = true := decide_eq_true t0
    clear hn
    go_enter Try.func23, Try.ntmps23
    go_wp2
    go_ret2
    exact ⟨rfl, (Below.refl _ _).alloc (Nat.le_refl _) _⟩
  · have d0 : decide (a < 0) = false := decide_eq_false t0
    by_cases t1 : 15 < a
    · have d1 : decide (15 < a) = true := decide_eq_true t1
      clear hn
      go_enter Try.func23, Try.ntmps23
      go_wp2
      go_ret2
      exact ⟨rfl, (Below.refl _ _).alloc (Nat.le_refl _) _⟩
    · have d1 : decide (15 < a) = false := decide_eq_false t1
      by_cases t2 : b < 0
      · have d2 : decide (b < 0) = true := decide_eq_true t2
        clear hn
        go_enter Try.func23, Try.ntmps23
        go_wp2
        go_ret2
        exact ⟨rfl, (Below.refl _ _).alloc (Nat.le_refl _) _⟩
      · have d2 : decide (b < 0) = false := decide_eq_false t2
        by_cases t3 : 3 < b
        · have d3 : decide (3 < b) = true := decide_eq_true t3
          clear hn
          go_enter Try.func23, Try.ntmps23
          go_wp2
          go_ret2
          exact ⟨rfl, (Below.refl _ _).alloc (Nat.le_refl _) _⟩
        · have d3 : decide (3 < b) = false := decide_eq_false t3
          by_cases t4 : c < 0
          · have d4 : decide (c < 0) = true := decide_eq_true t4
            clear hn
            go_enter Try.func23, Try.ntmps23
            go_wp2
            go_ret2
            exact ⟨rfl, (Below.refl _ _).alloc (Nat.le_refl _) _⟩
          · have d4 : decide (c < 0) = false := decide_eq_false t4
            by_cases t5 : 63 < c
            · have d5 : decide (63 < c) = true := decide_eq_true t5
              clear hn
              go_enter Try.func23, Try.ntmps23
              go_wp2
              go_ret2
              exact ⟨rfl, (Below.refl _ _).alloc (Nat.le_refl _) _⟩
            · have d5 : decide (63 < c) = false := decide_eq_false t5
              by_cases t6 : d < 0
              · have d6 : decide (d < 0) = true := decide_eq_true t6
                clear hn
                go_enter Try.func23, Try.ntmps23
                go_wp2
                go_ret2
                exact ⟨rfl, (Below.refl _ _).alloc (Nat.le_refl _) _⟩
              · have d6 : decide (d < 0) = false := decide_eq_false t6
                by_cases t7 : 16383 < d
                · have d7 : decide (16383 < d) = true := decide_eq_true t7
                  clear hn
                  go_enter Try.func23, Try.ntmps23
                  go_wp2
                  go_ret2
                  exact ⟨rfl, (Below.refl _ _).alloc (Nat.le_refl _) _⟩
                · have d7 : decide (16383 < d) = false := decide_eq_false t7
                  exact absurd (by omega) hn
set_option maxHeartbeats 2000000 in
theorem rlink_yes (a b c d : Nat) (a1 : (a : Int) < 16) (b1 : (b : Int) < 4) (c1 : (c : Int) < 64) (d1 : (d : Int) < 16384) (w : World) :
    Calls Try.prog 23 #[.agg #[.int .i64 a, .int .i64 b, .int .i64 c, .int .i64 d]] w fun e w' => e = .returned (.tuple #[.int .u32 (linkZ a b c d), .int .i64 0]) ∧ Below w.heap.size w w' := by
  obtain ⟨x1, h1⟩ : ∃ x1, putN 0 28 4 a = x1 := ⟨_, rfl⟩
  obtain ⟨x2, h2⟩ : ∃ x2, putN x1 26 2 b = x2 := ⟨_, rfl⟩
  obtain ⟨x3, h3⟩ : ∃ x3, putN x2 20 6 c = x3 := ⟨_, rfl⟩
  obtain ⟨x4, h4⟩ : ∃ x4, putN x3 0 14 d = x4 := ⟨_, rfl⟩
  have e1 : x1 = a * 268435456 := by rw [← h1]; simp [putN]; omega
  have e2 : x2 = a * 268435456 + b * 67108864 := by rw [← h2, e1]; simp [putN]; omega
  have e3 : x3 = a * 268435456 + b * 67108864 + c * 1048576 := by rw [← h3, e2]; simp [putN]; omega
  have e4 : x4 = a * 268435456 + b * 67108864 + c * 1048576 + d := by rw [← h4, e3]; simp [putN]; omega
  have P1 := Lib.hid (fun wx => rput_as 0 28 4 a x1 28 4 0 rfl rfl rfl (by decide) (by omega) (by decide) (by decide) h1 wx)
  have P2 := Lib.hid (fun wx => rput_as x1 26 2 b x2 26 2 x1 rfl rfl rfl (by omega) (by omega) (by decide) (by decide) h2 wx)
  have P3 := Lib.hid (fun wx => rput_as x2 20 6 c x3 20 6 x2 rfl rfl rfl (by omega) (by omega) (by decide) (by decide) h3 wx)
  have P4 := Lib.hid (fun wx => rput_as x3 0 14 d x4 0 14 x3 rfl rfl rfl (by omega) (by omega) (by decide) (by decide) h4 wx)
  have L := Lib.hid (show (x4 : Int) = linkZ a b c d by rw [e4]; unfold linkZ; omega)
  have ua : IntKind.u32.wrap (a : Int) = (a : Int) := by rw [IntKind.wrap_u32]; omega
  have ub : IntKind.u32.wrap (b : Int) = (b : Int) := by rw [IntKind.wrap_u32]; omega
  have uc : IntKind.u32.wrap (c : Int) = (c : Int) := by rw [IntKind.wrap_u32]; omega
  have ud : IntKind.u32.wrap (d : Int) = (d : Int) := by rw [IntKind.wrap_u32]; omega
  have na : decide ((a : Int) < 0) = false := decide_eq_false (by omega)
  have ma : decide ((15 : Int) < (a : Int)) = false := decide_eq_false (by omega)
  have nb : decide ((b : Int) < 0) = false := decide_eq_false (by omega)
  have mb : decide ((3 : Int) < (b : Int)) = false := decide_eq_false (by omega)
  have nc : decide ((c : Int) < 0) = false := decide_eq_false (by omega)
  have mc : decide ((63 : Int) < (c : Int)) = false := decide_eq_false (by omega)
  have nd : decide ((d : Int) < 0) = false := decide_eq_false (by omega)
  have md : decide ((16383 : Int) < (d : Int)) = false := decide_eq_false (by omega)
  clear h1 h2 h3 h4 e1 e2 e3 e4
  go_enter Try.func23, Try.ntmps23
  go_wp2_with (go_at_call 34; (first | (with_reducible refine (P1.out _).mono ?_) | (with_reducible refine (P2.out _).mono ?_) | (with_reducible refine (P3.out _).mono ?_) | (with_reducible refine (P4.out _).mono ?_)); rintro e w1 ⟨rfl, k1, rfl⟩)
  go_ret2
  exact ⟨ret_li L.out, below_drewN ((Below.refl _ _).alloc (Nat.le_refl _) _) _⟩
theorem rlink_calls (a b c d : Int) (w : World) : Calls Try.prog 23 #[.agg #[.int .i64 a, .int .i64 b, .int .i64 c, .int .i64 d]] w (LinkV w a b c d) := by
  by_cases h : (0 ≤ a ∧ a < 16) ∧ (0 ≤ b ∧ b < 4) ∧ (0 ≤ c ∧ c < 64) ∧ (0 ≤ d ∧ d < 16384)
  · have e : linkB a b c d = true := decide_eq_true h
    obtain ⟨⟨a0, a1⟩, ⟨b0, b1⟩, ⟨c0, c1⟩, ⟨d0, d1⟩⟩ := h
    obtain ⟨a, rfl⟩ := Int.eq_ofNat_of_zero_le a0
    obtain ⟨b, rfl⟩ := Int.eq_ofNat_of_zero_le b0
    obtain ⟨c, rfl⟩ := Int.eq_ofNat_of_zero_le c0
    obtain ⟨d, rfl⟩ := Int.eq_ofNat_of_zero_le d0
    refine Calls.mono (rlink_yes a b c d a1 b1 c1 d1 w) ?_
    rintro e' w' ⟨rfl, hw⟩
    exact ⟨by rw [e]; rfl, hw⟩
  · have e : linkB a b c d = false := decide_eq_false h
    refine Calls.mono (rlink_no a b c d h w) ?_
    rintro e' w' ⟨rfl, hw⟩
    exact ⟨by rw [e]; rfl, hw⟩
end Go.Proofs.Ytbhdejoljappfaa
