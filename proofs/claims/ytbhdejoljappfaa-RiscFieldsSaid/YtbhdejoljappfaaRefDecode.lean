/- The reference's Decode and Same. -/
import Derived.Test.YtbhdejoljappfaaRefRisc
namespace Go.Proofs.Ytbhdejoljappfaa
open Go.RowKit
theorem renc_no (x : Ins) (hg : goodB x = false) (w : World) :
    Calls Try.prog 15 #[x.val] w fun e w' => e = .returned (.tuple #[.int .u32 0, .int .i64 20]) ∧ Below w.heap.size w w' := by
  obtain ⟨form, u, v, a, b, c, op, im⟩ := x
  have G := Lib.hid (fun w => rgood_calls ⟨form, u, v, a, b, c, op, im⟩ w)
  rw [hg] at G
  clear hg
  unfold Ins.val
  go_enter Try.func15, Try.ntmps15
  go_wp2_with (go_at_call 17; refine (G.out _).mono ?_; rintro e w1 ⟨rfl, hb1⟩; have HB := Lib.hid hb1; clear hb1)
  go_ret2
  exact ⟨rfl, below_box HB.out 0⟩
theorem renc_yes (x : Ins) (hg : goodB x = true) (w : World) :
    Calls Try.prog 15 #[x.val] w fun e w' => e = .returned (.tuple #[.int .u32 (encZ x), .int .i64 0]) ∧ Below w.heap.size w w' := by
  obtain ⟨form, u, v, a, b, c, op, im⟩ := x
  have hr := (of_decide_eq_true hg).2.2.2.2
  simp only at hr
  rcases hr with ⟨rfl, _⟩ | ⟨rfl, _⟩ | ⟨rfl, _⟩ | ⟨rfl, _⟩
  · exact renc_reg u v a b c op im w hg
  · exact renc_im u v a b c op im w hg
  · exact renc_mem u v a b c op im w hg
  · cases u
    · exact renc_back v a b c op im w hg
    · exact renc_jump v a b c op im w hg
theorem part_calls (x lo n : Nat) (hx : (x : Int) < 4294967296) (h1 : 1 ≤ n) (h2 : lo + n ≤ 32) (w : World) :
    Calls Try.prog 43 #[.int .u32 x, .int .i64 lo, .int .i64 n] w fun e w' => e = .returned (.int .i64 ((x / 2 ^ lo % 2 ^ n : Nat) : Int)) ∧ ∃ k, w' = w.drewN k := by
  have G := Lib.hid (fun w => rget_yes x lo n hx h1 h2 w)
  obtain ⟨y, hy⟩ : ∃ y : Nat, y = x / 2 ^ lo % 2 ^ n := ⟨_, rfl⟩
  have hb : (y : Int) < 4294967296 := by
    have := Nat.mod_le (x / 2 ^ lo) (2 ^ n)
    have := Nat.div_le_self x (2 ^ lo)
    omega
  rw [← hy] at G ⊢
  clear hy
  go_enter Try.func43, Try.ntmps43
  go_wp2_with (go_at_call 45; (with_reducible refine (G.out _).mono ?_); rintro e w' ⟨rfl, nd, rfl⟩)
  go_ret
  exact ⟨rfl, nd, rfl⟩
set_option maxRecDepth 100000 in
set_option maxHeartbeats 1000000 in
theorem rdec_reg_yes (x : Nat) (u v : Bool) (pu pv a b c op : Int) (w : World) (hu : (pu == 1) = u) (hv : (pv == 1) = v)
    (g30 : ∀ w : World, Calls Try.prog 43 #[.int .u32 x, .int .i64 30, .int .i64 2] w fun e w' => e = .returned (.int .i64 0) ∧ ∃ k, w' = w.drewN k)
    (g29 : ∀ w : World, Calls Try.prog 43 #[.int .u32 x, .int .i64 29, .int .i64 1] w fun e w' => e = .returned (.int .i64 pu) ∧ ∃ k, w' = w.drewN k)
    (g28 : ∀ w : World, Calls Try.prog 43 #[.int .u32 x, .int .i64 28, .int .i64 1] w fun e w' => e = .returned (.int .i64 pv) ∧ ∃ k, w' = w.drewN k)
    (g24 : ∀ w : World, Calls Try.prog 43 #[.int .u32 x, .int .i64 24, .int .i64 4] w fun e w' => e = .returned (.int .i64 a) ∧ ∃ k, w' = w.drewN k)
    (g20 : ∀ w : World, Calls Try.prog 43 #[.int .u32 x, .int .i64 20, .int .i64 4] w fun e w' => e = .returned (.int .i64 b) ∧ ∃ k, w' = w.drewN k)
    (g16 : ∀ w : World, Calls Try.prog 43 #[.int .u32 x, .int .i64 16, .int .i64 4] w fun e w' => e = .returned (.int .i64 op) ∧ ∃ k, w' = w.drewN k)
    (g0 : ∀ w : World, Calls Try.prog 43 #[.int .u32 x, .int .i64 0, .int .i64 4] w fun e w' => e = .returned (.int .i64 c) ∧ ∃ k, w' = w.drewN k)
    (ge : ∀ w : World, Calls Try.prog 15 #[.agg #[.int .i64 0, .bool u, .bool v, .int .i64 a, .int .i64 b, .int .i64 c, .int .i64 op, .int .i64 0]] w fun e w' => e = .returned (.tuple #[.int .u32 x, .int .i64 0]) ∧ Below w.heap.size w w') :
    Calls Try.prog 20 #[.int .u32 x] w fun e w' => e = .returned (.tuple #[.agg #[.int .i64 0, .bool u, .bool v, .int .i64 a, .int .i64 b, .int .i64 c, .int .i64 op, .int .i64 0], .int .i64 0]) ∧ Below w.heap.size w w' := by
  have Gg30 := Lib.hid g30
  have Gg29 := Lib.hid g29
  have Gg28 := Lib.hid g28
  have Gg24 := Lib.hid g24
  have Gg20 := Lib.hid g20
  have Gg16 := Lib.hid g16
  have Gg0 := Lib.hid g0
  have GE := Lib.hid ge
  clear ge g30 g29 g28 g24 g20 g16 g0
  go_enter Try.func20, Try.ntmps20
  go_wp2_with (first | (go_at_call 43; ((first | (with_reducible refine (Gg30.out _).mono ?_) | (with_reducible refine (Gg29.out _).mono ?_) | (with_reducible refine (Gg28.out _).mono ?_) | (with_reducible refine (Gg24.out _).mono ?_) | (with_reducible refine (Gg20.out _).mono ?_) | (with_reducible refine (Gg16.out _).mono ?_) | (with_reducible refine (Gg0.out _).mono ?_)); rintro e w' ⟨rfl, nd, rfl⟩)) | (go_at_call 15; (with_reducible refine (GE.out _).mono ?_); rintro e w1 ⟨rfl, hb1⟩; obtain ⟨hcell, hfz⟩ := bcell hb1; have hz : w.heap.size + 1 < w1.heap.size := by { have := hb1.size; simp at this; omega }; have HB := Lib.hid hb1; clear hb1 hu hv))
  have z0 : (w1.cell? ⟨w.heap.size, 0, none⟩).isSome = true := by rw [hcell _ _ (by simp <;> omega)]; simp [go_sem]
  have z1 : (w1.cell? ⟨w.heap.size, 1, none⟩).isSome = true := by rw [hcell _ _ (by simp <;> omega)]; simp [go_sem]
  have z2 : (w1.cell? ⟨w.heap.size, 2, none⟩).isSome = true := by rw [hcell _ _ (by simp <;> omega)]; simp [go_sem]
  have z3 : (w1.cell? ⟨w.heap.size, 3, none⟩).isSome = true := by rw [hcell _ _ (by simp <;> omega)]; simp [go_sem]
  have z4 : (w1.cell? ⟨w.heap.size, 4, none⟩).isSome = true := by rw [hcell _ _ (by simp <;> omega)]; simp [go_sem]
  have z5 : (w1.cell? ⟨w.heap.size, 5, none⟩).isSome = true := by rw [hcell _ _ (by simp <;> omega)]; simp [go_sem]
  have z6 : (w1.cell? ⟨w.heap.size, 6, none⟩).isSome = true := by rw [hcell _ _ (by simp <;> omega)]; simp [go_sem]
  have z7 : (w1.cell? ⟨w.heap.size, 7, none⟩).isSome = true := by rw [hcell _ _ (by simp <;> omega)]; simp [go_sem]
  clear hcell hfz
  refine bodyPost_ret (v := .tuple #[.agg #[.int .i64 0, .bool u, .bool v, .int .i64 a, .int .i64 b, .int .i64 c, .int .i64 op, .int .i64 0], .int .i64 0]) (by simp [results, Try.results20, go_sem, z0, z1, z2, z3, z4, z5, z6, z7]) rfl ⟨rfl, ?_⟩
  repeat (refine Below.setCell ?_ (by simp) _)
  refine Below.trans ?_ (HB.out.mono (by simp <;> omega))
  repeat (first | exact Below.refl _ _ | refine Below.setCell ?_ (by simp) _ | apply below_drewN | refine Below.alloc ?_ (by simp) _)
set_option maxRecDepth 100000 in
set_option maxHeartbeats 1000000 in
theorem rdec_reg_not (x : Nat) (u v : Bool) (pu pv a b c op : Int) (r : Int) (w : World) (hu : (pu == 1) = u) (hv : (pv == 1) = v)
    (g30 : ∀ w : World, Calls Try.prog 43 #[.int .u32 x, .int .i64 30, .int .i64 2] w fun e w' => e = .returned (.int .i64 0) ∧ ∃ k, w' = w.drewN k)
    (g29 : ∀ w : World, Calls Try.prog 43 #[.int .u32 x, .int .i64 29, .int .i64 1] w fun e w' => e = .returned (.int .i64 pu) ∧ ∃ k, w' = w.drewN k)
    (g28 : ∀ w : World, Calls Try.prog 43 #[.int .u32 x, .int .i64 28, .int .i64 1] w fun e w' => e = .returned (.int .i64 pv) ∧ ∃ k, w' = w.drewN k)
    (g24 : ∀ w : World, Calls Try.prog 43 #[.int .u32 x, .int .i64 24, .int .i64 4] w fun e w' => e = .returned (.int .i64 a) ∧ ∃ k, w' = w.drewN k)
    (g20 : ∀ w : World, Calls Try.prog 43 #[.int .u32 x, .int .i64 20, .int .i64 4] w fun e w' => e = .returned (.int .i64 b) ∧ ∃ k, w' = w.drewN k)
    (g16 : ∀ w : World, Calls Try.prog 43 #[.int .u32 x, .int .i64 16, .int .i64 4] w fun e w' => e = .returned (.int .i64 op) ∧ ∃ k, w' = w.drewN k)
    (g0 : ∀ w : World, Calls Try.prog 43 #[.int .u32 x, .int .i64 0, .int .i64 4] w fun e w' => e = .returned (.int .i64 c) ∧ ∃ k, w' = w.drewN k)
    (ge : ∀ w : World, Calls Try.prog 15 #[.agg #[.int .i64 0, .bool u, .bool v, .int .i64 a, .int .i64 b, .int .i64 c, .int .i64 op, .int .i64 0]] w fun e w' => e = .returned (.tuple #[.int .u32 r, .int .i64 20]) ∧ Below w.heap.size w w') :
    Calls Try.prog 20 #[.int .u32 x] w fun e w' => e = .returned (.tuple #[.agg #[.int .i64 0, .bool false, .bool false, .int .i64 0, .int .i64 0, .int .i64 0, .int .i64 0, .int .i64 0], .int .i64 20]) ∧ Below w.heap.size w w' := by
  have Gg30 := Lib.hid g30
  have Gg29 := Lib.hid g29
  have Gg28 := Lib.hid g28
  have Gg24 := Lib.hid g24
  have Gg20 := Lib.hid g20
  have Gg16 := Lib.hid g16
  have Gg0 := Lib.hid g0
  have GE := Lib.hid ge
  clear ge g30 g29 g28 g24 g20 g16 g0
  go_enter Try.func20, Try.ntmps20
  go_wp2_with (first | (go_at_call 43; ((first | (with_reducible refine (Gg30.out _).mono ?_) | (with_reducible refine (Gg29.out _).mono ?_) | (with_reducible refine (Gg28.out _).mono ?_) | (with_reducible refine (Gg24.out _).mono ?_) | (with_reducible refine (Gg20.out _).mono ?_) | (with_reducible refine (Gg16.out _).mono ?_) | (with_reducible refine (Gg0.out _).mono ?_)); rintro e w' ⟨rfl, nd, rfl⟩)) | (go_at_call 15; (with_reducible refine (GE.out _).mono ?_); rintro e w1 ⟨rfl, hb1⟩; obtain ⟨hcell, hfz⟩ := bcell hb1; have hz : w.heap.size + 1 < w1.heap.size := by { have := hb1.size; simp at this; omega }; have HB := Lib.hid hb1; clear hb1 hu hv))
  have z0 : (w1.cell? ⟨w.heap.size, 0, none⟩).isSome = true := by rw [hcell _ _ (by simp <;> omega)]; simp [go_sem]
  have z1 : (w1.cell? ⟨w.heap.size, 1, none⟩).isSome = true := by rw [hcell _ _ (by simp <;> omega)]; simp [go_sem]
  have z2 : (w1.cell? ⟨w.heap.size, 2, none⟩).isSome = true := by rw [hcell _ _ (by simp <;> omega)]; simp [go_sem]
  have z3 : (w1.cell? ⟨w.heap.size, 3, none⟩).isSome = true := by rw [hcell _ _ (by simp <;> omega)]; simp [go_sem]
  have z4 : (w1.cell? ⟨w.heap.size, 4, none⟩).isSome = true := by rw [hcell _ _ (by simp <;> omega)]; simp [go_sem]
  have z5 : (w1.cell? ⟨w.heap.size, 5, none⟩).isSome = true := by rw [hcell _ _ (by simp <;> omega)]; simp [go_sem]
  have z6 : (w1.cell? ⟨w.heap.size, 6, none⟩).isSome = true := by rw [hcell _ _ (by simp <;> omega)]; simp [go_sem]
  have z7 : (w1.cell? ⟨w.heap.size, 7, none⟩).isSome = true := by rw [hcell _ _ (by simp <;> omega)]; simp [go_sem]
  clear hcell hfz
  refine bodyPost_ret (v := .tuple #[.agg #[.int .i64 0, .bool false, .bool false, .int .i64 0, .int .i64 0, .int .i64 0, .int .i64 0, .int .i64 0], .int .i64 20]) (by simp [results, Try.results20, go_sem, z0, z1, z2, z3, z4, z5, z6, z7]) rfl ⟨rfl, ?_⟩
  repeat (refine Below.setCell ?_ (by simp) _)
  refine Below.trans ?_ (HB.out.mono (by simp <;> omega))
  repeat (first | exact Below.refl _ _ | refine Below.setCell ?_ (by simp) _ | apply below_drewN | refine Below.alloc ?_ (by simp) _)
set_option maxRecDepth 100000 in
set_option maxHeartbeats 1000000 in
theorem rdec_reg_other (x : Nat) (u v : Bool) (pu pv a b c op : Int) (r : Int) (w : World) (hu : (pu == 1) = u) (hv : (pv == 1) = v)
    (g30 : ∀ w : World, Calls Try.prog 43 #[.int .u32 x, .int .i64 30, .int .i64 2] w fun e w' => e = .returned (.int .i64 0) ∧ ∃ k, w' = w.drewN k)
    (g29 : ∀ w : World, Calls Try.prog 43 #[.int .u32 x, .int .i64 29, .int .i64 1] w fun e w' => e = .returned (.int .i64 pu) ∧ ∃ k, w' = w.drewN k)
    (g28 : ∀ w : World, Calls Try.prog 43 #[.int .u32 x, .int .i64 28, .int .i64 1] w fun e w' => e = .returned (.int .i64 pv) ∧ ∃ k, w' = w.drewN k)
    (g24 : ∀ w : World, Calls Try.prog 43 #[.int .u32 x, .int .i64 24, .int .i64 4] w fun e w' => e = .returned (.int .i64 a) ∧ ∃ k, w' = w.drewN k)
    (g20 : ∀ w : World, Calls Try.prog 43 #[.int .u32 x, .int .i64 20, .int .i64 4] w fun e w' => e = .returned (.int .i64 b) ∧ ∃ k, w' = w.drewN k)
    (g16 : ∀ w : World, Calls Try.prog 43 #[.int .u32 x, .int .i64 16, .int .i64 4] w fun e w' => e = .returned (.int .i64 op) ∧ ∃ k, w' = w.drewN k)
    (g0 : ∀ w : World, Calls Try.prog 43 #[.int .u32 x, .int .i64 0, .int .i64 4] w fun e w' => e = .returned (.int .i64 c) ∧ ∃ k, w' = w.drewN k) (hr : (r == (x : Int)) = false)
    (ge : ∀ w : World, Calls Try.prog 15 #[.agg #[.int .i64 0, .bool u, .bool v, .int .i64 a, .int .i64 b, .int .i64 c, .int .i64 op, .int .i64 0]] w fun e w' => e = .returned (.tuple #[.int .u32 r, .int .i64 0]) ∧ Below w.heap.size w w') :
    Calls Try.prog 20 #[.int .u32 x] w fun e w' => e = .returned (.tuple #[.agg #[.int .i64 0, .bool false, .bool false, .int .i64 0, .int .i64 0, .int .i64 0, .int .i64 0, .int .i64 0], .int .i64 20]) ∧ Below w.heap.size w w' := by
  have Gg30 := Lib.hid g30
  have Gg29 := Lib.hid g29
  have Gg28 := Lib.hid g28
  have Gg24 := Lib.hid g24
  have Gg20 := Lib.hid g20
  have Gg16 := Lib.hid g16
  have Gg0 := Lib.hid g0
  have GE := Lib.hid ge
  have HR := Lib.hid hr
  clear ge hr g30 g29 g28 g24 g20 g16 g0
  go_enter Try.func20, Try.ntmps20
  go_wp2_with (first | (go_at_call 43; ((first | (with_reducible refine (Gg30.out _).mono ?_) | (with_reducible refine (Gg29.out _).mono ?_) | (with_reducible refine (Gg28.out _).mono ?_) | (with_reducible refine (Gg24.out _).mono ?_) | (with_reducible refine (Gg20.out _).mono ?_) | (with_reducible refine (Gg16.out _).mono ?_) | (with_reducible refine (Gg0.out _).mono ?_)); rintro e w' ⟨rfl, nd, rfl⟩)) | (go_at_call 15; (with_reducible refine (GE.out _).mono ?_); rintro e w1 ⟨rfl, hb1⟩; obtain ⟨hcell, hfz⟩ := bcell hb1; have hz : w.heap.size + 1 < w1.heap.size := by { have := hb1.size; simp at this; omega }; have HB := Lib.hid hb1; clear hb1 hu hv; have hr2 := HR.out))
  have z0 : (w1.cell? ⟨w.heap.size, 0, none⟩).isSome = true := by rw [hcell _ _ (by simp <;> omega)]; simp [go_sem]
  have z1 : (w1.cell? ⟨w.heap.size, 1, none⟩).isSome = true := by rw [hcell _ _ (by simp <;> omega)]; simp [go_sem]
  have z2 : (w1.cell? ⟨w.heap.size, 2, none⟩).isSome = true := by rw [hcell _ _ (by simp <;> omega)]; simp [go_sem]
  have z3 : (w1.cell? ⟨w.heap.size, 3, none⟩).isSome = true := by rw [hcell _ _ (by simp <;> omega)]; simp [go_sem]
  have z4 : (w1.cell? ⟨w.heap.size, 4, none⟩).isSome = true := by rw [hcell _ _ (by simp <;> omega)]; simp [go_sem]
  have z5 : (w1.cell? ⟨w.heap.size, 5, none⟩).isSome = true := by rw [hcell _ _ (by simp <;> omega)]; simp [go_sem]
  have z6 : (w1.cell? ⟨w.heap.size, 6, none⟩).isSome = true := by rw [hcell _ _ (by simp <;> omega)]; simp [go_sem]
  have z7 : (w1.cell? ⟨w.heap.size, 7, none⟩).isSome = true := by rw [hcell _ _ (by simp <;> omega)]; simp [go_sem]
  clear hcell hfz
  refine bodyPost_ret (v := .tuple #[.agg #[.int .i64 0, .bool false, .bool false, .int .i64 0, .int .i64 0, .int .i64 0, .int .i64 0, .int .i64 0], .int .i64 20]) (by simp [results, Try.results20, go_sem, z0, z1, z2, z3, z4, z5, z6, z7]) rfl ⟨rfl, ?_⟩
  repeat (refine Below.setCell ?_ (by simp) _)
  refine Below.trans ?_ (HB.out.mono (by simp <;> omega))
  repeat (first | exact Below.refl _ _ | refine Below.setCell ?_ (by simp) _ | apply below_drewN | refine Below.alloc ?_ (by simp) _)
set_option maxRecDepth 100000 in
set_option maxHeartbeats 1000000 in
theorem rdec_im_yes (x : Nat) (u v : Bool) (pu pv a b op im : Int) (w : World) (hu : (pu == 1) = u) (hv : (pv == 1) = v)
    (g30 : ∀ w : World, Calls Try.prog 43 #[.int .u32 x, .int .i64 30, .int .i64 2] w fun e w' => e = .returned (.int .i64 1) ∧ ∃ k, w' = w.drewN k)
    (g29 : ∀ w : World, Calls Try.prog 43 #[.int .u32 x, .int .i64 29, .int .i64 1] w fun e w' => e = .returned (.int .i64 pu) ∧ ∃ k, w' = w.drewN k)
    (g28 : ∀ w : World, Calls Try.prog 43 #[.int .u32 x, .int .i64 28, .int .i64 1] w fun e w' => e = .returned (.int .i64 pv) ∧ ∃ k, w' = w.drewN k)
    (g24 : ∀ w : World, Calls Try.prog 43 #[.int .u32 x, .int .i64 24, .int .i64 4] w fun e w' => e = .returned (.int .i64 a) ∧ ∃ k, w' = w.drewN k)
    (g20 : ∀ w : World, Calls Try.prog 43 #[.int .u32 x, .int .i64 20, .int .i64 4] w fun e w' => e = .returned (.int .i64 b) ∧ ∃ k, w' = w.drewN k)
    (g16 : ∀ w : World, Calls Try.prog 43 #[.int .u32 x, .int .i64 16, .int .i64 4] w fun e w' => e = .returned (.int .i64 op) ∧ ∃ k, w' = w.drewN k)
    (g0 : ∀ w : World, Calls Try.prog 43 #[.int .u32 x, .int .i64 0, .int .i64 16] w fun e w' => e = .returned (.int .i64 im) ∧ ∃ k, w' = w.drewN k)
    (ge : ∀ w : World, Calls Try.prog 15 #[.agg #[.int .i64 1, .bool u, .bool v, .int .i64 a, .int .i64 b, .int .i64 0, .int .i64 op, .int .i64 im]] w fun e w' => e = .returned (.tuple #[.int .u32 x, .int .i64 0]) ∧ Below w.heap.size w w') :
    Calls Try.prog 20 #[.int .u32 x] w fun e w' => e = .returned (.tuple #[.agg #[.int .i64 1, .bool u, .bool v, .int .i64 a, .int .i64 b, .int .i64 0, .int .i64 op, .int .i64 im], .int .i64 0]) ∧ Below w.heap.size w w' := by
  have Gg30 := Lib.hid g30
  have Gg29 := Lib.hid g29
  have Gg28 := Lib.hid g28
  have Gg24 := Lib.hid g24
  have Gg20 := Lib.hid g20
  have Gg16 := Lib.hid g16
  have Gg0 := Lib.hid g0
  have GE := Lib.hid ge
  clear ge g30 g29 g28 g24 g20 g16 g0
  go_enter Try.func20, Try.ntmps20
  go_wp2_with (first | (go_at_call 43; ((first | (with_reducible refine (Gg30.out _).mono ?_) | (with_reducible refine (Gg29.out _).mono ?_) | (with_reducible refine (Gg28.out _).mono ?_) | (with_reducible refine (Gg24.out _).mono ?_) | (with_reducible refine (Gg20.out _).mono ?_) | (with_reducible refine (Gg16.out _).mono ?_) | (with_reducible refine (Gg0.out _).mono ?_)); rintro e w' ⟨rfl, nd, rfl⟩)) | (go_at_call 15; (with_reducible refine (GE.out _).mono ?_); rintro e w1 ⟨rfl, hb1⟩; obtain ⟨hcell, hfz⟩ := bcell hb1; have hz : w.heap.size + 1 < w1.heap.size := by { have := hb1.size; simp at this; omega }; have HB := Lib.hid hb1; clear hb1 hu hv))
  have z0 : (w1.cell? ⟨w.heap.size, 0, none⟩).isSome = true := by rw [hcell _ _ (by simp <;> omega)]; simp [go_sem]
  have z1 : (w1.cell? ⟨w.heap.size, 1, none⟩).isSome = true := by rw [hcell _ _ (by simp <;> omega)]; simp [go_sem]
  have z2 : (w1.cell? ⟨w.heap.size, 2, none⟩).isSome = true := by rw [hcell _ _ (by simp <;> omega)]; simp [go_sem]
  have z3 : (w1.cell? ⟨w.heap.size, 3, none⟩).isSome = true := by rw [hcell _ _ (by simp <;> omega)]; simp [go_sem]
  have z4 : (w1.cell? ⟨w.heap.size, 4, none⟩).isSome = true := by rw [hcell _ _ (by simp <;> omega)]; simp [go_sem]
  have z5 : (w1.cell? ⟨w.heap.size, 5, none⟩).isSome = true := by rw [hcell _ _ (by simp <;> omega)]; simp [go_sem]
  have z6 : (w1.cell? ⟨w.heap.size, 6, none⟩).isSome = true := by rw [hcell _ _ (by simp <;> omega)]; simp [go_sem]
  have z7 : (w1.cell? ⟨w.heap.size, 7, none⟩).isSome = true := by rw [hcell _ _ (by simp <;> omega)]; simp [go_sem]
  clear hcell hfz
  refine bodyPost_ret (v := .tuple #[.agg #[.int .i64 1, .bool u, .bool v, .int .i64 a, .int .i64 b, .int .i64 0, .int .i64 op, .int .i64 im], .int .i64 0]) (by simp [results, Try.results20, go_sem, z0, z1, z2, z3, z4, z5, z6, z7]) rfl ⟨rfl, ?_⟩
  repeat (refine Below.setCell ?_ (by simp) _)
  refine Below.trans ?_ (HB.out.mono (by simp <;> omega))
  repeat (first | exact Below.refl _ _ | refine Below.setCell ?_ (by simp) _ | apply below_drewN | refine Below.alloc ?_ (by simp) _)
set_option maxRecDepth 100000 in
set_option maxHeartbeats 1000000 in
theorem rdec_im_not (x : Nat) (u v : Bool) (pu pv a b op im : Int) (r : Int) (w : World) (hu : (pu == 1) = u) (hv : (pv == 1) = v)
    (g30 : ∀ w : World, Calls Try.prog 43 #[.int .u32 x, .int .i64 30, .int .i64 2] w fun e w' => e = .returned (.int .i64 1) ∧ ∃ k, w' = w.drewN k)
    (g29 : ∀ w : World, Calls Try.prog 43 #[.int .u32 x, .int .i64 29, .int .i64 1] w fun e w' => e = .returned (.int .i64 pu) ∧ ∃ k, w' = w.drewN k)
    (g28 : ∀ w : World, Calls Try.prog 43 #[.int .u32 x, .int .i64 28, .int .i64 1] w fun e w' => e = .returned (.int .i64 pv) ∧ ∃ k, w' = w.drewN k)
    (g24 : ∀ w : World, Calls Try.prog 43 #[.int .u32 x, .int .i64 24, .int .i64 4] w fun e w' => e = .returned (.int .i64 a) ∧ ∃ k, w' = w.drewN k)
    (g20 : ∀ w : World, Calls Try.prog 43 #[.int .u32 x, .int .i64 20, .int .i64 4] w fun e w' => e = .returned (.int .i64 b) ∧ ∃ k, w' = w.drewN k)
    (g16 : ∀ w : World, Calls Try.prog 43 #[.int .u32 x, .int .i64 16, .int .i64 4] w fun e w' => e = .returned (.int .i64 op) ∧ ∃ k, w' = w.drewN k)
    (g0 : ∀ w : World, Calls Try.prog 43 #[.int .u32 x, .int .i64 0, .int .i64 16] w fun e w' => e = .returned (.int .i64 im) ∧ ∃ k, w' = w.drewN k)
    (ge : ∀ w : World, Calls Try.prog 15 #[.agg #[.int .i64 1, .bool u, .bool v, .int .i64 a, .int .i64 b, .int .i64 0, .int .i64 op, .int .i64 im]] w fun e w' => e = .returned (.tuple #[.int .u32 r, .int .i64 20]) ∧ Below w.heap.size w w') :
    Calls Try.prog 20 #[.int .u32 x] w fun e w' => e = .returned (.tuple #[.agg #[.int .i64 0, .bool false, .bool false, .int .i64 0, .int .i64 0, .int .i64 0, .int .i64 0, .int .i64 0], .int .i64 20]) ∧ Below w.heap.size w w' := by
  have Gg30 := Lib.hid g30
  have Gg29 := Lib.hid g29
  have Gg28 := Lib.hid g28
  have Gg24 := Lib.hid g24
  have Gg20 := Lib.hid g20
  have Gg16 := Lib.hid g16
  have Gg0 := Lib.hid g0
  have GE := Lib.hid ge
  clear ge g30 g29 g28 g24 g20 g16 g0
  go_enter Try.func20, Try.ntmps20
  go_wp2_with (first | (go_at_call 43; ((first | (with_reducible refine (Gg30.out _).mono ?_) | (with_reducible refine (Gg29.out _).mono ?_) | (with_reducible refine (Gg28.out _).mono ?_) | (with_reducible refine (Gg24.out _).mono ?_) | (with_reducible refine (Gg20.out _).mono ?_) | (with_reducible refine (Gg16.out _).mono ?_) | (with_reducible refine (Gg0.out _).mono ?_)); rintro e w' ⟨rfl, nd, rfl⟩)) | (go_at_call 15; (with_reducible refine (GE.out _).mono ?_); rintro e w1 ⟨rfl, hb1⟩; obtain ⟨hcell, hfz⟩ := bcell hb1; have hz : w.heap.size + 1 < w1.heap.size := by { have := hb1.size; simp at this; omega }; have HB := Lib.hid hb1; clear hb1 hu hv))
  have z0 : (w1.cell? ⟨w.heap.size, 0, none⟩).isSome = true := by rw [hcell _ _ (by simp <;> omega)]; simp [go_sem]
  have z1 : (w1.cell? ⟨w.heap.size, 1, none⟩).isSome = true := by rw [hcell _ _ (by simp <;> omega)]; simp [go_sem]
  have z2 : (w1.cell? ⟨w.heap.size, 2, none⟩).isSome = true := by rw [hcell _ _ (by simp <;> omega)]; simp [go_sem]
  have z3 : (w1.cell? ⟨w.heap.size, 3, none⟩).isSome = true := by rw [hcell _ _ (by simp <;> omega)]; simp [go_sem]
  have z4 : (w1.cell? ⟨w.heap.size, 4, none⟩).isSome = true := by rw [hcell _ _ (by simp <;> omega)]; simp [go_sem]
  have z5 : (w1.cell? ⟨w.heap.size, 5, none⟩).isSome = true := by rw [hcell _ _ (by simp <;> omega)]; simp [go_sem]
  have z6 : (w1.cell? ⟨w.heap.size, 6, none⟩).isSome = true := by rw [hcell _ _ (by simp <;> omega)]; simp [go_sem]
  have z7 : (w1.cell? ⟨w.heap.size, 7, none⟩).isSome = true := by rw [hcell _ _ (by simp <;> omega)]; simp [go_sem]
  clear hcell hfz
  refine bodyPost_ret (v := .tuple #[.agg #[.int .i64 0, .bool false, .bool false, .int .i64 0, .int .i64 0, .int .i64 0, .int .i64 0, .int .i64 0], .int .i64 20]) (by simp [results, Try.results20, go_sem, z0, z1, z2, z3, z4, z5, z6, z7]) rfl ⟨rfl, ?_⟩
  repeat (refine Below.setCell ?_ (by simp) _)
  refine Below.trans ?_ (HB.out.mono (by simp <;> omega))
  repeat (first | exact Below.refl _ _ | refine Below.setCell ?_ (by simp) _ | apply below_drewN | refine Below.alloc ?_ (by simp) _)
set_option maxRecDepth 100000 in
set_option maxHeartbeats 1000000 in
theorem rdec_im_other (x : Nat) (u v : Bool) (pu pv a b op im : Int) (r : Int) (w : World) (hu : (pu == 1) = u) (hv : (pv == 1) = v)
    (g30 : ∀ w : World, Calls Try.prog 43 #[.int .u32 x, .int .i64 30, .int .i64 2] w fun e w' => e = .returned (.int .i64 1) ∧ ∃ k, w' = w.drewN k)
    (g29 : ∀ w : World, Calls Try.prog 43 #[.int .u32 x, .int .i64 29, .int .i64 1] w fun e w' => e = .returned (.int .i64 pu) ∧ ∃ k, w' = w.drewN k)
    (g28 : ∀ w : World, Calls Try.prog 43 #[.int .u32 x, .int .i64 28, .int .i64 1] w fun e w' => e = .returned (.int .i64 pv) ∧ ∃ k, w' = w.drewN k)
    (g24 : ∀ w : World, Calls Try.prog 43 #[.int .u32 x, .int .i64 24, .int .i64 4] w fun e w' => e = .returned (.int .i64 a) ∧ ∃ k, w' = w.drewN k)
    (g20 : ∀ w : World, Calls Try.prog 43 #[.int .u32 x, .int .i64 20, .int .i64 4] w fun e w' => e = .returned (.int .i64 b) ∧ ∃ k, w' = w.drewN k)
    (g16 : ∀ w : World, Calls Try.prog 43 #[.int .u32 x, .int .i64 16, .int .i64 4] w fun e w' => e = .returned (.int .i64 op) ∧ ∃ k, w' = w.drewN k)
    (g0 : ∀ w : World, Calls Try.prog 43 #[.int .u32 x, .int .i64 0, .int .i64 16] w fun e w' => e = .returned (.int .i64 im) ∧ ∃ k, w' = w.drewN k) (hr : (r == (x : Int)) = false)
    (ge : ∀ w : World, Calls Try.prog 15 #[.agg #[.int .i64 1, .bool u, .bool v, .int .i64 a, .int .i64 b, .int .i64 0, .int .i64 op, .int .i64 im]] w fun e w' => e = .returned (.tuple #[.int .u32 r, .int .i64 0]) ∧ Below w.heap.size w w') :
    Calls Try.prog 20 #[.int .u32 x] w fun e w' => e = .returned (.tuple #[.agg #[.int .i64 0, .bool false, .bool false, .int .i64 0, .int .i64 0, .int .i64 0, .int .i64 0, .int .i64 0], .int .i64 20]) ∧ Below w.heap.size w w' := by
  have Gg30 := Lib.hid g30
  have Gg29 := Lib.hid g29
  have Gg28 := Lib.hid g28
  have Gg24 := Lib.hid g24
  have Gg20 := Lib.hid g20
  have Gg16 := Lib.hid g16
  have Gg0 := Lib.hid g0
  have GE := Lib.hid ge
  have HR := Lib.hid hr
  clear ge hr g30 g29 g28 g24 g20 g16 g0
  go_enter Try.func20, Try.ntmps20
  go_wp2_with (first | (go_at_call 43; ((first | (with_reducible refine (Gg30.out _).mono ?_) | (with_reducible refine (Gg29.out _).mono ?_) | (with_reducible refine (Gg28.out _).mono ?_) | (with_reducible refine (Gg24.out _).mono ?_) | (with_reducible refine (Gg20.out _).mono ?_) | (with_reducible refine (Gg16.out _).mono ?_) | (with_reducible refine (Gg0.out _).mono ?_)); rintro e w' ⟨rfl, nd, rfl⟩)) | (go_at_call 15; (with_reducible refine (GE.out _).mono ?_); rintro e w1 ⟨rfl, hb1⟩; obtain ⟨hcell, hfz⟩ := bcell hb1; have hz : w.heap.size + 1 < w1.heap.size := by { have := hb1.size; simp at this; omega }; have HB := Lib.hid hb1; clear hb1 hu hv; have hr2 := HR.out))
  have z0 : (w1.cell? ⟨w.heap.size, 0, none⟩).isSome = true := by rw [hcell _ _ (by simp <;> omega)]; simp [go_sem]
  have z1 : (w1.cell? ⟨w.heap.size, 1, none⟩).isSome = true := by rw [hcell _ _ (by simp <;> omega)]; simp [go_sem]
  have z2 : (w1.cell? ⟨w.heap.size, 2, none⟩).isSome = true := by rw [hcell _ _ (by simp <;> omega)]; simp [go_sem]
  have z3 : (w1.cell? ⟨w.heap.size, 3, none⟩).isSome = true := by rw [hcell _ _ (by simp <;> omega)]; simp [go_sem]
  have z4 : (w1.cell? ⟨w.heap.size, 4, none⟩).isSome = true := by rw [hcell _ _ (by simp <;> omega)]; simp [go_sem]
  have z5 : (w1.cell? ⟨w.heap.size, 5, none⟩).isSome = true := by rw [hcell _ _ (by simp <;> omega)]; simp [go_sem]
  have z6 : (w1.cell? ⟨w.heap.size, 6, none⟩).isSome = true := by rw [hcell _ _ (by simp <;> omega)]; simp [go_sem]
  have z7 : (w1.cell? ⟨w.heap.size, 7, none⟩).isSome = true := by rw [hcell _ _ (by simp <;> omega)]; simp [go_sem]
  clear hcell hfz
  refine bodyPost_ret (v := .tuple #[.agg #[.int .i64 0, .bool false, .bool false, .int .i64 0, .int .i64 0, .int .i64 0, .int .i64 0, .int .i64 0], .int .i64 20]) (by simp [results, Try.results20, go_sem, z0, z1, z2, z3, z4, z5, z6, z7]) rfl ⟨rfl, ?_⟩
  repeat (refine Below.setCell ?_ (by simp) _)
  refine Below.trans ?_ (HB.out.mono (by simp <;> omega))
  repeat (first | exact Below.refl _ _ | refine Below.setCell ?_ (by simp) _ | apply below_drewN | refine Below.alloc ?_ (by simp) _)
set_option maxRecDepth 100000 in
set_option maxHeartbeats 1000000 in
theorem rdec_mem_yes (x : Nat) (u v : Bool) (pu pv a b y im : Int) (w : World) (hu : (pu == 1) = u) (hv : (pv == 1) = v)
    (g30 : ∀ w : World, Calls Try.prog 43 #[.int .u32 x, .int .i64 30, .int .i64 2] w fun e w' => e = .returned (.int .i64 2) ∧ ∃ k, w' = w.drewN k)
    (g29 : ∀ w : World, Calls Try.prog 43 #[.int .u32 x, .int .i64 29, .int .i64 1] w fun e w' => e = .returned (.int .i64 pu) ∧ ∃ k, w' = w.drewN k)
    (g28 : ∀ w : World, Calls Try.prog 43 #[.int .u32 x, .int .i64 28, .int .i64 1] w fun e w' => e = .returned (.int .i64 pv) ∧ ∃ k, w' = w.drewN k)
    (g24 : ∀ w : World, Calls Try.prog 43 #[.int .u32 x, .int .i64 24, .int .i64 4] w fun e w' => e = .returned (.int .i64 a) ∧ ∃ k, w' = w.drewN k)
    (g20 : ∀ w : World, Calls Try.prog 43 #[.int .u32 x, .int .i64 20, .int .i64 4] w fun e w' => e = .returned (.int .i64 b) ∧ ∃ k, w' = w.drewN k)
    (gl : ∀ w : World, Calls Try.prog 45 #[.int .u32 x, .int .i64 0, .int .i64 20] w fun e w' => e = .returned (.int .u32 y) ∧ ∃ k, w' = w.drewN k)
    (gx : ∀ w : World, Calls Try.prog 44 #[.int .u32 y, .int .i64 20] w fun e w' => e = .returned (.int .i64 im) ∧ w = w')
    (ge : ∀ w : World, Calls Try.prog 15 #[.agg #[.int .i64 2, .bool u, .bool v, .int .i64 a, .int .i64 b, .int .i64 0, .int .i64 0, .int .i64 im]] w fun e w' => e = .returned (.tuple #[.int .u32 x, .int .i64 0]) ∧ Below w.heap.size w w') :
    Calls Try.prog 20 #[.int .u32 x] w fun e w' => e = .returned (.tuple #[.agg #[.int .i64 2, .bool u, .bool v, .int .i64 a, .int .i64 b, .int .i64 0, .int .i64 0, .int .i64 im], .int .i64 0]) ∧ Below w.heap.size w w' := by
  have Gg30 := Lib.hid g30
  have Gg29 := Lib.hid g29
  have Gg28 := Lib.hid g28
  have Gg24 := Lib.hid g24
  have Gg20 := Lib.hid g20
  have Ggl := Lib.hid gl
  have Ggx := Lib.hid gx
  have GE := Lib.hid ge
  clear ge g30 g29 g28 g24 g20 gl gx
  go_enter Try.func20, Try.ntmps20
  go_wp2_with (first | (go_at_call 43; ((first | (with_reducible refine (Gg30.out _).mono ?_) | (with_reducible refine (Gg29.out _).mono ?_) | (with_reducible refine (Gg28.out _).mono ?_) | (with_reducible refine (Gg24.out _).mono ?_) | (with_reducible refine (Gg20.out _).mono ?_)); rintro e w' ⟨rfl, nd, rfl⟩)) | (go_at_call 45; (with_reducible refine (Ggl.out _).mono ?_); rintro e w' ⟨rfl, nd, rfl⟩) | (go_at_call 44; (with_reducible refine (Ggx.out _).mono ?_); rintro e w' ⟨rfl, rfl⟩) | (go_at_call 15; (with_reducible refine (GE.out _).mono ?_); rintro e w1 ⟨rfl, hb1⟩; obtain ⟨hcell, hfz⟩ := bcell hb1; have hz : w.heap.size + 1 < w1.heap.size := by { have := hb1.size; simp at this; omega }; have HB := Lib.hid hb1; clear hb1 hu hv))
  have z0 : (w1.cell? ⟨w.heap.size, 0, none⟩).isSome = true := by rw [hcell _ _ (by simp <;> omega)]; simp [go_sem]
  have z1 : (w1.cell? ⟨w.heap.size, 1, none⟩).isSome = true := by rw [hcell _ _ (by simp <;> omega)]; simp [go_sem]
  have z2 : (w1.cell? ⟨w.heap.size, 2, none⟩).isSome = true := by rw [hcell _ _ (by simp <;> omega)]; simp [go_sem]
  have z3 : (w1.cell? ⟨w.heap.size, 3, none⟩).isSome = true := by rw [hcell _ _ (by simp <;> omega)]; simp [go_sem]
  have z4 : (w1.cell? ⟨w.heap.size, 4, none⟩).isSome = true := by rw [hcell _ _ (by simp <;> omega)]; simp [go_sem]
  have z5 : (w1.cell? ⟨w.heap.size, 5, none⟩).isSome = true := by rw [hcell _ _ (by simp <;> omega)]; simp [go_sem]
  have z6 : (w1.cell? ⟨w.heap.size, 6, none⟩).isSome = true := by rw [hcell _ _ (by simp <;> omega)]; simp [go_sem]
  have z7 : (w1.cell? ⟨w.heap.size, 7, none⟩).isSome = true := by rw [hcell _ _ (by simp <;> omega)]; simp [go_sem]
  clear hcell hfz
  refine bodyPost_ret (v := .tuple #[.agg #[.int .i64 2, .bool u, .bool v, .int .i64 a, .int .i64 b, .int .i64 0, .int .i64 0, .int .i64 im], .int .i64 0]) (by simp [results, Try.results20, go_sem, z0, z1, z2, z3, z4, z5, z6, z7]) rfl ⟨rfl, ?_⟩
  repeat (refine Below.setCell ?_ (by simp) _)
  refine Below.trans ?_ (HB.out.mono (by simp <;> omega))
  repeat (first | exact Below.refl _ _ | refine Below.setCell ?_ (by simp) _ | apply below_drewN | refine Below.alloc ?_ (by simp) _)
set_option maxRecDepth 100000 in
set_option maxHeartbeats 1000000 in
theorem rdec_mem_not (x : Nat) (u v : Bool) (pu pv a b y im : Int) (r : Int) (w : World) (hu : (pu == 1) = u) (hv : (pv == 1) = v)
    (g30 : ∀ w : World, Calls Try.prog 43 #[.int .u32 x, .int .i64 30, .int .i64 2] w fun e w' => e = .returned (.int .i64 2) ∧ ∃ k, w' = w.drewN k)
    (g29 : ∀ w : World, Calls Try.prog 43 #[.int .u32 x, .int .i64 29, .int .i64 1] w fun e w' => e = .returned (.int .i64 pu) ∧ ∃ k, w' = w.drewN k)
    (g28 : ∀ w : World, Calls Try.prog 43 #[.int .u32 x, .int .i64 28, .int .i64 1] w fun e w' => e = .returned (.int .i64 pv) ∧ ∃ k, w' = w.drewN k)
    (g24 : ∀ w : World, Calls Try.prog 43 #[.int .u32 x, .int .i64 24, .int .i64 4] w fun e w' => e = .returned (.int .i64 a) ∧ ∃ k, w' = w.drewN k)
    (g20 : ∀ w : World, Calls Try.prog 43 #[.int .u32 x, .int .i64 20, .int .i64 4] w fun e w' => e = .returned (.int .i64 b) ∧ ∃ k, w' = w.drewN k)
    (gl : ∀ w : World, Calls Try.prog 45 #[.int .u32 x, .int .i64 0, .int .i64 20] w fun e w' => e = .returned (.int .u32 y) ∧ ∃ k, w' = w.drewN k)
    (gx : ∀ w : World, Calls Try.prog 44 #[.int .u32 y, .int .i64 20] w fun e w' => e = .returned (.int .i64 im) ∧ w = w')
    (ge : ∀ w : World, Calls Try.prog 15 #[.agg #[.int .i64 2, .bool u, .bool v, .int .i64 a, .int .i64 b, .int .i64 0, .int .i64 0, .int .i64 im]] w fun e w' => e = .returned (.tuple #[.int .u32 r, .int .i64 20]) ∧ Below w.heap.size w w') :
    Calls Try.prog 20 #[.int .u32 x] w fun e w' => e = .returned (.tuple #[.agg #[.int .i64 0, .bool false, .bool false, .int .i64 0, .int .i64 0, .int .i64 0, .int .i64 0, .int .i64 0], .int .i64 20]) ∧ Below w.heap.size w w' := by
  have Gg30 := Lib.hid g30
  have Gg29 := Lib.hid g29
  have Gg28 := Lib.hid g28
  have Gg24 := Lib.hid g24
  have Gg20 := Lib.hid g20
  have Ggl := Lib.hid gl
  have Ggx := Lib.hid gx
  have GE := Lib.hid ge
  clear ge g30 g29 g28 g24 g20 gl gx
  go_enter Try.func20, Try.ntmps20
  go_wp2_with (first | (go_at_call 43; ((first | (with_reducible refine (Gg30.out _).mono ?_) | (with_reducible refine (Gg29.out _).mono ?_) | (with_reducible refine (Gg28.out _).mono ?_) | (with_reducible refine (Gg24.out _).mono ?_) | (with_reducible refine (Gg20.out _).mono ?_)); rintro e w' ⟨rfl, nd, rfl⟩)) | (go_at_call 45; (with_reducible refine (Ggl.out _).mono ?_); rintro e w' ⟨rfl, nd, rfl⟩) | (go_at_call 44; (with_reducible refine (Ggx.out _).mono ?_); rintro e w' ⟨rfl, rfl⟩) | (go_at_call 15; (with_reducible refine (GE.out _).mono ?_); rintro e w1 ⟨rfl, hb1⟩; obtain ⟨hcell, hfz⟩ := bcell hb1; have hz : w.heap.size + 1 < w1.heap.size := by { have := hb1.size; simp at this; omega }; have HB := Lib.hid hb1; clear hb1 hu hv))
  have z0 : (w1.cell? ⟨w.heap.size, 0, none⟩).isSome = true := by rw [hcell _ _ (by simp <;> omega)]; simp [go_sem]
  have z1 : (w1.cell? ⟨w.heap.size, 1, none⟩).isSome = true := by rw [hcell _ _ (by simp <;> omega)]; simp [go_sem]
  have z2 : (w1.cell? ⟨w.heap.size, 2, none⟩).isSome = true := by rw [hcell _ _ (by simp <;> omega)]; simp [go_sem]
  have z3 : (w1.cell? ⟨w.heap.size, 3, none⟩).isSome = true := by rw [hcell _ _ (by simp <;> omega)]; simp [go_sem]
  have z4 : (w1.cell? ⟨w.heap.size, 4, none⟩).isSome = true := by rw [hcell _ _ (by simp <;> omega)]; simp [go_sem]
  have z5 : (w1.cell? ⟨w.heap.size, 5, none⟩).isSome = true := by rw [hcell _ _ (by simp <;> omega)]; simp [go_sem]
  have z6 : (w1.cell? ⟨w.heap.size, 6, none⟩).isSome = true := by rw [hcell _ _ (by simp <;> omega)]; simp [go_sem]
  have z7 : (w1.cell? ⟨w.heap.size, 7, none⟩).isSome = true := by rw [hcell _ _ (by simp <;> omega)]; simp [go_sem]
  clear hcell hfz
  refine bodyPost_ret (v := .tuple #[.agg #[.int .i64 0, .bool false, .bool false, .int .i64 0, .int .i64 0, .int .i64 0, .int .i64 0, .int .i64 0], .int .i64 20]) (by simp [results, Try.results20, go_sem, z0, z1, z2, z3, z4, z5, z6, z7]) rfl ⟨rfl, ?_⟩
  repeat (refine Below.setCell ?_ (by simp) _)
  refine Below.trans ?_ (HB.out.mono (by simp <;> omega))
  repeat (first | exact Below.refl _ _ | refine Below.setCell ?_ (by simp) _ | apply below_drewN | refine Below.alloc ?_ (by simp) _)
set_option maxRecDepth 100000 in
set_option maxHeartbeats 1000000 in
theorem rdec_mem_other (x : Nat) (u v : Bool) (pu pv a b y im : Int) (r : Int) (w : World) (hu : (pu == 1) = u) (hv : (pv == 1) = v)
    (g30 : ∀ w : World, Calls Try.prog 43 #[.int .u32 x, .int .i64 30, .int .i64 2] w fun e w' => e = .returned (.int .i64 2) ∧ ∃ k, w' = w.drewN k)
    (g29 : ∀ w : World, Calls Try.prog 43 #[.int .u32 x, .int .i64 29, .int .i64 1] w fun e w' => e = .returned (.int .i64 pu) ∧ ∃ k, w' = w.drewN k)
    (g28 : ∀ w : World, Calls Try.prog 43 #[.int .u32 x, .int .i64 28, .int .i64 1] w fun e w' => e = .returned (.int .i64 pv) ∧ ∃ k, w' = w.drewN k)
    (g24 : ∀ w : World, Calls Try.prog 43 #[.int .u32 x, .int .i64 24, .int .i64 4] w fun e w' => e = .returned (.int .i64 a) ∧ ∃ k, w' = w.drewN k)
    (g20 : ∀ w : World, Calls Try.prog 43 #[.int .u32 x, .int .i64 20, .int .i64 4] w fun e w' => e = .returned (.int .i64 b) ∧ ∃ k, w' = w.drewN k)
    (gl : ∀ w : World, Calls Try.prog 45 #[.int .u32 x, .int .i64 0, .int .i64 20] w fun e w' => e = .returned (.int .u32 y) ∧ ∃ k, w' = w.drewN k)
    (gx : ∀ w : World, Calls Try.prog 44 #[.int .u32 y, .int .i64 20] w fun e w' => e = .returned (.int .i64 im) ∧ w = w') (hr : (r == (x : Int)) = false)
    (ge : ∀ w : World, Calls Try.prog 15 #[.agg #[.int .i64 2, .bool u, .bool v, .int .i64 a, .int .i64 b, .int .i64 0, .int .i64 0, .int .i64 im]] w fun e w' => e = .returned (.tuple #[.int .u32 r, .int .i64 0]) ∧ Below w.heap.size w w') :
    Calls Try.prog 20 #[.int .u32 x] w fun e w' => e = .returned (.tuple #[.agg #[.int .i64 0, .bool false, .bool false, .int .i64 0, .int .i64 0, .int .i64 0, .int .i64 0, .int .i64 0], .int .i64 20]) ∧ Below w.heap.size w w' := by
  have Gg30 := Lib.hid g30
  have Gg29 := Lib.hid g29
  have Gg28 := Lib.hid g28
  have Gg24 := Lib.hid g24
  have Gg20 := Lib.hid g20
  have Ggl := Lib.hid gl
  have Ggx := Lib.hid gx
  have GE := Lib.hid ge
  have HR := Lib.hid hr
  clear ge hr g30 g29 g28 g24 g20 gl gx
  go_enter Try.func20, Try.ntmps20
  go_wp2_with (first | (go_at_call 43; ((first | (with_reducible refine (Gg30.out _).mono ?_) | (with_reducible refine (Gg29.out _).mono ?_) | (with_reducible refine (Gg28.out _).mono ?_) | (with_reducible refine (Gg24.out _).mono ?_) | (with_reducible refine (Gg20.out _).mono ?_)); rintro e w' ⟨rfl, nd, rfl⟩)) | (go_at_call 45; (with_reducible refine (Ggl.out _).mono ?_); rintro e w' ⟨rfl, nd, rfl⟩) | (go_at_call 44; (with_reducible refine (Ggx.out _).mono ?_); rintro e w' ⟨rfl, rfl⟩) | (go_at_call 15; (with_reducible refine (GE.out _).mono ?_); rintro e w1 ⟨rfl, hb1⟩; obtain ⟨hcell, hfz⟩ := bcell hb1; have hz : w.heap.size + 1 < w1.heap.size := by { have := hb1.size; simp at this; omega }; have HB := Lib.hid hb1; clear hb1 hu hv; have hr2 := HR.out))
  have z0 : (w1.cell? ⟨w.heap.size, 0, none⟩).isSome = true := by rw [hcell _ _ (by simp <;> omega)]; simp [go_sem]
  have z1 : (w1.cell? ⟨w.heap.size, 1, none⟩).isSome = true := by rw [hcell _ _ (by simp <;> omega)]; simp [go_sem]
  have z2 : (w1.cell? ⟨w.heap.size, 2, none⟩).isSome = true := by rw [hcell _ _ (by simp <;> omega)]; simp [go_sem]
  have z3 : (w1.cell? ⟨w.heap.size, 3, none⟩).isSome = true := by rw [hcell _ _ (by simp <;> omega)]; simp [go_sem]
  have z4 : (w1.cell? ⟨w.heap.size, 4, none⟩).isSome = true := by rw [hcell _ _ (by simp <;> omega)]; simp [go_sem]
  have z5 : (w1.cell? ⟨w.heap.size, 5, none⟩).isSome = true := by rw [hcell _ _ (by simp <;> omega)]; simp [go_sem]
  have z6 : (w1.cell? ⟨w.heap.size, 6, none⟩).isSome = true := by rw [hcell _ _ (by simp <;> omega)]; simp [go_sem]
  have z7 : (w1.cell? ⟨w.heap.size, 7, none⟩).isSome = true := by rw [hcell _ _ (by simp <;> omega)]; simp [go_sem]
  clear hcell hfz
  refine bodyPost_ret (v := .tuple #[.agg #[.int .i64 0, .bool false, .bool false, .int .i64 0, .int .i64 0, .int .i64 0, .int .i64 0, .int .i64 0], .int .i64 20]) (by simp [results, Try.results20, go_sem, z0, z1, z2, z3, z4, z5, z6, z7]) rfl ⟨rfl, ?_⟩
  repeat (refine Below.setCell ?_ (by simp) _)
  refine Below.trans ?_ (HB.out.mono (by simp <;> omega))
  repeat (first | exact Below.refl _ _ | refine Below.setCell ?_ (by simp) _ | apply below_drewN | refine Below.alloc ?_ (by simp) _)
set_option maxRecDepth 100000 in
set_option maxHeartbeats 1000000 in
theorem rdec_jump_yes (x : Nat) (v : Bool) (pu pv a y im : Int) (w : World) (hu : (pu == 1) = true) (hv : (pv == 1) = v)
    (g30 : ∀ w : World, Calls Try.prog 43 #[.int .u32 x, .int .i64 30, .int .i64 2] w fun e w' => e = .returned (.int .i64 3) ∧ ∃ k, w' = w.drewN k)
    (g29 : ∀ w : World, Calls Try.prog 43 #[.int .u32 x, .int .i64 29, .int .i64 1] w fun e w' => e = .returned (.int .i64 pu) ∧ ∃ k, w' = w.drewN k)
    (g28 : ∀ w : World, Calls Try.prog 43 #[.int .u32 x, .int .i64 28, .int .i64 1] w fun e w' => e = .returned (.int .i64 pv) ∧ ∃ k, w' = w.drewN k)
    (g24 : ∀ w : World, Calls Try.prog 43 #[.int .u32 x, .int .i64 24, .int .i64 4] w fun e w' => e = .returned (.int .i64 a) ∧ ∃ k, w' = w.drewN k)
    (gl : ∀ w : World, Calls Try.prog 45 #[.int .u32 x, .int .i64 0, .int .i64 24] w fun e w' => e = .returned (.int .u32 y) ∧ ∃ k, w' = w.drewN k)
    (gx : ∀ w : World, Calls Try.prog 44 #[.int .u32 y, .int .i64 24] w fun e w' => e = .returned (.int .i64 im) ∧ w = w')
    (ge : ∀ w : World, Calls Try.prog 15 #[.agg #[.int .i64 3, .bool true, .bool v, .int .i64 a, .int .i64 0, .int .i64 0, .int .i64 0, .int .i64 im]] w fun e w' => e = .returned (.tuple #[.int .u32 x, .int .i64 0]) ∧ Below w.heap.size w w') :
    Calls Try.prog 20 #[.int .u32 x] w fun e w' => e = .returned (.tuple #[.agg #[.int .i64 3, .bool true, .bool v, .int .i64 a, .int .i64 0, .int .i64 0, .int .i64 0, .int .i64 im], .int .i64 0]) ∧ Below w.heap.size w w' := by
  have Gg30 := Lib.hid g30
  have Gg29 := Lib.hid g29
  have Gg28 := Lib.hid g28
  have Gg24 := Lib.hid g24
  have Ggl := Lib.hid gl
  have Ggx := Lib.hid gx
  have GE := Lib.hid ge
  clear ge g30 g29 g28 g24 gl gx
  go_enter Try.func20, Try.ntmps20
  go_wp2_with (first | (go_at_call 43; ((first | (with_reducible refine (Gg30.out _).mono ?_) | (with_reducible refine (Gg29.out _).mono ?_) | (with_reducible refine (Gg28.out _).mono ?_) | (with_reducible refine (Gg24.out _).mono ?_)); rintro e w' ⟨rfl, nd, rfl⟩)) | (go_at_call 45; (with_reducible refine (Ggl.out _).mono ?_); rintro e w' ⟨rfl, nd, rfl⟩) | (go_at_call 44; (with_reducible refine (Ggx.out _).mono ?_); rintro e w' ⟨rfl, rfl⟩) | (go_at_call 15; (with_reducible refine (GE.out _).mono ?_); rintro e w1 ⟨rfl, hb1⟩; obtain ⟨hcell, hfz⟩ := bcell hb1; have hz : w.heap.size + 1 < w1.heap.size := by { have := hb1.size; simp at this; omega }; have HB := Lib.hid hb1; clear hb1 hu hv))
  have z0 : (w1.cell? ⟨w.heap.size, 0, none⟩).isSome = true := by rw [hcell _ _ (by simp <;> omega)]; simp [go_sem]
  have z1 : (w1.cell? ⟨w.heap.size, 1, none⟩).isSome = true := by rw [hcell _ _ (by simp <;> omega)]; simp [go_sem]
  have z2 : (w1.cell? ⟨w.heap.size, 2, none⟩).isSome = true := by rw [hcell _ _ (by simp <;> omega)]; simp [go_sem]
  have z3 : (w1.cell? ⟨w.heap.size, 3, none⟩).isSome = true := by rw [hcell _ _ (by simp <;> omega)]; simp [go_sem]
  have z4 : (w1.cell? ⟨w.heap.size, 4, none⟩).isSome = true := by rw [hcell _ _ (by simp <;> omega)]; simp [go_sem]
  have z5 : (w1.cell? ⟨w.heap.size, 5, none⟩).isSome = true := by rw [hcell _ _ (by simp <;> omega)]; simp [go_sem]
  have z6 : (w1.cell? ⟨w.heap.size, 6, none⟩).isSome = true := by rw [hcell _ _ (by simp <;> omega)]; simp [go_sem]
  have z7 : (w1.cell? ⟨w.heap.size, 7, none⟩).isSome = true := by rw [hcell _ _ (by simp <;> omega)]; simp [go_sem]
  clear hcell hfz
  refine bodyPost_ret (v := .tuple #[.agg #[.int .i64 3, .bool true, .bool v, .int .i64 a, .int .i64 0, .int .i64 0, .int .i64 0, .int .i64 im], .int .i64 0]) (by simp [results, Try.results20, go_sem, z0, z1, z2, z3, z4, z5, z6, z7]) rfl ⟨rfl, ?_⟩
  repeat (refine Below.setCell ?_ (by simp) _)
  refine Below.trans ?_ (HB.out.mono (by simp <;> omega))
  repeat (first | exact Below.refl _ _ | refine Below.setCell ?_ (by simp) _ | apply below_drewN | refine Below.alloc ?_ (by simp) _)
set_option maxRecDepth 100000 in
set_option maxHeartbeats 1000000 in
theorem rdec_jump_not (x : Nat) (v : Bool) (pu pv a y im : Int) (r : Int) (w : World) (hu : (pu == 1) = true) (hv : (pv == 1) = v)
    (g30 : ∀ w : World, Calls Try.prog 43 #[.int .u32 x, .int .i64 30, .int .i64 2] w fun e w' => e = .returned (.int .i64 3) ∧ ∃ k, w' = w.drewN k)
    (g29 : ∀ w : World, Calls Try.prog 43 #[.int .u32 x, .int .i64 29, .int .i64 1] w fun e w' => e = .returned (.int .i64 pu) ∧ ∃ k, w' = w.drewN k)
    (g28 : ∀ w : World, Calls Try.prog 43 #[.int .u32 x, .int .i64 28, .int .i64 1] w fun e w' => e = .returned (.int .i64 pv) ∧ ∃ k, w' = w.drewN k)
    (g24 : ∀ w : World, Calls Try.prog 43 #[.int .u32 x, .int .i64 24, .int .i64 4] w fun e w' => e = .returned (.int .i64 a) ∧ ∃ k, w' = w.drewN k)
    (gl : ∀ w : World, Calls Try.prog 45 #[.int .u32 x, .int .i64 0, .int .i64 24] w fun e w' => e = .returned (.int .u32 y) ∧ ∃ k, w' = w.drewN k)
    (gx : ∀ w : World, Calls Try.prog 44 #[.int .u32 y, .int .i64 24] w fun e w' => e = .returned (.int .i64 im) ∧ w = w')
    (ge : ∀ w : World, Calls Try.prog 15 #[.agg #[.int .i64 3, .bool true, .bool v, .int .i64 a, .int .i64 0, .int .i64 0, .int .i64 0, .int .i64 im]] w fun e w' => e = .returned (.tuple #[.int .u32 r, .int .i64 20]) ∧ Below w.heap.size w w') :
    Calls Try.prog 20 #[.int .u32 x] w fun e w' => e = .returned (.tuple #[.agg #[.int .i64 0, .bool false, .bool false, .int .i64 0, .int .i64 0, .int .i64 0, .int .i64 0, .int .i64 0], .int .i64 20]) ∧ Below w.heap.size w w' := by
  have Gg30 := Lib.hid g30
  have Gg29 := Lib.hid g29
  have Gg28 := Lib.hid g28
  have Gg24 := Lib.hid g24
  have Ggl := Lib.hid gl
  have Ggx := Lib.hid gx
  have GE := Lib.hid ge
  clear ge g30 g29 g28 g24 gl gx
  go_enter Try.func20, Try.ntmps20
  go_wp2_with (first | (go_at_call 43; ((first | (with_reducible refine (Gg30.out _).mono ?_) | (with_reducible refine (Gg29.out _).mono ?_) | (with_reducible refine (Gg28.out _).mono ?_) | (with_reducible refine (Gg24.out _).mono ?_)); rintro e w' ⟨rfl, nd, rfl⟩)) | (go_at_call 45; (with_reducible refine (Ggl.out _).mono ?_); rintro e w' ⟨rfl, nd, rfl⟩) | (go_at_call 44; (with_reducible refine (Ggx.out _).mono ?_); rintro e w' ⟨rfl, rfl⟩) | (go_at_call 15; (with_reducible refine (GE.out _).mono ?_); rintro e w1 ⟨rfl, hb1⟩; obtain ⟨hcell, hfz⟩ := bcell hb1; have hz : w.heap.size + 1 < w1.heap.size := by { have := hb1.size; simp at this; omega }; have HB := Lib.hid hb1; clear hb1 hu hv))
  have z0 : (w1.cell? ⟨w.heap.size, 0, none⟩).isSome = true := by rw [hcell _ _ (by simp <;> omega)]; simp [go_sem]
  have z1 : (w1.cell? ⟨w.heap.size, 1, none⟩).isSome = true := by rw [hcell _ _ (by simp <;> omega)]; simp [go_sem]
  have z2 : (w1.cell? ⟨w.heap.size, 2, none⟩).isSome = true := by rw [hcell _ _ (by simp <;> omega)]; simp [go_sem]
  have z3 : (w1.cell? ⟨w.heap.size, 3, none⟩).isSome = true := by rw [hcell _ _ (by simp <;> omega)]; simp [go_sem]
  have z4 : (w1.cell? ⟨w.heap.size, 4, none⟩).isSome = true := by rw [hcell _ _ (by simp <;> omega)]; simp [go_sem]
  have z5 : (w1.cell? ⟨w.heap.size, 5, none⟩).isSome = true := by rw [hcell _ _ (by simp <;> omega)]; simp [go_sem]
  have z6 : (w1.cell? ⟨w.heap.size, 6, none⟩).isSome = true := by rw [hcell _ _ (by simp <;> omega)]; simp [go_sem]
  have z7 : (w1.cell? ⟨w.heap.size, 7, none⟩).isSome = true := by rw [hcell _ _ (by simp <;> omega)]; simp [go_sem]
  clear hcell hfz
  refine bodyPost_ret (v := .tuple #[.agg #[.int .i64 0, .bool false, .bool false, .int .i64 0, .int .i64 0, .int .i64 0, .int .i64 0, .int .i64 0], .int .i64 20]) (by simp [results, Try.results20, go_sem, z0, z1, z2, z3, z4, z5, z6, z7]) rfl ⟨rfl, ?_⟩
  repeat (refine Below.setCell ?_ (by simp) _)
  refine Below.trans ?_ (HB.out.mono (by simp <;> omega))
  repeat (first | exact Below.refl _ _ | refine Below.setCell ?_ (by simp) _ | apply below_drewN | refine Below.alloc ?_ (by simp) _)
set_option maxRecDepth 100000 in
set_option maxHeartbeats 1000000 in
theorem rdec_jump_other (x : Nat) (v : Bool) (pu pv a y im : Int) (r : Int) (w : World) (hu : (pu == 1) = true) (hv : (pv == 1) = v)
    (g30 : ∀ w : World, Calls Try.prog 43 #[.int .u32 x, .int .i64 30, .int .i64 2] w fun e w' => e = .returned (.int .i64 3) ∧ ∃ k, w' = w.drewN k)
    (g29 : ∀ w : World, Calls Try.prog 43 #[.int .u32 x, .int .i64 29, .int .i64 1] w fun e w' => e = .returned (.int .i64 pu) ∧ ∃ k, w' = w.drewN k)
    (g28 : ∀ w : World, Calls Try.prog 43 #[.int .u32 x, .int .i64 28, .int .i64 1] w fun e w' => e = .returned (.int .i64 pv) ∧ ∃ k, w' = w.drewN k)
    (g24 : ∀ w : World, Calls Try.prog 43 #[.int .u32 x, .int .i64 24, .int .i64 4] w fun e w' => e = .returned (.int .i64 a) ∧ ∃ k, w' = w.drewN k)
    (gl : ∀ w : World, Calls Try.prog 45 #[.int .u32 x, .int .i64 0, .int .i64 24] w fun e w' => e = .returned (.int .u32 y) ∧ ∃ k, w' = w.drewN k)
    (gx : ∀ w : World, Calls Try.prog 44 #[.int .u32 y, .int .i64 24] w fun e w' => e = .returned (.int .i64 im) ∧ w = w') (hr : (r == (x : Int)) = false)
    (ge : ∀ w : World, Calls Try.prog 15 #[.agg #[.int .i64 3, .bool true, .bool v, .int .i64 a, .int .i64 0, .int .i64 0, .int .i64 0, .int .i64 im]] w fun e w' => e = .returned (.tuple #[.int .u32 r, .int .i64 0]) ∧ Below w.heap.size w w') :
    Calls Try.prog 20 #[.int .u32 x] w fun e w' => e = .returned (.tuple #[.agg #[.int .i64 0, .bool false, .bool false, .int .i64 0, .int .i64 0, .int .i64 0, .int .i64 0, .int .i64 0], .int .i64 20]) ∧ Below w.heap.size w w' := by
  have Gg30 := Lib.hid g30
  have Gg29 := Lib.hid g29
  have Gg28 := Lib.hid g28
  have Gg24 := Lib.hid g24
  have Ggl := Lib.hid gl
  have Ggx := Lib.hid gx
  have GE := Lib.hid ge
  have HR := Lib.hid hr
  clear ge hr g30 g29 g28 g24 gl gx
  go_enter Try.func20, Try.ntmps20
  go_wp2_with (first | (go_at_call 43; ((first | (with_reducible refine (Gg30.out _).mono ?_) | (with_reducible refine (Gg29.out _).mono ?_) | (with_reducible refine (Gg28.out _).mono ?_) | (with_reducible refine (Gg24.out _).mono ?_)); rintro e w' ⟨rfl, nd, rfl⟩)) | (go_at_call 45; (with_reducible refine (Ggl.out _).mono ?_); rintro e w' ⟨rfl, nd, rfl⟩) | (go_at_call 44; (with_reducible refine (Ggx.out _).mono ?_); rintro e w' ⟨rfl, rfl⟩) | (go_at_call 15; (with_reducible refine (GE.out _).mono ?_); rintro e w1 ⟨rfl, hb1⟩; obtain ⟨hcell, hfz⟩ := bcell hb1; have hz : w.heap.size + 1 < w1.heap.size := by { have := hb1.size; simp at this; omega }; have HB := Lib.hid hb1; clear hb1 hu hv; have hr2 := HR.out))
  have z0 : (w1.cell? ⟨w.heap.size, 0, none⟩).isSome = true := by rw [hcell _ _ (by simp <;> omega)]; simp [go_sem]
  have z1 : (w1.cell? ⟨w.heap.size, 1, none⟩).isSome = true := by rw [hcell _ _ (by simp <;> omega)]; simp [go_sem]
  have z2 : (w1.cell? ⟨w.heap.size, 2, none⟩).isSome = true := by rw [hcell _ _ (by simp <;> omega)]; simp [go_sem]
  have z3 : (w1.cell? ⟨w.heap.size, 3, none⟩).isSome = true := by rw [hcell _ _ (by simp <;> omega)]; simp [go_sem]
  have z4 : (w1.cell? ⟨w.heap.size, 4, none⟩).isSome = true := by rw [hcell _ _ (by simp <;> omega)]; simp [go_sem]
  have z5 : (w1.cell? ⟨w.heap.size, 5, none⟩).isSome = true := by rw [hcell _ _ (by simp <;> omega)]; simp [go_sem]
  have z6 : (w1.cell? ⟨w.heap.size, 6, none⟩).isSome = true := by rw [hcell _ _ (by simp <;> omega)]; simp [go_sem]
  have z7 : (w1.cell? ⟨w.heap.size, 7, none⟩).isSome = true := by rw [hcell _ _ (by simp <;> omega)]; simp [go_sem]
  clear hcell hfz
  refine bodyPost_ret (v := .tuple #[.agg #[.int .i64 0, .bool false, .bool false, .int .i64 0, .int .i64 0, .int .i64 0, .int .i64 0, .int .i64 0], .int .i64 20]) (by simp [results, Try.results20, go_sem, z0, z1, z2, z3, z4, z5, z6, z7]) rfl ⟨rfl, ?_⟩
  repeat (refine Below.setCell ?_ (by simp) _)
  refine Below.trans ?_ (HB.out.mono (by simp <;> omega))
  repeat (first | exact Below.refl _ _ | refine Below.setCell ?_ (by simp) _ | apply below_drewN | refine Below.alloc ?_ (by simp) _)
set_option maxRecDepth 100000 in
set_option maxHeartbeats 1000000 in
theorem rdec_back_yes (x : Nat) (v : Bool) (pu pv a c : Int) (w : World) (hu : (pu == 1) = false) (hv : (pv == 1) = v)
    (g30 : ∀ w : World, Calls Try.prog 43 #[.int .u32 x, .int .i64 30, .int .i64 2] w fun e w' => e = .returned (.int .i64 3) ∧ ∃ k, w' = w.drewN k)
    (g29 : ∀ w : World, Calls Try.prog 43 #[.int .u32 x, .int .i64 29, .int .i64 1] w fun e w' => e = .returned (.int .i64 pu) ∧ ∃ k, w' = w.drewN k)
    (g28 : ∀ w : World, Calls Try.prog 43 #[.int .u32 x, .int .i64 28, .int .i64 1] w fun e w' => e = .returned (.int .i64 pv) ∧ ∃ k, w' = w.drewN k)
    (g24 : ∀ w : World, Calls Try.prog 43 #[.int .u32 x, .int .i64 24, .int .i64 4] w fun e w' => e = .returned (.int .i64 a) ∧ ∃ k, w' = w.drewN k)
    (g0 : ∀ w : World, Calls Try.prog 43 #[.int .u32 x, .int .i64 0, .int .i64 4] w fun e w' => e = .returned (.int .i64 c) ∧ ∃ k, w' = w.drewN k)
    (ge : ∀ w : World, Calls Try.prog 15 #[.agg #[.int .i64 3, .bool false, .bool v, .int .i64 a, .int .i64 0, .int .i64 c, .int .i64 0, .int .i64 0]] w fun e w' => e = .returned (.tuple #[.int .u32 x, .int .i64 0]) ∧ Below w.heap.size w w') :
    Calls Try.prog 20 #[.int .u32 x] w fun e w' => e = .returned (.tuple #[.agg #[.int .i64 3, .bool false, .bool v, .int .i64 a, .int .i64 0, .int .i64 c, .int .i64 0, .int .i64 0], .int .i64 0]) ∧ Below w.heap.size w w' := by
  have Gg30 := Lib.hid g30
  have Gg29 := Lib.hid g29
  have Gg28 := Lib.hid g28
  have Gg24 := Lib.hid g24
  have Gg0 := Lib.hid g0
  have GE := Lib.hid ge
  clear ge g30 g29 g28 g24 g0
  go_enter Try.func20, Try.ntmps20
  go_wp2_with (first | (go_at_call 43; ((first | (with_reducible refine (Gg30.out _).mono ?_) | (with_reducible refine (Gg29.out _).mono ?_) | (with_reducible refine (Gg28.out _).mono ?_) | (with_reducible refine (Gg24.out _).mono ?_) | (with_reducible refine (Gg0.out _).mono ?_)); rintro e w' ⟨rfl, nd, rfl⟩)) | (go_at_call 15; (with_reducible refine (GE.out _).mono ?_); rintro e w1 ⟨rfl, hb1⟩; obtain ⟨hcell, hfz⟩ := bcell hb1; have hz : w.heap.size + 1 < w1.heap.size := by { have := hb1.size; simp at this; omega }; have HB := Lib.hid hb1; clear hb1 hu hv))
  have z0 : (w1.cell? ⟨w.heap.size, 0, none⟩).isSome = true := by rw [hcell _ _ (by simp <;> omega)]; simp [go_sem]
  have z1 : (w1.cell? ⟨w.heap.size, 1, none⟩).isSome = true := by rw [hcell _ _ (by simp <;> omega)]; simp [go_sem]
  have z2 : (w1.cell? ⟨w.heap.size, 2, none⟩).isSome = true := by rw [hcell _ _ (by simp <;> omega)]; simp [go_sem]
  have z3 : (w1.cell? ⟨w.heap.size, 3, none⟩).isSome = true := by rw [hcell _ _ (by simp <;> omega)]; simp [go_sem]
  have z4 : (w1.cell? ⟨w.heap.size, 4, none⟩).isSome = true := by rw [hcell _ _ (by simp <;> omega)]; simp [go_sem]
  have z5 : (w1.cell? ⟨w.heap.size, 5, none⟩).isSome = true := by rw [hcell _ _ (by simp <;> omega)]; simp [go_sem]
  have z6 : (w1.cell? ⟨w.heap.size, 6, none⟩).isSome = true := by rw [hcell _ _ (by simp <;> omega)]; simp [go_sem]
  have z7 : (w1.cell? ⟨w.heap.size, 7, none⟩).isSome = true := by rw [hcell _ _ (by simp <;> omega)]; simp [go_sem]
  clear hcell hfz
  refine bodyPost_ret (v := .tuple #[.agg #[.int .i64 3, .bool false, .bool v, .int .i64 a, .int .i64 0, .int .i64 c, .int .i64 0, .int .i64 0], .int .i64 0]) (by simp [results, Try.results20, go_sem, z0, z1, z2, z3, z4, z5, z6, z7]) rfl ⟨rfl, ?_⟩
  repeat (refine Below.setCell ?_ (by simp) _)
  refine Below.trans ?_ (HB.out.mono (by simp <;> omega))
  repeat (first | exact Below.refl _ _ | refine Below.setCell ?_ (by simp) _ | apply below_drewN | refine Below.alloc ?_ (by simp) _)
set_option maxRecDepth 100000 in
set_option maxHeartbeats 1000000 in
theorem rdec_back_not (x : Nat) (v : Bool) (pu pv a c : Int) (r : Int) (w : World) (hu : (pu == 1) = false) (hv : (pv == 1) = v)
    (g30 : ∀ w : World, Calls Try.prog 43 #[.int .u32 x, .int .i64 30, .int .i64 2] w fun e w' => e = .returned (.int .i64 3) ∧ ∃ k, w' = w.drewN k)
    (g29 : ∀ w : World, Calls Try.prog 43 #[.int .u32 x, .int .i64 29, .int .i64 1] w fun e w' => e = .returned (.int .i64 pu) ∧ ∃ k, w' = w.drewN k)
    (g28 : ∀ w : World, Calls Try.prog 43 #[.int .u32 x, .int .i64 28, .int .i64 1] w fun e w' => e = .returned (.int .i64 pv) ∧ ∃ k, w' = w.drewN k)
    (g24 : ∀ w : World, Calls Try.prog 43 #[.int .u32 x, .int .i64 24, .int .i64 4] w fun e w' => e = .returned (.int .i64 a) ∧ ∃ k, w' = w.drewN k)
    (g0 : ∀ w : World, Calls Try.prog 43 #[.int .u32 x, .int .i64 0, .int .i64 4] w fun e w' => e = .returned (.int .i64 c) ∧ ∃ k, w' = w.drewN k)
    (ge : ∀ w : World, Calls Try.prog 15 #[.agg #[.int .i64 3, .bool false, .bool v, .int .i64 a, .int .i64 0, .int .i64 c, .int .i64 0, .int .i64 0]] w fun e w' => e = .returned (.tuple #[.int .u32 r, .int .i64 20]) ∧ Below w.heap.size w w') :
    Calls Try.prog 20 #[.int .u32 x] w fun e w' => e = .returned (.tuple #[.agg #[.int .i64 0, .bool false, .bool false, .int .i64 0, .int .i64 0, .int .i64 0, .int .i64 0, .int .i64 0], .int .i64 20]) ∧ Below w.heap.size w w' := by
  have Gg30 := Lib.hid g30
  have Gg29 := Lib.hid g29
  have Gg28 := Lib.hid g28
  have Gg24 := Lib.hid g24
  have Gg0 := Lib.hid g0
  have GE := Lib.hid ge
  clear ge g30 g29 g28 g24 g0
  go_enter Try.func20, Try.ntmps20
  go_wp2_with (first | (go_at_call 43; ((first | (with_reducible refine (Gg30.out _).mono ?_) | (with_reducible refine (Gg29.out _).mono ?_) | (with_reducible refine (Gg28.out _).mono ?_) | (with_reducible refine (Gg24.out _).mono ?_) | (with_reducible refine (Gg0.out _).mono ?_)); rintro e w' ⟨rfl, nd, rfl⟩)) | (go_at_call 15; (with_reducible refine (GE.out _).mono ?_); rintro e w1 ⟨rfl, hb1⟩; obtain ⟨hcell, hfz⟩ := bcell hb1; have hz : w.heap.size + 1 < w1.heap.size := by { have := hb1.size; simp at this; omega }; have HB := Lib.hid hb1; clear hb1 hu hv))
  have z0 : (w1.cell? ⟨w.heap.size, 0, none⟩).isSome = true := by rw [hcell _ _ (by simp <;> omega)]; simp [go_sem]
  have z1 : (w1.cell? ⟨w.heap.size, 1, none⟩).isSome = true := by rw [hcell _ _ (by simp <;> omega)]; simp [go_sem]
  have z2 : (w1.cell? ⟨w.heap.size, 2, none⟩).isSome = true := by rw [hcell _ _ (by simp <;> omega)]; simp [go_sem]
  have z3 : (w1.cell? ⟨w.heap.size, 3, none⟩).isSome = true := by rw [hcell _ _ (by simp <;> omega)]; simp [go_sem]
  have z4 : (w1.cell? ⟨w.heap.size, 4, none⟩).isSome = true := by rw [hcell _ _ (by simp <;> omega)]; simp [go_sem]
  have z5 : (w1.cell? ⟨w.heap.size, 5, none⟩).isSome = true := by rw [hcell _ _ (by simp <;> omega)]; simp [go_sem]
  have z6 : (w1.cell? ⟨w.heap.size, 6, none⟩).isSome = true := by rw [hcell _ _ (by simp <;> omega)]; simp [go_sem]
  have z7 : (w1.cell? ⟨w.heap.size, 7, none⟩).isSome = true := by rw [hcell _ _ (by simp <;> omega)]; simp [go_sem]
  clear hcell hfz
  refine bodyPost_ret (v := .tuple #[.agg #[.int .i64 0, .bool false, .bool false, .int .i64 0, .int .i64 0, .int .i64 0, .int .i64 0, .int .i64 0], .int .i64 20]) (by simp [results, Try.results20, go_sem, z0, z1, z2, z3, z4, z5, z6, z7]) rfl ⟨rfl, ?_⟩
  repeat (refine Below.setCell ?_ (by simp) _)
  refine Below.trans ?_ (HB.out.mono (by simp <;> omega))
  repeat (first | exact Below.refl _ _ | refine Below.setCell ?_ (by simp) _ | apply below_drewN | refine Below.alloc ?_ (by simp) _)
set_option maxRecDepth 100000 in
set_option maxHeartbeats 1000000 in
theorem rdec_back_other (x : Nat) (v : Bool) (pu pv a c : Int) (r : Int) (w : World) (hu : (pu == 1) = false) (hv : (pv == 1) = v)
    (g30 : ∀ w : World, Calls Try.prog 43 #[.int .u32 x, .int .i64 30, .int .i64 2] w fun e w' => e = .returned (.int .i64 3) ∧ ∃ k, w' = w.drewN k)
    (g29 : ∀ w : World, Calls Try.prog 43 #[.int .u32 x, .int .i64 29, .int .i64 1] w fun e w' => e = .returned (.int .i64 pu) ∧ ∃ k, w' = w.drewN k)
    (g28 : ∀ w : World, Calls Try.prog 43 #[.int .u32 x, .int .i64 28, .int .i64 1] w fun e w' => e = .returned (.int .i64 pv) ∧ ∃ k, w' = w.drewN k)
    (g24 : ∀ w : World, Calls Try.prog 43 #[.int .u32 x, .int .i64 24, .int .i64 4] w fun e w' => e = .returned (.int .i64 a) ∧ ∃ k, w' = w.drewN k)
    (g0 : ∀ w : World, Calls Try.prog 43 #[.int .u32 x, .int .i64 0, .int .i64 4] w fun e w' => e = .returned (.int .i64 c) ∧ ∃ k, w' = w.drewN k) (hr : (r == (x : Int)) = false)
    (ge : ∀ w : World, Calls Try.prog 15 #[.agg #[.int .i64 3, .bool false, .bool v, .int .i64 a, .int .i64 0, .int .i64 c, .int .i64 0, .int .i64 0]] w fun e w' => e = .returned (.tuple #[.int .u32 r, .int .i64 0]) ∧ Below w.heap.size w w') :
    Calls Try.prog 20 #[.int .u32 x] w fun e w' => e = .returned (.tuple #[.agg #[.int .i64 0, .bool false, .bool false, .int .i64 0, .int .i64 0, .int .i64 0, .int .i64 0, .int .i64 0], .int .i64 20]) ∧ Below w.heap.size w w' := by
  have Gg30 := Lib.hid g30
  have Gg29 := Lib.hid g29
  have Gg28 := Lib.hid g28
  have Gg24 := Lib.hid g24
  have Gg0 := Lib.hid g0
  have GE := Lib.hid ge
  have HR := Lib.hid hr
  clear ge hr g30 g29 g28 g24 g0
  go_enter Try.func20, Try.ntmps20
  go_wp2_with (first | (go_at_call 43; ((first | (with_reducible refine (Gg30.out _).mono ?_) | (with_reducible refine (Gg29.out _).mono ?_) | (with_reducible refine (Gg28.out _).mono ?_) | (with_reducible refine (Gg24.out _).mono ?_) | (with_reducible refine (Gg0.out _).mono ?_)); rintro e w' ⟨rfl, nd, rfl⟩)) | (go_at_call 15; (with_reducible refine (GE.out _).mono ?_); rintro e w1 ⟨rfl, hb1⟩; obtain ⟨hcell, hfz⟩ := bcell hb1; have hz : w.heap.size + 1 < w1.heap.size := by { have := hb1.size; simp at this; omega }; have HB := Lib.hid hb1; clear hb1 hu hv; have hr2 := HR.out))
  have z0 : (w1.cell? ⟨w.heap.size, 0, none⟩).isSome = true := by rw [hcell _ _ (by simp <;> omega)]; simp [go_sem]
  have z1 : (w1.cell? ⟨w.heap.size, 1, none⟩).isSome = true := by rw [hcell _ _ (by simp <;> omega)]; simp [go_sem]
  have z2 : (w1.cell? ⟨w.heap.size, 2, none⟩).isSome = true := by rw [hcell _ _ (by simp <;> omega)]; simp [go_sem]
  have z3 : (w1.cell? ⟨w.heap.size, 3, none⟩).isSome = true := by rw [hcell _ _ (by simp <;> omega)]; simp [go_sem]
  have z4 : (w1.cell? ⟨w.heap.size, 4, none⟩).isSome = true := by rw [hcell _ _ (by simp <;> omega)]; simp [go_sem]
  have z5 : (w1.cell? ⟨w.heap.size, 5, none⟩).isSome = true := by rw [hcell _ _ (by simp <;> omega)]; simp [go_sem]
  have z6 : (w1.cell? ⟨w.heap.size, 6, none⟩).isSome = true := by rw [hcell _ _ (by simp <;> omega)]; simp [go_sem]
  have z7 : (w1.cell? ⟨w.heap.size, 7, none⟩).isSome = true := by rw [hcell _ _ (by simp <;> omega)]; simp [go_sem]
  clear hcell hfz
  refine bodyPost_ret (v := .tuple #[.agg #[.int .i64 0, .bool false, .bool false, .int .i64 0, .int .i64 0, .int .i64 0, .int .i64 0, .int .i64 0], .int .i64 20]) (by simp [results, Try.results20, go_sem, z0, z1, z2, z3, z4, z5, z6, z7]) rfl ⟨rfl, ?_⟩
  repeat (refine Below.setCell ?_ (by simp) _)
  refine Below.trans ?_ (HB.out.mono (by simp <;> omega))
  repeat (first | exact Below.refl _ _ | refine Below.setCell ?_ (by simp) _ | apply below_drewN | refine Below.alloc ?_ (by simp) _)
theorem one_bit (x k : Nat) (m : Nat) (hm : m = 2 ^ k) : (((x / 2 ^ k % 2 ^ 1 : Nat) : Int) == 1) = (x / m % 2 == 1) := by
  subst hm
  rw [Nat.pow_one, Bool.eq_iff_iff, beq_iff_eq, beq_iff_eq]
  omega
/-- The lower bits alone tell the number. -/
theorem ext_low (x n : Nat) : ext (x / 2 ^ 0 % 2 ^ n) n = ext x n := by
  rw [Nat.pow_zero, Nat.div_one]
  unfold ext
  rw [Nat.mod_mod]
theorem rpart (x lo n : Nat) (hx : (x : Int) < 4294967296) (h1 : 1 ≤ n) (h2 : lo + n ≤ 32) (y : Int) (hy : ((x / 2 ^ lo % 2 ^ n : Nat) : Int) = y) (w : World) :
    Calls Try.prog 43 #[.int .u32 x, .int .i64 lo, .int .i64 n] w fun e w' => e = .returned (.int .i64 y) ∧ ∃ k, w' = w.drewN k := by
  rw [← hy]
  exact part_calls x lo n hx h1 h2 w
theorem rdec_calls (x : Nat) (hx : x < 4294967296) (w : World) :
    Calls Try.prog 20 #[.int .u32 x] w fun e w' => e = .returned (.tuple #[(decI x).val, .int .i64 (decE x)]) ∧ Below w.heap.size w w' := by
  have hx' : (x : Int) < 4294967296 := by omega
  have hu := one_bit x 29 536870912 (by rfl)
  have hv := one_bit x 28 268435456 (by rfl)
  have g29 := fun w => rpart x 29 1 hx' (by decide) (by decide) _ rfl w
  have g28 := fun w => rpart x 28 1 hx' (by decide) (by decide) _ rfl w
  have g24 := fun w => rpart x 24 4 hx' (by decide) (by decide) _ rfl w
  have g20 := fun w => rpart x 20 4 hx' (by decide) (by decide) _ rfl w
  have g16 := fun w => rpart x 16 4 hx' (by decide) (by decide) _ rfl w
  have g0 := fun w => rpart x 0 4 hx' (by decide) (by decide) ((x % 16 : Nat) : Int) (by rw [Nat.pow_zero, Nat.div_one]) w
  have g016 := fun w => rpart x 0 16 hx' (by decide) (by decide) ((x % 65536 : Nat) : Int) (by rw [Nat.pow_zero, Nat.div_one]) w
  have gl20 := fun w => rget_yes x 0 20 hx' (by decide) (by decide) w
  have gl24 := fun w => rget_yes x 0 24 hx' (by decide) (by decide) w
  have gx20 := fun w => rextend_yes (x / 2 ^ 0 % 2 ^ 20) 20 (by have := Nat.mod_lt (x / 2 ^ 0) (show 0 < 2 ^ 20 by decide); omega) (by decide) (by decide) w
  have gx24 := fun w => rextend_yes (x / 2 ^ 0 % 2 ^ 24) 24 (by have := Nat.mod_lt (x / 2 ^ 0) (show 0 < 2 ^ 24 by decide); omega) (by decide) (by decide) w
  rw [ext_low] at gx20 gx24
  have hd : x / 1073741824 = 0 ∨ x / 1073741824 = 1 ∨ x / 1073741824 = 2 ∨ x / 1073741824 = 3 := by omega
  have key := enc_cand x
  have bad := fun hg => renc_no (cand x) hg
  have good := fun hg => renc_yes (cand x) hg
  rcases hd with h | h | h | h
  · have hc : cand x = _ := if_pos h
    have g30 := fun w => rpart x 30 2 hx' (by decide) (by decide) 0 (by rw [show 2 ^ 30 = 1073741824 from rfl, h]; rfl) w
    rcases hk : isWord x with _ | _
    · rw [show decI x = zeroIns by unfold decI; rw [hk]; rfl, show decE x = 20 by unfold decE; rw [hk]; rfl]
      rcases hg : goodB (cand x) with _ | _
      · have ge := bad hg
        rw [hc] at ge
        exact rdec_reg_not x _ _ _ _ _ _ _ _ 0 w hu hv g30 g29 g28 g24 g20 g16 g0 ge
      · have hne : (encZ (cand x) == (x : Int)) = false := by
          rcases key w with ⟨h1, _⟩ | ⟨_, h2⟩ | ⟨_, _, h3⟩
          · rw [hk] at h1; exact absurd h1 (by decide)
          · rw [hg] at h2; exact absurd h2 (by decide)
          · exact h3
        have ge := good hg
        generalize encZ (cand x) = r at ge hne
        rw [hc] at ge
        exact rdec_reg_other x _ _ _ _ _ _ _ _ r w hu hv g30 g29 g28 g24 g20 g16 g0 hne ge
    · rw [show decI x = cand x by unfold decI; rw [hk]; rfl, show decE x = 0 by unfold decE; rw [hk]; rfl]
      have he : encZ (cand x) = (x : Int) ∧ goodB (cand x) = true := by
        unfold isWord at hk
        rw [Bool.and_eq_true] at hk
        exact ⟨beq_iff_eq.1 hk.2, hk.1⟩
      have ge := good he.2
      rw [he.1, hc] at ge
      rw [hc]
      exact rdec_reg_yes x _ _ _ _ _ _ _ _ w hu hv g30 g29 g28 g24 g20 g16 g0 ge
  · have hc : cand x = _ := (if_neg (by omega)).trans (if_pos h)
    have g30 := fun w => rpart x 30 2 hx' (by decide) (by decide) 1 (by rw [show 2 ^ 30 = 1073741824 from rfl, h]; rfl) w
    rcases hk : isWord x with _ | _
    · rw [show decI x = zeroIns by unfold decI; rw [hk]; rfl, show decE x = 20 by unfold decE; rw [hk]; rfl]
      rcases hg : goodB (cand x) with _ | _
      · have ge := bad hg
        rw [hc] at ge
        exact rdec_im_not x _ _ _ _ _ _ _ _ 0 w hu hv g30 g29 g28 g24 g20 g16 g016 ge
      · have hne : (encZ (cand x) == (x : Int)) = false := by
          rcases key w with ⟨h1, _⟩ | ⟨_, h2⟩ | ⟨_, _, h3⟩
          · rw [hk] at h1; exact absurd h1 (by decide)
          · rw [hg] at h2; exact absurd h2 (by decide)
          · exact h3
        have ge := good hg
        generalize encZ (cand x) = r at ge hne
        rw [hc] at ge
        exact rdec_im_other x _ _ _ _ _ _ _ _ r w hu hv g30 g29 g28 g24 g20 g16 g016 hne ge
    · rw [show decI x = cand x by unfold decI; rw [hk]; rfl, show decE x = 0 by unfold decE; rw [hk]; rfl]
      have he : encZ (cand x) = (x : Int) ∧ goodB (cand x) = true := by
        unfold isWord at hk
        rw [Bool.and_eq_true] at hk
        exact ⟨beq_iff_eq.1 hk.2, hk.1⟩
      have ge := good he.2
      rw [he.1, hc] at ge
      rw [hc]
      exact rdec_im_yes x _ _ _ _ _ _ _ _ w hu hv g30 g29 g28 g24 g20 g16 g016 ge
  · have hc : cand x = _ := ((if_neg (by omega)).trans (if_neg (by omega))).trans (if_pos h)
    have g30 := fun w => rpart x 30 2 hx' (by decide) (by decide) 2 (by rw [show 2 ^ 30 = 1073741824 from rfl, h]; rfl) w
    rcases hk : isWord x with _ | _
    · rw [show decI x = zeroIns by unfold decI; rw [hk]; rfl, show decE x = 20 by unfold decE; rw [hk]; rfl]
      rcases hg : goodB (cand x) with _ | _
      · have ge := bad hg
        rw [hc] at ge
        exact rdec_mem_not x _ _ _ _ _ _ _ _ 0 w hu hv g30 g29 g28 g24 g20 gl20 gx20 ge
      · have hne : (encZ (cand x) == (x : Int)) = false := by
          rcases key w with ⟨h1, _⟩ | ⟨_, h2⟩ | ⟨_, _, h3⟩
          · rw [hk] at h1; exact absurd h1 (by decide)
          · rw [hg] at h2; exact absurd h2 (by decide)
          · exact h3
        have ge := good hg
        generalize encZ (cand x) = r at ge hne
        rw [hc] at ge
        exact rdec_mem_other x _ _ _ _ _ _ _ _ r w hu hv g30 g29 g28 g24 g20 gl20 gx20 hne ge
    · rw [show decI x = cand x by unfold decI; rw [hk]; rfl, show decE x = 0 by unfold decE; rw [hk]; rfl]
      have he : encZ (cand x) = (x : Int) ∧ goodB (cand x) = true := by
        unfold isWord at hk
        rw [Bool.and_eq_true] at hk
        exact ⟨beq_iff_eq.1 hk.2, hk.1⟩
      have ge := good he.2
      rw [he.1, hc] at ge
      rw [hc]
      exact rdec_mem_yes x _ _ _ _ _ _ _ _ w hu hv g30 g29 g28 g24 g20 gl20 gx20 ge
  · by_cases hb : x / 536870912 % 2 = 1
    · have hu1 : (((x / 2 ^ 29 % 2 ^ 1 : Nat) : Int) == 1) = true := by rw [hu]; simp [hb]
      have hc : cand x = _ := (((if_neg (by omega)).trans (if_neg (by omega))).trans (if_neg (by omega))).trans (if_pos hb)
      have g30 := fun w => rpart x 30 2 hx' (by decide) (by decide) 3 (by rw [show 2 ^ 30 = 1073741824 from rfl, h]; rfl) w
      rcases hk : isWord x with _ | _
      · rw [show decI x = zeroIns by unfold decI; rw [hk]; rfl, show decE x = 20 by unfold decE; rw [hk]; rfl]
        rcases hg : goodB (cand x) with _ | _
        · have ge := bad hg
          rw [hc] at ge
          exact rdec_jump_not x _ _ _ _ _ _ 0 w hu1 hv g30 g29 g28 g24 gl24 gx24 ge
        · have hne : (encZ (cand x) == (x : Int)) = false := by
            rcases key w with ⟨h1, _⟩ | ⟨_, h2⟩ | ⟨_, _, h3⟩
            · rw [hk] at h1; exact absurd h1 (by decide)
            · rw [hg] at h2; exact absurd h2 (by decide)
            · exact h3
          have ge := good hg
          generalize encZ (cand x) = r at ge hne
          rw [hc] at ge
          exact rdec_jump_other x _ _ _ _ _ _ r w hu1 hv g30 g29 g28 g24 gl24 gx24 hne ge
      · rw [show decI x = cand x by unfold decI; rw [hk]; rfl, show decE x = 0 by unfold decE; rw [hk]; rfl]
        have he : encZ (cand x) = (x : Int) ∧ goodB (cand x) = true := by
          unfold isWord at hk
          rw [Bool.and_eq_true] at hk
          exact ⟨beq_iff_eq.1 hk.2, hk.1⟩
        have ge := good he.2
        rw [he.1, hc] at ge
        rw [hc]
        exact rdec_jump_yes x _ _ _ _ _ _ w hu1 hv g30 g29 g28 g24 gl24 gx24 ge
    · have hu1 : (((x / 2 ^ 29 % 2 ^ 1 : Nat) : Int) == 1) = false := by rw [hu]; simp [hb]
      have hc : cand x = _ := (((if_neg (by omega)).trans (if_neg (by omega))).trans (if_neg (by omega))).trans (if_neg hb)
      have g30 := fun w => rpart x 30 2 hx' (by decide) (by decide) 3 (by rw [show 2 ^ 30 = 1073741824 from rfl, h]; rfl) w
      rcases hk : isWord x with _ | _
      · rw [show decI x = zeroIns by unfold decI; rw [hk]; rfl, show decE x = 20 by unfold decE; rw [hk]; rfl]
        rcases hg : goodB (cand x) with _ | _
        · have ge := bad hg
          rw [hc] at ge
          exact rdec_back_not x _ _ _ _ _ 0 w hu1 hv g30 g29 g28 g24 g0 ge
        · have hne : (encZ (cand x) == (x : Int)) = false := by
            rcases key w with ⟨h1, _⟩ | ⟨_, h2⟩ | ⟨_, _, h3⟩
            · rw [hk] at h1; exact absurd h1 (by decide)
            · rw [hg] at h2; exact absurd h2 (by decide)
            · exact h3
          have ge := good hg
          generalize encZ (cand x) = r at ge hne
          rw [hc] at ge
          exact rdec_back_other x _ _ _ _ _ r w hu1 hv g30 g29 g28 g24 g0 hne ge
      · rw [show decI x = cand x by unfold decI; rw [hk]; rfl, show decE x = 0 by unfold decE; rw [hk]; rfl]
        have he : encZ (cand x) = (x : Int) ∧ goodB (cand x) = true := by
          unfold isWord at hk
          rw [Bool.and_eq_true] at hk
          exact ⟨beq_iff_eq.1 hk.2, hk.1⟩
        have ge := good he.2
        rw [he.1, hc] at ge
        rw [hc]
        exact rdec_back_yes x _ _ _ _ _ w hu1 hv g30 g29 g28 g24 g0 ge
end Go.Proofs.Ytbhdejoljappfaa
