/- risc.Decode: a word's instruction. -/
import Derived.Test.YtjlngglkljjgmaaEncode
import Derived.Laws.ResultCell
namespace Go.Proofs.Ytjlngglkljjgmaa
open Go.RowKit
set_option maxRecDepth 100000 in
set_option maxHeartbeats 1000000 in
theorem dec_reg_yes (x : Nat) (u v : Bool) (a b c op : Nat) (ha : (a : Int) < 16) (hb : (b : Int) < 16) (hc : (c : Int) < 16) (ho : (op : Int) < 16) (w : World)
    (hf : (x : Int) / 1073741824 = 0) (hu : (Go.bits .and .u32 ((x : Int) / 536870912) 1 == 1) = u) (hv : (Go.bits .and .u32 ((x : Int) / 268435456) 1 == 1) = v)
    (ga : ∀ w : World, Calls Try.prog 15 #[.int .u32 x, .int .i64 24, .int .i64 4] w fun e w' => e = .returned (.int .u32 a) ∧ ∃ k, w' = w.drewN k)
    (gb : ∀ w : World, Calls Try.prog 15 #[.int .u32 x, .int .i64 20, .int .i64 4] w fun e w' => e = .returned (.int .u32 b) ∧ ∃ k, w' = w.drewN k)
    (gop : ∀ w : World, Calls Try.prog 15 #[.int .u32 x, .int .i64 16, .int .i64 4] w fun e w' => e = .returned (.int .u32 op) ∧ ∃ k, w' = w.drewN k)
    (hm : Go.bits .and .u32 (x : Int) 15 = (c : Int))
    (ge : ∀ w : World, Calls Try.prog 17 #[.agg #[.int .i64 0, .bool u, .bool v, .int .i64 a, .int .i64 b, .int .i64 c, .int .i64 op, .int .i64 0]] w fun e w' => e = .returned (.tuple #[.int .u32 x, .int .i64 0]) ∧ Below w.heap.size w w') :
    Calls Try.prog 10 #[.int .u32 x] w fun e w' => e = .returned (.tuple #[.agg #[.int .i64 0, .bool u, .bool v, .int .i64 a, .int .i64 b, .int .i64 c, .int .i64 op, .int .i64 0], .int .i64 0]) ∧ Below w.heap.size w w' := by
  have GA := Lib.hid ga
  have GB := Lib.hid gb
  have GO := Lib.hid gop
  have GE := Lib.hid ge
  clear ge ga gb gop
  go_enter Try.func10, Try.ntmps10
  go_wp2_with (first | (go_at_call 15; ((first | (with_reducible refine (GA.out _).mono ?_) | (with_reducible refine (GB.out _).mono ?_) | (with_reducible refine (GO.out _).mono ?_)); rintro e w' ⟨rfl, nd, rfl⟩)) | (go_at_call 17; (with_reducible refine (GE.out _).mono ?_); rintro e w1 ⟨rfl, hb1⟩; obtain ⟨hcell, hfz⟩ := bcell hb1; have hz : w.heap.size + 1 < w1.heap.size := by { have := hb1.size; simp at this; omega }; have HB := Lib.hid hb1; clear hb1))
  have z0 : (w1.cell? ⟨w.heap.size, 0, none⟩).isSome = true := by rw [hcell _ _ (by simp <;> omega)]; simp [go_sem]
  have z1 : (w1.cell? ⟨w.heap.size, 1, none⟩).isSome = true := by rw [hcell _ _ (by simp <;> omega)]; simp [go_sem]
  have z2 : (w1.cell? ⟨w.heap.size, 2, none⟩).isSome = true := by rw [hcell _ _ (by simp <;> omega)]; simp [go_sem]
  have z3 : (w1.cell? ⟨w.heap.size, 3, none⟩).isSome = true := by rw [hcell _ _ (by simp <;> omega)]; simp [go_sem]
  have z4 : (w1.cell? ⟨w.heap.size, 4, none⟩).isSome = true := by rw [hcell _ _ (by simp <;> omega)]; simp [go_sem]
  have z5 : (w1.cell? ⟨w.heap.size, 5, none⟩).isSome = true := by rw [hcell _ _ (by simp <;> omega)]; simp [go_sem]
  have z6 : (w1.cell? ⟨w.heap.size, 6, none⟩).isSome = true := by rw [hcell _ _ (by simp <;> omega)]; simp [go_sem]
  have z7 : (w1.cell? ⟨w.heap.size, 7, none⟩).isSome = true := by rw [hcell _ _ (by simp <;> omega)]; simp [go_sem]
  clear hcell hfz
  refine bodyPost_ret (v := .tuple #[.agg #[.int .i64 0, .bool u, .bool v, .int .i64 a, .int .i64 b, .int .i64 c, .int .i64 op, .int .i64 0], .int .i64 0]) (by simp [results, Try.results10, go_sem, z0, z1, z2, z3, z4, z5, z6, z7]) rfl ⟨rfl, ?_⟩
  repeat (refine Below.setCell ?_ (by simp) _)
  refine Below.trans ?_ (HB.out.mono (by simp <;> omega))
  repeat (first | exact Below.refl _ _ | refine Below.setCell ?_ (by simp) _ | apply below_drewN | refine Below.alloc ?_ (by simp) _)
set_option maxRecDepth 100000 in
set_option maxHeartbeats 1000000 in
theorem dec_reg_not (x : Nat) (u v : Bool) (a b c op : Nat) (ha : (a : Int) < 16) (hb : (b : Int) < 16) (hc : (c : Int) < 16) (ho : (op : Int) < 16) (r : Int) (w : World)
    (hf : (x : Int) / 1073741824 = 0) (hu : (Go.bits .and .u32 ((x : Int) / 536870912) 1 == 1) = u) (hv : (Go.bits .and .u32 ((x : Int) / 268435456) 1 == 1) = v)
    (ga : ∀ w : World, Calls Try.prog 15 #[.int .u32 x, .int .i64 24, .int .i64 4] w fun e w' => e = .returned (.int .u32 a) ∧ ∃ k, w' = w.drewN k)
    (gb : ∀ w : World, Calls Try.prog 15 #[.int .u32 x, .int .i64 20, .int .i64 4] w fun e w' => e = .returned (.int .u32 b) ∧ ∃ k, w' = w.drewN k)
    (gop : ∀ w : World, Calls Try.prog 15 #[.int .u32 x, .int .i64 16, .int .i64 4] w fun e w' => e = .returned (.int .u32 op) ∧ ∃ k, w' = w.drewN k)
    (hm : Go.bits .and .u32 (x : Int) 15 = (c : Int))
    (ge : ∀ w : World, Calls Try.prog 17 #[.agg #[.int .i64 0, .bool u, .bool v, .int .i64 a, .int .i64 b, .int .i64 c, .int .i64 op, .int .i64 0]] w fun e w' => e = .returned (.tuple #[.int .u32 r, .int .i64 20]) ∧ Below w.heap.size w w') :
    Calls Try.prog 10 #[.int .u32 x] w fun e w' => e = .returned (.tuple #[.agg #[.int .i64 0, .bool false, .bool false, .int .i64 0, .int .i64 0, .int .i64 0, .int .i64 0, .int .i64 0], .int .i64 20]) ∧ Below w.heap.size w w' := by
  have GA := Lib.hid ga
  have GB := Lib.hid gb
  have GO := Lib.hid gop
  have GE := Lib.hid ge
  clear ge ga gb gop
  go_enter Try.func10, Try.ntmps10
  go_wp2_with (first | (go_at_call 15; ((first | (with_reducible refine (GA.out _).mono ?_) | (with_reducible refine (GB.out _).mono ?_) | (with_reducible refine (GO.out _).mono ?_)); rintro e w' ⟨rfl, nd, rfl⟩)) | (go_at_call 17; (with_reducible refine (GE.out _).mono ?_); rintro e w1 ⟨rfl, hb1⟩; obtain ⟨hcell, hfz⟩ := bcell hb1; have hz : w.heap.size + 1 < w1.heap.size := by { have := hb1.size; simp at this; omega }; have HB := Lib.hid hb1; clear hb1))
  have z0 : (w1.cell? ⟨w.heap.size, 0, none⟩).isSome = true := by rw [hcell _ _ (by simp <;> omega)]; simp [go_sem]
  have z1 : (w1.cell? ⟨w.heap.size, 1, none⟩).isSome = true := by rw [hcell _ _ (by simp <;> omega)]; simp [go_sem]
  have z2 : (w1.cell? ⟨w.heap.size, 2, none⟩).isSome = true := by rw [hcell _ _ (by simp <;> omega)]; simp [go_sem]
  have z3 : (w1.cell? ⟨w.heap.size, 3, none⟩).isSome = true := by rw [hcell _ _ (by simp <;> omega)]; simp [go_sem]
  have z4 : (w1.cell? ⟨w.heap.size, 4, none⟩).isSome = true := by rw [hcell _ _ (by simp <;> omega)]; simp [go_sem]
  have z5 : (w1.cell? ⟨w.heap.size, 5, none⟩).isSome = true := by rw [hcell _ _ (by simp <;> omega)]; simp [go_sem]
  have z6 : (w1.cell? ⟨w.heap.size, 6, none⟩).isSome = true := by rw [hcell _ _ (by simp <;> omega)]; simp [go_sem]
  have z7 : (w1.cell? ⟨w.heap.size, 7, none⟩).isSome = true := by rw [hcell _ _ (by simp <;> omega)]; simp [go_sem]
  clear hcell hfz
  refine bodyPost_ret (v := .tuple #[.agg #[.int .i64 0, .bool false, .bool false, .int .i64 0, .int .i64 0, .int .i64 0, .int .i64 0, .int .i64 0], .int .i64 20]) (by simp [results, Try.results10, go_sem, z0, z1, z2, z3, z4, z5, z6, z7]) rfl ⟨rfl, ?_⟩
  repeat (refine Below.setCell ?_ (by simp) _)
  refine Below.trans ?_ (HB.out.mono (by simp <;> omega))
  repeat (first | exact Below.refl _ _ | refine Below.setCell ?_ (by simp) _ | apply below_drewN | refine Below.alloc ?_ (by simp) _)
set_option maxRecDepth 100000 in
set_option maxHeartbeats 1000000 in
theorem dec_reg_other (x : Nat) (u v : Bool) (a b c op : Nat) (ha : (a : Int) < 16) (hb : (b : Int) < 16) (hc : (c : Int) < 16) (ho : (op : Int) < 16) (r : Int) (w : World)
    (hf : (x : Int) / 1073741824 = 0) (hu : (Go.bits .and .u32 ((x : Int) / 536870912) 1 == 1) = u) (hv : (Go.bits .and .u32 ((x : Int) / 268435456) 1 == 1) = v)
    (ga : ∀ w : World, Calls Try.prog 15 #[.int .u32 x, .int .i64 24, .int .i64 4] w fun e w' => e = .returned (.int .u32 a) ∧ ∃ k, w' = w.drewN k)
    (gb : ∀ w : World, Calls Try.prog 15 #[.int .u32 x, .int .i64 20, .int .i64 4] w fun e w' => e = .returned (.int .u32 b) ∧ ∃ k, w' = w.drewN k)
    (gop : ∀ w : World, Calls Try.prog 15 #[.int .u32 x, .int .i64 16, .int .i64 4] w fun e w' => e = .returned (.int .u32 op) ∧ ∃ k, w' = w.drewN k)
    (hm : Go.bits .and .u32 (x : Int) 15 = (c : Int)) (hr : (r == (x : Int)) = false)
    (ge : ∀ w : World, Calls Try.prog 17 #[.agg #[.int .i64 0, .bool u, .bool v, .int .i64 a, .int .i64 b, .int .i64 c, .int .i64 op, .int .i64 0]] w fun e w' => e = .returned (.tuple #[.int .u32 r, .int .i64 0]) ∧ Below w.heap.size w w') :
    Calls Try.prog 10 #[.int .u32 x] w fun e w' => e = .returned (.tuple #[.agg #[.int .i64 0, .bool false, .bool false, .int .i64 0, .int .i64 0, .int .i64 0, .int .i64 0, .int .i64 0], .int .i64 20]) ∧ Below w.heap.size w w' := by
  have GA := Lib.hid ga
  have GB := Lib.hid gb
  have GO := Lib.hid gop
  have GE := Lib.hid ge
  have HR := Lib.hid hr
  clear ge hr ga gb gop
  go_enter Try.func10, Try.ntmps10
  go_wp2_with (first | (go_at_call 15; ((first | (with_reducible refine (GA.out _).mono ?_) | (with_reducible refine (GB.out _).mono ?_) | (with_reducible refine (GO.out _).mono ?_)); rintro e w' ⟨rfl, nd, rfl⟩)) | (go_at_call 17; (with_reducible refine (GE.out _).mono ?_); rintro e w1 ⟨rfl, hb1⟩; obtain ⟨hcell, hfz⟩ := bcell hb1; have hz : w.heap.size + 1 < w1.heap.size := by { have := hb1.size; simp at this; omega }; have HB := Lib.hid hb1; clear hb1; have hr2 := HR.out))
  have z0 : (w1.cell? ⟨w.heap.size, 0, none⟩).isSome = true := by rw [hcell _ _ (by simp <;> omega)]; simp [go_sem]
  have z1 : (w1.cell? ⟨w.heap.size, 1, none⟩).isSome = true := by rw [hcell _ _ (by simp <;> omega)]; simp [go_sem]
  have z2 : (w1.cell? ⟨w.heap.size, 2, none⟩).isSome = true := by rw [hcell _ _ (by simp <;> omega)]; simp [go_sem]
  have z3 : (w1.cell? ⟨w.heap.size, 3, none⟩).isSome = true := by rw [hcell _ _ (by simp <;> omega)]; simp [go_sem]
  have z4 : (w1.cell? ⟨w.heap.size, 4, none⟩).isSome = true := by rw [hcell _ _ (by simp <;> omega)]; simp [go_sem]
  have z5 : (w1.cell? ⟨w.heap.size, 5, none⟩).isSome = true := by rw [hcell _ _ (by simp <;> omega)]; simp [go_sem]
  have z6 : (w1.cell? ⟨w.heap.size, 6, none⟩).isSome = true := by rw [hcell _ _ (by simp <;> omega)]; simp [go_sem]
  have z7 : (w1.cell? ⟨w.heap.size, 7, none⟩).isSome = true := by rw [hcell _ _ (by simp <;> omega)]; simp [go_sem]
  clear hcell hfz
  refine bodyPost_ret (v := .tuple #[.agg #[.int .i64 0, .bool false, .bool false, .int .i64 0, .int .i64 0, .int .i64 0, .int .i64 0, .int .i64 0], .int .i64 20]) (by simp [results, Try.results10, go_sem, z0, z1, z2, z3, z4, z5, z6, z7]) rfl ⟨rfl, ?_⟩
  repeat (refine Below.setCell ?_ (by simp) _)
  refine Below.trans ?_ (HB.out.mono (by simp <;> omega))
  repeat (first | exact Below.refl _ _ | refine Below.setCell ?_ (by simp) _ | apply below_drewN | refine Below.alloc ?_ (by simp) _)
set_option maxRecDepth 100000 in
set_option maxHeartbeats 1000000 in
theorem dec_im_yes (x : Nat) (u v : Bool) (a b op im : Nat) (ha : (a : Int) < 16) (hb : (b : Int) < 16) (ho : (op : Int) < 16) (hi : (im : Int) < 65536) (w : World)
    (hf : (x : Int) / 1073741824 = 1) (hu : (Go.bits .and .u32 ((x : Int) / 536870912) 1 == 1) = u) (hv : (Go.bits .and .u32 ((x : Int) / 268435456) 1 == 1) = v)
    (ga : ∀ w : World, Calls Try.prog 15 #[.int .u32 x, .int .i64 24, .int .i64 4] w fun e w' => e = .returned (.int .u32 a) ∧ ∃ k, w' = w.drewN k)
    (gb : ∀ w : World, Calls Try.prog 15 #[.int .u32 x, .int .i64 20, .int .i64 4] w fun e w' => e = .returned (.int .u32 b) ∧ ∃ k, w' = w.drewN k)
    (gop : ∀ w : World, Calls Try.prog 15 #[.int .u32 x, .int .i64 16, .int .i64 4] w fun e w' => e = .returned (.int .u32 op) ∧ ∃ k, w' = w.drewN k)
    (hm : IntKind.u16.wrap (x : Int) = (im : Int))
    (ge : ∀ w : World, Calls Try.prog 17 #[.agg #[.int .i64 1, .bool u, .bool v, .int .i64 a, .int .i64 b, .int .i64 0, .int .i64 op, .int .i64 im]] w fun e w' => e = .returned (.tuple #[.int .u32 x, .int .i64 0]) ∧ Below w.heap.size w w') :
    Calls Try.prog 10 #[.int .u32 x] w fun e w' => e = .returned (.tuple #[.agg #[.int .i64 1, .bool u, .bool v, .int .i64 a, .int .i64 b, .int .i64 0, .int .i64 op, .int .i64 im], .int .i64 0]) ∧ Below w.heap.size w w' := by
  have GA := Lib.hid ga
  have GB := Lib.hid gb
  have GO := Lib.hid gop
  have GE := Lib.hid ge
  clear ge ga gb gop
  go_enter Try.func10, Try.ntmps10
  go_wp2_with (first | (go_at_call 15; ((first | (with_reducible refine (GA.out _).mono ?_) | (with_reducible refine (GB.out _).mono ?_) | (with_reducible refine (GO.out _).mono ?_)); rintro e w' ⟨rfl, nd, rfl⟩)) | (go_at_call 17; (with_reducible refine (GE.out _).mono ?_); rintro e w1 ⟨rfl, hb1⟩; obtain ⟨hcell, hfz⟩ := bcell hb1; have hz : w.heap.size + 1 < w1.heap.size := by { have := hb1.size; simp at this; omega }; have HB := Lib.hid hb1; clear hb1 hm hi ho hb ha hf hu hv))
  have z0 : (w1.cell? ⟨w.heap.size, 0, none⟩).isSome = true := by rw [hcell _ _ (by simp <;> omega)]; simp [go_sem]
  have z1 : (w1.cell? ⟨w.heap.size, 1, none⟩).isSome = true := by rw [hcell _ _ (by simp <;> omega)]; simp [go_sem]
  have z2 : (w1.cell? ⟨w.heap.size, 2, none⟩).isSome = true := by rw [hcell _ _ (by simp <;> omega)]; simp [go_sem]
  have z3 : (w1.cell? ⟨w.heap.size, 3, none⟩).isSome = true := by rw [hcell _ _ (by simp <;> omega)]; simp [go_sem]
  have z4 : (w1.cell? ⟨w.heap.size, 4, none⟩).isSome = true := by rw [hcell _ _ (by simp <;> omega)]; simp [go_sem]
  have z5 : (w1.cell? ⟨w.heap.size, 5, none⟩).isSome = true := by rw [hcell _ _ (by simp <;> omega)]; simp [go_sem]
  have z6 : (w1.cell? ⟨w.heap.size, 6, none⟩).isSome = true := by rw [hcell _ _ (by simp <;> omega)]; simp [go_sem]
  have z7 : (w1.cell? ⟨w.heap.size, 7, none⟩).isSome = true := by rw [hcell _ _ (by simp <;> omega)]; simp [go_sem]
  clear hcell hfz
  refine bodyPost_ret (v := .tuple #[.agg #[.int .i64 1, .bool u, .bool v, .int .i64 a, .int .i64 b, .int .i64 0, .int .i64 op, .int .i64 im], .int .i64 0]) (by simp [results, Try.results10, go_sem, z0, z1, z2, z3, z4, z5, z6, z7]) rfl ⟨rfl, ?_⟩
  repeat (refine Below.setCell ?_ (by simp) _)
  refine Below.trans ?_ (HB.out.mono (by simp <;> omega))
  repeat (first | exact Below.refl _ _ | refine Below.setCell ?_ (by simp) _ | apply below_drewN | refine Below.alloc ?_ (by simp) _)
set_option maxRecDepth 100000 in
set_option maxHeartbeats 1000000 in
theorem dec_im_not (x : Nat) (u v : Bool) (a b op im : Nat) (ha : (a : Int) < 16) (hb : (b : Int) < 16) (ho : (op : Int) < 16) (hi : (im : Int) < 65536) (r : Int) (w : World)
    (hf : (x : Int) / 1073741824 = 1) (hu : (Go.bits .and .u32 ((x : Int) / 536870912) 1 == 1) = u) (hv : (Go.bits .and .u32 ((x : Int) / 268435456) 1 == 1) = v)
    (ga : ∀ w : World, Calls Try.prog 15 #[.int .u32 x, .int .i64 24, .int .i64 4] w fun e w' => e = .returned (.int .u32 a) ∧ ∃ k, w' = w.drewN k)
    (gb : ∀ w : World, Calls Try.prog 15 #[.int .u32 x, .int .i64 20, .int .i64 4] w fun e w' => e = .returned (.int .u32 b) ∧ ∃ k, w' = w.drewN k)
    (gop : ∀ w : World, Calls Try.prog 15 #[.int .u32 x, .int .i64 16, .int .i64 4] w fun e w' => e = .returned (.int .u32 op) ∧ ∃ k, w' = w.drewN k)
    (hm : IntKind.u16.wrap (x : Int) = (im : Int))
    (ge : ∀ w : World, Calls Try.prog 17 #[.agg #[.int .i64 1, .bool u, .bool v, .int .i64 a, .int .i64 b, .int .i64 0, .int .i64 op, .int .i64 im]] w fun e w' => e = .returned (.tuple #[.int .u32 r, .int .i64 20]) ∧ Below w.heap.size w w') :
    Calls Try.prog 10 #[.int .u32 x] w fun e w' => e = .returned (.tuple #[.agg #[.int .i64 0, .bool false, .bool false, .int .i64 0, .int .i64 0, .int .i64 0, .int .i64 0, .int .i64 0], .int .i64 20]) ∧ Below w.heap.size w w' := by
  have GA := Lib.hid ga
  have GB := Lib.hid gb
  have GO := Lib.hid gop
  have GE := Lib.hid ge
  clear ge ga gb gop
  go_enter Try.func10, Try.ntmps10
  go_wp2_with (first | (go_at_call 15; ((first | (with_reducible refine (GA.out _).mono ?_) | (with_reducible refine (GB.out _).mono ?_) | (with_reducible refine (GO.out _).mono ?_)); rintro e w' ⟨rfl, nd, rfl⟩)) | (go_at_call 17; (with_reducible refine (GE.out _).mono ?_); rintro e w1 ⟨rfl, hb1⟩; obtain ⟨hcell, hfz⟩ := bcell hb1; have hz : w.heap.size + 1 < w1.heap.size := by { have := hb1.size; simp at this; omega }; have HB := Lib.hid hb1; clear hb1 hm hi ho hb ha hf hu hv))
  have z0 : (w1.cell? ⟨w.heap.size, 0, none⟩).isSome = true := by rw [hcell _ _ (by simp <;> omega)]; simp [go_sem]
  have z1 : (w1.cell? ⟨w.heap.size, 1, none⟩).isSome = true := by rw [hcell _ _ (by simp <;> omega)]; simp [go_sem]
  have z2 : (w1.cell? ⟨w.heap.size, 2, none⟩).isSome = true := by rw [hcell _ _ (by simp <;> omega)]; simp [go_sem]
  have z3 : (w1.cell? ⟨w.heap.size, 3, none⟩).isSome = true := by rw [hcell _ _ (by simp <;> omega)]; simp [go_sem]
  have z4 : (w1.cell? ⟨w.heap.size, 4, none⟩).isSome = true := by rw [hcell _ _ (by simp <;> omega)]; simp [go_sem]
  have z5 : (w1.cell? ⟨w.heap.size, 5, none⟩).isSome = true := by rw [hcell _ _ (by simp <;> omega)]; simp [go_sem]
  have z6 : (w1.cell? ⟨w.heap.size, 6, none⟩).isSome = true := by rw [hcell _ _ (by simp <;> omega)]; simp [go_sem]
  have z7 : (w1.cell? ⟨w.heap.size, 7, none⟩).isSome = true := by rw [hcell _ _ (by simp <;> omega)]; simp [go_sem]
  clear hcell hfz
  refine bodyPost_ret (v := .tuple #[.agg #[.int .i64 0, .bool false, .bool false, .int .i64 0, .int .i64 0, .int .i64 0, .int .i64 0, .int .i64 0], .int .i64 20]) (by simp [results, Try.results10, go_sem, z0, z1, z2, z3, z4, z5, z6, z7]) rfl ⟨rfl, ?_⟩
  repeat (refine Below.setCell ?_ (by simp) _)
  refine Below.trans ?_ (HB.out.mono (by simp <;> omega))
  repeat (first | exact Below.refl _ _ | refine Below.setCell ?_ (by simp) _ | apply below_drewN | refine Below.alloc ?_ (by simp) _)
set_option maxRecDepth 100000 in
set_option maxHeartbeats 1000000 in
theorem dec_im_other (x : Nat) (u v : Bool) (a b op im : Nat) (ha : (a : Int) < 16) (hb : (b : Int) < 16) (ho : (op : Int) < 16) (hi : (im : Int) < 65536) (r : Int) (w : World)
    (hf : (x : Int) / 1073741824 = 1) (hu : (Go.bits .and .u32 ((x : Int) / 536870912) 1 == 1) = u) (hv : (Go.bits .and .u32 ((x : Int) / 268435456) 1 == 1) = v)
    (ga : ∀ w : World, Calls Try.prog 15 #[.int .u32 x, .int .i64 24, .int .i64 4] w fun e w' => e = .returned (.int .u32 a) ∧ ∃ k, w' = w.drewN k)
    (gb : ∀ w : World, Calls Try.prog 15 #[.int .u32 x, .int .i64 20, .int .i64 4] w fun e w' => e = .returned (.int .u32 b) ∧ ∃ k, w' = w.drewN k)
    (gop : ∀ w : World, Calls Try.prog 15 #[.int .u32 x, .int .i64 16, .int .i64 4] w fun e w' => e = .returned (.int .u32 op) ∧ ∃ k, w' = w.drewN k)
    (hm : IntKind.u16.wrap (x : Int) = (im : Int)) (hr : (r == (x : Int)) = false)
    (ge : ∀ w : World, Calls Try.prog 17 #[.agg #[.int .i64 1, .bool u, .bool v, .int .i64 a, .int .i64 b, .int .i64 0, .int .i64 op, .int .i64 im]] w fun e w' => e = .returned (.tuple #[.int .u32 r, .int .i64 0]) ∧ Below w.heap.size w w') :
    Calls Try.prog 10 #[.int .u32 x] w fun e w' => e = .returned (.tuple #[.agg #[.int .i64 0, .bool false, .bool false, .int .i64 0, .int .i64 0, .int .i64 0, .int .i64 0, .int .i64 0], .int .i64 20]) ∧ Below w.heap.size w w' := by
  have GA := Lib.hid ga
  have GB := Lib.hid gb
  have GO := Lib.hid gop
  have GE := Lib.hid ge
  have HR := Lib.hid hr
  clear ge hr ga gb gop
  go_enter Try.func10, Try.ntmps10
  go_wp2_with (first | (go_at_call 15; ((first | (with_reducible refine (GA.out _).mono ?_) | (with_reducible refine (GB.out _).mono ?_) | (with_reducible refine (GO.out _).mono ?_)); rintro e w' ⟨rfl, nd, rfl⟩)) | (go_at_call 17; (with_reducible refine (GE.out _).mono ?_); rintro e w1 ⟨rfl, hb1⟩; obtain ⟨hcell, hfz⟩ := bcell hb1; have hz : w.heap.size + 1 < w1.heap.size := by { have := hb1.size; simp at this; omega }; have HB := Lib.hid hb1; clear hb1 hm hi ho hb ha hf hu hv; have hr2 := HR.out))
  have z0 : (w1.cell? ⟨w.heap.size, 0, none⟩).isSome = true := by rw [hcell _ _ (by simp <;> omega)]; simp [go_sem]
  have z1 : (w1.cell? ⟨w.heap.size, 1, none⟩).isSome = true := by rw [hcell _ _ (by simp <;> omega)]; simp [go_sem]
  have z2 : (w1.cell? ⟨w.heap.size, 2, none⟩).isSome = true := by rw [hcell _ _ (by simp <;> omega)]; simp [go_sem]
  have z3 : (w1.cell? ⟨w.heap.size, 3, none⟩).isSome = true := by rw [hcell _ _ (by simp <;> omega)]; simp [go_sem]
  have z4 : (w1.cell? ⟨w.heap.size, 4, none⟩).isSome = true := by rw [hcell _ _ (by simp <;> omega)]; simp [go_sem]
  have z5 : (w1.cell? ⟨w.heap.size, 5, none⟩).isSome = true := by rw [hcell _ _ (by simp <;> omega)]; simp [go_sem]
  have z6 : (w1.cell? ⟨w.heap.size, 6, none⟩).isSome = true := by rw [hcell _ _ (by simp <;> omega)]; simp [go_sem]
  have z7 : (w1.cell? ⟨w.heap.size, 7, none⟩).isSome = true := by rw [hcell _ _ (by simp <;> omega)]; simp [go_sem]
  clear hcell hfz
  refine bodyPost_ret (v := .tuple #[.agg #[.int .i64 0, .bool false, .bool false, .int .i64 0, .int .i64 0, .int .i64 0, .int .i64 0, .int .i64 0], .int .i64 20]) (by simp [results, Try.results10, go_sem, z0, z1, z2, z3, z4, z5, z6, z7]) rfl ⟨rfl, ?_⟩
  repeat (refine Below.setCell ?_ (by simp) _)
  refine Below.trans ?_ (HB.out.mono (by simp <;> omega))
  repeat (first | exact Below.refl _ _ | refine Below.setCell ?_ (by simp) _ | apply below_drewN | refine Below.alloc ?_ (by simp) _)
set_option maxRecDepth 100000 in
set_option maxHeartbeats 1000000 in
theorem dec_mem_yes (x : Nat) (u v : Bool) (a b : Nat) (im : Int) (ha : (a : Int) < 16) (hb : (b : Int) < 16) (w : World)
    (hf : (x : Int) / 1073741824 = 2) (hu : (Go.bits .and .u32 ((x : Int) / 536870912) 1 == 1) = u) (hv : (Go.bits .and .u32 ((x : Int) / 268435456) 1 == 1) = v)
    (ga : ∀ w : World, Calls Try.prog 15 #[.int .u32 x, .int .i64 24, .int .i64 4] w fun e w' => e = .returned (.int .u32 a) ∧ ∃ k, w' = w.drewN k)
    (gb : ∀ w : World, Calls Try.prog 15 #[.int .u32 x, .int .i64 20, .int .i64 4] w fun e w' => e = .returned (.int .u32 b) ∧ ∃ k, w' = w.drewN k)
    (gi : ∀ w : World, Calls Try.prog 16 #[.int .u32 x, .int .i64 20] w fun e w' => e = .returned (.int .i64 im) ∧ w = w')
    (ge : ∀ w : World, Calls Try.prog 17 #[.agg #[.int .i64 2, .bool u, .bool v, .int .i64 a, .int .i64 b, .int .i64 0, .int .i64 0, .int .i64 im]] w fun e w' => e = .returned (.tuple #[.int .u32 x, .int .i64 0]) ∧ Below w.heap.size w w') :
    Calls Try.prog 10 #[.int .u32 x] w fun e w' => e = .returned (.tuple #[.agg #[.int .i64 2, .bool u, .bool v, .int .i64 a, .int .i64 b, .int .i64 0, .int .i64 0, .int .i64 im], .int .i64 0]) ∧ Below w.heap.size w w' := by
  have GA := Lib.hid ga
  have GB := Lib.hid gb
  have GI := Lib.hid gi
  have GE := Lib.hid ge
  clear ge ga gb gi
  go_enter Try.func10, Try.ntmps10
  go_wp2_with (first | (go_at_call 15; ((first | (with_reducible refine (GA.out _).mono ?_) | (with_reducible refine (GB.out _).mono ?_)); rintro e w' ⟨rfl, nd, rfl⟩)) | (go_at_call 16; (with_reducible refine (GI.out _).mono ?_); rintro e w' ⟨rfl, rfl⟩) | (go_at_call 17; (with_reducible refine (GE.out _).mono ?_); rintro e w1 ⟨rfl, hb1⟩; obtain ⟨hcell, hfz⟩ := bcell hb1; have hz : w.heap.size + 1 < w1.heap.size := by { have := hb1.size; simp at this; omega }; have HB := Lib.hid hb1; clear hb1))
  have z0 : (w1.cell? ⟨w.heap.size, 0, none⟩).isSome = true := by rw [hcell _ _ (by simp <;> omega)]; simp [go_sem]
  have z1 : (w1.cell? ⟨w.heap.size, 1, none⟩).isSome = true := by rw [hcell _ _ (by simp <;> omega)]; simp [go_sem]
  have z2 : (w1.cell? ⟨w.heap.size, 2, none⟩).isSome = true := by rw [hcell _ _ (by simp <;> omega)]; simp [go_sem]
  have z3 : (w1.cell? ⟨w.heap.size, 3, none⟩).isSome = true := by rw [hcell _ _ (by simp <;> omega)]; simp [go_sem]
  have z4 : (w1.cell? ⟨w.heap.size, 4, none⟩).isSome = true := by rw [hcell _ _ (by simp <;> omega)]; simp [go_sem]
  have z5 : (w1.cell? ⟨w.heap.size, 5, none⟩).isSome = true := by rw [hcell _ _ (by simp <;> omega)]; simp [go_sem]
  have z6 : (w1.cell? ⟨w.heap.size, 6, none⟩).isSome = true := by rw [hcell _ _ (by simp <;> omega)]; simp [go_sem]
  have z7 : (w1.cell? ⟨w.heap.size, 7, none⟩).isSome = true := by rw [hcell _ _ (by simp <;> omega)]; simp [go_sem]
  clear hcell hfz
  refine bodyPost_ret (v := .tuple #[.agg #[.int .i64 2, .bool u, .bool v, .int .i64 a, .int .i64 b, .int .i64 0, .int .i64 0, .int .i64 im], .int .i64 0]) (by simp [results, Try.results10, go_sem, z0, z1, z2, z3, z4, z5, z6, z7]) rfl ⟨rfl, ?_⟩
  repeat (refine Below.setCell ?_ (by simp) _)
  refine Below.trans ?_ (HB.out.mono (by simp <;> omega))
  repeat (first | exact Below.refl _ _ | refine Below.setCell ?_ (by simp) _ | apply below_drewN | refine Below.alloc ?_ (by simp) _)
set_option maxRecDepth 100000 in
set_option maxHeartbeats 1000000 in
theorem dec_mem_not (x : Nat) (u v : Bool) (a b : Nat) (im : Int) (ha : (a : Int) < 16) (hb : (b : Int) < 16) (r : Int) (w : World)
    (hf : (x : Int) / 1073741824 = 2) (hu : (Go.bits .and .u32 ((x : Int) / 536870912) 1 == 1) = u) (hv : (Go.bits .and .u32 ((x : Int) / 268435456) 1 == 1) = v)
    (ga : ∀ w : World, Calls Try.prog 15 #[.int .u32 x, .int .i64 24, .int .i64 4] w fun e w' => e = .returned (.int .u32 a) ∧ ∃ k, w' = w.drewN k)
    (gb : ∀ w : World, Calls Try.prog 15 #[.int .u32 x, .int .i64 20, .int .i64 4] w fun e w' => e = .returned (.int .u32 b) ∧ ∃ k, w' = w.drewN k)
    (gi : ∀ w : World, Calls Try.prog 16 #[.int .u32 x, .int .i64 20] w fun e w' => e = .returned (.int .i64 im) ∧ w = w')
    (ge : ∀ w : World, Calls Try.prog 17 #[.agg #[.int .i64 2, .bool u, .bool v, .int .i64 a, .int .i64 b, .int .i64 0, .int .i64 0, .int .i64 im]] w fun e w' => e = .returned (.tuple #[.int .u32 r, .int .i64 20]) ∧ Below w.heap.size w w') :
    Calls Try.prog 10 #[.int .u32 x] w fun e w' => e = .returned (.tuple #[.agg #[.int .i64 0, .bool false, .bool false, .int .i64 0, .int .i64 0, .int .i64 0, .int .i64 0, .int .i64 0], .int .i64 20]) ∧ Below w.heap.size w w' := by
  have GA := Lib.hid ga
  have GB := Lib.hid gb
  have GI := Lib.hid gi
  have GE := Lib.hid ge
  clear ge ga gb gi
  go_enter Try.func10, Try.ntmps10
  go_wp2_with (first | (go_at_call 15; ((first | (with_reducible refine (GA.out _).mono ?_) | (with_reducible refine (GB.out _).mono ?_)); rintro e w' ⟨rfl, nd, rfl⟩)) | (go_at_call 16; (with_reducible refine (GI.out _).mono ?_); rintro e w' ⟨rfl, rfl⟩) | (go_at_call 17; (with_reducible refine (GE.out _).mono ?_); rintro e w1 ⟨rfl, hb1⟩; obtain ⟨hcell, hfz⟩ := bcell hb1; have hz : w.heap.size + 1 < w1.heap.size := by { have := hb1.size; simp at this; omega }; have HB := Lib.hid hb1; clear hb1))
  have z0 : (w1.cell? ⟨w.heap.size, 0, none⟩).isSome = true := by rw [hcell _ _ (by simp <;> omega)]; simp [go_sem]
  have z1 : (w1.cell? ⟨w.heap.size, 1, none⟩).isSome = true := by rw [hcell _ _ (by simp <;> omega)]; simp [go_sem]
  have z2 : (w1.cell? ⟨w.heap.size, 2, none⟩).isSome = true := by rw [hcell _ _ (by simp <;> omega)]; simp [go_sem]
  have z3 : (w1.cell? ⟨w.heap.size, 3, none⟩).isSome = true := by rw [hcell _ _ (by simp <;> omega)]; simp [go_sem]
  have z4 : (w1.cell? ⟨w.heap.size, 4, none⟩).isSome = true := by rw [hcell _ _ (by simp <;> omega)]; simp [go_sem]
  have z5 : (w1.cell? ⟨w.heap.size, 5, none⟩).isSome = true := by rw [hcell _ _ (by simp <;> omega)]; simp [go_sem]
  have z6 : (w1.cell? ⟨w.heap.size, 6, none⟩).isSome = true := by rw [hcell _ _ (by simp <;> omega)]; simp [go_sem]
  have z7 : (w1.cell? ⟨w.heap.size, 7, none⟩).isSome = true := by rw [hcell _ _ (by simp <;> omega)]; simp [go_sem]
  clear hcell hfz
  refine bodyPost_ret (v := .tuple #[.agg #[.int .i64 0, .bool false, .bool false, .int .i64 0, .int .i64 0, .int .i64 0, .int .i64 0, .int .i64 0], .int .i64 20]) (by simp [results, Try.results10, go_sem, z0, z1, z2, z3, z4, z5, z6, z7]) rfl ⟨rfl, ?_⟩
  repeat (refine Below.setCell ?_ (by simp) _)
  refine Below.trans ?_ (HB.out.mono (by simp <;> omega))
  repeat (first | exact Below.refl _ _ | refine Below.setCell ?_ (by simp) _ | apply below_drewN | refine Below.alloc ?_ (by simp) _)
set_option maxRecDepth 100000 in
set_option maxHeartbeats 1000000 in
theorem dec_mem_other (x : Nat) (u v : Bool) (a b : Nat) (im : Int) (ha : (a : Int) < 16) (hb : (b : Int) < 16) (r : Int) (w : World)
    (hf : (x : Int) / 1073741824 = 2) (hu : (Go.bits .and .u32 ((x : Int) / 536870912) 1 == 1) = u) (hv : (Go.bits .and .u32 ((x : Int) / 268435456) 1 == 1) = v)
    (ga : ∀ w : World, Calls Try.prog 15 #[.int .u32 x, .int .i64 24, .int .i64 4] w fun e w' => e = .returned (.int .u32 a) ∧ ∃ k, w' = w.drewN k)
    (gb : ∀ w : World, Calls Try.prog 15 #[.int .u32 x, .int .i64 20, .int .i64 4] w fun e w' => e = .returned (.int .u32 b) ∧ ∃ k, w' = w.drewN k)
    (gi : ∀ w : World, Calls Try.prog 16 #[.int .u32 x, .int .i64 20] w fun e w' => e = .returned (.int .i64 im) ∧ w = w') (hr : (r == (x : Int)) = false)
    (ge : ∀ w : World, Calls Try.prog 17 #[.agg #[.int .i64 2, .bool u, .bool v, .int .i64 a, .int .i64 b, .int .i64 0, .int .i64 0, .int .i64 im]] w fun e w' => e = .returned (.tuple #[.int .u32 r, .int .i64 0]) ∧ Below w.heap.size w w') :
    Calls Try.prog 10 #[.int .u32 x] w fun e w' => e = .returned (.tuple #[.agg #[.int .i64 0, .bool false, .bool false, .int .i64 0, .int .i64 0, .int .i64 0, .int .i64 0, .int .i64 0], .int .i64 20]) ∧ Below w.heap.size w w' := by
  have GA := Lib.hid ga
  have GB := Lib.hid gb
  have GI := Lib.hid gi
  have GE := Lib.hid ge
  have HR := Lib.hid hr
  clear ge hr ga gb gi
  go_enter Try.func10, Try.ntmps10
  go_wp2_with (first | (go_at_call 15; ((first | (with_reducible refine (GA.out _).mono ?_) | (with_reducible refine (GB.out _).mono ?_)); rintro e w' ⟨rfl, nd, rfl⟩)) | (go_at_call 16; (with_reducible refine (GI.out _).mono ?_); rintro e w' ⟨rfl, rfl⟩) | (go_at_call 17; (with_reducible refine (GE.out _).mono ?_); rintro e w1 ⟨rfl, hb1⟩; obtain ⟨hcell, hfz⟩ := bcell hb1; have hz : w.heap.size + 1 < w1.heap.size := by { have := hb1.size; simp at this; omega }; have HB := Lib.hid hb1; clear hb1; have hr2 := HR.out))
  have z0 : (w1.cell? ⟨w.heap.size, 0, none⟩).isSome = true := by rw [hcell _ _ (by simp <;> omega)]; simp [go_sem]
  have z1 : (w1.cell? ⟨w.heap.size, 1, none⟩).isSome = true := by rw [hcell _ _ (by simp <;> omega)]; simp [go_sem]
  have z2 : (w1.cell? ⟨w.heap.size, 2, none⟩).isSome = true := by rw [hcell _ _ (by simp <;> omega)]; simp [go_sem]
  have z3 : (w1.cell? ⟨w.heap.size, 3, none⟩).isSome = true := by rw [hcell _ _ (by simp <;> omega)]; simp [go_sem]
  have z4 : (w1.cell? ⟨w.heap.size, 4, none⟩).isSome = true := by rw [hcell _ _ (by simp <;> omega)]; simp [go_sem]
  have z5 : (w1.cell? ⟨w.heap.size, 5, none⟩).isSome = true := by rw [hcell _ _ (by simp <;> omega)]; simp [go_sem]
  have z6 : (w1.cell? ⟨w.heap.size, 6, none⟩).isSome = true := by rw [hcell _ _ (by simp <;> omega)]; simp [go_sem]
  have z7 : (w1.cell? ⟨w.heap.size, 7, none⟩).isSome = true := by rw [hcell _ _ (by simp <;> omega)]; simp [go_sem]
  clear hcell hfz
  refine bodyPost_ret (v := .tuple #[.agg #[.int .i64 0, .bool false, .bool false, .int .i64 0, .int .i64 0, .int .i64 0, .int .i64 0, .int .i64 0], .int .i64 20]) (by simp [results, Try.results10, go_sem, z0, z1, z2, z3, z4, z5, z6, z7]) rfl ⟨rfl, ?_⟩
  repeat (refine Below.setCell ?_ (by simp) _)
  refine Below.trans ?_ (HB.out.mono (by simp <;> omega))
  repeat (first | exact Below.refl _ _ | refine Below.setCell ?_ (by simp) _ | apply below_drewN | refine Below.alloc ?_ (by simp) _)
set_option maxRecDepth 100000 in
set_option maxHeartbeats 1000000 in
theorem dec_jump_yes (x : Nat) (v : Bool) (a : Nat) (im : Int) (ha : (a : Int) < 16) (w : World)
    (hf : (x : Int) / 1073741824 = 3) (hu : (Go.bits .and .u32 ((x : Int) / 536870912) 1 == 1) = true) (hv : (Go.bits .and .u32 ((x : Int) / 268435456) 1 == 1) = v)
    (ga : ∀ w : World, Calls Try.prog 15 #[.int .u32 x, .int .i64 24, .int .i64 4] w fun e w' => e = .returned (.int .u32 a) ∧ ∃ k, w' = w.drewN k)
    (gi : ∀ w : World, Calls Try.prog 16 #[.int .u32 x, .int .i64 24] w fun e w' => e = .returned (.int .i64 im) ∧ w = w')
    (ge : ∀ w : World, Calls Try.prog 17 #[.agg #[.int .i64 3, .bool true, .bool v, .int .i64 a, .int .i64 0, .int .i64 0, .int .i64 0, .int .i64 im]] w fun e w' => e = .returned (.tuple #[.int .u32 x, .int .i64 0]) ∧ Below w.heap.size w w') :
    Calls Try.prog 10 #[.int .u32 x] w fun e w' => e = .returned (.tuple #[.agg #[.int .i64 3, .bool true, .bool v, .int .i64 a, .int .i64 0, .int .i64 0, .int .i64 0, .int .i64 im], .int .i64 0]) ∧ Below w.heap.size w w' := by
  have GA := Lib.hid ga
  have GI := Lib.hid gi
  have GE := Lib.hid ge
  clear ge ga gi
  go_enter Try.func10, Try.ntmps10
  go_wp2_with (first | (go_at_call 15; ((first | (with_reducible refine (GA.out _).mono ?_)); rintro e w' ⟨rfl, nd, rfl⟩)) | (go_at_call 16; (with_reducible refine (GI.out _).mono ?_); rintro e w' ⟨rfl, rfl⟩) | (go_at_call 17; (with_reducible refine (GE.out _).mono ?_); rintro e w1 ⟨rfl, hb1⟩; obtain ⟨hcell, hfz⟩ := bcell hb1; have hz : w.heap.size + 1 < w1.heap.size := by { have := hb1.size; simp at this; omega }; have HB := Lib.hid hb1; clear hb1))
  have z0 : (w1.cell? ⟨w.heap.size, 0, none⟩).isSome = true := by rw [hcell _ _ (by simp <;> omega)]; simp [go_sem]
  have z1 : (w1.cell? ⟨w.heap.size, 1, none⟩).isSome = true := by rw [hcell _ _ (by simp <;> omega)]; simp [go_sem]
  have z2 : (w1.cell? ⟨w.heap.size, 2, none⟩).isSome = true := by rw [hcell _ _ (by simp <;> omega)]; simp [go_sem]
  have z3 : (w1.cell? ⟨w.heap.size, 3, none⟩).isSome = true := by rw [hcell _ _ (by simp <;> omega)]; simp [go_sem]
  have z4 : (w1.cell? ⟨w.heap.size, 4, none⟩).isSome = true := by rw [hcell _ _ (by simp <;> omega)]; simp [go_sem]
  have z5 : (w1.cell? ⟨w.heap.size, 5, none⟩).isSome = true := by rw [hcell _ _ (by simp <;> omega)]; simp [go_sem]
  have z6 : (w1.cell? ⟨w.heap.size, 6, none⟩).isSome = true := by rw [hcell _ _ (by simp <;> omega)]; simp [go_sem]
  have z7 : (w1.cell? ⟨w.heap.size, 7, none⟩).isSome = true := by rw [hcell _ _ (by simp <;> omega)]; simp [go_sem]
  clear hcell hfz
  refine bodyPost_ret (v := .tuple #[.agg #[.int .i64 3, .bool true, .bool v, .int .i64 a, .int .i64 0, .int .i64 0, .int .i64 0, .int .i64 im], .int .i64 0]) (by simp [results, Try.results10, go_sem, z0, z1, z2, z3, z4, z5, z6, z7]) rfl ⟨rfl, ?_⟩
  repeat (refine Below.setCell ?_ (by simp) _)
  refine Below.trans ?_ (HB.out.mono (by simp <;> omega))
  repeat (first | exact Below.refl _ _ | refine Below.setCell ?_ (by simp) _ | apply below_drewN | refine Below.alloc ?_ (by simp) _)
set_option maxRecDepth 100000 in
set_option maxHeartbeats 1000000 in
theorem dec_jump_not (x : Nat) (v : Bool) (a : Nat) (im : Int) (ha : (a : Int) < 16) (r : Int) (w : World)
    (hf : (x : Int) / 1073741824 = 3) (hu : (Go.bits .and .u32 ((x : Int) / 536870912) 1 == 1) = true) (hv : (Go.bits .and .u32 ((x : Int) / 268435456) 1 == 1) = v)
    (ga : ∀ w : World, Calls Try.prog 15 #[.int .u32 x, .int .i64 24, .int .i64 4] w fun e w' => e = .returned (.int .u32 a) ∧ ∃ k, w' = w.drewN k)
    (gi : ∀ w : World, Calls Try.prog 16 #[.int .u32 x, .int .i64 24] w fun e w' => e = .returned (.int .i64 im) ∧ w = w')
    (ge : ∀ w : World, Calls Try.prog 17 #[.agg #[.int .i64 3, .bool true, .bool v, .int .i64 a, .int .i64 0, .int .i64 0, .int .i64 0, .int .i64 im]] w fun e w' => e = .returned (.tuple #[.int .u32 r, .int .i64 20]) ∧ Below w.heap.size w w') :
    Calls Try.prog 10 #[.int .u32 x] w fun e w' => e = .returned (.tuple #[.agg #[.int .i64 0, .bool false, .bool false, .int .i64 0, .int .i64 0, .int .i64 0, .int .i64 0, .int .i64 0], .int .i64 20]) ∧ Below w.heap.size w w' := by
  have GA := Lib.hid ga
  have GI := Lib.hid gi
  have GE := Lib.hid ge
  clear ge ga gi
  go_enter Try.func10, Try.ntmps10
  go_wp2_with (first | (go_at_call 15; ((first | (with_reducible refine (GA.out _).mono ?_)); rintro e w' ⟨rfl, nd, rfl⟩)) | (go_at_call 16; (with_reducible refine (GI.out _).mono ?_); rintro e w' ⟨rfl, rfl⟩) | (go_at_call 17; (with_reducible refine (GE.out _).mono ?_); rintro e w1 ⟨rfl, hb1⟩; obtain ⟨hcell, hfz⟩ := bcell hb1; have hz : w.heap.size + 1 < w1.heap.size := by { have := hb1.size; simp at this; omega }; have HB := Lib.hid hb1; clear hb1))
  have z0 : (w1.cell? ⟨w.heap.size, 0, none⟩).isSome = true := by rw [hcell _ _ (by simp <;> omega)]; simp [go_sem]
  have z1 : (w1.cell? ⟨w.heap.size, 1, none⟩).isSome = true := by rw [hcell _ _ (by simp <;> omega)]; simp [go_sem]
  have z2 : (w1.cell? ⟨w.heap.size, 2, none⟩).isSome = true := by rw [hcell _ _ (by simp <;> omega)]; simp [go_sem]
  have z3 : (w1.cell? ⟨w.heap.size, 3, none⟩).isSome = true := by rw [hcell _ _ (by simp <;> omega)]; simp [go_sem]
  have z4 : (w1.cell? ⟨w.heap.size, 4, none⟩).isSome = true := by rw [hcell _ _ (by simp <;> omega)]; simp [go_sem]
  have z5 : (w1.cell? ⟨w.heap.size, 5, none⟩).isSome = true := by rw [hcell _ _ (by simp <;> omega)]; simp [go_sem]
  have z6 : (w1.cell? ⟨w.heap.size, 6, none⟩).isSome = true := by rw [hcell _ _ (by simp <;> omega)]; simp [go_sem]
  have z7 : (w1.cell? ⟨w.heap.size, 7, none⟩).isSome = true := by rw [hcell _ _ (by simp <;> omega)]; simp [go_sem]
  clear hcell hfz
  refine bodyPost_ret (v := .tuple #[.agg #[.int .i64 0, .bool false, .bool false, .int .i64 0, .int .i64 0, .int .i64 0, .int .i64 0, .int .i64 0], .int .i64 20]) (by simp [results, Try.results10, go_sem, z0, z1, z2, z3, z4, z5, z6, z7]) rfl ⟨rfl, ?_⟩
  repeat (refine Below.setCell ?_ (by simp) _)
  refine Below.trans ?_ (HB.out.mono (by simp <;> omega))
  repeat (first | exact Below.refl _ _ | refine Below.setCell ?_ (by simp) _ | apply below_drewN | refine Below.alloc ?_ (by simp) _)
set_option maxRecDepth 100000 in
set_option maxHeartbeats 1000000 in
theorem dec_jump_other (x : Nat) (v : Bool) (a : Nat) (im : Int) (ha : (a : Int) < 16) (r : Int) (w : World)
    (hf : (x : Int) / 1073741824 = 3) (hu : (Go.bits .and .u32 ((x : Int) / 536870912) 1 == 1) = true) (hv : (Go.bits .and .u32 ((x : Int) / 268435456) 1 == 1) = v)
    (ga : ∀ w : World, Calls Try.prog 15 #[.int .u32 x, .int .i64 24, .int .i64 4] w fun e w' => e = .returned (.int .u32 a) ∧ ∃ k, w' = w.drewN k)
    (gi : ∀ w : World, Calls Try.prog 16 #[.int .u32 x, .int .i64 24] w fun e w' => e = .returned (.int .i64 im) ∧ w = w') (hr : (r == (x : Int)) = false)
    (ge : ∀ w : World, Calls Try.prog 17 #[.agg #[.int .i64 3, .bool true, .bool v, .int .i64 a, .int .i64 0, .int .i64 0, .int .i64 0, .int .i64 im]] w fun e w' => e = .returned (.tuple #[.int .u32 r, .int .i64 0]) ∧ Below w.heap.size w w') :
    Calls Try.prog 10 #[.int .u32 x] w fun e w' => e = .returned (.tuple #[.agg #[.int .i64 0, .bool false, .bool false, .int .i64 0, .int .i64 0, .int .i64 0, .int .i64 0, .int .i64 0], .int .i64 20]) ∧ Below w.heap.size w w' := by
  have GA := Lib.hid ga
  have GI := Lib.hid gi
  have GE := Lib.hid ge
  have HR := Lib.hid hr
  clear ge hr ga gi
  go_enter Try.func10, Try.ntmps10
  go_wp2_with (first | (go_at_call 15; ((first | (with_reducible refine (GA.out _).mono ?_)); rintro e w' ⟨rfl, nd, rfl⟩)) | (go_at_call 16; (with_reducible refine (GI.out _).mono ?_); rintro e w' ⟨rfl, rfl⟩) | (go_at_call 17; (with_reducible refine (GE.out _).mono ?_); rintro e w1 ⟨rfl, hb1⟩; obtain ⟨hcell, hfz⟩ := bcell hb1; have hz : w.heap.size + 1 < w1.heap.size := by { have := hb1.size; simp at this; omega }; have HB := Lib.hid hb1; clear hb1; have hr2 := HR.out))
  have z0 : (w1.cell? ⟨w.heap.size, 0, none⟩).isSome = true := by rw [hcell _ _ (by simp <;> omega)]; simp [go_sem]
  have z1 : (w1.cell? ⟨w.heap.size, 1, none⟩).isSome = true := by rw [hcell _ _ (by simp <;> omega)]; simp [go_sem]
  have z2 : (w1.cell? ⟨w.heap.size, 2, none⟩).isSome = true := by rw [hcell _ _ (by simp <;> omega)]; simp [go_sem]
  have z3 : (w1.cell? ⟨w.heap.size, 3, none⟩).isSome = true := by rw [hcell _ _ (by simp <;> omega)]; simp [go_sem]
  have z4 : (w1.cell? ⟨w.heap.size, 4, none⟩).isSome = true := by rw [hcell _ _ (by simp <;> omega)]; simp [go_sem]
  have z5 : (w1.cell? ⟨w.heap.size, 5, none⟩).isSome = true := by rw [hcell _ _ (by simp <;> omega)]; simp [go_sem]
  have z6 : (w1.cell? ⟨w.heap.size, 6, none⟩).isSome = true := by rw [hcell _ _ (by simp <;> omega)]; simp [go_sem]
  have z7 : (w1.cell? ⟨w.heap.size, 7, none⟩).isSome = true := by rw [hcell _ _ (by simp <;> omega)]; simp [go_sem]
  clear hcell hfz
  refine bodyPost_ret (v := .tuple #[.agg #[.int .i64 0, .bool false, .bool false, .int .i64 0, .int .i64 0, .int .i64 0, .int .i64 0, .int .i64 0], .int .i64 20]) (by simp [results, Try.results10, go_sem, z0, z1, z2, z3, z4, z5, z6, z7]) rfl ⟨rfl, ?_⟩
  repeat (refine Below.setCell ?_ (by simp) _)
  refine Below.trans ?_ (HB.out.mono (by simp <;> omega))
  repeat (first | exact Below.refl _ _ | refine Below.setCell ?_ (by simp) _ | apply below_drewN | refine Below.alloc ?_ (by simp) _)
set_option maxRecDepth 100000 in
set_option maxHeartbeats 1000000 in
theorem dec_back_yes (x : Nat) (v : Bool) (a c : Nat) (ha : (a : Int) < 16) (hc : (c : Int) < 16) (w : World)
    (hf : (x : Int) / 1073741824 = 3) (hu : (Go.bits .and .u32 ((x : Int) / 536870912) 1 == 1) = false) (hv : (Go.bits .and .u32 ((x : Int) / 268435456) 1 == 1) = v)
    (ga : ∀ w : World, Calls Try.prog 15 #[.int .u32 x, .int .i64 24, .int .i64 4] w fun e w' => e = .returned (.int .u32 a) ∧ ∃ k, w' = w.drewN k)
    (hm : Go.bits .and .u32 (x : Int) 15 = (c : Int))
    (ge : ∀ w : World, Calls Try.prog 17 #[.agg #[.int .i64 3, .bool false, .bool v, .int .i64 a, .int .i64 0, .int .i64 c, .int .i64 0, .int .i64 0]] w fun e w' => e = .returned (.tuple #[.int .u32 x, .int .i64 0]) ∧ Below w.heap.size w w') :
    Calls Try.prog 10 #[.int .u32 x] w fun e w' => e = .returned (.tuple #[.agg #[.int .i64 3, .bool false, .bool v, .int .i64 a, .int .i64 0, .int .i64 c, .int .i64 0, .int .i64 0], .int .i64 0]) ∧ Below w.heap.size w w' := by
  have GA := Lib.hid ga
  have GE := Lib.hid ge
  clear ge ga
  go_enter Try.func10, Try.ntmps10
  go_wp2_with (first | (go_at_call 15; ((first | (with_reducible refine (GA.out _).mono ?_)); rintro e w' ⟨rfl, nd, rfl⟩)) | (go_at_call 17; (with_reducible refine (GE.out _).mono ?_); rintro e w1 ⟨rfl, hb1⟩; obtain ⟨hcell, hfz⟩ := bcell hb1; have hz : w.heap.size + 1 < w1.heap.size := by { have := hb1.size; simp at this; omega }; have HB := Lib.hid hb1; clear hb1))
  have z0 : (w1.cell? ⟨w.heap.size, 0, none⟩).isSome = true := by rw [hcell _ _ (by simp <;> omega)]; simp [go_sem]
  have z1 : (w1.cell? ⟨w.heap.size, 1, none⟩).isSome = true := by rw [hcell _ _ (by simp <;> omega)]; simp [go_sem]
  have z2 : (w1.cell? ⟨w.heap.size, 2, none⟩).isSome = true := by rw [hcell _ _ (by simp <;> omega)]; simp [go_sem]
  have z3 : (w1.cell? ⟨w.heap.size, 3, none⟩).isSome = true := by rw [hcell _ _ (by simp <;> omega)]; simp [go_sem]
  have z4 : (w1.cell? ⟨w.heap.size, 4, none⟩).isSome = true := by rw [hcell _ _ (by simp <;> omega)]; simp [go_sem]
  have z5 : (w1.cell? ⟨w.heap.size, 5, none⟩).isSome = true := by rw [hcell _ _ (by simp <;> omega)]; simp [go_sem]
  have z6 : (w1.cell? ⟨w.heap.size, 6, none⟩).isSome = true := by rw [hcell _ _ (by simp <;> omega)]; simp [go_sem]
  have z7 : (w1.cell? ⟨w.heap.size, 7, none⟩).isSome = true := by rw [hcell _ _ (by simp <;> omega)]; simp [go_sem]
  clear hcell hfz
  refine bodyPost_ret (v := .tuple #[.agg #[.int .i64 3, .bool false, .bool v, .int .i64 a, .int .i64 0, .int .i64 c, .int .i64 0, .int .i64 0], .int .i64 0]) (by simp [results, Try.results10, go_sem, z0, z1, z2, z3, z4, z5, z6, z7]) rfl ⟨rfl, ?_⟩
  repeat (refine Below.setCell ?_ (by simp) _)
  refine Below.trans ?_ (HB.out.mono (by simp <;> omega))
  repeat (first | exact Below.refl _ _ | refine Below.setCell ?_ (by simp) _ | apply below_drewN | refine Below.alloc ?_ (by simp) _)
set_option maxRecDepth 100000 in
set_option maxHeartbeats 1000000 in
theorem dec_back_not (x : Nat) (v : Bool) (a c : Nat) (ha : (a : Int) < 16) (hc : (c : Int) < 16) (r : Int) (w : World)
    (hf : (x : Int) / 1073741824 = 3) (hu : (Go.bits .and .u32 ((x : Int) / 536870912) 1 == 1) = false) (hv : (Go.bits .and .u32 ((x : Int) / 268435456) 1 == 1) = v)
    (ga : ∀ w : World, Calls Try.prog 15 #[.int .u32 x, .int .i64 24, .int .i64 4] w fun e w' => e = .returned (.int .u32 a) ∧ ∃ k, w' = w.drewN k)
    (hm : Go.bits .and .u32 (x : Int) 15 = (c : Int))
    (ge : ∀ w : World, Calls Try.prog 17 #[.agg #[.int .i64 3, .bool false, .bool v, .int .i64 a, .int .i64 0, .int .i64 c, .int .i64 0, .int .i64 0]] w fun e w' => e = .returned (.tuple #[.int .u32 r, .int .i64 20]) ∧ Below w.heap.size w w') :
    Calls Try.prog 10 #[.int .u32 x] w fun e w' => e = .returned (.tuple #[.agg #[.int .i64 0, .bool false, .bool false, .int .i64 0, .int .i64 0, .int .i64 0, .int .i64 0, .int .i64 0], .int .i64 20]) ∧ Below w.heap.size w w' := by
  have GA := Lib.hid ga
  have GE := Lib.hid ge
  clear ge ga
  go_enter Try.func10, Try.ntmps10
  go_wp2_with (first | (go_at_call 15; ((first | (with_reducible refine (GA.out _).mono ?_)); rintro e w' ⟨rfl, nd, rfl⟩)) | (go_at_call 17; (with_reducible refine (GE.out _).mono ?_); rintro e w1 ⟨rfl, hb1⟩; obtain ⟨hcell, hfz⟩ := bcell hb1; have hz : w.heap.size + 1 < w1.heap.size := by { have := hb1.size; simp at this; omega }; have HB := Lib.hid hb1; clear hb1))
  have z0 : (w1.cell? ⟨w.heap.size, 0, none⟩).isSome = true := by rw [hcell _ _ (by simp <;> omega)]; simp [go_sem]
  have z1 : (w1.cell? ⟨w.heap.size, 1, none⟩).isSome = true := by rw [hcell _ _ (by simp <;> omega)]; simp [go_sem]
  have z2 : (w1.cell? ⟨w.heap.size, 2, none⟩).isSome = true := by rw [hcell _ _ (by simp <;> omega)]; simp [go_sem]
  have z3 : (w1.cell? ⟨w.heap.size, 3, none⟩).isSome = true := by rw [hcell _ _ (by simp <;> omega)]; simp [go_sem]
  have z4 : (w1.cell? ⟨w.heap.size, 4, none⟩).isSome = true := by rw [hcell _ _ (by simp <;> omega)]; simp [go_sem]
  have z5 : (w1.cell? ⟨w.heap.size, 5, none⟩).isSome = true := by rw [hcell _ _ (by simp <;> omega)]; simp [go_sem]
  have z6 : (w1.cell? ⟨w.heap.size, 6, none⟩).isSome = true := by rw [hcell _ _ (by simp <;> omega)]; simp [go_sem]
  have z7 : (w1.cell? ⟨w.heap.size, 7, none⟩).isSome = true := by rw [hcell _ _ (by simp <;> omega)]; simp [go_sem]
  clear hcell hfz
  refine bodyPost_ret (v := .tuple #[.agg #[.int .i64 0, .bool false, .bool false, .int .i64 0, .int .i64 0, .int .i64 0, .int .i64 0, .int .i64 0], .int .i64 20]) (by simp [results, Try.results10, go_sem, z0, z1, z2, z3, z4, z5, z6, z7]) rfl ⟨rfl, ?_⟩
  repeat (refine Below.setCell ?_ (by simp) _)
  refine Below.trans ?_ (HB.out.mono (by simp <;> omega))
  repeat (first | exact Below.refl _ _ | refine Below.setCell ?_ (by simp) _ | apply below_drewN | refine Below.alloc ?_ (by simp) _)
set_option maxRecDepth 100000 in
set_option maxHeartbeats 1000000 in
theorem dec_back_other (x : Nat) (v : Bool) (a c : Nat) (ha : (a : Int) < 16) (hc : (c : Int) < 16) (r : Int) (w : World)
    (hf : (x : Int) / 1073741824 = 3) (hu : (Go.bits .and .u32 ((x : Int) / 536870912) 1 == 1) = false) (hv : (Go.bits .and .u32 ((x : Int) / 268435456) 1 == 1) = v)
    (ga : ∀ w : World, Calls Try.prog 15 #[.int .u32 x, .int .i64 24, .int .i64 4] w fun e w' => e = .returned (.int .u32 a) ∧ ∃ k, w' = w.drewN k)
    (hm : Go.bits .and .u32 (x : Int) 15 = (c : Int)) (hr : (r == (x : Int)) = false)
    (ge : ∀ w : World, Calls Try.prog 17 #[.agg #[.int .i64 3, .bool false, .bool v, .int .i64 a, .int .i64 0, .int .i64 c, .int .i64 0, .int .i64 0]] w fun e w' => e = .returned (.tuple #[.int .u32 r, .int .i64 0]) ∧ Below w.heap.size w w') :
    Calls Try.prog 10 #[.int .u32 x] w fun e w' => e = .returned (.tuple #[.agg #[.int .i64 0, .bool false, .bool false, .int .i64 0, .int .i64 0, .int .i64 0, .int .i64 0, .int .i64 0], .int .i64 20]) ∧ Below w.heap.size w w' := by
  have GA := Lib.hid ga
  have GE := Lib.hid ge
  have HR := Lib.hid hr
  clear ge hr ga
  go_enter Try.func10, Try.ntmps10
  go_wp2_with (first | (go_at_call 15; ((first | (with_reducible refine (GA.out _).mono ?_)); rintro e w' ⟨rfl, nd, rfl⟩)) | (go_at_call 17; (with_reducible refine (GE.out _).mono ?_); rintro e w1 ⟨rfl, hb1⟩; obtain ⟨hcell, hfz⟩ := bcell hb1; have hz : w.heap.size + 1 < w1.heap.size := by { have := hb1.size; simp at this; omega }; have HB := Lib.hid hb1; clear hb1; have hr2 := HR.out))
  have z0 : (w1.cell? ⟨w.heap.size, 0, none⟩).isSome = true := by rw [hcell _ _ (by simp <;> omega)]; simp [go_sem]
  have z1 : (w1.cell? ⟨w.heap.size, 1, none⟩).isSome = true := by rw [hcell _ _ (by simp <;> omega)]; simp [go_sem]
  have z2 : (w1.cell? ⟨w.heap.size, 2, none⟩).isSome = true := by rw [hcell _ _ (by simp <;> omega)]; simp [go_sem]
  have z3 : (w1.cell? ⟨w.heap.size, 3, none⟩).isSome = true := by rw [hcell _ _ (by simp <;> omega)]; simp [go_sem]
  have z4 : (w1.cell? ⟨w.heap.size, 4, none⟩).isSome = true := by rw [hcell _ _ (by simp <;> omega)]; simp [go_sem]
  have z5 : (w1.cell? ⟨w.heap.size, 5, none⟩).isSome = true := by rw [hcell _ _ (by simp <;> omega)]; simp [go_sem]
  have z6 : (w1.cell? ⟨w.heap.size, 6, none⟩).isSome = true := by rw [hcell _ _ (by simp <;> omega)]; simp [go_sem]
  have z7 : (w1.cell? ⟨w.heap.size, 7, none⟩).isSome = true := by rw [hcell _ _ (by simp <;> omega)]; simp [go_sem]
  clear hcell hfz
  refine bodyPost_ret (v := .tuple #[.agg #[.int .i64 0, .bool false, .bool false, .int .i64 0, .int .i64 0, .int .i64 0, .int .i64 0, .int .i64 0], .int .i64 20]) (by simp [results, Try.results10, go_sem, z0, z1, z2, z3, z4, z5, z6, z7]) rfl ⟨rfl, ?_⟩
  repeat (refine Below.setCell ?_ (by simp) _)
  refine Below.trans ?_ (HB.out.mono (by simp <;> omega))
  repeat (first | exact Below.refl _ _ | refine Below.setCell ?_ (by simp) _ | apply below_drewN | refine Below.alloc ?_ (by simp) _)
/-- What a word's fields say. -/
def cand (x : Nat) : Ins :=
  if x / 1073741824 = 0 then ⟨0, x / 536870912 % 2 == 1, x / 268435456 % 2 == 1, (x / 16777216 % 16 : Nat), (x / 1048576 % 16 : Nat), (x % 16 : Nat), (x / 65536 % 16 : Nat), 0⟩
  else if x / 1073741824 = 1 then ⟨1, x / 536870912 % 2 == 1, x / 268435456 % 2 == 1, (x / 16777216 % 16 : Nat), (x / 1048576 % 16 : Nat), 0, (x / 65536 % 16 : Nat), (x % 65536 : Nat)⟩
  else if x / 1073741824 = 2 then ⟨2, x / 536870912 % 2 == 1, x / 268435456 % 2 == 1, (x / 16777216 % 16 : Nat), (x / 1048576 % 16 : Nat), 0, 0, ext x 20⟩
  else if x / 536870912 % 2 = 1 then ⟨3, true, x / 268435456 % 2 == 1, (x / 16777216 % 16 : Nat), 0, 0, 0, ext x 24⟩
  else ⟨3, false, x / 268435456 % 2 == 1, (x / 16777216 % 16 : Nat), 0, (x % 16 : Nat), 0, 0⟩
/-- Is it an instruction's word? -/
def isWord (x : Nat) : Bool := goodB (cand x) && encZ (cand x) == (x : Int)
def zeroIns : Ins := ⟨0, false, false, 0, 0, 0, 0, 0⟩
/-- The instruction of a word; none: zero. -/
def decI (x : Nat) : Ins := if isWord x then cand x else zeroIns
def decE (x : Nat) : Int := if isWord x then 0 else 20
theorem bit_is (x k : Nat) (hx : x < 4294967296) : (Go.bits .and .u32 ((x : Int) / (k : Int)) 1 == 1) = (x / k % 2 == 1) := by
  have e : (x : Int) / (k : Int) = ((x / k : Nat) : Int) := by simp
  have h := Nat.div_le_self x k
  rw [e, show (1 : Int) = ((1 : Nat) : Int) from rfl, and_u32 _ 1 (by omega) (by omega), Nat.and_one_is_mod]
  rw [Bool.eq_iff_iff, beq_iff_eq, beq_iff_eq]
  omega
theorem low4 (x : Nat) (hx : x < 4294967296) : Go.bits .and .u32 (x : Int) 15 = ((x % 16 : Nat) : Int) := by
  rw [show (15 : Int) = ((15 : Nat) : Int) from rfl, and_u32 x 15 hx (by omega), show (15 : Nat) = 2 ^ 4 - 1 from rfl, and_mask]
theorem low16 (x : Nat) : IntKind.u16.wrap (x : Int) = ((x % 65536 : Nat) : Int) := by
  simp [IntKind.wrap, IntKind.bits, IntKind.signed]
theorem get4 (x lo : Nat) (hx : x < 4294967296) (h : lo + 4 ≤ 32) (w : World) :
    Calls Try.prog 15 #[.int .u32 x, .int .i64 lo, .int .i64 4] w fun e w' => e = .returned (.int .u32 ((x / 2 ^ lo % 16 : Nat) : Int)) ∧ ∃ k, w' = w.drewN k := get_yes x lo 4 hx (by decide) h w
theorem ext20 (x : Nat) (w : World) : Calls Try.prog 16 #[.int .u32 x, .int .i64 20] w fun e w' => e = .returned (.int .i64 (ext x 20)) ∧ w = w' := extend_yes x 20 (by decide) (by decide) w
theorem ext24 (x : Nat) (w : World) : Calls Try.prog 16 #[.int .u32 x, .int .i64 24] w fun e w' => e = .returned (.int .i64 (ext x 24)) ∧ w = w' := extend_yes x 24 (by decide) (by decide) w
theorem enc_cand (x : Nat) (w : World) : (isWord x = true ∧ Calls Try.prog 17 #[(cand x).val] w fun e w' => e = .returned (.tuple #[.int .u32 x, .int .i64 0]) ∧ Below w.heap.size w w') ∨
    (isWord x = false ∧ goodB (cand x) = false) ∨ (isWord x = false ∧ goodB (cand x) = true ∧ (encZ (cand x) == (x : Int)) = false) := by
  cases hg : goodB (cand x)
  · exact .inr (.inl ⟨by simp [isWord, hg], rfl⟩)
  · cases he : encZ (cand x) == (x : Int)
    · exact .inr (.inr ⟨by simp [isWord, he], rfl, rfl⟩)
    · refine .inl ⟨by simp [isWord, hg, he], ?_⟩
      have h := enc_yes (cand x) hg w
      rw [beq_iff_eq.1 he] at h
      exact h
theorem dec_calls (x : Nat) (hx : x < 4294967296) (w : World) :
    Calls Try.prog 10 #[.int .u32 x] w fun e w' => e = .returned (.tuple #[(decI x).val, .int .i64 (decE x)]) ∧ Below w.heap.size w w' := by
  have hu := bit_is x 536870912 hx
  have hv := bit_is x 268435456 hx
  have g24 : ∀ w : World, _ := fun w => get4 x 24 hx (by decide) w
  have g20 : ∀ w : World, _ := fun w => get4 x 20 hx (by decide) w
  have g16 : ∀ w : World, _ := fun w => get4 x 16 hx (by decide) w
  have m4 := low4 x hx
  have hd : x / 1073741824 = 0 ∨ x / 1073741824 = 1 ∨ x / 1073741824 = 2 ∨ x / 1073741824 = 3 := by omega
  have key := enc_cand x
  have bad := fun hg => enc_no (cand x) hg
  have good := fun hg => enc_yes (cand x) hg
  rcases hd with h | h | h | h
  · have hc : cand x = _ := if_pos h
    have hf : (x : Int) / 1073741824 = 0 := by omega
    rcases hk : isWord x with _ | _
    · rw [show decI x = zeroIns by unfold decI; rw [hk]; rfl, show decE x = 20 by unfold decE; rw [hk]; rfl]
      rcases hg : goodB (cand x) with _ | _
      · have ge := bad hg
        rw [hc] at ge
        exact dec_reg_not x _ _ _ _ _ _ (by omega) (by omega) (by omega) (by omega) 0 w hf hu hv g24 g20 g16 m4 ge
      · have hne : (encZ (cand x) == (x : Int)) = false := by
          rcases key w with ⟨h1, _⟩ | ⟨_, h2⟩ | ⟨_, _, h3⟩
          · rw [hk] at h1; exact absurd h1 (by decide)
          · rw [hg] at h2; exact absurd h2 (by decide)
          · exact h3
        have ge := good hg
        generalize encZ (cand x) = r at ge hne
        rw [hc] at ge
        exact dec_reg_other x _ _ _ _ _ _ (by omega) (by omega) (by omega) (by omega) r w hf hu hv g24 g20 g16 m4 hne ge
    · rw [show decI x = cand x by unfold decI; rw [hk]; rfl, show decE x = 0 by unfold decE; rw [hk]; rfl]
      have ge := fun w => ((key w).resolve_right (by rintro (⟨h, _⟩ | ⟨h, _⟩) <;> (rw [hk] at h; exact absurd h (by decide)))).2
      rw [hc] at ge ⊢
      exact dec_reg_yes x _ _ _ _ _ _ (by omega) (by omega) (by omega) (by omega) w hf hu hv g24 g20 g16 m4 ge
  · have hc : cand x = _ := (if_neg (by omega)).trans (if_pos h)
    have hf : (x : Int) / 1073741824 = 1 := by omega
    rcases hk : isWord x with _ | _
    · rw [show decI x = zeroIns by unfold decI; rw [hk]; rfl, show decE x = 20 by unfold decE; rw [hk]; rfl]
      rcases hg : goodB (cand x) with _ | _
      · have ge := bad hg
        rw [hc] at ge
        exact dec_im_not x _ _ _ _ _ _ (by omega) (by omega) (by omega) (by omega) 0 w hf hu hv g24 g20 g16 (low16 x) ge
      · have hne : (encZ (cand x) == (x : Int)) = false := by
          rcases key w with ⟨h1, _⟩ | ⟨_, h2⟩ | ⟨_, _, h3⟩
          · rw [hk] at h1; exact absurd h1 (by decide)
          · rw [hg] at h2; exact absurd h2 (by decide)
          · exact h3
        have ge := good hg
        generalize encZ (cand x) = r at ge hne
        rw [hc] at ge
        exact dec_im_other x _ _ _ _ _ _ (by omega) (by omega) (by omega) (by omega) r w hf hu hv g24 g20 g16 (low16 x) hne ge
    · rw [show decI x = cand x by unfold decI; rw [hk]; rfl, show decE x = 0 by unfold decE; rw [hk]; rfl]
      have ge := fun w => ((key w).resolve_right (by rintro (⟨h, _⟩ | ⟨h, _⟩) <;> (rw [hk] at h; exact absurd h (by decide)))).2
      rw [hc] at ge ⊢
      exact dec_im_yes x _ _ _ _ _ _ (by omega) (by omega) (by omega) (by omega) w hf hu hv g24 g20 g16 (low16 x) ge
  · have hc : cand x = _ := ((if_neg (by omega)).trans (if_neg (by omega))).trans (if_pos h)
    have hf : (x : Int) / 1073741824 = 2 := by omega
    rcases hk : isWord x with _ | _
    · rw [show decI x = zeroIns by unfold decI; rw [hk]; rfl, show decE x = 20 by unfold decE; rw [hk]; rfl]
      rcases hg : goodB (cand x) with _ | _
      · have ge := bad hg
        rw [hc] at ge
        exact dec_mem_not x _ _ _ _ _ (by omega) (by omega) 0 w hf hu hv g24 g20 (ext20 x) ge
      · have hne : (encZ (cand x) == (x : Int)) = false := by
          rcases key w with ⟨h1, _⟩ | ⟨_, h2⟩ | ⟨_, _, h3⟩
          · rw [hk] at h1; exact absurd h1 (by decide)
          · rw [hg] at h2; exact absurd h2 (by decide)
          · exact h3
        have ge := good hg
        generalize encZ (cand x) = r at ge hne
        rw [hc] at ge
        exact dec_mem_other x _ _ _ _ _ (by omega) (by omega) r w hf hu hv g24 g20 (ext20 x) hne ge
    · rw [show decI x = cand x by unfold decI; rw [hk]; rfl, show decE x = 0 by unfold decE; rw [hk]; rfl]
      have ge := fun w => ((key w).resolve_right (by rintro (⟨h, _⟩ | ⟨h, _⟩) <;> (rw [hk] at h; exact absurd h (by decide)))).2
      rw [hc] at ge ⊢
      exact dec_mem_yes x _ _ _ _ _ (by omega) (by omega) w hf hu hv g24 g20 (ext20 x) ge
  · by_cases hb : x / 536870912 % 2 = 1
    · have hu1 : (Go.bits .and .u32 ((x : Int) / 536870912) 1 == 1) = true := by rw [show (536870912 : Int) = ((536870912 : Nat) : Int) from rfl, hu]; simp [hb]
      have hc : cand x = _ := (((if_neg (by omega)).trans (if_neg (by omega))).trans (if_neg (by omega))).trans (if_pos hb)
      have hf : (x : Int) / 1073741824 = 3 := by omega
      rcases hk : isWord x with _ | _
      · rw [show decI x = zeroIns by unfold decI; rw [hk]; rfl, show decE x = 20 by unfold decE; rw [hk]; rfl]
        rcases hg : goodB (cand x) with _ | _
        · have ge := bad hg
          rw [hc] at ge
          exact dec_jump_not x _ _ _ (by omega) 0 w hf hu1 hv g24 (ext24 x) ge
        · have hne : (encZ (cand x) == (x : Int)) = false := by
            rcases key w with ⟨h1, _⟩ | ⟨_, h2⟩ | ⟨_, _, h3⟩
            · rw [hk] at h1; exact absurd h1 (by decide)
            · rw [hg] at h2; exact absurd h2 (by decide)
            · exact h3
          have ge := good hg
          generalize encZ (cand x) = r at ge hne
          rw [hc] at ge
          exact dec_jump_other x _ _ _ (by omega) r w hf hu1 hv g24 (ext24 x) hne ge
      · rw [show decI x = cand x by unfold decI; rw [hk]; rfl, show decE x = 0 by unfold decE; rw [hk]; rfl]
        have ge := fun w => ((key w).resolve_right (by rintro (⟨h, _⟩ | ⟨h, _⟩) <;> (rw [hk] at h; exact absurd h (by decide)))).2
        rw [hc] at ge ⊢
        exact dec_jump_yes x _ _ _ (by omega) w hf hu1 hv g24 (ext24 x) ge
    · have hu1 : (Go.bits .and .u32 ((x : Int) / 536870912) 1 == 1) = false := by rw [show (536870912 : Int) = ((536870912 : Nat) : Int) from rfl, hu]; simp [hb]
      have hc : cand x = _ := (((if_neg (by omega)).trans (if_neg (by omega))).trans (if_neg (by omega))).trans (if_neg hb)
      have hf : (x : Int) / 1073741824 = 3 := by omega
      rcases hk : isWord x with _ | _
      · rw [show decI x = zeroIns by unfold decI; rw [hk]; rfl, show decE x = 20 by unfold decE; rw [hk]; rfl]
        rcases hg : goodB (cand x) with _ | _
        · have ge := bad hg
          rw [hc] at ge
          exact dec_back_not x _ _ _ (by omega) (by omega) 0 w hf hu1 hv g24 m4 ge
        · have hne : (encZ (cand x) == (x : Int)) = false := by
            rcases key w with ⟨h1, _⟩ | ⟨_, h2⟩ | ⟨_, _, h3⟩
            · rw [hk] at h1; exact absurd h1 (by decide)
            · rw [hg] at h2; exact absurd h2 (by decide)
            · exact h3
          have ge := good hg
          generalize encZ (cand x) = r at ge hne
          rw [hc] at ge
          exact dec_back_other x _ _ _ (by omega) (by omega) r w hf hu1 hv g24 m4 hne ge
      · rw [show decI x = cand x by unfold decI; rw [hk]; rfl, show decE x = 0 by unfold decE; rw [hk]; rfl]
        have ge := fun w => ((key w).resolve_right (by rintro (⟨h, _⟩ | ⟨h, _⟩) <;> (rw [hk] at h; exact absurd h (by decide)))).2
        rw [hc] at ge ⊢
        exact dec_back_yes x _ _ _ (by omega) (by omega) w hf hu1 hv g24 m4 ge
end Go.Proofs.Ytjlngglkljjgmaa
