/- RiscBack: what was written is read as it was, and what was read is written as it was. For every input, without a condition. -/
import Derived.Test.YtbhdejoljappfaaRows
import Derived.Test.YtbhdejoljappfaaRiscMath
import Derived.Test.YtbhdejoljappfaaWakes02
import Derived.Test.YtbhdejoljappfaaAgg
import Derived.Deep.RegionWith
import Derived.WalkKit
import Derived.WalkSmall
import Derived.ProofKit
import Derived.OpenShut
import Derived.ShutString
import Derived.ChangeOld
import Derived.Below
import Derived.SizedLaws
import Derived.Lib.SmallJoins
import Derived.Outline
namespace Go.Proofs.Ytbhdejoljappfaa
open Go.RowKit
theorem below_draws {w w' : World} (h : ∃ k, w' = w.drewN k) : Below w.heap.size w w' := by
  obtain ⟨k, rfl⟩ := h
  exact below_drewN (Below.refl _ _) k
set_option maxRecDepth 100000 in
set_option maxHeartbeats 4000000 in
theorem riscBack_calls (x0 : Ins) (a1 : Int) (w : World) (w0 : (Lit.int .u32 a1).wf = true) :
    Calls Try.prog 5 #[x0.val, .int .u32 a1] w fun e w' => e = .returned (.bool true) ∧ Below w.heap.size w w' := by
  obtain ⟨xf, xu, xv, xa, xb, xc, xo, xi⟩ := x0
  unfold Ins.val
  obtain ⟨h0, h1⟩ := bounds_u32 w0
  obtain ⟨n, rfl⟩ := Int.eq_ofNat_of_zero_le h0
  have hn : n < 4294967296 := by omega
  have d1 := dec_calls n hn
  cases hg : goodB ⟨xf, xu, xv, xa, xb, xc, xo, xi⟩
  · have E1 := Lib.hid (show ∀ w : World, Calls Try.prog 14 #[.agg #[.int .i64 xf, .bool xu, .bool xv, .int .i64 xa, .int .i64 xb, .int .i64 xc, .int .i64 xo, .int .i64 xi]] w fun e w' => e = .returned (.tuple #[.int .u32 0, .int .i64 20]) ∧ Below w.heap.size w w' from enc_no ⟨xf, xu, xv, xa, xb, xc, xo, xi⟩ hg)
    cases hk : isWord n
    · rw [show decI n = zeroIns by unfold decI; rw [hk]; rfl, show decE n = 20 by unfold decE; rw [hk]; rfl] at d1
      have D1 := Lib.hid (show ∀ w : World, Calls Try.prog 19 #[.int .u32 n] w fun e w' => e = .returned (.tuple #[.agg #[.int .i64 0, .bool false, .bool false, .int .i64 0, .int .i64 0, .int .i64 0, .int .i64 0, .int .i64 0], .int .i64 20]) ∧ Below w.heap.size w w' from d1)
      have SZ := Lib.hid (show ∀ w : World, Calls Try.prog 21 #[.agg #[.int .i64 0, .bool false, .bool false, .int .i64 0, .int .i64 0, .int .i64 0, .int .i64 0, .int .i64 0], .agg #[.int .i64 0, .bool false, .bool false, .int .i64 0, .int .i64 0, .int .i64 0, .int .i64 0, .int .i64 0]] w fun e w' => e = .returned (.bool true) ∧ Below w.heap.size w w' from same_self zeroIns)
      have G12 := Lib.hid (show ∀ w : World, Calls Try.prog 16 #[.agg #[.int .i64 0, .bool false, .bool false, .int .i64 0, .int .i64 0, .int .i64 0, .int .i64 12, .int .i64 0]] w fun e w' => e = .returned (.bool false) ∧ Below w.heap.size w w' from fun w => good_calls ⟨0, false, false, 0, 0, 0, 12, 0⟩ w)
      clear d1 w0 h0 h1 hn hk hg
      go_enter Try.func5, Try.ntmps5
      go_wp2_with fail
      refine (E1.out _).mono ?_
      rintro e w1 ⟨rfl, hb1⟩
      have c1_0 := (box_on (b := w.heap.size) hb1 (by first | (simp; done) | (simp <;> omega) | omega)).1
      have z1 := hb1.size
      try simp at z1
      have l1_0 : w.heap.size < w1.heap.size := by omega
      clear z1
      have HB1 := Lib.hid (show Below w.heap.size w w1 from below_call (by repeat (first | exact Below.refl _ _ | apply below_drewN | refine Below.setCell ?_ (by simp <;> omega) _ | refine Below.alloc ?_ (by simp <;> omega) _)) hb1)
      clear hb1
      go_wp2_with fail
      refine (D1.out _).mono ?_
      rintro e w2 ⟨rfl, hb2⟩
      have z2 := hb2.size
      try simp at z2
      have HB2 := Lib.hid (show Below w.heap.size w w2 from below_call (by repeat (first | exact HB1.out | apply below_drewN | refine Below.setCell ?_ (by have := HB1.out.size; simp <;> omega) _ | refine Below.alloc ?_ (by have := HB1.out.size; simp <;> omega) _)) hb2)
      clear hb2
      go_wp2_with fail
      refine (SZ.out _).mono ?_
      rintro e w3 ⟨rfl, hb3⟩
      have c3_0 := (box_on (b := w2.heap.size) hb3 (by first | (simp; done) | (simp <;> omega) | omega)).1
      have z3 := hb3.size
      try simp at z3
      have l3_0 : w2.heap.size < w3.heap.size := by omega
      clear z3
      have HB3 := Lib.hid (show Below w.heap.size w w3 from below_call (by repeat (first | exact HB2.out | apply below_drewN | refine Below.setCell ?_ (by have := HB2.out.size; simp <;> omega) _ | refine Below.alloc ?_ (by have := HB2.out.size; simp <;> omega) _)) hb3)
      clear hb3
      go_wp2_with fail
      refine (G12.out _).mono ?_
      rintro e w4 ⟨rfl, hb4⟩
      have z4 := hb4.size
      try simp at z4
      have HB4 := Lib.hid (show Below w.heap.size w w4 from below_call (by repeat (first | exact HB3.out | apply below_drewN | refine Below.setCell ?_ (by have := HB3.out.size; simp <;> omega) _ | refine Below.alloc ?_ (by have := HB3.out.size; simp <;> omega) _)) hb4)
      clear hb4
      go_wp2_with fail
      refine (wakes02 _).mono ?_
      rintro e w5 ⟨rfl, hb5⟩
      have z5 := hb5.size
      try simp at z5
      have HB5 := Lib.hid (show Below w.heap.size w w5 from below_call (by repeat (first | exact HB4.out | apply below_drewN | refine Below.setCell ?_ (by have := HB4.out.size; simp <;> omega) _ | refine Below.alloc ?_ (by have := HB4.out.size; simp <;> omega) _)) hb5)
      clear hb5
      go_wp2_with fail
      go_ret
      exact ⟨rfl, (by repeat (first | exact HB5.out | apply below_drewN | refine Below.setCell ?_ (by have := HB5.out.size; simp <;> omega) _ | refine Below.alloc ?_ (by have := HB5.out.size; simp <;> omega) _))⟩
    · rw [show decI n = cand n by unfold decI; rw [hk]; rfl, show decE n = 0 by unfold decE; rw [hk]; rfl] at d1
      have hc : encZ (cand n) = (n : Int) ∧ goodB (cand n) = true := by
        unfold isWord at hk
        rw [Bool.and_eq_true] at hk
        exact ⟨beq_iff_eq.1 hk.2, hk.1⟩
      have g := good_calls (cand n)
      have en2 := enc_yes (cand n) hc.2
      rw [hc.2] at g
      rw [hc.1] at en2
      clear hc
      generalize cand n = I at d1 g en2
      obtain ⟨f0, u0, v0, a0, b0, c0, o0, i0⟩ := I
      have D1 := Lib.hid (show ∀ w : World, Calls Try.prog 19 #[.int .u32 n] w fun e w' => e = .returned (.tuple #[.agg #[.int .i64 f0, .bool u0, .bool v0, .int .i64 a0, .int .i64 b0, .int .i64 c0, .int .i64 o0, .int .i64 i0], .int .i64 0]) ∧ Below w.heap.size w w' from d1)
      have G2 := Lib.hid (show ∀ w : World, Calls Try.prog 16 #[.agg #[.int .i64 f0, .bool u0, .bool v0, .int .i64 a0, .int .i64 b0, .int .i64 c0, .int .i64 o0, .int .i64 i0]] w fun e w' => e = .returned (.bool true) ∧ Below w.heap.size w w' from g)
      have E2 := Lib.hid (show ∀ w : World, Calls Try.prog 14 #[.agg #[.int .i64 f0, .bool u0, .bool v0, .int .i64 a0, .int .i64 b0, .int .i64 c0, .int .i64 o0, .int .i64 i0]] w fun e w' => e = .returned (.tuple #[.int .u32 n, .int .i64 0]) ∧ Below w.heap.size w w' from en2)
      clear d1 g en2 w0 h0 h1 hn hk hg
      go_enter Try.func5, Try.ntmps5
      go_wp2_with fail
      refine (E1.out _).mono ?_
      rintro e w1 ⟨rfl, hb1⟩
      have c1_0 := (box_on (b := w.heap.size) hb1 (by first | (simp; done) | (simp <;> omega) | omega)).1
      have z1 := hb1.size
      try simp at z1
      have l1_0 : w.heap.size < w1.heap.size := by omega
      clear z1
      have HB1 := Lib.hid (show Below w.heap.size w w1 from below_call (by repeat (first | exact Below.refl _ _ | apply below_drewN | refine Below.setCell ?_ (by simp <;> omega) _ | refine Below.alloc ?_ (by simp <;> omega) _)) hb1)
      clear hb1
      go_wp2_with fail
      refine (D1.out _).mono ?_
      rintro e w2 ⟨rfl, hb2⟩
      have z2 := hb2.size
      try simp at z2
      have HB2 := Lib.hid (show Below w.heap.size w w2 from below_call (by repeat (first | exact HB1.out | apply below_drewN | refine Below.setCell ?_ (by have := HB1.out.size; simp <;> omega) _ | refine Below.alloc ?_ (by have := HB1.out.size; simp <;> omega) _)) hb2)
      clear hb2
      go_wp2_with fail
      refine (E2.out _).mono ?_
      rintro e w3 ⟨rfl, hb3⟩
      have c3_0 := (box_on (b := w2.heap.size) hb3 (by first | (simp; done) | (simp <;> omega) | omega)).1
      have z3 := hb3.size
      try simp at z3
      have l3_0 : w2.heap.size < w3.heap.size := by omega
      clear z3
      have HB3 := Lib.hid (show Below w.heap.size w w3 from below_call (by repeat (first | exact HB2.out | apply below_drewN | refine Below.setCell ?_ (by have := HB2.out.size; simp <;> omega) _ | refine Below.alloc ?_ (by have := HB2.out.size; simp <;> omega) _)) hb3)
      clear hb3
      go_wp2_with fail
      refine (G2.out _).mono ?_
      rintro e w4 ⟨rfl, hb4⟩
      have c4_0 := (box_on (b := w2.heap.size) hb4 (by first | (simp; done) | (simp <;> omega) | omega)).1
      have z4 := hb4.size
      try simp at z4
      have l4_0 : w2.heap.size < w4.heap.size := by omega
      clear z4
      have HB4 := Lib.hid (show Below w.heap.size w w4 from below_call (by repeat (first | exact HB3.out | apply below_drewN | refine Below.setCell ?_ (by have := HB3.out.size; simp <;> omega) _ | refine Below.alloc ?_ (by have := HB3.out.size; simp <;> omega) _)) hb4)
      clear hb4
      go_wp2_with fail
      refine (wakes02 _).mono ?_
      rintro e w5 ⟨rfl, hb5⟩
      have z5 := hb5.size
      try simp at z5
      have HB5 := Lib.hid (show Below w.heap.size w w5 from below_call (by repeat (first | exact HB4.out | apply below_drewN | refine Below.setCell ?_ (by have := HB4.out.size; simp <;> omega) _ | refine Below.alloc ?_ (by have := HB4.out.size; simp <;> omega) _)) hb5)
      clear hb5
      go_wp2_with fail
      go_ret
      exact ⟨rfl, (by repeat (first | exact HB5.out | apply below_drewN | refine Below.setCell ?_ (by have := HB5.out.size; simp <;> omega) _ | refine Below.alloc ?_ (by have := HB5.out.size; simp <;> omega) _))⟩
  · obtain ⟨m, e1, e2, e3, e4⟩ := dec_enc _ hg
    have en := enc_yes _ hg
    rw [e1] at en
    have d0 := dec_calls m e2
    rw [e3, e4] at d0
    have s0 := same_self ⟨xf, xu, xv, xa, xb, xc, xo, xi⟩
    have E1 := Lib.hid (show ∀ w : World, Calls Try.prog 14 #[.agg #[.int .i64 xf, .bool xu, .bool xv, .int .i64 xa, .int .i64 xb, .int .i64 xc, .int .i64 xo, .int .i64 xi]] w fun e w' => e = .returned (.tuple #[.int .u32 m, .int .i64 0]) ∧ Below w.heap.size w w' from en)
    have S0 := Lib.hid (show ∀ w : World, Calls Try.prog 21 #[.agg #[.int .i64 xf, .bool xu, .bool xv, .int .i64 xa, .int .i64 xb, .int .i64 xc, .int .i64 xo, .int .i64 xi], .agg #[.int .i64 xf, .bool xu, .bool xv, .int .i64 xa, .int .i64 xb, .int .i64 xc, .int .i64 xo, .int .i64 xi]] w fun e w' => e = .returned (.bool true) ∧ Below w.heap.size w w' from s0)
    have D0 := Lib.hid (show ∀ w : World, Calls Try.prog 19 #[.int .u32 m] w fun e w' => e = .returned (.tuple #[.agg #[.int .i64 xf, .bool xu, .bool xv, .int .i64 xa, .int .i64 xb, .int .i64 xc, .int .i64 xo, .int .i64 xi], .int .i64 0]) ∧ Below w.heap.size w w' from d0)
    cases hk : isWord n
    · rw [show decI n = zeroIns by unfold decI; rw [hk]; rfl, show decE n = 20 by unfold decE; rw [hk]; rfl] at d1
      have D1 := Lib.hid (show ∀ w : World, Calls Try.prog 19 #[.int .u32 n] w fun e w' => e = .returned (.tuple #[.agg #[.int .i64 0, .bool false, .bool false, .int .i64 0, .int .i64 0, .int .i64 0, .int .i64 0, .int .i64 0], .int .i64 20]) ∧ Below w.heap.size w w' from d1)
      have SZ := Lib.hid (show ∀ w : World, Calls Try.prog 21 #[.agg #[.int .i64 0, .bool false, .bool false, .int .i64 0, .int .i64 0, .int .i64 0, .int .i64 0, .int .i64 0], .agg #[.int .i64 0, .bool false, .bool false, .int .i64 0, .int .i64 0, .int .i64 0, .int .i64 0, .int .i64 0]] w fun e w' => e = .returned (.bool true) ∧ Below w.heap.size w w' from same_self zeroIns)
      have G12 := Lib.hid (show ∀ w : World, Calls Try.prog 16 #[.agg #[.int .i64 0, .bool false, .bool false, .int .i64 0, .int .i64 0, .int .i64 0, .int .i64 12, .int .i64 0]] w fun e w' => e = .returned (.bool false) ∧ Below w.heap.size w w' from fun w => good_calls ⟨0, false, false, 0, 0, 0, 12, 0⟩ w)
      clear d1 w0 h0 h1 hn hk hg en d0 s0 e1 e2 e3 e4
      go_enter Try.func5, Try.ntmps5
      go_wp2_with fail
      refine (E1.out _).mono ?_
      rintro e w1 ⟨rfl, hb1⟩
      have c1_0 := (box_on (b := w.heap.size) hb1 (by first | (simp; done) | (simp <;> omega) | omega)).1
      have z1 := hb1.size
      try simp at z1
      have l1_0 : w.heap.size < w1.heap.size := by omega
      clear z1
      have HB1 := Lib.hid (show Below w.heap.size w w1 from below_call (by repeat (first | exact Below.refl _ _ | apply below_drewN | refine Below.setCell ?_ (by simp <;> omega) _ | refine Below.alloc ?_ (by simp <;> omega) _)) hb1)
      clear hb1
      go_wp2_with fail
      refine (D0.out _).mono ?_
      rintro e w2 ⟨rfl, hb2⟩
      have c2_0 := (box_on (b := w.heap.size) hb2 (by first | (simp; done) | (simp <;> omega) | omega)).1
      have z2 := hb2.size
      try simp at z2
      have l2_0 : w.heap.size < w2.heap.size := by omega
      clear z2
      have HB2 := Lib.hid (show Below w.heap.size w w2 from below_call (by repeat (first | exact HB1.out | apply below_drewN | refine Below.setCell ?_ (by have := HB1.out.size; simp <;> omega) _ | refine Below.alloc ?_ (by have := HB1.out.size; simp <;> omega) _)) hb2)
      clear hb2
      go_wp2_with fail
      refine (S0.out _).mono ?_
      rintro e w3 ⟨rfl, hb3⟩
      have c3_0 := (box_on (b := w.heap.size) hb3 (by first | (simp; done) | (simp <;> omega) | omega)).1
      have c3_1 := (box_on (b := w2.heap.size) hb3 (by first | (simp; done) | (simp <;> omega) | omega)).1
      have z3 := hb3.size
      try simp at z3
      have l3_0 : w.heap.size < w3.heap.size := by omega
      have l3_1 : w2.heap.size < w3.heap.size := by omega
      clear z3
      have HB3 := Lib.hid (show Below w.heap.size w w3 from below_call (by repeat (first | exact HB2.out | apply below_drewN | refine Below.setCell ?_ (by have := HB2.out.size; simp <;> omega) _ | refine Below.alloc ?_ (by have := HB2.out.size; simp <;> omega) _)) hb3)
      clear hb3
      go_wp2_with fail
      refine (D1.out _).mono ?_
      rintro e w4 ⟨rfl, hb4⟩
      have z4 := hb4.size
      try simp at z4
      have HB4 := Lib.hid (show Below w.heap.size w w4 from below_call (by repeat (first | exact HB3.out | apply below_drewN | refine Below.setCell ?_ (by have := HB3.out.size; simp <;> omega) _ | refine Below.alloc ?_ (by have := HB3.out.size; simp <;> omega) _)) hb4)
      clear hb4
      go_wp2_with fail
      refine (SZ.out _).mono ?_
      rintro e w5 ⟨rfl, hb5⟩
      have c5_0 := (box_on (b := w4.heap.size) hb5 (by first | (simp; done) | (simp <;> omega) | omega)).1
      have z5 := hb5.size
      try simp at z5
      have l5_0 : w4.heap.size < w5.heap.size := by omega
      clear z5
      have HB5 := Lib.hid (show Below w.heap.size w w5 from below_call (by repeat (first | exact HB4.out | apply below_drewN | refine Below.setCell ?_ (by have := HB4.out.size; simp <;> omega) _ | refine Below.alloc ?_ (by have := HB4.out.size; simp <;> omega) _)) hb5)
      clear hb5
      go_wp2_with fail
      refine (G12.out _).mono ?_
      rintro e w6 ⟨rfl, hb6⟩
      have z6 := hb6.size
      try simp at z6
      have HB6 := Lib.hid (show Below w.heap.size w w6 from below_call (by repeat (first | exact HB5.out | apply below_drewN | refine Below.setCell ?_ (by have := HB5.out.size; simp <;> omega) _ | refine Below.alloc ?_ (by have := HB5.out.size; simp <;> omega) _)) hb6)
      clear hb6
      go_wp2_with fail
      refine (wakes02 _).mono ?_
      rintro e w7 ⟨rfl, hb7⟩
      have z7 := hb7.size
      try simp at z7
      have HB7 := Lib.hid (show Below w.heap.size w w7 from below_call (by repeat (first | exact HB6.out | apply below_drewN | refine Below.setCell ?_ (by have := HB6.out.size; simp <;> omega) _ | refine Below.alloc ?_ (by have := HB6.out.size; simp <;> omega) _)) hb7)
      clear hb7
      go_wp2_with fail
      go_ret
      exact ⟨rfl, (by repeat (first | exact HB7.out | apply below_drewN | refine Below.setCell ?_ (by have := HB7.out.size; simp <;> omega) _ | refine Below.alloc ?_ (by have := HB7.out.size; simp <;> omega) _))⟩
    · rw [show decI n = cand n by unfold decI; rw [hk]; rfl, show decE n = 0 by unfold decE; rw [hk]; rfl] at d1
      have hc : encZ (cand n) = (n : Int) ∧ goodB (cand n) = true := by
        unfold isWord at hk
        rw [Bool.and_eq_true] at hk
        exact ⟨beq_iff_eq.1 hk.2, hk.1⟩
      have g := good_calls (cand n)
      have en2 := enc_yes (cand n) hc.2
      rw [hc.2] at g
      rw [hc.1] at en2
      clear hc
      generalize cand n = I at d1 g en2
      obtain ⟨f0, u0, v0, a0, b0, c0, o0, i0⟩ := I
      have D1 := Lib.hid (show ∀ w : World, Calls Try.prog 19 #[.int .u32 n] w fun e w' => e = .returned (.tuple #[.agg #[.int .i64 f0, .bool u0, .bool v0, .int .i64 a0, .int .i64 b0, .int .i64 c0, .int .i64 o0, .int .i64 i0], .int .i64 0]) ∧ Below w.heap.size w w' from d1)
      have G2 := Lib.hid (show ∀ w : World, Calls Try.prog 16 #[.agg #[.int .i64 f0, .bool u0, .bool v0, .int .i64 a0, .int .i64 b0, .int .i64 c0, .int .i64 o0, .int .i64 i0]] w fun e w' => e = .returned (.bool true) ∧ Below w.heap.size w w' from g)
      have E2 := Lib.hid (show ∀ w : World, Calls Try.prog 14 #[.agg #[.int .i64 f0, .bool u0, .bool v0, .int .i64 a0, .int .i64 b0, .int .i64 c0, .int .i64 o0, .int .i64 i0]] w fun e w' => e = .returned (.tuple #[.int .u32 n, .int .i64 0]) ∧ Below w.heap.size w w' from en2)
      clear d1 g en2 w0 h0 h1 hn hk hg en d0 s0 e1 e2 e3 e4
      go_enter Try.func5, Try.ntmps5
      go_wp2_with fail
      refine (E1.out _).mono ?_
      rintro e w1 ⟨rfl, hb1⟩
      have c1_0 := (box_on (b := w.heap.size) hb1 (by first | (simp; done) | (simp <;> omega) | omega)).1
      have z1 := hb1.size
      try simp at z1
      have l1_0 : w.heap.size < w1.heap.size := by omega
      clear z1
      have HB1 := Lib.hid (show Below w.heap.size w w1 from below_call (by repeat (first | exact Below.refl _ _ | apply below_drewN | refine Below.setCell ?_ (by simp <;> omega) _ | refine Below.alloc ?_ (by simp <;> omega) _)) hb1)
      clear hb1
      go_wp2_with fail
      refine (D0.out _).mono ?_
      rintro e w2 ⟨rfl, hb2⟩
      have c2_0 := (box_on (b := w.heap.size) hb2 (by first | (simp; done) | (simp <;> omega) | omega)).1
      have z2 := hb2.size
      try simp at z2
      have l2_0 : w.heap.size < w2.heap.size := by omega
      clear z2
      have HB2 := Lib.hid (show Below w.heap.size w w2 from below_call (by repeat (first | exact HB1.out | apply below_drewN | refine Below.setCell ?_ (by have := HB1.out.size; simp <;> omega) _ | refine Below.alloc ?_ (by have := HB1.out.size; simp <;> omega) _)) hb2)
      clear hb2
      go_wp2_with fail
      refine (S0.out _).mono ?_
      rintro e w3 ⟨rfl, hb3⟩
      have c3_0 := (box_on (b := w.heap.size) hb3 (by first | (simp; done) | (simp <;> omega) | omega)).1
      have c3_1 := (box_on (b := w2.heap.size) hb3 (by first | (simp; done) | (simp <;> omega) | omega)).1
      have z3 := hb3.size
      try simp at z3
      have l3_0 : w.heap.size < w3.heap.size := by omega
      have l3_1 : w2.heap.size < w3.heap.size := by omega
      clear z3
      have HB3 := Lib.hid (show Below w.heap.size w w3 from below_call (by repeat (first | exact HB2.out | apply below_drewN | refine Below.setCell ?_ (by have := HB2.out.size; simp <;> omega) _ | refine Below.alloc ?_ (by have := HB2.out.size; simp <;> omega) _)) hb3)
      clear hb3
      go_wp2_with fail
      refine (D1.out _).mono ?_
      rintro e w4 ⟨rfl, hb4⟩
      have z4 := hb4.size
      try simp at z4
      have HB4 := Lib.hid (show Below w.heap.size w w4 from below_call (by repeat (first | exact HB3.out | apply below_drewN | refine Below.setCell ?_ (by have := HB3.out.size; simp <;> omega) _ | refine Below.alloc ?_ (by have := HB3.out.size; simp <;> omega) _)) hb4)
      clear hb4
      go_wp2_with fail
      refine (E2.out _).mono ?_
      rintro e w5 ⟨rfl, hb5⟩
      have c5_0 := (box_on (b := w4.heap.size) hb5 (by first | (simp; done) | (simp <;> omega) | omega)).1
      have z5 := hb5.size
      try simp at z5
      have l5_0 : w4.heap.size < w5.heap.size := by omega
      clear z5
      have HB5 := Lib.hid (show Below w.heap.size w w5 from below_call (by repeat (first | exact HB4.out | apply below_drewN | refine Below.setCell ?_ (by have := HB4.out.size; simp <;> omega) _ | refine Below.alloc ?_ (by have := HB4.out.size; simp <;> omega) _)) hb5)
      clear hb5
      go_wp2_with fail
      refine (G2.out _).mono ?_
      rintro e w6 ⟨rfl, hb6⟩
      have c6_0 := (box_on (b := w4.heap.size) hb6 (by first | (simp; done) | (simp <;> omega) | omega)).1
      have z6 := hb6.size
      try simp at z6
      have l6_0 : w4.heap.size < w6.heap.size := by omega
      clear z6
      have HB6 := Lib.hid (show Below w.heap.size w w6 from below_call (by repeat (first | exact HB5.out | apply below_drewN | refine Below.setCell ?_ (by have := HB5.out.size; simp <;> omega) _ | refine Below.alloc ?_ (by have := HB5.out.size; simp <;> omega) _)) hb6)
      clear hb6
      go_wp2_with fail
      refine (wakes02 _).mono ?_
      rintro e w7 ⟨rfl, hb7⟩
      have z7 := hb7.size
      try simp at z7
      have HB7 := Lib.hid (show Below w.heap.size w w7 from below_call (by repeat (first | exact HB6.out | apply below_drewN | refine Below.setCell ?_ (by have := HB6.out.size; simp <;> omega) _ | refine Below.alloc ?_ (by have := HB6.out.size; simp <;> omega) _)) hb7)
      clear hb7
      go_wp2_with fail
      go_ret
      exact ⟨rfl, (by repeat (first | exact HB7.out | apply below_drewN | refine Below.setCell ?_ (by have := HB7.out.size; simp <;> omega) _ | refine Below.alloc ?_ (by have := HB7.out.size; simp <;> omega) _))⟩
end Go.Proofs.Ytbhdejoljappfaa
namespace Go.Proofs.Ytbhdejoljappfaa.riscBack
open Go.ChangeShapes Go.WideShapes Go.ChangeAt Go.RowKit Go.Joins
open Go.ChangeMaps (open_string shut_string)
set_option linter.unusedVariables false
theorem own : ownKnob Try.prog.godebug = none := by kernel_rfl
set_option maxRecDepth 100000 in
theorem lifted (os : Os) (started : os.Started) (H : Type) (enc : TypeId × Value → H) :
    ReturnsInHanded {} Try.checked os 5 .any (Rows.riscBackSpec.pre6 enc Try.prog Try.f5 Rows.riscBackRow.domain false) (Rows.riscBackSpec.post enc Try.prog Try.f5 false true false false) := by
  refine returnsInHanded_of_change_sized (C := Try.checked) own started (by kernel_rfl) Try.func5
    (ChangeSpec.witness6 (enc := enc) (C := Try.checked) false ⟨#[], #[.agg #[.int .i64 0, .bool false, .bool false, .int .i64 0, .int .i64 0, .int .i64 0, .int .i64 0, .int .i64 0], .int .u32 0], []⟩ 8 (by kernel_rfl) (by kernel_rfl) (by kernel_rfl) (by kernel_rfl)) ?_
  intro W base args ds gs before hval0 hW hcnd hsz0 _
  have hval : ∀ (j : Nat) t v, Try.f5.params[j]? = some t → args[j]? = some v → Value.okWide Try.prog W .any base t v := hval0
  have hW' := hW
  obtain ⟨p, q, hA0, hV, rfl, hfz, hnd⟩ := hW
  have hA : DataW.TrodAll enc Try.prog W 0 (fun _ => true) true Try.f5.params.toList args.toList ds p := hA0
  rw [Try.params5] at hA hval
  obtain ⟨v0, vs0, d0, ds0, p0, q0, hargs, rfl, rfl, h0, r0⟩ := trodAll_cons hA
  obtain ⟨v1, vs1, d1, ds1, p1, q1, rfl, rfl, rfl, h1, r1⟩ := trodAll_cons r0
  obtain ⟨rfl, rfl, rfl⟩ := trodAll_nil r1
  obtain rfl : args = #[v0, v1] := by cases args; simp_all
  obtain ⟨rfl, rfl⟩ := trodVars_none hV
  obtain ⟨x0, rfl, rfl, rfl, w0⟩ := open_ins (hval 0 23 v0 rfl rfl) h0
  obtain ⟨a1, rfl, rfl, rfl, w1⟩ := open_int Try.underlying24 (hval 1 24 v1 rfl rfl) h1
  try simp only [List.append_nil] at hW'
  refine (riscBack_calls x0 a1 W w1).mono fun e W' ⟨he, hd⟩ => ?_
  subst he
  exact ⟨_, rfl, _, _, _, [], _, [], hW', trodAll_mk1 (shut_bool Try.underlying4 _), (trodAll_cons_mk (shut_ins x0 w0) (trodAll_cons_mk (shut_int Try.underlying24 w1) trodAll_mk0)), rfl, hd.frame _, fun h => by cases h⟩
theorem over : Rows.riscBackRow.holds Try.pinned (OpenSpec.ofChange Rows.riscBackSpec) :=
  OpenClaim.holds_of_wide 5 Try.f5 rfl rfl rfl rfl rfl rfl rfl ⟨rfl, rfl, rfl, rfl, rfl⟩ rfl rfl rfl rfl rfl (by kernel_rfl) Try.func5 (by kernel_rfl)
    (of_decide_eq_true (by kernel_rfl)) (by unfold Func.isWrapper; first | (rw [if_pos (by decide +kernel)]; kernel_rfl) | (rw [if_neg (by decide +kernel)]; exact ⟨rfl, rfl⟩))
    (fun os started H enc _ => lifted os started H enc)
theorem proved : Rows.RiscBackSaid := over
#print axioms proved
end Go.Proofs.Ytbhdejoljappfaa.riscBack
namespace Go.Proofs.Ytbhdejoljappfaa
theorem riscBack_holds : Rows.RiscBackSaid := riscBack.proved
end Go.Proofs.Ytbhdejoljappfaa
