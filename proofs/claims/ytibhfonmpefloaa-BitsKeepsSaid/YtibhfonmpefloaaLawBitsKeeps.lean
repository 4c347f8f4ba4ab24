/- BitsKeeps: what was put is got, all other bits stay, and it is put back. For every input, without a condition. -/
import Derived.Test.YtibhfonmpefloaaRows
import Derived.Test.YtibhfonmpefloaaWakes01
import Derived.WalkKit
import Derived.WalkSmall
import Derived.ProofKit
import Derived.OpenShut
import Derived.ShutString
import Derived.ChangeOld
import Derived.Below
import Derived.SizedLaws
import Derived.Lib.SmallJoins
import Derived.Outline
namespace Go.Proofs.Ytibhfonmpefloaa
open Go.RowKit
theorem below_draws {w w' : World} (h : ∃ k, w' = w.drewN k) : Below w.heap.size w w' := by
  obtain ⟨k, rfl⟩ := h
  exact below_drewN (Below.refl _ _) k
theorem put_parts (x lo n v : Nat) : putN x lo n v / 2 ^ lo / 2 ^ n = x / 2 ^ lo / 2 ^ n ∧ putN x lo n v / 2 ^ lo % 2 ^ n = v % 2 ^ n ∧ putN x lo n v % 2 ^ lo = x % 2 ^ lo := by
  have h1 : x % 2 ^ lo < 2 ^ lo := Nat.mod_lt _ (Nat.two_pow_pos _)
  have h2 : v % 2 ^ n < 2 ^ n := Nat.mod_lt _ (Nat.two_pow_pos _)
  have e1 : putN x lo n v / 2 ^ lo = 2 ^ n * (x / 2 ^ lo / 2 ^ n) + v % 2 ^ n := by
    unfold putN
    rw [Nat.mul_add_div (Nat.two_pow_pos _), Nat.div_eq_of_lt h1, Nat.add_zero]
  refine ⟨?_, ?_, ?_⟩
  · rw [e1, Nat.mul_add_div (Nat.two_pow_pos _), Nat.div_eq_of_lt h2, Nat.add_zero]
  · rw [e1, Nat.mul_add_mod, Nat.mod_mod]
  · unfold putN
    rw [Nat.mul_add_mod, Nat.mod_mod]
theorem put_again (x lo n v : Nat) : putN (putN x lo n v) lo n (x / 2 ^ lo % 2 ^ n) = x := by
  obtain ⟨h1, _, h3⟩ := put_parts x lo n v
  have h := cut3 x lo n
  rw [putN, h1, h3, Nat.mod_mod]
  exact h.symm
theorem put_lt (x lo n v : Nat) (hx : x < 4294967296) (h2 : lo + n ≤ 32) : putN x lo n v < 4294967296 := by
  have hm := maskAt_lt lo n h2
  unfold putN
  rw [← put_bits x v lo n hx h2]
  exact Nat.or_lt_two_pow (n := 32) (Nat.lt_of_le_of_lt Nat.and_le_left hx) (Nat.lt_of_le_of_lt Nat.and_le_right hm)
theorem cut_off (x lo n : Nat) (hx : x < 4294967296) (h2 : lo + n ≤ 32) : x &&& (4294967295 - 2 ^ lo * (2 ^ n - 1)) = putN x lo n 0 := by
  have h := put_bits x 0 lo n hx h2
  rw [Nat.zero_mul, Nat.zero_mod, Nat.zero_and, Nat.or_zero] at h
  exact h
theorem ones_cut (n : Nat) (h : n ≤ 32) : 4294967295 / 2 ^ (32 - n) = 2 ^ n - 1 := by
  have h1 : 2 ^ (32 - n) * 2 ^ n = 4294967296 := by rw [← Nat.pow_add, show 32 - n + n = 32 by omega]
  have h2 := Nat.two_pow_pos n
  have h3 := Nat.two_pow_pos (32 - n)
  have h4 : 2 ^ (32 - n) * (2 ^ n - 1) + 2 ^ (32 - n) = 4294967296 := by rw [← Nat.mul_succ, Nat.succ_eq_add_one, Nat.sub_add_cancel h2, h1]
  have h5 : (2 ^ n - 1) * 2 ^ (32 - n) = 2 ^ (32 - n) * (2 ^ n - 1) := Nat.mul_comm _ _
  refine Nat.div_eq_of_lt_le ?_ ?_
  · omega
  · rw [Nat.add_mul]; omega
theorem keeps_mask (x y lo n v : Nat) (hx : x < 4294967296) (h2 : lo + n ≤ 32) (hy : y = putN x lo n v) :
    Go.bits .andNot .u32 (y : Int) ((4294967295 : Int) / 2 ^ (32 - n) * 2 ^ lo % 4294967296) = Go.bits .andNot .u32 (x : Int) ((4294967295 : Int) / 2 ^ (32 - n) * 2 ^ lo % 4294967296) := by
  have hm := maskAt_lt lo n h2
  have e : (4294967295 : Int) / 2 ^ (32 - n) * 2 ^ lo % 4294967296 = ((2 ^ lo * (2 ^ n - 1) : Nat) : Int) := by
    have g1 : (4294967295 : Int) / 2 ^ (32 - n) = ((4294967295 / 2 ^ (32 - n) : Nat) : Int) := by simp
    have g2 : (2 : Int) ^ lo = ((2 ^ lo : Nat) : Int) := by simp
    rw [g1, ones_cut n (by omega), g2, ← Int.natCast_mul, Nat.mul_comm]
    omega
  have hyl : y < 4294967296 := by rw [hy]; exact put_lt x lo n v hx h2
  obtain ⟨p1, _, p3⟩ := put_parts x lo n v
  rw [e, andNot_u32 _ _ hyl hm, andNot_u32 _ _ hx hm, cut_off y lo n hyl h2, cut_off x lo n hx h2, hy]
  unfold putN at *
  rw [p1, p3]
theorem shifted_back (v n : Nat) (h : n ≤ 32) : (v : Int) * 2 ^ (32 - n) % 4294967296 / 2 ^ (32 - n) = ((v % 2 ^ n : Nat) : Int) := by
  have h1 : 2 ^ (32 - n) * 2 ^ n = 4294967296 := by rw [← Nat.pow_add, show 32 - n + n = 32 by omega]
  have e : (v : Int) * 2 ^ (32 - n) % 4294967296 / 2 ^ (32 - n) = ((v * 2 ^ (32 - n) % 4294967296 / 2 ^ (32 - n) : Nat) : Int) := by
    rw [Int.natCast_ediv, Int.natCast_emod, Int.natCast_mul]; simp
  rw [e, ← h1, Nat.mul_comm v, Nat.mul_mod_mul_left, Nat.mul_div_cancel_left _ (Nat.two_pow_pos _)]
theorem u64_nat (a : Int) : IntKind.u64.wrap a = ((a % 18446744073709551616).toNat : Int) := by
  simp [IntKind.wrap, IntKind.bits, IntKind.signed]
  omega
theorem u64_small (x : Int) (h0 : 0 ≤ x) (h1 : x < 18446744073709551616) : IntKind.u64.wrap x = x := by
  simp [IntKind.wrap, IntKind.bits, IntKind.signed]
  omega
theorem bitsKeeps_calls (a0 a1 a2 a3 : Int) (w : World) (w0 : (Lit.int .u32 a0).wf = true) (w1 : (Lit.int .u32 a1).wf = true) (_w2 : (Lit.int .i64 a2).wf = true) (_w3 : (Lit.int .i64 a3).wf = true) :
    Calls Try.prog 9 #[.agg #[.int .u32 a0, .int .u32 a1, .int .i64 a2, .int .i64 a3]] w fun e w' => e = .returned (.bool true) ∧ Below w.heap.size w w' := by
  obtain ⟨h0, h1⟩ := bounds_u32 w0
  obtain ⟨h2, h3⟩ := bounds_u32 w1
  obtain ⟨x, rfl⟩ := Int.eq_ofNat_of_zero_le h0
  obtain ⟨v, rfl⟩ := Int.eq_ofNat_of_zero_le h2
  have hx : x < 4294967296 := by omega
  obtain ⟨A, hA⟩ : ∃ A : Nat, IntKind.u64.wrap a2 = (A : Int) := ⟨_, u64_nat a2⟩
  obtain ⟨B, hB⟩ : ∃ B : Nat, IntKind.u64.wrap a3 = (B : Int) := ⟨_, u64_nat a3⟩
  obtain ⟨L, hL⟩ : ∃ L : Nat, L = A % 32 := ⟨_, rfl⟩
  have eL : (A : Int) % 32 = (L : Int) := by omega
  obtain ⟨K, hK⟩ : ∃ K : Nat, K = 32 - L := ⟨_, rfl⟩
  have eK : (32 : Int) - (L : Int) = (K : Int) := by omega
  have wK : IntKind.u64.wrap (K : Int) = (K : Int) := u64_small _ (by omega) (by omega)
  obtain ⟨M, hM⟩ : ∃ M : Nat, M = B % K := ⟨_, rfl⟩
  have hMK : M < K := by rw [hM]; exact Nat.mod_lt _ (by omega)
  have eM : (B : Int) % (K : Int) = (M : Int) := by rw [hM]; simp
  have l1 : (L : Int) < 32 := by omega
  have k1 : (0 : Int) < (K : Int) := by omega
  have k2 : (K : Int) ≤ 32 := by omega
  have m1 : (M : Int) < 32 := by omega
  obtain ⟨n, hn⟩ : ∃ n : Nat, n = M + 1 := ⟨_, rfl⟩
  have eN : 1 + (M : Int) = (n : Int) := by omega
  have n1 : 1 ≤ n := by omega
  have n2 : L + n ≤ 32 := by omega
  have n3 : (n : Int) ≤ 32 := by omega
  have wN : IntKind.u64.wrap (n : Int) = (n : Int) := u64_small _ (by omega) (by omega)
  obtain ⟨y, hy⟩ : ∃ y : Nat, y = putN x L n v := ⟨_, rfl⟩
  have hyl : y < 4294967296 := by rw [hy]; exact put_lt x L n v hx n2
  obtain ⟨o, ho⟩ : ∃ o : Nat, o = x / 2 ^ L % 2 ^ n := ⟨_, rfl⟩
  obtain ⟨g, hg⟩ : ∃ g : Nat, g = v % 2 ^ n := ⟨_, rfl⟩
  have A1 := Lib.hid (show ∀ w : World, Calls Try.prog 31 #[.int .u32 x, .int .i64 L, .int .i64 n, .int .u32 v] w fun e w' => e = .returned (.int .u32 y) ∧ ∃ k, w' = w.drewN k from fun w => by rw [hy]; exact put_yes x L n v hx n1 n2 w)
  have A2 := Lib.hid (show ∀ w : World, Calls Try.prog 25 #[.int .u32 x, .int .i64 L, .int .i64 n] w fun e w' => e = .returned (.int .u32 o) ∧ ∃ k, w' = w.drewN k from fun w => by rw [ho]; exact get_yes x L n hx n1 n2 w)
  have A3 := Lib.hid (show ∀ w : World, Calls Try.prog 25 #[.int .u32 y, .int .i64 L, .int .i64 n] w fun e w' => e = .returned (.int .u32 g) ∧ ∃ k, w' = w.drewN k from fun w => by have h := get_yes y L n hyl n1 n2 w; rw [show y / 2 ^ L % 2 ^ n = g by rw [hy, hg]; exact (put_parts x L n v).2.1] at h; exact h)
  have A4 := Lib.hid (show ∀ w : World, Calls Try.prog 31 #[.int .u32 y, .int .i64 L, .int .i64 n, .int .u32 o] w fun e w' => e = .returned (.int .u32 x) ∧ ∃ k, w' = w.drewN k from fun w => by have h := put_yes y L n o hyl n1 n2 w; rw [show putN y L n o = x by rw [hy, ho]; exact put_again x L n v] at h; exact h)
  have E1 : (v : Int) * 2 ^ (32 - n) % 4294967296 / 2 ^ (32 - n) = (g : Int) := by rw [hg]; exact shifted_back v n (by omega)
  have E2 := keeps_mask x y L n v hx n2 hy
  clear w0 w1 _w2 _w3 h0 h1 h2 h3 hx hL hK hM hn hy hyl ho hg
  go_enter Try.func9, Try.ntmps9
  go_wp2_with (first | (go_at_call 31; (with_reducible refine (A1.out _).mono ?_); rintro e w' ⟨rfl, nd1, rfl⟩) | (go_at_call 25; (with_reducible refine (A2.out _).mono ?_); rintro e w' ⟨rfl, nd2, rfl⟩))
  go_quiet ((first | (go_at_call 25; exact quietA (A3.out _)) | (go_at_call 31; exact quietA (A4.out _))))
  go_wp2_with (go_at_call 18; refine (wakes_calls _).mono ?_; rintro e w' ⟨rfl, nd3, rfl⟩)
  go_ret
  exact ⟨rfl, below_drewN ((Below.refl _ _).alloc (Nat.le_refl _) _) _⟩
end Go.Proofs.Ytibhfonmpefloaa
namespace Go.Proofs.Ytibhfonmpefloaa.bitsKeeps
open Go.ChangeShapes Go.WideShapes Go.ChangeAt Go.RowKit Go.Joins
open Go.ChangeMaps (open_string shut_string)
set_option linter.unusedVariables false
theorem own : ownKnob Try.prog.godebug = none := by kernel_rfl
set_option maxRecDepth 100000 in
theorem lifted (os : Os) (started : os.Started) (H : Type) (enc : TypeId × Value → H) :
    ReturnsInHanded {} Try.checked os 9 .any (Rows.bitsKeepsSpec.pre6 enc Try.prog Try.f9 Rows.bitsKeepsRow.domain false) (Rows.bitsKeepsSpec.post enc Try.prog Try.f9 false true false false) := by
  refine returnsInHanded_of_change_sized (C := Try.checked) own started (by kernel_rfl) Try.func9
    (ChangeSpec.witness6 (enc := enc) (C := Try.checked) false ⟨#[], #[.agg #[.int .u32 0, .int .u32 0, .int .i64 0, .int .i64 0]], []⟩ 8 (by kernel_rfl) (by kernel_rfl) (by kernel_rfl) (by kernel_rfl)) ?_
  intro W base args ds gs before hval0 hW hcnd hsz0 _
  have hval : ∀ (j : Nat) t v, Try.f9.params[j]? = some t → args[j]? = some v → Value.okWide Try.prog W .any base t v := hval0
  have hW' := hW
  obtain ⟨p, q, hA0, hV, rfl, hfz, hnd⟩ := hW
  have hA : DataW.TrodAll enc Try.prog W 0 (fun _ => true) true Try.f9.params.toList args.toList ds p := hA0
  rw [Try.params9] at hA hval
  obtain ⟨v0, vs0, d0, ds0, p0, q0, hargs, rfl, rfl, h0, r0⟩ := trodAll_cons hA
  obtain ⟨rfl, rfl, rfl⟩ := trodAll_nil r0
  obtain rfl : args = #[v0] := by cases args; simp_all
  obtain ⟨rfl, rfl⟩ := trodVars_none hV
  obtain ⟨c0, c1, c2, c3, y0, y1, y2, y3, m0, rfl, rfl, rfl, hy0, hy1, hy2, hy3⟩ := open_agg4 Try.underlying34 (by kernel_rfl) (show Try.prog.cellsOf 34 = 4 by kernel_rfl) (hval 0 34 v0 rfl rfl) h0
  obtain ⟨a0_0, e0, rfl, w0_0⟩ := DataW.trod_int Try.underlying22 hy0
  obtain ⟨a0_1, e1, rfl, w0_1⟩ := DataW.trod_int Try.underlying22 hy1
  obtain ⟨a0_2, e2, rfl, w0_2⟩ := DataW.trod_int Try.underlying3 hy2
  obtain ⟨a0_3, e3, rfl, w0_3⟩ := DataW.trod_int Try.underlying3 hy3
  simp at e0 e1 e2 e3
  subst e0 e1 e2 e3
  simp only [List.append_nil] at hW'
  refine (bitsKeeps_calls a0_0 a0_1 a0_2 a0_3 W w0_0 w0_1 w0_2 w0_3).mono fun e W' ⟨he, hd⟩ => ?_
  subst he
  exact ⟨_, rfl, _, _, _, [], _, [], hW', trodAll_mk1 (shut_bool Try.underlying4 _), (trodAll_cons_mk (shut_agg4 (y0 := (.lit (.int .u32 a0_0), [])) (y1 := (.lit (.int .u32 a0_1), [])) (y2 := (.lit (.int .i64 a0_2), [])) (y3 := (.lit (.int .i64 a0_3), [])) Try.underlying34 (by kernel_rfl) (show Try.prog.cellsOf 34 = 4 by kernel_rfl) ⟨1, trod_int_mk 0 Try.underlying22 w0_0⟩ ⟨1, trod_int_mk 0 Try.underlying22 w0_1⟩ ⟨1, trod_int_mk 0 Try.underlying3 w0_2⟩ ⟨1, trod_int_mk 0 Try.underlying3 w0_3⟩) trodAll_mk0), rfl, hd.frame _, fun h => by cases h⟩
theorem over : Rows.bitsKeepsRow.holds Try.pinned (OpenSpec.ofChange Rows.bitsKeepsSpec) :=
  OpenClaim.holds_of_wide 9 Try.f9 rfl rfl rfl rfl rfl rfl rfl ⟨rfl, rfl, rfl, rfl, rfl⟩ rfl rfl rfl rfl rfl (by kernel_rfl) Try.func9 (by kernel_rfl)
    (of_decide_eq_true (by kernel_rfl)) (by unfold Func.isWrapper; first | (rw [if_pos (by decide +kernel)]; kernel_rfl) | (rw [if_neg (by decide +kernel)]; exact ⟨rfl, rfl⟩))
    (fun os started H enc _ => lifted os started H enc)
theorem proved : Rows.BitsKeepsSaid := over
#print axioms proved
end Go.Proofs.Ytibhfonmpefloaa.bitsKeeps
namespace Go.Proofs.Ytibhfonmpefloaa
theorem bitsKeeps_holds : Rows.BitsKeepsSaid := bitsKeeps.proved
end Go.Proofs.Ytibhfonmpefloaa
