/- MemoryForks: what is stored in a fork is not seen in what it came of, nor the other way round; all else is alike. For every input, without a condition. -/
import Derived.Test.YtibhfonmpefloaaRows
import Derived.Test.YtibhfonmpefloaaMemForksWay
import Derived.WalkKit
import Derived.WalkSmall
import Derived.ProofKit
import Derived.OpenShut
import Derived.ShutString
import Derived.ChangeOld
import Derived.Below
import Derived.SizedLaws
import Derived.Lib.SmallJoins
import Derived.Outline
namespace Go.Proofs.Ytibhfonmpefloaa
open Go.RowKit

theorem words_nothing (w : World) (a : Option Addr) : Words w a 0 [] := ⟨rfl, Nat.zero_le _, by simp, fun h => absurd h (by omega)⟩
set_option maxRecDepth 100000 in
theorem memoryForks_few (a : Option Addr) (len cap : Nat) (at_ v : Int) (w : World) (h0 : ((len : Int) == 0) = true) :
    Calls Try.prog 11 #[.slice a len cap, .int .u32 at_, .int .u32 v] w fun e w' => e = .returned (.bool true) ∧ Below w.heap.size w w' := by
  go_enter Try.func11, Try.ntmps11
  go_wp2_with (go_at_call 33; (with_reducible refine (wakes04 _).mono ?_); rintro e w4 ⟨rfl, hB4⟩; have HB4 := Lib.hid hB4; clear hB4)
  go_ret
  exact ⟨rfl, HB4.out⟩
set_option maxRecDepth 100000 in
theorem memoryForks_many (a : Option Addr) (len cap : Nat) (at_ v : Int) (w : World) (h0 : ((len : Int) == 0) = false) (h3 : (3000 : Int) < (len : Int)) :
    Calls Try.prog 11 #[.slice a len cap, .int .u32 at_, .int .u32 v] w fun e w' => e = .returned (.bool true) ∧ Below w.heap.size w w' := by
  go_enter Try.func11, Try.ntmps11
  go_wp2_with (go_at_call 33; (with_reducible refine (wakes04 _).mono ?_); rintro e w4 ⟨rfl, hB4⟩; have HB4 := Lib.hid hB4; clear hB4)
  go_ret
  exact ⟨rfl, HB4.out⟩
theorem memoryForks_calls (a0 : Option Addr) (len0 cap0 : Nat) (z0 : List Nat) (a1 a2 : Int) (w : World) (w0 : Words w a0 len0 z0) (w1 : (Lit.int .u32 a1).wf = true) (w2 : (Lit.int .u32 a2).wf = true) :
    Calls Try.prog 11 #[.slice a0 len0 cap0, .int .u32 a1, .int .u32 a2] w fun e w' => e = .returned (.bool true) ∧ Below w.heap.size w w' := by
  obtain ⟨h0, h1⟩ := bounds_u32 w1
  obtain ⟨h2, h3⟩ := bounds_u32 w2
  obtain ⟨at_, rfl⟩ := Int.eq_ofNat_of_zero_le h0
  obtain ⟨v, rfl⟩ := Int.eq_ofNat_of_zero_le h2
  by_cases hn : len0 = 0
  · exact memoryForks_few _ _ _ _ _ _ (by simp [hn])
  by_cases hm : 3000 < len0
  · exact memoryForks_many _ _ _ _ _ _ (by simp [hn]) (by omega)
  obtain ⟨hl, _, hs, hp⟩ := w0
  obtain ⟨b, off, rfl, hc⟩ := hp (by omega)
  have hk : at_ % len0 < z0.length := by rw [hl]; exact Nat.mod_lt _ (by omega)
  exact memoryForks_way b off len0 cap0 (4 * (at_ % len0)) (at_ % len0) z0[at_ % len0] at_ v _ z0 w hl (by simp [hn]) (by omega) hs hc (by omega) rfl (by simp) rfl (by simp)
end Go.Proofs.Ytibhfonmpefloaa
namespace Go.Proofs.Ytibhfonmpefloaa.memoryForks
open Go.ChangeShapes Go.WideShapes Go.ChangeAt Go.RowKit Go.Joins
open Go.ChangeMaps (open_string shut_string)
set_option linter.unusedVariables false
theorem own : ownKnob Try.prog.godebug = none := by kernel_rfl
theorem laidOut : laidOutB Try.prog = true := by kernel_rfl
set_option maxRecDepth 100000 in
theorem lifted (os : Os) (started : os.Started) (H : Type) (enc : TypeId × Value → H) :
    ReturnsInHanded {} Try.checked os 11 .any (Rows.memoryForksSpec.pre6 enc Try.prog Try.f11 Rows.memoryForksRow.domain false) (Rows.memoryForksSpec.post enc Try.prog Try.f11 false true false false) := by
  refine returnsInHanded_of_change_sized (C := Try.checked) own started (by kernel_rfl) Try.func11
    (ChangeSpec.witness6 (enc := enc) (C := Try.checked) false ⟨#[], #[.slice none 0 0, .int .u32 0, .int .u32 0], []⟩ 8 (by kernel_rfl) (by kernel_rfl) (by kernel_rfl) (by kernel_rfl)) ?_
  intro W base args ds gs before hval0 hW hcnd hsz0 _
  have hval : ∀ (j : Nat) t v, Try.f11.params[j]? = some t → args[j]? = some v → Value.okWide Try.prog W .any base t v := hval0
  have hW' := hW
  obtain ⟨p, q, hA0, hV, rfl, hfz, hnd⟩ := hW
  have hA : DataW.TrodAll enc Try.prog W 0 (fun _ => true) true Try.f11.params.toList args.toList ds p := hA0
  rw [Try.params11] at hA hval
  obtain ⟨v0, vs0, d0, ds0, p0, q0, hargs, rfl, rfl, h0, r0⟩ := trodAll_cons hA
  obtain ⟨v1, vs1, d1, ds1, p1, q1, rfl, rfl, rfl, h1, r1⟩ := trodAll_cons r0
  obtain ⟨v2, vs2, d2, ds2, p2, q2, rfl, rfl, rfl, h2, r2⟩ := trodAll_cons r1
  obtain ⟨rfl, rfl, rfl⟩ := trodAll_nil r2
  obtain rfl : args = #[v0, v1, v2] := by cases args; simp_all
  obtain ⟨rfl, rfl⟩ := trodVars_none hV
  obtain ⟨a0, len0, cap0, rfl⟩ := okWide_slice Try.underlying38 (hval 0 38 v0 rfl rfl)
  have k0 := h0
  have lt0 : ∀ x ∈ p0, x.block < W.heap.size := by obtain ⟨m, hm⟩ := k0; exact DataW.trod_lt m _ _ _ hm
  obtain ⟨z0, w0⟩ : ∃ xs, Words W a0 len0 xs := by
    obtain ⟨fuel, hf⟩ := h0
    rcases open_ints Try.underlying38 Try.underlying22 (by kernel_rfl) hf with ⟨hcs, _⟩ | ⟨x, l, c, zs, hcs, _, hl, hm, hz, _, hcell, hwz⟩
    · simp [Value.cells] at hcs
      obtain ⟨rfl, rfl, rfl⟩ := hcs
      exact ⟨[], words_nothing W none⟩
    · simp [Value.cells] at hcs
      obtain ⟨rfl, rfl, rfl⟩ := hcs
      exact words_row hl hm (by simpa using hz) hcell hwz
  obtain ⟨a1, rfl, rfl, rfl, w1⟩ := open_int Try.underlying22 (hval 1 22 v1 rfl rfl) h1
  obtain ⟨a2, rfl, rfl, rfl, w2⟩ := open_int Try.underlying22 (hval 2 22 v2 rfl rfl) h2
  refine (memoryForks_calls a0 len0 cap0 z0 a1 a2 W w0 w1 w2).mono fun e W' ⟨he, hd⟩ => ?_
  subst he
  exact ⟨_, rfl, _, _, _, [], _, [], hW', trodAll_mk1 (shut_bool Try.underlying4 _), (trodAll_cons_mk (Below.trod laidOut (by kernel_rfl) (of_decide_eq_true (by kernel_rfl)) k0 hd lt0) (trodAll_cons_mk (shut_int Try.underlying22 w1) (trodAll_cons_mk (shut_int Try.underlying22 w2) trodAll_mk0))), rfl, hd.frame _, fun h => by cases h⟩
theorem over : Rows.memoryForksRow.holds Try.pinned (OpenSpec.ofChange Rows.memoryForksSpec) :=
  OpenClaim.holds_of_wide 11 Try.f11 rfl rfl rfl rfl rfl rfl rfl ⟨rfl, rfl, rfl, rfl, rfl⟩ rfl rfl rfl rfl rfl (by kernel_rfl) Try.func11 (by kernel_rfl)
    (of_decide_eq_true (by kernel_rfl)) (by unfold Func.isWrapper; first | (rw [if_pos (by decide +kernel)]; kernel_rfl) | (rw [if_neg (by decide +kernel)]; exact ⟨rfl, rfl⟩))
    (fun os started H enc _ => lifted os started H enc)
theorem proved : Rows.MemoryForksSaid := over
#print axioms proved
end Go.Proofs.Ytibhfonmpefloaa.memoryForks
namespace Go.Proofs.Ytibhfonmpefloaa
theorem memoryForks_holds : Rows.MemoryForksSaid := memoryForks.proved
end Go.Proofs.Ytibhfonmpefloaa
