/- BitsCuts: any bits of any word, got and put, are the document's. For every input, without a condition. -/
import Derived.Test.YtibhfonmpefloaaRows
import Derived.Test.YtibhfonmpefloaaWakes01
import Derived.Test.YtibhfonmpefloaaRefBits
import Derived.WalkKit
import Derived.WalkSmall
import Derived.ProofKit
import Derived.OpenShut
import Derived.ShutString
import Derived.ChangeOld
import Derived.Below
import Derived.SizedLaws
import Derived.Lib.SmallJoins
import Derived.Outline
namespace Go.Proofs.Ytibhfonmpefloaa
open Go.RowKit
theorem below_draws {w w' : World} (h : ∃ k, w' = w.drewN k) : Below w.heap.size w w' := by
  obtain ⟨k, rfl⟩ := h
  exact below_drewN (Below.refl _ _) k
theorem bitsCuts_calls (a0 a1 a2 a3 : Int) (w : World) (w0 : (Lit.int .u32 a0).wf = true) (w1 : (Lit.int .u32 a1).wf = true) (_w2 : (Lit.int .i64 a2).wf = true) (_w3 : (Lit.int .i64 a3).wf = true) :
    Calls Try.prog 8 #[.agg #[.int .u32 a0, .int .u32 a1, .int .i64 a2, .int .i64 a3]] w fun e w' => e = .returned (.bool true) ∧ Below w.heap.size w w' := by
  obtain ⟨h0, h1⟩ := bounds_u32 w0
  obtain ⟨h2, h3⟩ := bounds_u32 w1
  obtain ⟨x, rfl⟩ := Int.eq_ofNat_of_zero_le h0
  obtain ⟨v, rfl⟩ := Int.eq_ofNat_of_zero_le h2
  have X := Lib.hid (show (x : Int) < 4294967296 by omega)
  have X' := Lib.hid (show x < 4294967296 by omega)
  have V := Lib.hid (show (v : Int) < 4294967296 by omega)
  clear w0 w1 _w2 _w3 h0 h1 h2 h3
  cases c : insB a2 a3
  · go_enter Try.func8, Try.ntmps8
    go_wp2
    go_quiet ((first | (go_at_call 25; exact q0 (get_no _ _ _ c _)) | (go_at_call 30; exact q0 (rget_no _ _ _ c _)) | (go_at_call 31; exact q0 (put_no _ _ _ _ c _)) | (go_at_call 32; exact q0 (rput_no _ _ _ _ c _)) | (go_at_call 18; exact Calls.quiet_of (wakes_calls _))))
    go_wp2
    go_ret
    exact ⟨rfl, below_drewN ((Below.refl _ _).alloc (Nat.le_refl _) _) _⟩
  · unfold insB at c
    obtain ⟨c1, c2, c3, c4⟩ := of_decide_eq_true c
    obtain ⟨lo, rfl⟩ := Int.eq_ofNat_of_zero_le c1
    obtain ⟨n, rfl⟩ := Int.eq_ofNat_of_zero_le (show 0 ≤ a3 by omega)
    have n1 : 1 ≤ n := by omega
    have n2 : lo + n ≤ 32 := by omega
    clear c c1 c2 c3 c4
    go_enter Try.func8, Try.ntmps8
    go_wp2
    go_quiet ((first | (go_at_call 25; exact Calls.quiet_of (get_yes _ _ _ X'.out n1 n2 _)) | (go_at_call 30; exact Calls.quiet_of (rget_yes _ _ _ X.out n1 n2 _)) | (go_at_call 31; exact Calls.quiet_of (put_yes _ _ _ _ X'.out n1 n2 _)) | (go_at_call 32; exact Calls.quiet_of (rput_yes _ _ _ _ X.out V.out n1 n2 _)) | (go_at_call 18; exact Calls.quiet_of (wakes_calls _))))
    go_wp2
    go_ret
    exact ⟨rfl, below_drewN ((Below.refl _ _).alloc (Nat.le_refl _) _) _⟩
end Go.Proofs.Ytibhfonmpefloaa
namespace Go.Proofs.Ytibhfonmpefloaa.bitsCuts
open Go.ChangeShapes Go.WideShapes Go.ChangeAt Go.RowKit Go.Joins
open Go.ChangeMaps (open_string shut_string)
set_option linter.unusedVariables false
theorem own : ownKnob Try.prog.godebug = none := by kernel_rfl
set_option maxRecDepth 100000 in
theorem lifted (os : Os) (started : os.Started) (H : Type) (enc : TypeId × Value → H) :
    ReturnsInHanded {} Try.checked os 8 .any (Rows.bitsCutsSpec.pre6 enc Try.prog Try.f8 Rows.bitsCutsRow.domain false) (Rows.bitsCutsSpec.post enc Try.prog Try.f8 false true false false) := by
  refine returnsInHanded_of_change_sized (C := Try.checked) own started (by kernel_rfl) Try.func8
    (ChangeSpec.witness6 (enc := enc) (C := Try.checked) false ⟨#[], #[.agg #[.int .u32 0, .int .u32 0, .int .i64 0, .int .i64 0]], []⟩ 8 (by kernel_rfl) (by kernel_rfl) (by kernel_rfl) (by kernel_rfl)) ?_
  intro W base args ds gs before hval0 hW hcnd hsz0 _
  have hval : ∀ (j : Nat) t v, Try.f8.params[j]? = some t → args[j]? = some v → Value.okWide Try.prog W .any base t v := hval0
  have hW' := hW
  obtain ⟨p, q, hA0, hV, rfl, hfz, hnd⟩ := hW
  have hA : DataW.TrodAll enc Try.prog W 0 (fun _ => true) true Try.f8.params.toList args.toList ds p := hA0
  rw [Try.params8] at hA hval
  obtain ⟨v0, vs0, d0, ds0, p0, q0, hargs, rfl, rfl, h0, r0⟩ := trodAll_cons hA
  obtain ⟨rfl, rfl, rfl⟩ := trodAll_nil r0
  obtain rfl : args = #[v0] := by cases args; simp_all
  obtain ⟨rfl, rfl⟩ := trodVars_none hV
  obtain ⟨c0, c1, c2, c3, y0, y1, y2, y3, m0, rfl, rfl, rfl, hy0, hy1, hy2, hy3⟩ := open_agg4 Try.underlying34 (by kernel_rfl) (show Try.prog.cellsOf 34 = 4 by kernel_rfl) (hval 0 34 v0 rfl rfl) h0
  obtain ⟨a0_0, e0, rfl, w0_0⟩ := DataW.trod_int Try.underlying22 hy0
  obtain ⟨a0_1, e1, rfl, w0_1⟩ := DataW.trod_int Try.underlying22 hy1
  obtain ⟨a0_2, e2, rfl, w0_2⟩ := DataW.trod_int Try.underlying3 hy2
  obtain ⟨a0_3, e3, rfl, w0_3⟩ := DataW.trod_int Try.underlying3 hy3
  simp at e0 e1 e2 e3
  subst e0 e1 e2 e3
  simp only [List.append_nil] at hW'
  refine (bitsCuts_calls a0_0 a0_1 a0_2 a0_3 W w0_0 w0_1 w0_2 w0_3).mono fun e W' ⟨he, hd⟩ => ?_
  subst he
  exact ⟨_, rfl, _, _, _, [], _, [], hW', trodAll_mk1 (shut_bool Try.underlying4 _), (trodAll_cons_mk (shut_agg4 (y0 := (.lit (.int .u32 a0_0), [])) (y1 := (.lit (.int .u32 a0_1), [])) (y2 := (.lit (.int .i64 a0_2), [])) (y3 := (.lit (.int .i64 a0_3), [])) Try.underlying34 (by kernel_rfl) (show Try.prog.cellsOf 34 = 4 by kernel_rfl) ⟨1, trod_int_mk 0 Try.underlying22 w0_0⟩ ⟨1, trod_int_mk 0 Try.underlying22 w0_1⟩ ⟨1, trod_int_mk 0 Try.underlying3 w0_2⟩ ⟨1, trod_int_mk 0 Try.underlying3 w0_3⟩) trodAll_mk0), rfl, hd.frame _, fun h => by cases h⟩
theorem over : Rows.bitsCutsRow.holds Try.pinned (OpenSpec.ofChange Rows.bitsCutsSpec) :=
  OpenClaim.holds_of_wide 8 Try.f8 rfl rfl rfl rfl rfl rfl rfl ⟨rfl, rfl, rfl, rfl, rfl⟩ rfl rfl rfl rfl rfl (by kernel_rfl) Try.func8 (by kernel_rfl)
    (of_decide_eq_true (by kernel_rfl)) (by unfold Func.isWrapper; first | (rw [if_pos (by decide +kernel)]; kernel_rfl) | (rw [if_neg (by decide +kernel)]; exact ⟨rfl, rfl⟩))
    (fun os started H enc _ => lifted os started H enc)
theorem proved : Rows.BitsCutsSaid := over
#print axioms proved
end Go.Proofs.Ytibhfonmpefloaa.bitsCuts
namespace Go.Proofs.Ytibhfonmpefloaa
theorem bitsCuts_holds : Rows.BitsCutsSaid := bitsCuts.proved
end Go.Proofs.Ytibhfonmpefloaa
