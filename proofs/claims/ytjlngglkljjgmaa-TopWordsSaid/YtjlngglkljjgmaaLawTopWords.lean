/- TopWords: a run ends by a word that is no instruction just where decoding refuses the word at its place. For every input, without a condition. -/
import Derived.Test.YtjlngglkljjgmaaRows
import Derived.Test.YtjlngglkljjgmaaTopWalk
import Derived.WalkKit
import Derived.WalkSmall
import Derived.ProofKit
import Derived.OpenShut
import Derived.ShutString
import Derived.ChangeOld
import Derived.Below
import Derived.SizedLaws
import Derived.Lib.SmallJoins
import Derived.Outline
namespace Go.Proofs.Ytjlngglkljjgmaa
open Go.RowKit

theorem words_nothing (w : World) (a : Option Addr) : Words w a 0 [] := ⟨rfl, Nat.zero_le _, by simp, fun h => absurd h (by simp)⟩
theorem topWords_calls (a : Option Addr) (len cap : Nat) (xs : List Nat) (inp : ByteArray) (fuel : Int) (w : World) (h : Words w a len xs ∧ (a = none → len = 0 ∧ cap = 0)) (_hm : inp.size ≤ maxLen) (_hw : (Lit.int .i64 fuel).wf = true) :
    Calls Try.prog 3 #[.slice a len cap, .string inp, .int .i64 fuel] w fun e w' => e = .returned (.bool true) ∧ Below w.heap.size w w' := by
  by_cases h1 : (len : Int) > 2000
  · exact top_long a len cap inp fuel w (by simpa using h1)
  · have g1 : decide (2000 < (len : Int)) = false := by simp; omega
    by_cases h2 : (inp.size : Int) > 4000
    · exact top_input a len cap inp fuel w g1 (by simpa using h2)
    · have g2 : decide (4000 < (inp.size : Int)) = false := by simp; omega
      by_cases h3 : fuel < 1
      · exact top_low a len cap inp fuel w g1 g2 (by simpa using h3)
      · have g3 : decide (fuel < 1) = false := by simp; omega
        by_cases h4 : fuel > 20000
        · exact top_high a len cap inp fuel w g1 g2 g3 (by simpa using h4)
        · obtain ⟨n, rfl⟩ := Int.eq_ofNat_of_zero_le (show 0 ≤ fuel by omega)
          obtain ⟨⟨hl, _, hs, hc⟩, hn⟩ := h
          rcases a with _ | ad
          · obtain ⟨rfl, rfl⟩ := hn rfl
            exact top_none inp n w (by omega) (by omega) (by omega)
          · refine top_some ad len cap xs inp n w hl (by omega) hs (fun j u hu => ?_) (by omega) (by omega) (by omega)
            rcases Nat.eq_zero_or_pos len with h0 | h0
            · obtain rfl : xs = [] := List.length_eq_zero_iff.1 (by omega)
              simp [W32] at hu
            · obtain ⟨b, off, he, hcc⟩ := hc h0
              rw [Option.some.injEq] at he
              rw [he]
              exact W32_cells hcc j u hu
end Go.Proofs.Ytjlngglkljjgmaa
namespace Go.Proofs.Ytjlngglkljjgmaa.topWords
open Go.ChangeShapes Go.WideShapes Go.ChangeAt Go.RowKit Go.Joins
open Go.ChangeMaps (open_string shut_string)
set_option linter.unusedVariables false
theorem own : ownKnob Try.prog.godebug = none := by kernel_rfl
theorem laidOut : laidOutB Try.prog = true := by kernel_rfl
set_option maxRecDepth 100000 in
theorem lifted (os : Os) (started : os.Started) (H : Type) (enc : TypeId × Value → H) :
    ReturnsInHanded {} Try.checked os 3 .any (Rows.topWordsSpec.pre6 enc Try.prog Try.f3 Rows.topWordsRow.domain false) (Rows.topWordsSpec.post enc Try.prog Try.f3 false true false false) := by
  refine returnsInHanded_of_change_sized (C := Try.checked) own started (by kernel_rfl) Try.func3
    (ChangeSpec.witness6 (enc := enc) (C := Try.checked) false ⟨#[], #[.slice none 0 0, .string ByteArray.empty, .int .i64 0], []⟩ 8 (by kernel_rfl) (by kernel_rfl) (by kernel_rfl) (by kernel_rfl)) ?_
  intro W base args ds gs before hval0 hW hcnd hsz0 _
  have hval : ∀ (j : Nat) t v, Try.f3.params[j]? = some t → args[j]? = some v → Value.okWide Try.prog W .any base t v := hval0
  have hW' := hW
  obtain ⟨p, q, hA0, hV, rfl, hfz, hnd⟩ := hW
  have hA : DataW.TrodAll enc Try.prog W 0 (fun _ => true) true Try.f3.params.toList args.toList ds p := hA0
  rw [Try.params3] at hA hval
  obtain ⟨v0, vs0, d0, ds0, p0, q0, hargs, rfl, rfl, h0, r0⟩ := trodAll_cons hA
  obtain ⟨v1, vs1, d1, ds1, p1, q1, rfl, rfl, rfl, h1, r1⟩ := trodAll_cons r0
  obtain ⟨v2, vs2, d2, ds2, p2, q2, rfl, rfl, rfl, h2, r2⟩ := trodAll_cons r1
  obtain ⟨rfl, rfl, rfl⟩ := trodAll_nil r2
  obtain rfl : args = #[v0, v1, v2] := by cases args; simp_all
  obtain ⟨rfl, rfl⟩ := trodVars_none hV
  obtain ⟨a0, len0, cap0, rfl⟩ := okWide_slice Try.underlying22 (hval 0 22 v0 rfl rfl)
  have k0 := h0
  have lt0 : ∀ x ∈ p0, x.block < W.heap.size := by obtain ⟨m, hm⟩ := k0; exact DataW.trod_lt m _ _ _ hm
  obtain ⟨z0, w0⟩ : ∃ xs, Words W a0 len0 xs ∧ (a0 = none → len0 = 0 ∧ cap0 = 0) := by
    obtain ⟨fuel, hf⟩ := h0
    rcases open_ints Try.underlying22 Try.underlying32 (by kernel_rfl) hf with ⟨hcs, _⟩ | ⟨x, l, c, zs, hcs, _, hl, hm, hz, _, hcell, hwz⟩
    · simp [Value.cells] at hcs
      obtain ⟨rfl, rfl, rfl⟩ := hcs
      exact ⟨[], words_nothing W none, fun _ => ⟨rfl, rfl⟩⟩
    · simp [Value.cells] at hcs
      obtain ⟨rfl, rfl, rfl⟩ := hcs
      obtain ⟨xs, hx⟩ := words_row hl hm (by simpa using hz) hcell hwz
      exact ⟨xs, hx, fun h => by cases h⟩
  obtain ⟨a1, rfl, rfl, rfl, w1⟩ := open_string Try.underlying9 (hval 1 9 v1 rfl rfl) h1
  obtain ⟨a2, rfl, rfl, rfl, w2⟩ := open_int Try.underlying3 (hval 2 3 v2 rfl rfl) h2
  refine (topWords_calls a0 len0 cap0 z0 a1 a2 W w0 w1 w2).mono fun e W' ⟨he, hd⟩ => ?_
  subst he
  exact ⟨_, rfl, _, _, _, [], _, [], hW', trodAll_mk1 (shut_bool Try.underlying4 _), (trodAll_cons_mk (Below.trod laidOut (by kernel_rfl) (of_decide_eq_true (by kernel_rfl)) k0 hd lt0) (trodAll_cons_mk (shut_string Try.underlying9 w1) (trodAll_cons_mk (shut_int Try.underlying3 w2) trodAll_mk0))), rfl, hd.frame _, fun h => by cases h⟩
theorem over : Rows.topWordsRow.holds Try.pinned (OpenSpec.ofChange Rows.topWordsSpec) :=
  OpenClaim.holds_of_wide 3 Try.f3 rfl rfl rfl rfl rfl rfl rfl ⟨rfl, rfl, rfl, rfl, rfl⟩ rfl rfl rfl rfl rfl (by kernel_rfl) Try.func3 (by kernel_rfl)
    (of_decide_eq_true (by kernel_rfl)) (by unfold Func.isWrapper; first | (rw [if_pos (by decide +kernel)]; kernel_rfl) | (rw [if_neg (by decide +kernel)]; exact ⟨rfl, rfl⟩))
    (fun os started H enc _ => lifted os started H enc)
theorem proved : Rows.TopWordsSaid := over
#print axioms proved
end Go.Proofs.Ytjlngglkljjgmaa.topWords
namespace Go.Proofs.Ytjlngglkljjgmaa
theorem topWords_holds : Rows.TopWordsSaid := topWords.proved
end Go.Proofs.Ytjlngglkljjgmaa
