/- MemoryPlays: calls of a memory one behind the other, of any words, answer as the reference's; what becomes of a Fork changes nothing of the one it came of. For every input, without a condition. -/
import Derived.Test.YtibhfonmpefloaaRows
import Derived.Test.YtibhfonmpefloaaMemPlaysMany
import Derived.Test.YtibhfonmpefloaaStructs
import Derived.WalkKit
import Derived.WalkSmall
import Derived.ProofKit
import Derived.OpenShut
import Derived.ShutString
import Derived.ChangeOld
import Derived.Below
import Derived.SizedLaws
import Derived.Lib.SmallJoins
import Derived.Outline
namespace Go.Proofs.Ytibhfonmpefloaa
open Go.RowKit

theorem words_nothing (w : World) (a : Option Addr) : Words w a 0 [] := ⟨rfl, Nat.zero_le _, by simp, fun h => absurd h (by omega)⟩
theorem steps_nothing (w : World) (a : Option Addr) : Steps w a 0 := ⟨Nat.zero_le _, fun i h => absurd h (by omega)⟩
theorem int_cell {H : Type} {enc : TypeId × Value → H} {w : World} {base : Nat} {spare : Nat → Bool} {held : Bool} {t : TypeId} {k : IntKind} {v : Value} {y : DataW H × List MemPlace} {n : Nat} (ht : Try.prog.underlying t = some (.int k)) (h : DataW.trod enc Try.prog w base spare held n t [v] = some y) :
    ∃ z : Int, v = .int k z ∧ (Lit.int k z).wf = true := by
  obtain ⟨z, hz, _, hw⟩ := DataW.trod_int ht h
  simp at hz
  exact ⟨z, hz, hw⟩
theorem steps_row {H : Type} {enc : TypeId × Value → H} {w : World} {base : Nat} {spare : Nat → Bool} {held : Bool} {x : Addr} {len : Nat} {f0 f1 f2 f3 f4 : Field} (hm : len ≤ maxLen)
    (hcell : ∀ (i j : Nat) (f : Field), i < len → (#[f0, f1, f2, f3, f4] : Array Field)[j]? = some f → ∃ (v : Value) (y : DataW H × List MemPlace) (n : Nat), w.cell? (x.add (i * (#[f0, f1, f2, f3, f4] : Array Field).size + j)) = some v ∧ DataW.trod enc Try.prog w base spare held n f.type [v] = some y)
    (h0 : f0.type = 3 := by rfl) (h1 : f1.type = 22 := by rfl) (h2 : f2.type = 22 := by rfl) (h3 : f3.type = 3 := by rfl) (h4 : f4.type = 3 := by rfl) : Steps w (some x) len := by
  refine ⟨hm, fun i hi => ?_⟩
  obtain ⟨v0, y0, n0, c0, t0⟩ := hcell i 0 f0 hi rfl
  obtain ⟨v1, y1, n1, c1, t1⟩ := hcell i 1 f1 hi rfl
  obtain ⟨v2, y2, n2, c2, t2⟩ := hcell i 2 f2 hi rfl
  obtain ⟨v3, y3, n3, c3, t3⟩ := hcell i 3 f3 hi rfl
  obtain ⟨v4, y4, n4, c4, t4⟩ := hcell i 4 f4 hi rfl
  rw [h0] at t0
  rw [h1] at t1
  rw [h2] at t2
  rw [h3] at t3
  rw [h4] at t4
  obtain ⟨z0, rfl, _⟩ := int_cell Try.underlying3 t0
  obtain ⟨z1, rfl, w1⟩ := int_cell Try.underlying22 t1
  obtain ⟨z2, rfl, w2⟩ := int_cell Try.underlying22 t2
  obtain ⟨z3, rfl, _⟩ := int_cell Try.underlying3 t3
  obtain ⟨z4, rfl, _⟩ := int_cell Try.underlying3 t4
  obtain ⟨b, off, spot⟩ := x
  have hspot : spot = none := by
    obtain ⟨_, _, _, c, _⟩ := hcell 0 0 f0 (by omega) rfl
    simpa [Addr.add] using World.cell?_spot c
  subst hspot
  have u1 := bounds_u32 w1
  have u2 := bounds_u32 w2
  obtain ⟨at_, rfl⟩ := Int.eq_ofNat_of_zero_le u1.1
  obtain ⟨v, rfl⟩ := Int.eq_ofNat_of_zero_le u2.1
  rw [add_at] at c0 c1 c2 c3 c4
  exact ⟨b, off, at_, v, z0, z3, z4, rfl, by omega, by omega, c0, c1, c2, c3, c4⟩
set_option maxRecDepth 100000 in
theorem memoryPlays_large (a : Option Addr) (len cap : Nat) (s : Value) (w : World) (h1 : (3000 : Int) < (len : Int)) (h2 : (len : Int) ≤ 65536) :
    Calls Try.prog 12 #[.slice a len cap, s] w fun e w' => e = .returned (.bool true) ∧ Below w.heap.size w w' := by
  go_enter Try.func12, Try.ntmps12
  go_wp2_with (go_at_call 33; (with_reducible refine (wakes04 _).mono ?_); rintro e w4 ⟨rfl, hB4⟩; have HB4 := Lib.hid hB4; clear hB4)
  go_ret
  exact ⟨rfl, HB4.out⟩
set_option maxRecDepth 100000 in
theorem memoryPlays_huge (a : Option Addr) (len cap : Nat) (s : Value) (w : World) (h1 : (70000 : Int) < (len : Int)) :
    Calls Try.prog 12 #[.slice a len cap, s] w fun e w' => e = .returned (.bool true) ∧ Below w.heap.size w w' := by
  have h2 : (3000 : Int) < (len : Int) := by omega
  have h3 : decide ((len : Int) ≤ 65536) = false := decide_eq_false (by omega)
  have h4 : decide (len ≤ 65536) = false := decide_eq_false (by omega)
  go_enter Try.func12, Try.ntmps12
  go_wp2_with (go_at_call 33; (with_reducible refine (wakes04 _).mono ?_); rintro e w4 ⟨rfl, hB4⟩; have HB4 := Lib.hid hB4; clear hB4)
  go_ret
  exact ⟨rfl, HB4.out⟩
theorem memoryPlays_calls (a0 : Option Addr) (len0 cap0 : Nat) (z0 : List Nat) (a1 : Option Addr) (len1 cap1 : Nat) (w : World) (w0 : Words w a0 len0 z0 ∧ (a0 = none → len0 = 0 ∧ cap0 = 0)) (w1 : Steps w a1 len1) :
    Calls Try.prog 12 #[.slice a0 len0 cap0, .slice a1 len1 cap1] w fun e w' => e = .returned (.bool true) ∧ Below w.heap.size w w' := by
  obtain ⟨⟨hl, _, hs, hp⟩, h0⟩ := w0
  subst hl
  by_cases hh : 70000 < z0.length
  · exact memoryPlays_huge _ _ _ _ _ (by omega)
  have hA : SlR w a0 z0 := hp
  by_cases hm : 65536 < z0.length
  · exact plays_many a0 a1 cap0 len1 cap1 z0 w hs hA h0 w1 (by omega) (by omega)
  by_cases ht : 3000 < z0.length
  · exact memoryPlays_large _ _ _ _ _ (by omega) (by omega)
  exact plays_way a0 a1 cap0 len1 cap1 z0 w hs hA h0 w1 (by omega)
end Go.Proofs.Ytibhfonmpefloaa
namespace Go.Proofs.Ytibhfonmpefloaa.memoryPlays
open Go.ChangeShapes Go.WideShapes Go.ChangeAt Go.RowKit Go.Joins
open Go.ChangeMaps (open_string shut_string)
set_option linter.unusedVariables false
theorem own : ownKnob Try.prog.godebug = none := by kernel_rfl
theorem laidOut : laidOutB Try.prog = true := by kernel_rfl
set_option maxRecDepth 100000 in
theorem lifted (os : Os) (started : os.Started) (H : Type) (enc : TypeId × Value → H) :
    ReturnsInHanded {} Try.checked os 12 .any (Rows.memoryPlaysSpec.pre6 enc Try.prog Try.f12 Rows.memoryPlaysRow.domain false) (Rows.memoryPlaysSpec.post enc Try.prog Try.f12 false true false false) := by
  refine returnsInHanded_of_change_sized (C := Try.checked) own started (by kernel_rfl) Try.func12
    (ChangeSpec.witness6 (enc := enc) (C := Try.checked) false ⟨#[], #[.slice none 0 0, .slice none 0 0], []⟩ 8 (by kernel_rfl) (by kernel_rfl) (by kernel_rfl) (by kernel_rfl)) ?_
  intro W base args ds gs before hval0 hW hcnd hsz0 _
  have hval : ∀ (j : Nat) t v, Try.f12.params[j]? = some t → args[j]? = some v → Value.okWide Try.prog W .any base t v := hval0
  have hW' := hW
  obtain ⟨p, q, hA0, hV, rfl, hfz, hnd⟩ := hW
  have hA : DataW.TrodAll enc Try.prog W 0 (fun _ => true) true Try.f12.params.toList args.toList ds p := hA0
  rw [Try.params12] at hA hval
  obtain ⟨v0, vs0, d0, ds0, p0, q0, hargs, rfl, rfl, h0, r0⟩ := trodAll_cons hA
  obtain ⟨v1, vs1, d1, ds1, p1, q1, rfl, rfl, rfl, h1, r1⟩ := trodAll_cons r0
  obtain ⟨rfl, rfl, rfl⟩ := trodAll_nil r1
  obtain rfl : args = #[v0, v1] := by cases args; simp_all
  obtain ⟨rfl, rfl⟩ := trodVars_none hV
  obtain ⟨a0, len0, cap0, rfl⟩ := okWide_slice Try.underlying38 (hval 0 38 v0 rfl rfl)
  have k0 := h0
  have lt0 : ∀ x ∈ p0, x.block < W.heap.size := by obtain ⟨m, hm⟩ := k0; exact DataW.trod_lt m _ _ _ hm
  obtain ⟨z0, w0⟩ : ∃ xs, Words W a0 len0 xs ∧ (a0 = none → len0 = 0 ∧ cap0 = 0) := by
    obtain ⟨fuel, hf⟩ := h0
    rcases open_ints Try.underlying38 Try.underlying22 (by kernel_rfl) hf with ⟨hcs, _⟩ | ⟨x, l, c, zs, hcs, _, hl, hm, hz, _, hcell, hwz⟩
    · simp [Value.cells] at hcs
      obtain ⟨rfl, rfl, rfl⟩ := hcs
      exact ⟨[], words_nothing W none, fun _ => ⟨rfl, rfl⟩⟩
    · simp [Value.cells] at hcs
      obtain ⟨rfl, rfl, rfl⟩ := hcs
      obtain ⟨xs, hx⟩ := words_row hl hm (by simpa using hz) hcell hwz
      exact ⟨xs, hx, fun h => by cases h⟩
  obtain ⟨a1, len1, cap1, rfl⟩ := okWide_slice Try.underlying49 (hval 1 49 v1 rfl rfl)
  have k1 := h1
  have lt1 : ∀ x ∈ p1, x.block < W.heap.size := by obtain ⟨m, hm⟩ := k1; exact DataW.trod_lt m _ _ _ hm
  have w1 : Steps W a1 len1 := by
    obtain ⟨fuel, hf⟩ := h1
    rcases open_rows Try.underlying49 Try.underlying56 (by kernel_rfl) (by kernel_rfl) hf with hcs | ⟨x, l, c, hcs, hm, hcell⟩
    · simp [Value.cells] at hcs
      obtain ⟨rfl, rfl, rfl⟩ := hcs
      exact steps_nothing W none
    · simp [Value.cells] at hcs
      obtain ⟨rfl, rfl, rfl⟩ := hcs
      exact steps_row hm hcell
  refine (memoryPlays_calls a0 len0 cap0 z0 a1 len1 cap1 W w0 w1).mono fun e W' ⟨he, hd⟩ => ?_
  subst he
  exact ⟨_, rfl, _, _, _, [], _, [], hW', trodAll_mk1 (shut_bool Try.underlying4 _), (trodAll_cons_mk (Below.trod laidOut (by kernel_rfl) (of_decide_eq_true (by kernel_rfl)) k0 hd lt0) (trodAll_cons_mk (Below.trod laidOut (by kernel_rfl) (of_decide_eq_true (by kernel_rfl)) k1 hd lt1) trodAll_mk0)), rfl, hd.frame _, fun h => by cases h⟩
theorem over : Rows.memoryPlaysRow.holds Try.pinned (OpenSpec.ofChange Rows.memoryPlaysSpec) :=
  OpenClaim.holds_of_wide 12 Try.f12 rfl rfl rfl rfl rfl rfl rfl ⟨rfl, rfl, rfl, rfl, rfl⟩ rfl rfl rfl rfl rfl (by kernel_rfl) Try.func12 (by kernel_rfl)
    (of_decide_eq_true (by kernel_rfl)) (by unfold Func.isWrapper; first | (rw [if_pos (by decide +kernel)]; kernel_rfl) | (rw [if_neg (by decide +kernel)]; exact ⟨rfl, rfl⟩))
    (fun os started H enc _ => lifted os started H enc)
theorem proved : Rows.MemoryPlaysSaid := over
#print axioms proved
end Go.Proofs.Ytibhfonmpefloaa.memoryPlays
namespace Go.Proofs.Ytibhfonmpefloaa
theorem memoryPlays_holds : Rows.MemoryPlaysSaid := memoryPlays.proved
end Go.Proofs.Ytibhfonmpefloaa
