/- FixupMoved: code that stands elsewhere, with its places as much further on, is filled in with the same calls; other places are as much greater. For every input, without a condition. -/
import Derived.Test.YtbhdejoljappfaaRows
import Derived.Test.YtbhdejoljappfaaSlRow
import Derived.Test.YtbhdejoljappfaaArr
import Derived.Test.YtbhdejoljappfaaStructs
import Derived.Test.YtbhdejoljappfaaFixMovedOn
import Derived.WalkKit
import Derived.WalkSmall
import Derived.ProofKit
import Derived.OpenShut
import Derived.ShutString
import Derived.ChangeOld
import Derived.Below
import Derived.SizedLaws
import Derived.Lib.SmallJoins
import Derived.Outline
namespace Go.Proofs.Ytbhdejoljappfaa
open Go.RowKit

theorem words_nothing (w : World) (a : Option Addr) : Words w a 0 [] := ⟨rfl, Nat.zero_le _, by simp, fun h => absurd h (by simp)⟩

/-- A slice of places. -/
def Places (w : World) (A : Option Addr) (len : Nat) : Prop := ∃ ps : List Pl, ps.length = len ∧ PlR w A ps
theorem places_nothing (w : World) (a : Option Addr) : Places w a 0 := ⟨[], rfl, fun i h => by simp at h⟩
theorem int_cell {H : Type} {enc : TypeId × Value → H} {w : World} {base : Nat} {spare : Nat → Bool} {held : Bool} {t : TypeId} {k : IntKind} {v : Value} {y : DataW H × List MemPlace} {n : Nat} (ht : Try.prog.underlying t = some (.int k)) (h : DataW.trod enc Try.prog w base spare held n t [v] = some y) :
    ∃ z : Int, v = .int k z ∧ (Lit.int k z).wf = true := by
  obtain ⟨z, hz, _, hw⟩ := DataW.trod_int ht h
  simp at hz
  exact ⟨z, hz, hw⟩
theorem list_of {α : Type} {n : Nat} {P : Nat → α → Prop} (h : ∀ i, i < n → ∃ x, P i x) : ∃ l : List α, l.length = n ∧ ∀ i (hi : i < l.length), P i l[i] := by
  induction n with
  | zero => exact ⟨[], rfl, fun i hi => by simp at hi⟩
  | succ n ih =>
    obtain ⟨l, hl, hP⟩ := ih (fun i hi => h i (by omega))
    obtain ⟨x, hx⟩ := h n (by omega)
    refine ⟨l ++ [x], by simp [hl], fun i hi => ?_⟩
    by_cases hin : i < l.length
    · rw [List.getElem_append_left hin]
      exact hP i hin
    · have : i = l.length := by simp at hi; omega
      subst this
      rw [List.getElem_append_right (by omega)]
      simpa [hl] using hx
theorem places_row {H : Type} {enc : TypeId × Value → H} {w : World} {base : Nat} {spare : Nat → Bool} {held : Bool} {x : Addr} {len : Nat} {f0 f1 f2 f3 : Field} (_hm : len ≤ maxLen)
    (hcell : ∀ (i j : Nat) (f : Field), i < len → (#[f0, f1, f2, f3] : Array Field)[j]? = some f → ∃ (v : Value) (y : DataW H × List MemPlace) (n : Nat), w.cell? (x.add (i * (#[f0, f1, f2, f3] : Array Field).size + j)) = some v ∧ DataW.trod enc Try.prog w base spare held n f.type [v] = some y)
    (h0 : f0.type = 3 := by rfl) (h1 : f1.type = 3 := by rfl) (h2 : f2.type = 3 := by rfl) (h3 : f3.type = 3 := by rfl) : Places w (some x) len := by
  by_cases hl : len = 0
  · subst hl
    exact places_nothing w _
  obtain ⟨b, off, spot⟩ := x
  have hspot : spot = none := by
    obtain ⟨_, _, _, c, _⟩ := hcell 0 0 f0 (by omega) rfl
    simpa [Addr.add] using World.cell?_spot c
  subst hspot
  obtain ⟨ps, hpl, hP⟩ := list_of (n := len) (P := fun i (p : Pl) => (w64 p.1 = true ∧ w64 p.2.1 = true ∧ w64 p.2.2.1 = true ∧ w64 p.2.2.2 = true) ∧
    w.cell? ⟨b, off + i * 4, none⟩ = some (.int .i64 p.1) ∧ w.cell? ⟨b, off + i * 4 + 1, none⟩ = some (.int .i64 p.2.1) ∧ w.cell? ⟨b, off + i * 4 + 2, none⟩ = some (.int .i64 p.2.2.1) ∧ w.cell? ⟨b, off + i * 4 + 3, none⟩ = some (.int .i64 p.2.2.2)) (fun i hi => by
      obtain ⟨v0, y0, n0, c0, t0⟩ := hcell i 0 f0 hi rfl
      obtain ⟨v1, y1, n1, c1, t1⟩ := hcell i 1 f1 hi rfl
      obtain ⟨v2, y2, n2, c2, t2⟩ := hcell i 2 f2 hi rfl
      obtain ⟨v3, y3, n3, c3, t3⟩ := hcell i 3 f3 hi rfl
      rw [h0] at t0
      rw [h1] at t1
      rw [h2] at t2
      rw [h3] at t3
      obtain ⟨z0, rfl, w0⟩ := int_cell Try.underlying3 t0
      obtain ⟨z1, rfl, w1⟩ := int_cell Try.underlying3 t1
      obtain ⟨z2, rfl, w2⟩ := int_cell Try.underlying3 t2
      obtain ⟨z3, rfl, w3⟩ := int_cell Try.underlying3 t3
      rw [add_at] at c0 c1 c2 c3
      exact ⟨(z0, z1, z2, z3), ⟨w0, w1, w2, w3⟩, c0, c1, c2, c3⟩)
  exact ⟨ps, hpl, fun i hi => by
    obtain ⟨h1, h2⟩ := hP i hi
    exact ⟨b, off, rfl, h1, h2⟩⟩

set_option maxRecDepth 100000 in
theorem moved_skip (a : Option Addr) (len cap bn : Nat) (bc : Nat) (h0 h1 h2 : Int) (B : Option Addr) (w : World) (h : (5000 : Int) < (len : Int) ∨ (300 : Int) < (bn : Int) ∨ h1 < 0 ∨ 60000 < h1) :
    Calls Try.prog 13 #[.slice a len cap, .agg #[.int .i64 h0, .int .i64 h1, .int .i64 h2], .slice B bn bc] w fun e w' => e = .returned (.bool true) ∧ Below w.heap.size w w' := by
  by_cases c1 : (5000 : Int) < (len : Int)
  · have b1 : decide ((5000 : Int) < (len : Int)) = true := decide_eq_true c1
    clear h
    go_enter Try.func13, Try.ntmps13
    go_wp2_with (go_at_call 26; (with_reducible refine (wakes22 _).mono ?_); rintro e w9 ⟨rfl, hB9⟩; have HB9 := Lib.hid hB9; clear hB9)
    go_ret
    exact ⟨rfl, ((Below.refl w.heap.size w).alloc (Nat.le_refl _) _).trans (HB9.out.mono (by simp))⟩
  · have b1 : decide ((5000 : Int) < (len : Int)) = false := decide_eq_false c1
    by_cases c2 : (300 : Int) < (bn : Int)
    · have b2 : decide ((300 : Int) < (bn : Int)) = true := decide_eq_true c2
      clear h
      go_enter Try.func13, Try.ntmps13
      go_wp2_with (go_at_call 26; (with_reducible refine (wakes22 _).mono ?_); rintro e w9 ⟨rfl, hB9⟩; have HB9 := Lib.hid hB9; clear hB9)
      go_ret
      exact ⟨rfl, ((Below.refl w.heap.size w).alloc (Nat.le_refl _) _).trans (HB9.out.mono (by simp))⟩
    · have b2 : decide ((300 : Int) < (bn : Int)) = false := decide_eq_false c2
      by_cases c3 : h1 < 0
      · have b3 : decide (h1 < 0) = true := decide_eq_true c3
        clear h
        go_enter Try.func13, Try.ntmps13
        go_wp2_with (go_at_call 26; (with_reducible refine (wakes22 _).mono ?_); rintro e w9 ⟨rfl, hB9⟩; have HB9 := Lib.hid hB9; clear hB9)
        go_ret
        exact ⟨rfl, ((Below.refl w.heap.size w).alloc (Nat.le_refl _) _).trans (HB9.out.mono (by simp))⟩
      · have b3 : decide (h1 < 0) = false := decide_eq_false c3
        have b4 : decide (60000 < h1) = true := decide_eq_true (by omega)
        clear h
        go_enter Try.func13, Try.ntmps13
        go_wp2_with (go_at_call 26; (with_reducible refine (wakes22 _).mono ?_); rintro e w9 ⟨rfl, hB9⟩; have HB9 := Lib.hid hB9; clear hB9)
        go_ret
        exact ⟨rfl, ((Below.refl w.heap.size w).alloc (Nat.le_refl _) _).trans (HB9.out.mono (by simp))⟩
theorem moved_by (h : Int) : ∃ k : Nat, (IntKind.u64.wrap h).tmod 2000 = (k : Int) ∧ (k : Int) < 2000 := by
  have h0 : 0 ≤ IntKind.u64.wrap h := by
    simp [IntKind.wrap, IntKind.bits, IntKind.signed]
    omega
  refine ⟨((IntKind.u64.wrap h) % 2000).toNat, ?_, ?_⟩
  · rw [Int.tmod_eq_emod_of_nonneg h0]
    omega
  · omega
theorem fixupMoved_calls (a0 : Option Addr) (len0 cap0 : Nat) (z0 : List Nat) (a1_0 a1_1 a1_2 : Int) (a2 : Option Addr) (len2 cap2 : Nat) (w : World) (w0 : Words w a0 len0 z0 ∧ (a0 = none → len0 = 0 ∧ cap0 = 0)) (w1_0 : (Lit.int .i64 a1_0).wf = true) (_w1_1 : (Lit.int .i64 a1_1).wf = true) (_w1_2 : (Lit.int .i64 a1_2).wf = true) (w2 : Places w a2 len2) :
    Calls Try.prog 13 #[.slice a0 len0 cap0, .agg #[.int .i64 a1_0, .int .i64 a1_1, .int .i64 a1_2], .slice a2 len2 cap2] w fun e w' => e = .returned (.bool true) ∧ Below w.heap.size w w' := by
  obtain ⟨⟨hl, _, hs, hp⟩, h0⟩ := w0
  obtain ⟨ps, hpl, hP⟩ := w2
  subst hl
  by_cases hh : (5000 : Int) < (z0.length : Int) ∨ (300 : Int) < (len2 : Int) ∨ a1_1 < 0 ∨ 60000 < a1_1
  · exact moved_skip _ _ _ _ _ _ _ _ _ _ hh
  obtain ⟨k, hk, hk2⟩ := moved_by a1_2
  cases hA : fillF z0 a1_0 a1_1 (placesV ps) with
  | none =>
    cases hB : fillF z0 a1_0 (a1_1 + (k : Int)) (movedV k (placesV ps) ps) with
    | none => exact moved_nn a0 a2 cap0 len2 cap2 k z0 a1_0 a1_1 a1_2 ps w hs hp h0 (by omega) hP hpl (by omega) w1_0 (by omega) (by omega) hk hk2 hA hB
    | some yb => exact moved_ns a0 a2 cap0 len2 cap2 k z0 a1_0 a1_1 a1_2 ps w hs hp h0 (by omega) hP hpl (by omega) w1_0 (by omega) (by omega) hk hk2 hA yb hB
  | some ya =>
    cases hB : fillF z0 a1_0 (a1_1 + (k : Int)) (movedV k (placesV ps) ps) with
    | none => exact moved_sn a0 a2 cap0 len2 cap2 k z0 a1_0 a1_1 a1_2 ps w hs hp h0 (by omega) hP hpl (by omega) w1_0 (by omega) (by omega) hk hk2 ya hA hB
    | some yb => exact moved_ss a0 a2 cap0 len2 cap2 k z0 a1_0 a1_1 a1_2 ps w hs hp h0 (by omega) hP hpl (by omega) w1_0 (by omega) (by omega) hk hk2 ya hA yb hB
end Go.Proofs.Ytbhdejoljappfaa
namespace Go.Proofs.Ytbhdejoljappfaa.fixupMoved
open Go.ChangeShapes Go.WideShapes Go.ChangeAt Go.RowKit Go.Joins
open Go.ChangeMaps (open_string shut_string)
set_option linter.unusedVariables false
theorem own : ownKnob Try.prog.godebug = none := by kernel_rfl
theorem laidOut : laidOutB Try.prog = true := by kernel_rfl
set_option maxRecDepth 100000 in
theorem lifted (os : Os) (started : os.Started) (H : Type) (enc : TypeId × Value → H) :
    ReturnsInHanded {} Try.checked os 13 .any (Rows.fixupMovedSpec.pre6 enc Try.prog Try.f13 Rows.fixupMovedRow.domain false) (Rows.fixupMovedSpec.post enc Try.prog Try.f13 false true false false) := by
  refine returnsInHanded_of_change_sized (C := Try.checked) own started (by kernel_rfl) Try.func13
    (ChangeSpec.witness6 (enc := enc) (C := Try.checked) false ⟨#[], #[.slice none 0 0, .agg #[.int .i64 0, .int .i64 0, .int .i64 0], .slice none 0 0], []⟩ 8 (by kernel_rfl) (by kernel_rfl) (by kernel_rfl) (by kernel_rfl)) ?_
  intro W base args ds gs before hval0 hW hcnd hsz0 _
  have hval : ∀ (j : Nat) t v, Try.f13.params[j]? = some t → args[j]? = some v → Value.okWide Try.prog W .any base t v := hval0
  have hW' := hW
  obtain ⟨p, q, hA0, hV, rfl, hfz, hnd⟩ := hW
  have hA : DataW.TrodAll enc Try.prog W 0 (fun _ => true) true Try.f13.params.toList args.toList ds p := hA0
  rw [Try.params13] at hA hval
  obtain ⟨v0, vs0, d0, ds0, p0, q0, hargs, rfl, rfl, h0, r0⟩ := trodAll_cons hA
  obtain ⟨v1, vs1, d1, ds1, p1, q1, rfl, rfl, rfl, h1, r1⟩ := trodAll_cons r0
  obtain ⟨v2, vs2, d2, ds2, p2, q2, rfl, rfl, rfl, h2, r2⟩ := trodAll_cons r1
  obtain ⟨rfl, rfl, rfl⟩ := trodAll_nil r2
  obtain rfl : args = #[v0, v1, v2] := by cases args; simp_all
  obtain ⟨rfl, rfl⟩ := trodVars_none hV
  obtain ⟨a0, len0, cap0, rfl⟩ := okWide_slice Try.underlying52 (hval 0 52 v0 rfl rfl)
  have k0 := h0
  have lt0 : ∀ x ∈ p0, x.block < W.heap.size := by obtain ⟨m, hm⟩ := k0; exact DataW.trod_lt m _ _ _ hm
  obtain ⟨z0, w0⟩ : ∃ xs, Words W a0 len0 xs ∧ (a0 = none → len0 = 0 ∧ cap0 = 0) := by
    obtain ⟨fuel, hf⟩ := h0
    rcases open_ints Try.underlying52 Try.underlying24 (by kernel_rfl) hf with ⟨hcs, _⟩ | ⟨x, l, c, zs, hcs, _, hl, hm, hz, _, hcell, hwz⟩
    · simp [Value.cells] at hcs
      obtain ⟨rfl, rfl, rfl⟩ := hcs
      exact ⟨[], words_nothing W none, fun _ => ⟨rfl, rfl⟩⟩
    · simp [Value.cells] at hcs
      obtain ⟨rfl, rfl, rfl⟩ := hcs
      obtain ⟨xs, hx⟩ := words_row hl hm (by simpa using hz) hcell hwz
      exact ⟨xs, hx, fun h => by cases h⟩
  obtain ⟨a1_0, a1_1, a1_2, rfl, rfl, rfl, w1_0, w1_1, w1_2⟩ := open_arr3 Try.underlying69 Try.underlying3 (by kernel_rfl) (by kernel_rfl) (hval 1 69 v1 rfl rfl) h1
  obtain ⟨a2, len2, cap2, rfl⟩ := okWide_slice Try.underlying62 (hval 2 62 v2 rfl rfl)
  have k2 := h2
  have lt2 : ∀ x ∈ p2, x.block < W.heap.size := by obtain ⟨m, hm⟩ := k2; exact DataW.trod_lt m _ _ _ hm
  have w2 : Places W a2 len2 := by
    obtain ⟨fuel, hf⟩ := h2
    rcases open_rows Try.underlying62 Try.underlying71 (by kernel_rfl) (by kernel_rfl) hf with hcs | ⟨x, l, c, hcs, hm, hcell⟩
    · simp [Value.cells] at hcs
      obtain ⟨rfl, rfl, rfl⟩ := hcs
      exact places_nothing W none
    · simp [Value.cells] at hcs
      obtain ⟨rfl, rfl, rfl⟩ := hcs
      exact places_row hm hcell
  try simp only [List.append_nil] at hW'
  refine (fixupMoved_calls a0 len0 cap0 z0 a1_0 a1_1 a1_2 a2 len2 cap2 W w0 w1_0 w1_1 w1_2 w2).mono fun e W' ⟨he, hd⟩ => ?_
  subst he
  exact ⟨_, rfl, _, _, _, [], _, [], hW', trodAll_mk1 (shut_bool Try.underlying4 _), (trodAll_cons_mk (Below.trod laidOut (by kernel_rfl) (of_decide_eq_true (by kernel_rfl)) k0 hd lt0) (trodAll_cons_mk (shut_arr3 Try.underlying69 Try.underlying3 (by kernel_rfl) (by kernel_rfl) w1_0 w1_1 w1_2) (trodAll_cons_mk (Below.trod laidOut (by kernel_rfl) (of_decide_eq_true (by kernel_rfl)) k2 hd lt2) trodAll_mk0))), rfl, hd.frame _, fun h => by cases h⟩
theorem over : Rows.fixupMovedRow.holds Try.pinned (OpenSpec.ofChange Rows.fixupMovedSpec) :=
  OpenClaim.holds_of_wide 13 Try.f13 rfl rfl rfl rfl rfl rfl rfl ⟨rfl, rfl, rfl, rfl, rfl⟩ rfl rfl rfl rfl rfl (by kernel_rfl) Try.func13 (by kernel_rfl)
    (of_decide_eq_true (by kernel_rfl)) (by unfold Func.isWrapper; first | (rw [if_pos (by decide +kernel)]; kernel_rfl) | (rw [if_neg (by decide +kernel)]; exact ⟨rfl, rfl⟩))
    (fun os started H enc _ => lifted os started H enc)
theorem proved : Rows.FixupMovedSaid := over
#print axioms proved
end Go.Proofs.Ytbhdejoljappfaa.fixupMoved
namespace Go.Proofs.Ytbhdejoljappfaa
theorem fixupMoved_holds : Rows.FixupMovedSaid := fixupMoved.proved
end Go.Proofs.Ytbhdejoljappfaa
