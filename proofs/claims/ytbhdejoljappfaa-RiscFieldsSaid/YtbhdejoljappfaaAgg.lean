/- A struct of eight one-cell fields by value, opened and shut; an instruction as data. -/
import Derived.Test.YtbhdejoljappfaaRows
import Derived.Test.YtbhdejoljappfaaGood
import Derived.Lib.SmallJoins
import Derived.ProofKit
import Derived.OpenShut
namespace Go.Proofs.Ytbhdejoljappfaa
open Go.Joins Go.ChangeShapes Go.WideShapes Go.RowKit Go.Deep
section
variable {H : Type} {enc : TypeId × Value → H} {P : Program} {w : World} {base : Nat} {spare : Nat → Bool} {held : Bool}
theorem array8 {α : Type} {cs : Array α} (h : cs.size = 8) : ∃ c0 c1 c2 c3 c4 c5 c6 c7, cs = #[c0, c1, c2, c3, c4, c5, c6, c7] := by
  obtain ⟨l⟩ := cs
  match l, h with
  | [c0, c1, c2, c3, c4, c5, c6, c7], _ => exact ⟨c0, c1, c2, c3, c4, c5, c6, c7, rfl⟩
theorem list8 {α : Type} {cs : List α} (h : cs.length = 8) : ∃ c0 c1 c2 c3 c4 c5 c6 c7, cs = [c0, c1, c2, c3, c4, c5, c6, c7] := by
  match cs, h with
  | [c0, c1, c2, c3, c4, c5, c6, c7], _ => exact ⟨c0, c1, c2, c3, c4, c5, c6, c7, rfl⟩
theorem open_agg8 {r : Reach} {b0 : Nat} {t : TypeId} {f0 f1 f2 f3 f4 f5 f6 f7 : Field} {v : Value} {d : DataW H} {p : List MemPlace} (hs : P.underlying t = some (.struct #[f0, f1, f2, f3, f4, f5, f6, f7])) (hone : oneCellFields P #[f0, f1, f2, f3, f4, f5, f6, f7] = true) (hC : P.cellsOf t = 8)
    (hv : Value.okWide P w r b0 t v) (h : DataW.Trod enc P w base spare held t v d p) :
    ∃ (v0 v1 v2 v3 v4 v5 v6 v7 : Value) (y0 y1 y2 y3 y4 y5 y6 y7 : DataW H × List MemPlace) (n : Nat), v = .agg #[v0, v1, v2, v3, v4, v5, v6, v7] ∧ d = .agg [y0.1, y1.1, y2.1, y3.1, y4.1, y5.1, y6.1, y7.1] ∧ p = y0.2 ++ (y1.2 ++ (y2.2 ++ (y3.2 ++ (y4.2 ++ (y5.2 ++ (y6.2 ++ (y7.2))))))) ∧
      DataW.trod enc P w base spare held n f0.type [v0] = some y0 ∧ DataW.trod enc P w base spare held n f1.type [v1] = some y1 ∧ DataW.trod enc P w base spare held n f2.type [v2] = some y2 ∧ DataW.trod enc P w base spare held n f3.type [v3] = some y3 ∧ DataW.trod enc P w base spare held n f4.type [v4] = some y4 ∧ DataW.trod enc P w base spare held n f5.type [v5] = some y5 ∧ DataW.trod enc P w base spare held n f6.type [v6] = some y6 ∧ DataW.trod enc P w base spare held n f7.type [v7] = some y7 := by
  obtain ⟨cs, rfl, hsz⟩ := okWide_struct hs hv
  obtain ⟨c0, c1, c2, c3, c4, c5, c6, c7, rfl⟩ := array8 (hsz.trans hC)
  obtain ⟨fuel, hf⟩ := h
  obtain ⟨xs, n, _, hx, _, hlen, hg⟩ := DataW.trod_struct hs hf
  obtain ⟨o0, k0⟩ := hone_of hone 0 f0 rfl
  obtain ⟨o1, k1⟩ := hone_of hone 1 f1 rfl
  obtain ⟨o2, k2⟩ := hone_of hone 2 f2 rfl
  obtain ⟨o3, k3⟩ := hone_of hone 3 f3 rfl
  obtain ⟨o4, k4⟩ := hone_of hone 4 f4 rfl
  obtain ⟨o5, k5⟩ := hone_of hone 5 f5 rfl
  obtain ⟨o6, k6⟩ := hone_of hone 6 f6 rfl
  obtain ⟨o7, k7⟩ := hone_of hone 7 f7 rfl
  obtain ⟨y0, y1, y2, y3, y4, y5, y6, y7, rfl⟩ := list8 hlen
  simp only [Prod.mk.injEq] at hx
  exact ⟨c0, c1, c2, c3, c4, c5, c6, c7, y0, y1, y2, y3, y4, y5, y6, y7, n, rfl, by simpa using hx.1, by simpa using hx.2, by simpa [Value.cells, o0, k0] using hg 0 f0 rfl, by simpa [Value.cells, o1, k1] using hg 1 f1 rfl, by simpa [Value.cells, o2, k2] using hg 2 f2 rfl, by simpa [Value.cells, o3, k3] using hg 3 f3 rfl, by simpa [Value.cells, o4, k4] using hg 4 f4 rfl, by simpa [Value.cells, o5, k5] using hg 5 f5 rfl, by simpa [Value.cells, o6, k6] using hg 6 f6 rfl, by simpa [Value.cells, o7, k7] using hg 7 f7 rfl⟩
theorem shut_agg8 {t : TypeId} {f0 f1 f2 f3 f4 f5 f6 f7 : Field} {v0 v1 v2 v3 v4 v5 v6 v7 : Value} {y0 y1 y2 y3 y4 y5 y6 y7 : DataW H} (hs : P.underlying t = some (.struct #[f0, f1, f2, f3, f4, f5, f6, f7])) (hone : oneCellFields P #[f0, f1, f2, f3, f4, f5, f6, f7] = true) (hC : P.cellsOf t = 8)
    (t0 : DataW.trod enc P w base spare held 1 f0.type [v0] = some (y0, [])) (t1 : DataW.trod enc P w base spare held 1 f1.type [v1] = some (y1, [])) (t2 : DataW.trod enc P w base spare held 1 f2.type [v2] = some (y2, [])) (t3 : DataW.trod enc P w base spare held 1 f3.type [v3] = some (y3, [])) (t4 : DataW.trod enc P w base spare held 1 f4.type [v4] = some (y4, [])) (t5 : DataW.trod enc P w base spare held 1 f5.type [v5] = some (y5, [])) (t6 : DataW.trod enc P w base spare held 1 f6.type [v6] = some (y6, [])) (t7 : DataW.trod enc P w base spare held 1 f7.type [v7] = some (y7, [])) :
    DataW.Trod enc P w base spare held t (.agg #[v0, v1, v2, v3, v4, v5, v6, v7]) (.agg [y0, y1, y2, y3, y4, y5, y6, y7]) [] := by
  obtain ⟨o0, k0⟩ := hone_of hone 0 f0 rfl
  obtain ⟨o1, k1⟩ := hone_of hone 1 f1 rfl
  obtain ⟨o2, k2⟩ := hone_of hone 2 f2 rfl
  obtain ⟨o3, k3⟩ := hone_of hone 3 f3 rfl
  obtain ⟨o4, k4⟩ := hone_of hone 4 f4 rfl
  obtain ⟨o5, k5⟩ := hone_of hone 5 f5 rfl
  obtain ⟨o6, k6⟩ := hone_of hone 6 f6 rfl
  obtain ⟨o7, k7⟩ := hone_of hone 7 f7 rfl
  have ts := trod_struct_mk (enc := enc) (w := w) (base := base) (spare := spare) (held := held) (n := 1) (cs := [v0, v1, v2, v3, v4, v5, v6, v7]) (xs := [(y0, []), (y1, []), (y2, []), (y3, []), (y4, []), (y5, []), (y6, []), (y7, [])]) hs (by simp [hC]) (by simp [o0, k0, o1, k1, o2, k2, o3, k3, o4, k4, o5, k5, o6, k6, o7, k7, t0, t1, t2, t3, t4, t5, t6, t7])
  exact ⟨_, by simpa [Value.cells] using ts⟩
theorem trod_bool_mk {t : TypeId} (b : Bool) (ht : P.underlying t = some .bool) : DataW.trod enc P w base spare held 1 t [.bool b] = some (.lit (.bool b), []) := by
  simp [DataW.trod, ht]
theorem trod_bool_open {t : TypeId} {m : Nat} {c : Value} {y : DataW H × List MemPlace} (ht : P.underlying t = some .bool) (h : DataW.trod enc P w base spare held m t [c] = some y) : ∃ b, c = .bool b ∧ y = (.lit (.bool b), []) := by
  cases m with
  | zero => simp [DataW.trod] at h
  | succ m =>
    cases c <;> simp [DataW.trod, ht] at h
    exact ⟨_, rfl, h.symm⟩
/-- Every number of it fits its kind. -/
def Ins.wf (x : Ins) : Prop := (Lit.int .i64 x.form).wf = true ∧ (Lit.int .i64 x.a).wf = true ∧ (Lit.int .i64 x.b).wf = true ∧ (Lit.int .i64 x.c).wf = true ∧ (Lit.int .i64 x.op).wf = true ∧ (Lit.int .i64 x.im).wf = true
def Ins.datum {H : Type} (x : Ins) : DataW H := .agg [.lit (.int .i64 x.form), .lit (.bool x.u), .lit (.bool x.v), .lit (.int .i64 x.a), .lit (.int .i64 x.b), .lit (.int .i64 x.c), .lit (.int .i64 x.op), .lit (.int .i64 x.im)]
theorem cells_ins : Try.prog.cellsOf 23 = 8 := by kernel_rfl
theorem open_ins {r : Reach} {b0 : Nat} {v : Value} {d : DataW H} {p : List MemPlace} (hv : Value.okWide Try.prog w r b0 23 v) (h : DataW.Trod enc Try.prog w base spare held 23 v d p) :
    ∃ x : Ins, v = x.val ∧ d = x.datum ∧ p = [] ∧ x.wf := by
  obtain ⟨v0, v1, v2, v3, v4, v5, v6, v7, y0, y1, y2, y3, y4, y5, y6, y7, n, rfl, rfl, rfl, h0, h1, h2, h3, h4, h5, h6, h7⟩ := open_agg8 Try.underlying23 (by kernel_rfl) cells_ins hv h
  obtain ⟨a0, e0, rfl, w0⟩ := DataW.trod_int Try.underlying3 h0
  obtain ⟨b1, rfl, rfl⟩ := trod_bool_open Try.underlying4 h1
  obtain ⟨b2, rfl, rfl⟩ := trod_bool_open Try.underlying4 h2
  obtain ⟨a3, e3, rfl, w3⟩ := DataW.trod_int Try.underlying3 h3
  obtain ⟨a4, e4, rfl, w4⟩ := DataW.trod_int Try.underlying3 h4
  obtain ⟨a5, e5, rfl, w5⟩ := DataW.trod_int Try.underlying3 h5
  obtain ⟨a6, e6, rfl, w6⟩ := DataW.trod_int Try.underlying3 h6
  obtain ⟨a7, e7, rfl, w7⟩ := DataW.trod_int Try.underlying3 h7
  simp at e0 e3 e4 e5 e6 e7
  subst e0 e3 e4 e5 e6 e7
  exact ⟨⟨a0, b1, b2, a3, a4, a5, a6, a7⟩, rfl, rfl, rfl, w0, w3, w4, w5, w6, w7⟩
theorem shut_ins (x : Ins) (hx : x.wf) : DataW.Trod enc Try.prog w base spare held 23 x.val x.datum [] := by
  obtain ⟨w0, w3, w4, w5, w6, w7⟩ := hx
  exact shut_agg8 Try.underlying23 (by kernel_rfl) cells_ins (trod_int_mk 0 Try.underlying3 w0) (trod_bool_mk _ Try.underlying4) (trod_bool_mk _ Try.underlying4) (trod_int_mk 0 Try.underlying3 w3) (trod_int_mk 0 Try.underlying3 w4) (trod_int_mk 0 Try.underlying3 w5) (trod_int_mk 0 Try.underlying3 w6) (trod_int_mk 0 Try.underlying3 w7)
end
end Go.Proofs.Ytbhdejoljappfaa
