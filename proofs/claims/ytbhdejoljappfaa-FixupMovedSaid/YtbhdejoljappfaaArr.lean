/- Arrays of two, three, four numbers by value. -/
import Derived.OpenShut
import Derived.ChangeSame
import Derived.Lib.SmallJoins
namespace Go.Proofs.Ytbhdejoljappfaa
open Go.Joins Go.ChangeShapes Go.WideShapes Go.RowKit
section
variable {H : Type} {enc : TypeId × Value → H} {P : Program} {w : World} {base : Nat} {spare : Nat → Bool} {held : Bool}
theorem open_arr2 {r : Reach} {b0 : Nat} {t e : TypeId} {v : Value} {d : DataW H} {p : List MemPlace} (ht : P.underlying t = some (.array 2 e)) (he : P.underlying e = some (.int .i64)) (hC : P.cellsOf t = 2) (hce : P.cellsOf e = 1)
    (hv : Value.okWide P w r b0 t v) (h : DataW.Trod enc P w base spare held t v d p) : ∃ a0 a1 : Int, v = .agg #[.int .i64 a0, .int .i64 a1] ∧ d = .agg [.lit (.int .i64 a0), .lit (.int .i64 a1)] ∧ p = [] ∧ (Lit.int .i64 a0).wf = true ∧ (Lit.int .i64 a1).wf = true := by
  simp only [Value.okWide, ht] at hv
  obtain ⟨cs, rfl, hsz, _⟩ := hv
  obtain ⟨l⟩ := cs
  match l, hsz.trans hC with
  | [c0, c1], _ =>
    obtain ⟨fuel, hf⟩ := h
    obtain ⟨ys, m, _, hx, _, hlen, hg⟩ := DataW.trod_array ht hf
    match ys, hlen with
    | [y0, y1], _ =>
      obtain ⟨a0, e0, rfl, w0⟩ := DataW.trod_int he (show DataW.trod enc P w base spare held m e [c0] = some y0 by simpa [Value.cells, hce] using hg 0 (by decide))
      obtain ⟨a1, e1, rfl, w1⟩ := DataW.trod_int he (show DataW.trod enc P w base spare held m e [c1] = some y1 by simpa [Value.cells, hce] using hg 1 (by decide))
      simp at e0 e1
      subst e0 e1
      simp only [Prod.mk.injEq] at hx
      exact ⟨a0, a1, rfl, by simpa using hx.1, by simpa using hx.2, w0, w1⟩
theorem shut_arr2 {t e : TypeId} {a0 a1 : Int} (ht : P.underlying t = some (.array 2 e)) (he : P.underlying e = some (.int .i64)) (hC : P.cellsOf t = 2) (hce : P.cellsOf e = 1) (w0 : (Lit.int .i64 a0).wf = true) (w1 : (Lit.int .i64 a1).wf = true) :
    DataW.Trod enc P w base spare held t (.agg #[.int .i64 a0, .int .i64 a1]) (.agg [.lit (.int .i64 a0), .lit (.int .i64 a1)]) [] := by
  refine ⟨2, ?_⟩
  simp [DataW.trod, ht, he, hC, hce, Value.cells, List.range_succ, w0, w1]
theorem open_arr3 {r : Reach} {b0 : Nat} {t e : TypeId} {v : Value} {d : DataW H} {p : List MemPlace} (ht : P.underlying t = some (.array 3 e)) (he : P.underlying e = some (.int .i64)) (hC : P.cellsOf t = 3) (hce : P.cellsOf e = 1)
    (hv : Value.okWide P w r b0 t v) (h : DataW.Trod enc P w base spare held t v d p) : ∃ a0 a1 a2 : Int, v = .agg #[.int .i64 a0, .int .i64 a1, .int .i64 a2] ∧ d = .agg [.lit (.int .i64 a0), .lit (.int .i64 a1), .lit (.int .i64 a2)] ∧ p = [] ∧ (Lit.int .i64 a0).wf = true ∧ (Lit.int .i64 a1).wf = true ∧ (Lit.int .i64 a2).wf = true := by
  simp only [Value.okWide, ht] at hv
  obtain ⟨cs, rfl, hsz, _⟩ := hv
  obtain ⟨l⟩ := cs
  match l, hsz.trans hC with
  | [c0, c1, c2], _ =>
    obtain ⟨fuel, hf⟩ := h
    obtain ⟨ys, m, _, hx, _, hlen, hg⟩ := DataW.trod_array ht hf
    match ys, hlen with
    | [y0, y1, y2], _ =>
      obtain ⟨a0, e0, rfl, w0⟩ := DataW.trod_int he (show DataW.trod enc P w base spare held m e [c0] = some y0 by simpa [Value.cells, hce] using hg 0 (by decide))
      obtain ⟨a1, e1, rfl, w1⟩ := DataW.trod_int he (show DataW.trod enc P w base spare held m e [c1] = some y1 by simpa [Value.cells, hce] using hg 1 (by decide))
      obtain ⟨a2, e2, rfl, w2⟩ := DataW.trod_int he (show DataW.trod enc P w base spare held m e [c2] = some y2 by simpa [Value.cells, hce] using hg 2 (by decide))
      simp at e0 e1 e2
      subst e0 e1 e2
      simp only [Prod.mk.injEq] at hx
      exact ⟨a0, a1, a2, rfl, by simpa using hx.1, by simpa using hx.2, w0, w1, w2⟩
theorem shut_arr3 {t e : TypeId} {a0 a1 a2 : Int} (ht : P.underlying t = some (.array 3 e)) (he : P.underlying e = some (.int .i64)) (hC : P.cellsOf t = 3) (hce : P.cellsOf e = 1) (w0 : (Lit.int .i64 a0).wf = true) (w1 : (Lit.int .i64 a1).wf = true) (w2 : (Lit.int .i64 a2).wf = true) :
    DataW.Trod enc P w base spare held t (.agg #[.int .i64 a0, .int .i64 a1, .int .i64 a2]) (.agg [.lit (.int .i64 a0), .lit (.int .i64 a1), .lit (.int .i64 a2)]) [] := by
  refine ⟨2, ?_⟩
  simp [DataW.trod, ht, he, hC, hce, Value.cells, List.range_succ, w0, w1, w2]
theorem open_arr4 {r : Reach} {b0 : Nat} {t e : TypeId} {v : Value} {d : DataW H} {p : List MemPlace} (ht : P.underlying t = some (.array 4 e)) (he : P.underlying e = some (.int .i64)) (hC : P.cellsOf t = 4) (hce : P.cellsOf e = 1)
    (hv : Value.okWide P w r b0 t v) (h : DataW.Trod enc P w base spare held t v d p) : ∃ a0 a1 a2 a3 : Int, v = .agg #[.int .i64 a0, .int .i64 a1, .int .i64 a2, .int .i64 a3] ∧ d = .agg [.lit (.int .i64 a0), .lit (.int .i64 a1), .lit (.int .i64 a2), .lit (.int .i64 a3)] ∧ p = [] ∧ (Lit.int .i64 a0).wf = true ∧ (Lit.int .i64 a1).wf = true ∧ (Lit.int .i64 a2).wf = true ∧ (Lit.int .i64 a3).wf = true := by
  simp only [Value.okWide, ht] at hv
  obtain ⟨cs, rfl, hsz, _⟩ := hv
  obtain ⟨l⟩ := cs
  match l, hsz.trans hC with
  | [c0, c1, c2, c3], _ =>
    obtain ⟨fuel, hf⟩ := h
    obtain ⟨ys, m, _, hx, _, hlen, hg⟩ := DataW.trod_array ht hf
    match ys, hlen with
    | [y0, y1, y2, y3], _ =>
      obtain ⟨a0, e0, rfl, w0⟩ := DataW.trod_int he (show DataW.trod enc P w base spare held m e [c0] = some y0 by simpa [Value.cells, hce] using hg 0 (by decide))
      obtain ⟨a1, e1, rfl, w1⟩ := DataW.trod_int he (show DataW.trod enc P w base spare held m e [c1] = some y1 by simpa [Value.cells, hce] using hg 1 (by decide))
      obtain ⟨a2, e2, rfl, w2⟩ := DataW.trod_int he (show DataW.trod enc P w base spare held m e [c2] = some y2 by simpa [Value.cells, hce] using hg 2 (by decide))
      obtain ⟨a3, e3, rfl, w3⟩ := DataW.trod_int he (show DataW.trod enc P w base spare held m e [c3] = some y3 by simpa [Value.cells, hce] using hg 3 (by decide))
      simp at e0 e1 e2 e3
      subst e0 e1 e2 e3
      simp only [Prod.mk.injEq] at hx
      exact ⟨a0, a1, a2, a3, rfl, by simpa using hx.1, by simpa using hx.2, w0, w1, w2, w3⟩
theorem shut_arr4 {t e : TypeId} {a0 a1 a2 a3 : Int} (ht : P.underlying t = some (.array 4 e)) (he : P.underlying e = some (.int .i64)) (hC : P.cellsOf t = 4) (hce : P.cellsOf e = 1) (w0 : (Lit.int .i64 a0).wf = true) (w1 : (Lit.int .i64 a1).wf = true) (w2 : (Lit.int .i64 a2).wf = true) (w3 : (Lit.int .i64 a3).wf = true) :
    DataW.Trod enc P w base spare held t (.agg #[.int .i64 a0, .int .i64 a1, .int .i64 a2, .int .i64 a3]) (.agg [.lit (.int .i64 a0), .lit (.int .i64 a1), .lit (.int .i64 a2), .lit (.int .i64 a3)]) [] := by
  refine ⟨2, ?_⟩
  simp [DataW.trod, ht, he, hC, hce, Value.cells, List.range_succ, w0, w1, w2, w3]
end
end Go.Proofs.Ytbhdejoljappfaa
