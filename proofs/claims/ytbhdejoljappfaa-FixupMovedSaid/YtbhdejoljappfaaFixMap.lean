/- Maps from three numbers to a number. -/
import Derived.Test.YtbhdejoljappfaaFixRChain
import Derived.Maps.Own
import Derived.Maps.OwnOps
import Derived.Maps.OwnSet
import Derived.DeepKeys4
namespace Go.Proofs.Ytbhdejoljappfaa
open Go.RowKit Go.Maps Go.ChangeShapes
def w64 (x : Int) : Bool := (Lit.int .i64 x).wf
theorem laidOut : laidOutB Try.prog = true := by kernel_rfl
theorem keyed3 : Keyed Try.prog 69 := Keyed.of_law (deep_law_laid laidOut (m := 3) (by omega) (of_decide_eq_true (by kernel_rfl)) (by kernel_rfl) (by kernel_rfl))
def key3 (i j k : Int) : Value := .agg #[.int .i64 i, .int .i64 j, .int .i64 k]
noncomputable def kl (i j k : Int) : Lit := (keyOf Try.prog 69 (key3 i j k)).getD (.bool false)
theorem keyType3 : Try.prog.keyType 69 = true := by kernel_rfl
theorem cells3 : Try.prog.cellsOf 69 = 3 := by kernel_rfl
theorem cells1 : Try.prog.cellsOf 3 = 1 := by kernel_rfl
theorem types_pos : ∃ n, Try.prog.types.size + 1 = n + 2 := ⟨Try.prog.types.size - 1, by have : 0 < Try.prog.types.size := of_decide_eq_true (by kernel_rfl); omega⟩
theorem kl_is (i j k : Int) (hi : w64 i = true) (hj : w64 j = true) (hk : w64 k = true) : keyOf Try.prog 69 (key3 i j k) = some (kl i j k) := by
  have h : ∃ l, keyOf Try.prog 69 (key3 i j k) = some l := by
    unfold w64 at hi hj hk
    obtain ⟨n, hn⟩ := types_pos
    unfold keyOf
    rw [hn, Try.underlying69]
    have hf : (key3 i j k).formed Try.prog 69 = true := by
      simp [key3, Value.formed, Try.underlying69, cells3]
    simp only [keyType3, hf, Bool.and_self, if_true]
    simp [Program.keyLits, Try.underlying69, Try.underlying3, cells3, cells1, key3, Value.cells, List.range_succ, hi, hj, hk]
  obtain ⟨l, hl⟩ := h
  unfold kl
  rw [hl]
  rfl

theorem kl_inj {i j k i' j' k' : Int} (hi : w64 i = true) (hj : w64 j = true) (hk : w64 k = true) (hi' : w64 i' = true) (hj' : w64 j' = true) (hk' : w64 k' = true) (h : kl i j k = kl i' j' k') : i = i' ∧ j = j' ∧ k = k' := by
  have h1 := kl_is i j k hi hj hk
  have h2 := kl_is i' j' k' hi' hj' hk'
  rw [h] at h1
  have h3 := keyed3.inj h1 h2
  simpa [key3] using h3
/-- A map that reads as a function. -/
def MapV (w : World) (b n : Nat) (V : Int → Int → Int → Option Int) : Prop :=
  ∃ D : DataW Unit, w.ownsMap Try.prog 69 (plainElem Try.prog 3) b n D ∧ IsMap D ∧ ∀ i j k, w64 i = true → w64 j = true → w64 k = true → has D (kl i j k) = (V i j k).isSome ∧ D.atKey (kl i j k) (.lit (.int .i64 0)) = .lit (.int .i64 ((V i j k).getD 0))
def putV (V : Int → Int → Int → Option Int) (i j k v : Int) : Int → Int → Int → Option Int := fun i' j' k' => if i' = i ∧ j' = j ∧ k' = k then some v else V i' j' k'
section
variable {w w' : World} {b n : Nat} {V : Int → Int → Int → Option Int}
theorem mapV_made (w : World) : MapV (w.alloc (.map #[] 0)) w.heap.size 0 (fun _ _ _ => none) := by
  refine ⟨.map [], World.ownsMap_made _ _ _ _, isMap_empty, fun i j k _ _ _ => ⟨rfl, ?_⟩⟩
  exact atKey_of_not_has rfl _
theorem MapV.lt (h : MapV w b n V) : b < w.heap.size := by
  obtain ⟨D, h1, _⟩ := h
  exact h1.lt
theorem MapV.kept {row : Option Nat} (h : MapV w b n V) (hg : w.grownBy w' row) (hne : some b ≠ row) : MapV w' b n V := by
  obtain ⟨D, h1, h2, h3⟩ := h
  exact ⟨D, h1.kept hg hne, h2, h3⟩
theorem MapV.below (h : MapV w b n V) (hB : Below w.heap.size w w') : MapV w' b n V := h.kept (row := none) ⟨hB.os, hB.tape, hB.output, hB.size, fun i hi _ => hB.block i hi⟩ (by simp)
theorem MapV.alloc (h : MapV w b n V) (o : Obj) : MapV (w.alloc o) b n V := h.below ((Below.refl _ _).alloc (Nat.le_refl _) o)
theorem MapV.drewN (h : MapV w b n V) (k : Nat) : MapV (w.drewN k) b n V := h
theorem MapV.mono (h : MapV w b n V) {n' : Nat} (hn : n ≤ n') : MapV w b n' V := by
  obtain ⟨D, h1, h2, h3⟩ := h
  exact ⟨D, h1.mono hn, h2, h3⟩
theorem MapV.update (h : MapV w b n V) (hn : n < maxLen) (i j k v : Int) (hi : w64 i = true) (hj : w64 j = true) (hk : w64 k = true) (hv : w64 v = true) :
    ∃ w', (Instr.mapUpdate 65 (.map (some b)) (key3 i j k) (.int .i64 v)).run Try.prog w = .ok () w' ∧ MapV w' b (n + 1) (putV V i j k v) ∧ w.grownBy w' (some b) := by
  obtain ⟨D, h1, h2, h3⟩ := h
  obtain ⟨w', hrun, h4, h5⟩ := h1.update keyed3 Try.underlying65 hn (kl_is i j k hi hj hk) (plainElem_int Try.underlying3 hv)
  refine ⟨w', hrun, ⟨_, h4, h2.put _ _, fun i' j' k' hi' hj' hk' => ?_⟩, h5⟩
  by_cases he : kl i' j' k' = kl i j k
  · obtain ⟨rfl, rfl, rfl⟩ := kl_inj hi' hj' hk' hi hj hk he
    have e : putV V i' j' k' v i' j' k' = some v := by simp [putV]
    rw [e]
    exact ⟨has_put_same h2 (keyed3.key (kl_is i' j' k' hi' hj' hk')) _, atKey_put_same h2 (keyed3.key (kl_is i' j' k' hi' hj' hk')) _ _⟩
  · have e : putV V i j k v i' j' k' = V i' j' k' := by
      unfold putV
      rw [if_neg]
      rintro ⟨rfl, rfl, rfl⟩
      exact he rfl
    rw [e]
    obtain ⟨g1, g2⟩ := h3 i' j' k' hi' hj' hk'
    exact ⟨by rw [has_put_other he]; exact g1, by rw [atKey_put_other he]; exact g2⟩
end
theorem zeroI (w : World) : (zeroValue 3).run Try.prog w = .ok (.int .i64 0) w := by kernel_rfl
theorem lit_inj {a b : Int} (h : (DataW.lit (.int .i64 a) : DataW Unit) = .lit (.int .i64 b)) : a = b := by
  injection h with h
  injection h
section
variable {w : World} {ops : Array Oper} {rest : List Oper} {o : Oper} {a : Act} {Q : Exit → Act → World → Prop} {b n : Nat} {V : Int → Int → Int → Option Int}
theorem wpList_put_V (hg : o.guard = none) (m x v : Operand) (hop : o.op = .mapUpdate 65 m x v ∨ o.op = .insert 65 m x v)
    (hm : a.eval m = .map (some b)) (h : MapV w b n V) (hn : n < maxLen) (i j k z : Int) (hx : a.eval x = key3 i j k) (hv : a.eval v = .int .i64 z) (hi : w64 i = true) (hj : w64 j = true) (hk : w64 k = true) (hz : w64 z = true)
    (hK : ∀ w', Hid (MapV w' b (n + 1) (putV V i j k z)) → Hid (w.grownBy w' (some b)) → wpList Try.prog ops Q rest (a.put o.dst undef) w') : wpList Try.prog ops Q (o :: rest) a w := by
  refine wpList_plain hg fun K' hK' => ?_
  obtain ⟨w', hrun, r1, r2⟩ := h.update hn i j k z hi hj hk hz
  unfold Oper.wp
  rcases hop with hop | hop
  all_goals
    simp [execOp, hop, hm, hx, hv, hrun, Result.andThen]
    exact hK' _ _ (hK w' (Lib.hid r1) (Lib.hid r2))
theorem wpList_look_ok_V (hg : o.guard = none) (m x : Operand) (hop : o.op = .lookup 65 m x true)
    (hm : a.eval m = .map (some b)) (h : MapV w b n V) (i j k : Int) (hx : a.eval x = key3 i j k) (hi : w64 i = true) (hj : w64 j = true) (hk : w64 k = true)
    (hK : wpList Try.prog ops Q rest (a.put o.dst (.tuple #[.int .i64 ((V i j k).getD 0), .bool (V i j k).isSome])) w) : wpList Try.prog ops Q (o :: rest) a w := by
  obtain ⟨D, h1, h2, h3⟩ := h
  obtain ⟨g1, g2⟩ := h3 i j k hi hj hk
  refine wpList_lookup_own_ok_int w hg m x 65 hop 69 3 .i64 keyed3 Try.underlying65 Try.underlying3 (zeroI w) b n D hm h1 (key3 i j k) (kl i j k) hx (kl_is i j k hi hj hk) ?_
  intro c hat _
  rw [g2] at hat
  rw [← lit_inj hat, g1]
  exact hK
theorem wpList_look_V (hg : o.guard = none) (m x : Operand) (hop : o.op = .lookup 65 m x false)
    (hm : a.eval m = .map (some b)) (h : MapV w b n V) (i j k : Int) (hx : a.eval x = key3 i j k) (hi : w64 i = true) (hj : w64 j = true) (hk : w64 k = true)
    (hK : wpList Try.prog ops Q rest (a.put o.dst (.int .i64 ((V i j k).getD 0))) w) : wpList Try.prog ops Q (o :: rest) a w := by
  obtain ⟨D, h1, h2, h3⟩ := h
  obtain ⟨g1, g2⟩ := h3 i j k hi hj hk
  refine wpList_lookup_own_int w hg m x 65 hop 69 3 .i64 keyed3 Try.underlying65 Try.underlying3 (zeroI w) b n D hm h1 (key3 i j k) (kl i j k) hx (kl_is i j k hi hj hk) ?_
  intro c hat _
  rw [g2] at hat
  rw [← lit_inj hat]
  exact hK
end
end Go.Proofs.Ytbhdejoljappfaa
