/- Slices of numbers: what they read as, appends onto rows of the call's own, clones, comparisons. -/
import Derived.Test.YtbhdejoljappfaaFixRef
import Derived.Laws.AppendOwnNone
import Derived.Laws.AppendOwn
import Derived.OwnWalk
import Derived.ChangeSlices
import Derived.Deep.QuietTactic
import Derived.BigQuiet
import Derived.WalkSpells
namespace Go.Proofs.Ytbhdejoljappfaa
open Go.RowKit Go.ChangeShapes
/-- Numbers of a kind, as cells. -/
def Cs (k : IntKind) (xs : List Nat) : List Value := xs.map fun (x : Nat) => Value.int k (x : Int)
theorem Cs_len (k : IntKind) (xs : List Nat) : (Cs k xs).length = xs.length := by simp [Cs]
theorem Cs_one (k : IntKind) (xs : List Nat) : ∀ u ∈ Cs k xs, u.oneCell' = true := by
  intro u hu
  obtain ⟨x, _, rfl⟩ := List.mem_map.1 hu
  rfl
theorem Cs_at (k : IntKind) (xs : List Nat) (j : Nat) (h : j < xs.length) : (Cs k xs)[j]? = some (.int k (xs[j] : Nat)) := by simp [Cs, h]
theorem Cs_snoc (k : IntKind) (xs : List Nat) (x : Nat) : Cs k (xs ++ [x]) = Cs k xs ++ [.int k (x : Int)] := by simp [Cs]
/-- A slice that reads as these numbers. -/
def SlK (k : IntKind) (w : World) (A : Option Addr) (zs : List Nat) : Prop := 0 < zs.length → ∃ b off, A = some ⟨b, off, none⟩ ∧ ∀ j (h : j < zs.length), w.cell? ⟨b, off + j, none⟩ = some (.int k (zs[j] : Nat))
theorem slk_nil (k : IntKind) (w : World) (A : Option Addr) : SlK k w A [] := fun h => by simp at h
theorem SlK.below {k : IntKind} {w w' : World} {A : Option Addr} {zs : List Nat} (h : SlK k w A zs) (hB : Below w.heap.size w w') : SlK k w' A zs := by
  intro h0
  obtain ⟨b, off, rfl, hc⟩ := h h0
  refine ⟨b, off, rfl, fun j hj => ?_⟩
  rw [hB.cell (World.block_lt_of_cell? w _ (hc j hj))]
  exact hc j hj
theorem add_at (b off j : Nat) : (⟨b, off, none⟩ : Addr).add j = ⟨b, off + j, none⟩ := by
  unfold Addr.add
  split <;> simp_all
theorem slk_cells {k : IntKind} {w : World} {A : Option Addr} {zs : List Nat} (h : SlK k w A zs) : ∀ ad, A = some ad → ∀ j u, (Cs k zs)[j]? = some u → w.cell? (ad.add j) = some u := by
  rintro ad rfl j u hu
  have hj : j < zs.length := by
    rcases Nat.lt_or_ge j zs.length with h' | h'
    · exact h'
    · rw [List.getElem?_eq_none (by rw [Cs_len]; omega)] at hu; cases hu
  obtain ⟨b, off, hA, hc⟩ := h (by omega)
  cases hA
  rw [Cs_at k zs j hj] at hu
  cases hu
  rw [add_at]
  exact hc j hj
theorem own_slk {k : IntKind} {e : TypeId} {w : World} {base n : Nat} {v : Value} {zs : List Nat} (h : w.ownsRow base e 1 v n (Cs k zs)) (hn : zs.length = n) : ∃ A c, v = .slice A n c ∧ SlK k w A zs := by
  rcases h.2 with ⟨rfl, h0⟩ | ⟨g, cap, cur, rfl, hb, hg, hn', _, hc, ht⟩
  · subst h0
    have : zs = [] := List.eq_nil_of_length_eq_zero hn
    subst this
    exact ⟨none, 0, rfl, slk_nil _ _ _⟩
  · refine ⟨some ⟨g, 0, none⟩, cap, rfl, fun _ => ⟨g, 0, rfl, fun j hj => ?_⟩⟩
    have h1 := Cs_at k zs j hj
    rw [← ht, List.getElem?_take_of_lt (by omega)] at h1
    unfold World.cell?
    dsimp only
    rw [hg, Nat.zero_add]
    simpa using h1
theorem row_lit {w : World} {base n k c m : Nat} {e : TypeId} {v : Value} {ad : Addr} {xs : List Value} (hown : w.ownsRow base e 1 v n xs) (hnil : v = .slice none 0 0 ↔ (.slice (some ad) k c : Value) = .slice none 0 0 ∧ m = 0) : ∃ g c', v = .slice (some ⟨g, 0, none⟩) n c' := by
  rcases hown.2 with ⟨h', _⟩ | ⟨g, cap, cur, h', _⟩
  · have h := (hnil.1 h').1
    simp at h
  · exact ⟨g, cap, h'⟩
theorem cell_kept {w w1 : World} {o : Obj} {a : Addr} {u : Value} (hg : w.grownBy w1 none) (h : w.cell? a = some u) : (w1.alloc o).cell? a = some u := by
  have h1 := hg.cell h (by simp)
  rw [World.cell?_alloc_lt _ _ _ (World.block_lt_of_cell? w1 a h1)]
  exact h1
theorem wpList_append_src {P : Program} {w : World} {ops : Array Oper} {rest : List Oper} {o : Oper} {a : Act} {Q : Exit → Act → World → Prop} (hgd : o.guard = none) (s x : Operand) (t : TypeId)
    (ho : o.op = .call { callee := .builtin .append, args := #[s, x], argTypes := #[t, t] })
    (base : Nat) (e : TypeId) (i : TypeInfo) (z : Value) (size bytes : Nat) (ht : P.underlying t = some (.slice e)) (hi : P.info? e = some i) (hz : i.zero = some z)
    (hsize : i.size = size) (hby : i.bytes = bytes) (hzs : z.cells.size = size) (hsz : 0 < size)
    (v : Value) (n : Nat) (xs : List Value) (hs : a.eval s = v) (hown : w.ownsRow base e size v n xs)
    (A : Option Addr) (m c : Nat) (news : List Value) (hx : a.eval x = .slice A m c) (hl : news.length = m * size) (hnews : ∀ ad, A = some ad → ∀ j u, news[j]? = some u → w.cell? (ad.add j) = some u) (h1 : ∀ u ∈ news, u.oneCell' = true)
    (h0 : A = none → m = 0 ∧ c = 0) (h63 : n + m ≤ maxLen) (hbytes : (n + m) * bytes ≤ 140737488355328) (hbase : base ≤ w.heap.size)
    (h : ∀ v' w', Hid (w'.ownsRow base e size v' (n + m) (xs ++ news)) → Hid (w.grownBy w' v.ownBlock) → Hid (v' = .slice none 0 0 ↔ v = .slice none 0 0 ∧ m = 0) → wpList P ops Q rest (a.put o.dst v') w') : wpList P ops Q (o :: rest) a w := by
  rcases A with _ | ad
  · obtain ⟨rfl, rfl⟩ := h0 rfl
    have hn : news = [] := List.eq_nil_of_length_eq_zero (by simpa using hl)
    subst hn
    refine wpList_append_own_none hgd s x t ho base e i size ht hi v n xs hs hown hx ?_
    exact h v w (Lib.hid (by simpa using hown)) (Lib.hid (World.grownBy.refl w _)) (Lib.hid (by simp))
  · exact wpList_append_own w hgd s x t ho base e i z size bytes ht hi hz hsize hby hzs hsz v n xs hs hown ad m c news hx hl (hnews ad rfl) h1 h63 hbytes hbase (fun v' w' h2 h3 h4 => h v' w' (Lib.hid h2) (Lib.hid h3) (Lib.hid h4))
theorem infoU : (Try.prog.info? 24).map (fun i => (i.zero, i.size, i.bytes)) = some (some (.int .u32 0), 1, 4) := by kernel_rfl
theorem infoI : (Try.prog.info? 3).map (fun i => (i.zero, i.size, i.bytes)) = some (some (.int .i64 0), 1, 8) := by kernel_rfl
/-- Words in a block of their own: block g, the first n of its cells. -/
def Row (w : World) (e : TypeId) (k : IntKind) (g c : Nat) (xs : List Nat) : Prop := ∃ cur : List Value, cur.length = c ∧ xs.length ≤ cur.length ∧ w.heap[g]? = some (.cells cur.toArray e (0, 0)) ∧ cur.take xs.length = Cs k xs
section
variable {w w' : World} {e : TypeId} {k : IntKind} {g c : Nat} {xs : List Nat}
theorem Row.lt (h : Row w e k g c xs) : g < w.heap.size := by
  obtain ⟨cur, _, _, h3, _⟩ := h
  exact (Array.getElem?_eq_some_iff.1 h3).1
theorem Row.cell (h : Row w e k g c xs) {j : Nat} (hj : j < xs.length) : w.cell? ⟨g, j, none⟩ = some (.int k (xs[j] : Nat)) := by
  obtain ⟨cur, _, _, h3, ht⟩ := h
  have h1 : (cur.take xs.length)[j]? = some (.int k (xs[j] : Nat)) := by rw [ht]; exact Cs_at k xs j hj
  rw [List.getElem?_take_of_lt hj] at h1
  simp [World.cell?, h3, h1]
theorem Row.free (h : Row w e k g c xs) (j : Nat) : w.frozen? ⟨g, j, none⟩ = false := by
  obtain ⟨cur, _, _, h3, _⟩ := h
  simp [World.frozen?, h3]
theorem Row.kept (h : Row w e k g c xs) (hg : w'.heap[g]? = w.heap[g]?) : Row w' e k g c xs := by
  obtain ⟨cur, h1, h2, h3, ht⟩ := h
  exact ⟨cur, h1, h2, by rw [hg]; exact h3, ht⟩
theorem Row.below (h : Row w e k g c xs) (hB : Below w.heap.size w w') : Row w' e k g c xs := h.kept (hB.block g h.lt)
theorem Row.drewN (h : Row w e k g c xs) (n : Nat) : Row (w.drewN n) e k g c xs := h
theorem Row.set (h : Row w e k g c xs) (j v : Nat) : Row (w.setCell ⟨g, j, none⟩ (.int k v)) e k g c (xs.set j v) := by
  obtain ⟨cur, h1, h2, h3, ht⟩ := h
  refine ⟨cur.set j (.int k v), by simpa using h1, by simpa using h2, ?_, ?_⟩
  · simp only [World.setCell, Array.getElem?_modify, if_pos]
    rw [h3]
    simp
  · rw [List.length_set, List.take_set, ht]
    simp [Cs, List.map_set]
theorem Row.slk (h : Row w e k g c xs) : SlK k w (some ⟨g, 0, none⟩) xs := fun _ => ⟨g, 0, rfl, fun j hj => by rw [Nat.zero_add]; exact h.cell hj⟩
theorem row_own {base n : Nat} (h : w.ownsRow base e 1 (.slice (some ⟨g, 0, none⟩) n c) n (Cs k xs)) (hn : xs.length = n) : Row w e k g c xs ∧ base ≤ g := by
  rcases h.2 with ⟨h', _⟩ | ⟨g', cap, cur, h', hb, hg, hn', _, hc, ht⟩
  · simp at h'
  · simp only [Value.slice.injEq, Option.some.injEq, Addr.mk.injEq, and_true, true_and] at h'
    obtain ⟨rfl, rfl⟩ := h'
    subst hn
    have hc' : cur.toList.length = c := by simpa using hc
    exact ⟨⟨cur.toList, hc', by omega, by simpa using hg, by simpa using ht⟩, hb⟩
end
/-- A slice in new memory. -/
def NewRow (w : World) (k : IntKind) (e : TypeId) (xs : List Nat) (x : Ending) (w' : World) : Prop :=
  ∃ g c, x = .returned (.slice (some ⟨g, 0, none⟩) xs.length c) ∧ Row w' e k g c xs ∧ w.heap.size ≤ g ∧ Below w.heap.size w w'
set_option maxHeartbeats 1000000 in
theorem clone_calls (b off c : Nat) (xs : List Nat) (w : World) (hm : (xs.length : Int) ≤ 70000) (h : SlK .u32 w (some ⟨b, off, none⟩) xs) :
    Calls Try.prog 46 #[.slice (some ⟨b, off, none⟩) xs.length c] w (NewRow w .u32 24 xs) := by
  obtain ⟨i0, hi, hz0, hz1, hz2⟩ := info_parts infoU
  have HP := Lib.hid (slk_cells h _ rfl)
  have B2 := Lib.hid (show 0 + xs.length ≤ maxLen by unfold maxLen; omega)
  have B3 := Lib.hid (show (0 + xs.length) * 4 ≤ 140737488355328 by omega)
  clear h
  have NE : ∀ wx : World, (binOp .eql 52 (.slice (some ⟨b, off, none⟩) xs.length c) (.slice none 0 0)).run Try.prog wx = .ok (.bool false) wx := fun wx => by
    first | exact Lib.run_eql_slice_nil wx 52 24 (some ⟨b, off, none⟩) xs.length c 0 0 Try.underlying52 | exact Lib.run_eql_slice_nil wx 52 24 (some ⟨b, off, none⟩) xs.length c Try.underlying52
  go_enter Try.func46, Try.ntmps46
  go_wp2_with (at_builtin; refine wpList_append_own _ rfl _ _ 52 rfl w.heap.size 24 i0 (.int .u32 0) 1 4 Try.underlying52 hi hz0 hz1 hz2 rfl (by decide) _ 0 [] rfl (World.ownsRow_lit w #[] 0 (Nat.le_refl _) (by decide) rfl) ⟨b, off, none⟩ xs.length c (Cs .u32 xs) rfl (by rw [Cs_len]; simp) (fun j u hu => cell_kept ⟨rfl, rfl, rfl, Nat.le_refl _, fun _ _ _ => rfl⟩ (HP.out j u hu)) (Cs_one _ xs) B2.out B3.out (by simp) ?_; intro v' w1 hown hgrow hnil)
  go_ret
  obtain ⟨g, c', rfl⟩ := row_lit hown hnil
  have hgrow : (w.alloc (.cells #[] 24)).grownBy w1 (some w.heap.size) := hgrow
  rw [Nat.zero_add, List.nil_append] at hown
  obtain ⟨hR, hb⟩ := row_own hown rfl
  exact ⟨g, c', by simp, hR, hb, (((Below.refl w.heap.size w).alloc (Nat.le_refl _) _).grown hgrow (by simp) (fun k hk => by simp at hk; omega))⟩
theorem keep_words (A B : Option Addr) (n c d : Nat) (zs : List Nat) (w : World) (hl : zs.length = n) (hm : (n : Int) ≤ 70000) (hA : SlK .u32 w A zs) (hB : SlK .u32 w B zs) :
    Calls Try.prog 30 #[.slice A n c, .slice B n d] w fun e w' => e = .returned (.bool true) ∧ ∃ k, w' = w.drewN k := by
  have HL := Lib.hid hl
  have HA := Lib.hid hA
  have HB := Lib.hid hB
  clear hl hA hB
  go_enter Try.func30, Try.ntmps30
  go_wp2
  go_loopw [5] (fun i wr => ∃ k q : Nat, k ≤ n ∧ i = .int .i64 k ∧ wr = w.drewN q) (fun i _ => n - (intOf i).toNat)
  case atStart => exact ⟨0, 0, Nat.zero_le _, rfl, rfl⟩
  case round =>
    obtain ⟨k, q, hk, rfl, rfl⟩ := hrel
    by_cases hlt : k < n
    · obtain ⟨b, o, rfl, ha⟩ := HA.out (by have := HL.out; omega)
      obtain ⟨b', o', rfl, hb⟩ := HB.out (by have := HL.out; omega)
      have hx := ha k (by have := HL.out; omega)
      have hy := hb k (by have := HL.out; omega)
      obtain ⟨x, hxe⟩ : ∃ x : Nat, x = zs[k]'(by have := HL.out; omega) := ⟨_, rfl⟩
      rw [← hxe] at hx hy
      clear ha hb hxe
      have i0 : (0 : Int) ≤ (k : Int) := by omega
      have i1 : (k : Int) < (n : Int) := by omega
      go_wp2
      go_quiet (fail)
      go_wp2
      go_roundw
      case rel => exact ⟨k + 1, _, by omega, by go_num, rfl⟩
      case measure => simp [intOf]; omega
    · go_wp2
      go_ret
      exact ⟨rfl, q, rfl⟩
theorem keep_same (A B : Option Addr) (n c d : Nat) (zs : List Nat) (w : World) (hl : zs.length = n) (hm : (n : Int) ≤ 70000) (hA : SlK .i64 w A zs) (hB : SlK .i64 w B zs) :
    Calls Try.prog 29 #[.slice A n c, .slice B n d] w fun e w' => e = .returned (.bool true) ∧ ∃ k, w' = w.drewN k := by
  have HL := Lib.hid hl
  have HA := Lib.hid hA
  have HB := Lib.hid hB
  clear hl hA hB
  go_enter Try.func29, Try.ntmps29
  go_wp2
  go_loopw [5] (fun i wr => ∃ k q : Nat, k ≤ n ∧ i = .int .i64 k ∧ wr = w.drewN q) (fun i _ => n - (intOf i).toNat)
  case atStart => exact ⟨0, 0, Nat.zero_le _, rfl, rfl⟩
  case round =>
    obtain ⟨k, q, hk, rfl, rfl⟩ := hrel
    by_cases hlt : k < n
    · obtain ⟨b, o, rfl, ha⟩ := HA.out (by have := HL.out; omega)
      obtain ⟨b', o', rfl, hb⟩ := HB.out (by have := HL.out; omega)
      have hx := ha k (by have := HL.out; omega)
      have hy := hb k (by have := HL.out; omega)
      obtain ⟨x, hxe⟩ : ∃ x : Nat, x = zs[k]'(by have := HL.out; omega) := ⟨_, rfl⟩
      rw [← hxe] at hx hy
      clear ha hb hxe
      have i0 : (0 : Int) ≤ (k : Int) := by omega
      have i1 : (k : Int) < (n : Int) := by omega
      go_wp2
      go_quiet (fail)
      go_wp2
      go_roundw
      case rel => exact ⟨k + 1, _, by omega, by go_num, rfl⟩
      case measure => simp [intOf]; omega
    · go_wp2
      go_ret
      exact ⟨rfl, q, rfl⟩
end Go.Proofs.Ytbhdejoljappfaa
