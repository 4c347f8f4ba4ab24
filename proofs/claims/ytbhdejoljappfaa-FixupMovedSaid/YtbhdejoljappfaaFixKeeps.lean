/- FixupKeeps: the walk. -/
import Derived.Test.YtbhdejoljappfaaFixPlaces
import Derived.Test.YtbhdejoljappfaaSlRow
import Derived.Test.YtbhdejoljappfaaArr
import Derived.Deep.RegionHeld3
namespace Go.Proofs.Ytbhdejoljappfaa
open Go.RowKit
theorem wp_append_src {P : Program} {w : World} {o : Oper} {a : Act} {K : Act → World → Prop} {Q : Exit → Act → World → Prop} (s x : Operand) (t : TypeId)
    (ho : o.op = .call { callee := .builtin .append, args := #[s, x], argTypes := #[t, t] })
    (base : Nat) (e : TypeId) (i : TypeInfo) (z : Value) (size bytes : Nat) (ht : P.underlying t = some (.slice e)) (hi : P.info? e = some i) (hz : i.zero = some z)
    (hsize : i.size = size) (hby : i.bytes = bytes) (hzs : z.cells.size = size) (hsz : 0 < size)
    (v : Value) (n : Nat) (xs : List Value) (hs : a.eval s = v) (hown : w.ownsRow base e size v n xs)
    (A : Option Addr) (m c : Nat) (news : List Value) (hx : a.eval x = .slice A m c) (hl : news.length = m * size) (hnews : ∀ ad, A = some ad → ∀ j u, news[j]? = some u → w.cell? (ad.add j) = some u) (h1 : ∀ u ∈ news, u.oneCell' = true)
    (h0 : A = none → m = 0 ∧ c = 0) (h63 : n + m ≤ maxLen) (hbytes : (n + m) * bytes ≤ 140737488355328) (hbase : base ≤ w.heap.size)
    (h : ∀ v' w', Hid (w'.ownsRow base e size v' (n + m) (xs ++ news)) → Hid (w.grownBy w' v.ownBlock) → Hid (v' = .slice none 0 0 ↔ v = .slice none 0 0 ∧ m = 0) → K (a.put o.dst v') w') : o.wp P a w K Q := by
  rcases A with _ | ad
  · obtain ⟨rfl, rfl⟩ := h0 rfl
    have hn : news = [] := List.eq_nil_of_length_eq_zero (by simpa using hl)
    subst hn
    have hrun := run_append_owned_none (P := P) (w := w) base t o.type e i size ht hi v n xs hown
    unfold Oper.wp
    simp [execOp, ho, resolve, invoke, builtin, hs, hx, hrun, Result.andThen]
    exact h v w (Lib.hid (by simpa using hown)) (Lib.hid (World.grownBy.refl w _)) (Lib.hid (by simp))
  · exact wp_append_own w s x t ho base e i z size bytes ht hi hz hsize hby hzs hsz v n xs hs hown ad m c news hx hl (hnews ad rfl) h1 h63 hbytes hbase (fun v' w' h2 h3 h4 => h v' w' (Lib.hid h2) (Lib.hid h3) (Lib.hid h4))
theorem step_append_src {P : Program} {w : World} {ops : Array Oper} {o : Oper} {a : Act} {K : Act → World → Prop} {Q : Exit → Act → World → Prop} {E : Prop} (hgd : o.guard = none) (s x : Operand) (t : TypeId)
    (ho : o.op = .call { callee := .builtin .append, args := #[s, x], argTypes := #[t, t] })
    (base : Nat) (e : TypeId) (i : TypeInfo) (z : Value) (size bytes : Nat) (ht : P.underlying t = some (.slice e)) (hi : P.info? e = some i) (hz : i.zero = some z)
    (hsize : i.size = size) (hby : i.bytes = bytes) (hzs : z.cells.size = size) (hsz : 0 < size)
    (v : Value) (n : Nat) (xs : List Value) (hs : a.eval s = v) (hown : w.ownsRow base e size v n xs)
    (A : Option Addr) (m c : Nat) (news : List Value) (hx : a.eval x = .slice A m c) (hl : news.length = m * size) (hnews : ∀ ad, A = some ad → ∀ j u, news[j]? = some u → w.cell? (ad.add j) = some u) (h1 : ∀ u ∈ news, u.oneCell' = true)
    (h0 : A = none → m = 0 ∧ c = 0) (h63 : n + m ≤ maxLen) (hbytes : (n + m) * bytes ≤ 140737488355328) (hbase : base ≤ w.heap.size)
    (h : ∀ v' w', Hid (w'.ownsRow base e size v' (n + m) (xs ++ news)) → Hid (w.grownBy w' v.ownBlock) → Hid (v' = .slice none 0 0 ↔ v = .slice none 0 0 ∧ m = 0) → K (a.put o.dst v') w') :
    if Region.wanted o (yielded ops a.tmps) = true then Oper.wp P o a w K Q else E := by
  have hw : Region.wanted o (yielded ops a.tmps) = true := by simp [Region.wanted, hgd]
  rw [if_pos hw]
  exact wp_append_src s x t ho base e i z size bytes ht hi hz hsize hby hzs hsz v n xs hs hown A m c news hx hl hnews h1 h0 h63 hbytes hbase h
/-- A copy of the code, as the calls want it. -/
theorem belowDrew {B : Nat} {a w : World} (h : Below B a w) : Below B a w.drew := below_drewN h 1
theorem own_lit {w0 : World} {H base : Nat} (hH : w0.heap.size = H) (hb : base ≤ H) : ((w0.alloc (.cells #[] 24)).drew).ownsRow base 24 1 (.slice (some ⟨H, 0, none⟩) 0 0) 0 [] := by
  subst hH
  exact World.ownsRow_lit w0 #[] 0 hb (by decide) rfl
theorem copied {w1 : World} {g c n : Nat} {xs : List Nat} {base : Nat} (h : w1.ownsRow base 24 1 (.slice (some ⟨g, 0, none⟩) (0 + n) c) (0 + n) ([] ++ Cs .u32 xs)) (hn : xs.length = n) : SlK .u32 w1 (some ⟨g, 0, none⟩) xs := by
  rw [Nat.zero_add, List.nil_append] at h
  exact (row_own h hn).1.slk
/-- What Chain tells, whatever it is. -/
theorem chain_told {w w' : World} {R : Option (List Nat)} {e : Ending} {L : List Nat} {ee : Int} (hl : ∀ l, R = some l → l.length ≤ 70000) (hL : L = R.getD [] ∧ ee = if R = none then 220 else 0) (h : ChainV w R e w') : ∃ A c, e = .returned (.tuple #[.slice A L.length c, .int .i64 ee]) ∧ SlK .i64 w' A L ∧ Below w.heap.size w w' ∧ ((L.length : Nat) : Int) ≤ 70000 := by
  obtain ⟨rfl, rfl⟩ := hL
  cases R with
  | none => exact ⟨none, 0, h.1 rfl, slk_nil _ _ _, h.2.2, by simp⟩
  | some l =>
    obtain ⟨A, c, he, hS⟩ := h.2.1 l rfl
    exact ⟨A, c, he, hS, h.2.2, by have := hl l rfl; simp; omega⟩
theorem head_cell {w w1 : World} {cs : Array Value} {t : TypeId} {o : Obj} (hg : (((w.alloc (.cells cs t)).alloc o).drew).grownBy w1 (some (w.heap.size + 1))) (j : Nat) : w1.cell? ⟨w.heap.size, j, none⟩ = cs[j]? := by
  refine (World.cell?_of_block (hg.block w.heap.size (by simp; omega) (by simp))).trans ?_
  exact (World.cell?_alloc_lt (w.alloc (.cells cs t)) o ⟨w.heap.size, j, none⟩ (by simp)).trans (box_lit w cs t j)
theorem head_below {w w1 : World} {o o' : Obj} (hg : (((w.alloc o').alloc o).drew).grownBy w1 (some (w.heap.size + 1))) : Below w.heap.size w w1 :=
  (belowDrew (((Below.refl w.heap.size w).alloc (Nat.le_refl _) o').alloc (by simp) o)).grown hg (by simp; omega) (fun g h => by simp at h; omega)
theorem own_lit' {w0 : World} : ((w0.alloc (.cells #[] 24)).drew).ownsRow w0.heap.size 24 1 (.slice (some ⟨w0.heap.size, 0, none⟩) 0 0) 0 [] := own_lit rfl (Nat.le_refl _)
theorem next_below {w0 w1 : World} {o : Obj} (hg : ((w0.alloc o).drew).grownBy w1 (some w0.heap.size)) : Below w0.heap.size w0 w1 :=
  (belowDrew ((Below.refl w0.heap.size w0).alloc (Nat.le_refl _) o)).grown hg (by simp) (fun g h => by simp at h; omega)
theorem kept_cell {w0 w1 : World} {b j : Nat} {u : Value} (h : w0.cell? ⟨b, j, none⟩ = some u) (hB : Below w0.heap.size w0 w1) : w1.cell? ⟨b, j, none⟩ = some u := (hB.cell (p := ⟨b, j, none⟩) (World.block_lt_of_cell? w0 _ h)).trans h
set_option maxHeartbeats 8000000 in
set_option maxRecDepth 100000 in
theorem keeps_no (A B : Option Addr) (cap bn bc : Nat) (code : List Nat) (h0 h1 : Int) (ps : List Pl) (w : World) (hs : ∀ x ∈ code, x < 4294967296) (hA : SlK .u32 w A code) (hc0 : A = none → code.length = 0 ∧ cap = 0) (hm : (code.length : Int) ≤ 5000) (hB : PlR w B ps) (hbn : ps.length = bn) (hh0 : w64 h0 = true) (hh1 : w64 h1 = true)
    (hF : fillF code h0 h1 (placesV (ps.take 300)) = none) :
    Calls Try.prog 11 #[.slice A code.length cap, .agg #[.int .i64 h0, .int .i64 h1], .slice B bn bc] w fun e w' => e = .returned (.bool true) ∧ Below w.heap.size w w' := by
  obtain ⟨i0, hi, hz0, hz1, hz2⟩ := info_parts infoU
  have bw := bounds_i64 hh0
  have bv := bounds_i64 hh1
  obtain ⟨R, hR⟩ : ∃ R, R = chainF code h0 := ⟨_, rfl⟩
  have HLL := Lib.hid (show ∀ l, R = some l → l.length ≤ 70000 from fun l hl => by have := (chainF_links (hR ▸ hl)).2; omega)
  have HC := Lib.hid (fun (wx : World) A c (h : SlK .u32 wx A code) => chain_calls A c code h0 wx (by omega) hs h bw.1 bw.2)
  rw [← hR] at HC
  obtain ⟨L, hL⟩ : ∃ L, L = R.getD [] := ⟨_, rfl⟩
  obtain ⟨ee, hee⟩ : ∃ ee : Int, ee = if R = none then 220 else 0 := ⟨_, rfl⟩
  have HLE := Lib.hid (And.intro hL hee)
  have HA := Lib.hid (fun (wx : World) (hb : Below w.heap.size w wx) => slk_cells (hA.below hb))
  have HN := Lib.hid hc0
  have B2 := Lib.hid (show 0 + code.length ≤ maxLen by unfold maxLen; omega)
  have B3 := Lib.hid (show (0 + code.length) * 4 ≤ 140737488355328 by omega)
  have HP := Lib.hid (fun (wx : World) (hb : Below w.heap.size w wx) => places_calls B bc bn ps wx hbn (hB.below hb))
  have HFC := Lib.hid (fun (wx : World) (b off c mb mn : Nat) (h : SlK .u32 wx (some ⟨b, off, none⟩) code) (hV : MapV wx mb mn (placesV (ps.take 300))) => fill_calls b off c mb mn code h0 h1 (placesV (ps.take 300)) wx (by omega) hs h hV bw.1 bw.2)
  have HF := Lib.hid hF
  clear hs hA hc0 bw bv hL hee hR hB hbn hh0 hh1 hF
  go_enter Try.func11, Try.ntmps11
  go_wp2
  go_region_held3 (fun w' => w'.cell? ⟨w.heap.size, 0, none⟩ = some (.int .i64 h0) ∧ w'.cell? ⟨w.heap.size, 1, none⟩ = some (.int .i64 h1)) (first | exact ⟨q0, q1⟩ | exact ⟨r0, r1⟩ | go_keep)
    (first
      | (refine step_append_src rfl (.tmp 21) (.tmp 22) 52 (by rfl) w.heap.size 24 i0 (.int .u32 0) 1 4 Try.underlying52 hi hz0 hz1 hz2 rfl (by decide) _ 0 [] (by rfl) (own_lit (w0 := w.alloc _) (H := w.heap.size + 1) (by simp) (by omega)) A code.length cap (Cs .u32 code) (by rfl) (by rw [Cs_len]; simp) (HA.out _ (belowDrew (((Below.refl w.heap.size w).alloc (Nat.le_refl _) _).alloc (by simp) _))) (Cs_one _ code) HN.out B2.out B3.out (by simp; omega) ?_; intro v' w1 hown hgrow hnil; obtain ⟨g, c', rfl⟩ := row_lit hown.out hnil.out; have HI1 := Lib.hid (copied hown.out rfl); have HB1 := Lib.hid (head_below hgrow.out); have q0 : w1.cell? ⟨w.heap.size, 0, none⟩ = some (.int .i64 h0) := head_cell hgrow.out 0; have q1 : w1.cell? ⟨w.heap.size, 1, none⟩ = some (.int .i64 h1) := head_cell hgrow.out 1; clear hown hgrow hnil)
      | (go_at_call 27; refine Calls.mono (HC.out _ _ _ HI1.out) ?_; intro e w2 h2; obtain ⟨A2, c2, rfl, hS2, hB2, hl2⟩ := chain_told HLL.out HLE.out h2; have HL2 := Lib.hid hS2; have HB2 := Lib.hid (HB1.out.trans (hB2.mono HB1.out.size)); have HLB := Lib.hid hl2; have r0 : w2.cell? ⟨w.heap.size, 0, none⟩ = some (.int .i64 h0) := kept_cell q0 hB2; have r1 : w2.cell? ⟨w.heap.size, 1, none⟩ = some (.int .i64 h1) := kept_cell q1 hB2; clear h2 hS2 hB2 hl2))
  go_wp2
  go_region_held3 (fun w' => w'.cell? ⟨w.heap.size, 0, none⟩ = some (.int .i64 h0) ∧ w'.cell? ⟨w.heap.size, 1, none⟩ = some (.int .i64 h1)) (first | exact ⟨r0, r1⟩ | exact ⟨s0, s1⟩ | exact ⟨t0, t1⟩ | exact ⟨u0, u1⟩ | go_keep)
    (first
      | (refine step_append_src rfl (.tmp 30) (.tmp 31) 52 (by rfl) w2.heap.size 24 i0 (.int .u32 0) 1 4 Try.underlying52 hi hz0 hz1 hz2 rfl (by decide) _ 0 [] (by rfl) own_lit' A code.length cap (Cs .u32 code) (by rfl) (by rw [Cs_len]; simp) (HA.out _ (belowDrew (HB2.out.alloc HB2.out.size _))) (Cs_one _ code) HN.out B2.out B3.out (by simp) ?_; intro v' w3 hown hgrow hnil; obtain ⟨g, c', rfl⟩ := row_lit hown.out hnil.out; have hN3 := next_below hgrow.out; have HI3 := Lib.hid (copied hown.out rfl); have HB3 := Lib.hid (HB2.out.trans (hN3.mono HB2.out.size)); have HL3 := Lib.hid (HL2.out.below hN3); have s0 := kept_cell r0 hN3; have s1 := kept_cell r1 hN3; clear hown hgrow hnil hN3)
      | (go_at_call 32; refine Calls.mono (HP.out _ HB3.out) ?_; rintro e w4 ⟨mb, rfl, hM4, _, hB4⟩; have HM4 := Lib.hid hM4; have HI4 := Lib.hid (HI3.out.below hB4); have HL4 := Lib.hid (HL3.out.below hB4); have HB4 := Lib.hid (HB3.out.trans (hB4.mono HB3.out.size)); have t0 := kept_cell s0 hB4; have t1 := kept_cell s1 hB4; clear hM4 hB4)
      | (go_at_call 31; refine Calls.mono (HFC.out _ _ _ _ _ _ HI4.out HM4.out) ?_; rintro e w5 ⟨hf1, hf2, hB5⟩; obtain rfl := hf1 HF.out; have HL5 := Lib.hid (HL4.out.below hB5); have HB5 := Lib.hid (HB4.out.trans (hB5.mono HB4.out.size)); have u0 := kept_cell t0 hB5; have u1 := kept_cell t1 hB5; clear hf1 hf2 hB5))
  go_wp2_with (go_at_call 26; (with_reducible refine (wakes22 _).mono ?_); rintro e w9 ⟨rfl, hB9⟩; have HB9 := Lib.hid hB9; clear hB9)
  go_ret
  exact ⟨rfl, HB5.out.trans (HB9.out.mono HB5.out.size)⟩
end Go.Proofs.Ytbhdejoljappfaa
