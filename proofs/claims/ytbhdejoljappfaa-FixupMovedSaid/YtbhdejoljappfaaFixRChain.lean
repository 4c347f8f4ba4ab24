/- The reference's Chain. -/
import Derived.Test.YtbhdejoljappfaaFixChain
namespace Go.Proofs.Ytbhdejoljappfaa
open Go.RowKit
theorem rparts_as (x : Nat) (hx : x < 4294967296) (b : Nat) (hb : pBack x = b) (h : pOk x = true) (w : World) :
    Calls Try.prog 25 #[.int .u32 x] w fun e w' => (∃ r s m : Nat, e = .returned (.tuple #[.agg #[.int .i64 r, .int .i64 s, .int .i64 m, .int .i64 b], .bool true])) ∧ Below w.heap.size w w' := by
  refine (rparts_yes x hx (by simpa [pOk] using h) w).mono ?_
  rintro e w' ⟨rfl, hw⟩
  exact ⟨⟨_, _, _, by rw [hb]⟩, hw⟩
theorem rparts_not (x : Nat) (hx : x < 4294967296) (h : pOk x = false) (w : World) :
    Calls Try.prog 25 #[.int .u32 x] w fun e w' => e = .returned (.tuple #[.agg #[.int .i64 0, .int .i64 0, .int .i64 0, .int .i64 0], .bool false]) ∧ Below w.heap.size w w' := by
  have h' : x / 16384 % 64 ≠ 0 := by simpa [pOk] using h
  exact rparts_no x _ hx rfl (by simp; omega) w
theorem own_on {w w' : World} {base n : Nat} {e : TypeId} {v : Value} {xs : List Value} (h : w.ownsRow base e 1 v n xs) (hB : Below w.heap.size w w') : w'.ownsRow base e 1 v n xs := by
  refine h.kept (row := none) ⟨hB.os, hB.tape, hB.output, hB.size, fun i hi _ => hB.block i hi⟩ ?_
  cases h' : v.ownBlock with
  | none => exact .inl rfl
  | some g => exact .inr (by simp)
theorem rlit_at (w : World) (o : Obj) (x : Nat) : ∀ j u, ([.int .i64 (x : Int)] : List Value)[j]? = some u → (((w.alloc o).alloc (.cells #[.int .i64 (x : Int)] 3)).cell? ((⟨w.heap.size + 1, 0, none⟩ : Addr).add j)) = some u := by
  intro j u hu
  rw [add_at]
  have h := box_lit (w.alloc o) #[.int .i64 (x : Int)] 3 j
  rw [Nat.zero_add]
  rw [show (w.alloc o).heap.size = w.heap.size + 1 by simp] at h
  refine h.trans ?_
  simpa using hu
theorem rchain_below {w wr w1 w2 : World} {o o' : Obj} {v : Value} (hB : Below w.heap.size w wr) (h1 : Below wr.heap.size wr w1) (hg : ((w1.alloc o).alloc o').grownBy w2 v.ownBlock) (hv : ∀ g, v.ownBlock = some g → w.heap.size ≤ g) : Below w.heap.size w w2 :=
  have h := hB.trans (h1.mono hB.size)
  (((h.alloc h.size _).alloc (by have := h.size; simp; omega) _).grown hg (by have := h.size; simp; omega) hv)
theorem rbox {w1 w2 : World} {cs : Array Value} {t : TypeId} {o' : Obj} {row : Option Nat} (hg : ((w1.alloc (.cells cs t)).alloc o').grownBy w2 row) (hr : some w1.heap.size ≠ row) (j : Nat) : w2.cell? ⟨w1.heap.size, j, none⟩ = cs[j]? := by
  refine (World.cell?_of_block (hg.block w1.heap.size (by simp; omega) hr)).trans ?_
  exact (World.cell?_alloc_lt (w1.alloc (.cells cs t)) o' ⟨w1.heap.size, j, none⟩ (by simp)).trans (box_lit w1 cs t j)
theorem row_far {wr w1 : World} {base n : Nat} {e : TypeId} {v : Value} {xs : List Value} (h : wr.ownsRow base e 1 v n xs) (hB : Below wr.heap.size wr w1) : some w1.heap.size ≠ v.ownBlock := fun he => by
  have h1 := (h.lt _ he.symm).2
  have h2 := hB.size
  omega
theorem rchain_none (A : Option Addr) (n c : Nat) (w : World) :
    Calls Try.prog 28 #[.slice A n c, .int .i64 (-1)] w (ChainV w (some [])) := by
  go_enter Try.func28, Try.ntmps28
  go_wp2
  go_ret2
  exact chainV_some (slk_nil _ _ _) (Below.refl _ _)
set_option maxHeartbeats 8000000 in
theorem rchain_some (A : Option Addr) (n c : Nat) (code : List Nat) (head : Int) (w : World) (hl : code.length = n) (hm : (n : Int) ≤ 70000) (hs : ∀ x ∈ code, x < 4294967296) (hA : SlK .u32 w A code) (hh : head ≠ -1) (hb : -9223372036854775808 ≤ head) (hb2 : head ≤ 9223372036854775807) :
    Calls Try.prog 28 #[.slice A n c, .int .i64 head] w (ChainV w (chainF code head)) := by
  obtain ⟨i0, hi, hz0, hz1, hz2⟩ := info_parts infoI
  have HL := Lib.hid hl
  have HA := Lib.hid hA
  have HS := Lib.hid hs
  have HR := Lib.hid (show chainGo code (n + 2) head [] = chainF code head by unfold chainF; rw [if_neg hh, hl])
  have hh1 : (head == -1) = false := by simpa using hh
  obtain ⟨R, hR⟩ : ∃ R, R = chainF code head := ⟨_, rfl⟩
  rw [← hR] at HR ⊢
  clear hl hs hA hh hR
  go_enter Try.func28, Try.ntmps28
  go_wp2
  go_loopw [6, 7] (fun v i wr => ∃ (f : Nat) (a : Int) (out : List Nat) (V : Option Addr) (cv : Nat), i = .int .i64 a ∧ v = .slice V out.length cv ∧ wr.ownsRow w.heap.size 3 1 (.slice V out.length cv) out.length (Cs .i64 out) ∧ (out ≠ [] → ∃ g, V = some ⟨g, 0, none⟩) ∧ Below w.heap.size w wr ∧ chainGo code f a out = R ∧ (1 ≤ f ∧ (a < n → a + 2 ≤ f)) ∧ (-9223372036854775808 ≤ a ∧ a ≤ 9223372036854775807) ∧ (a < n → (out.length : Int) + a ≤ n) ∧ (∀ z ∈ out, (z : Int) < n)) (fun _ i _ => (intOf i + 100000).toNat)
  case atStart => exact ⟨n + 2, head, [], none, 0, rfl, rfl, ⟨by simp [Cs], .inl ⟨rfl, rfl⟩⟩, fun h => absurd rfl h, Below.refl _ _, HR.out, ⟨by omega, fun _ => by omega⟩, ⟨hb, hb2⟩, (fun h => by simp; omega), (fun z h => by simp at h)⟩
  case round =>
    obtain ⟨f, a, out, V, cv, rfl, rfl, hown, hV, hB, hgo, hf, ⟨hb3, hb4⟩, hsum, hmem⟩ := hrel
    have HO := Lib.hid hown
    have HB := Lib.hid hB
    have HG := Lib.hid hgo
    have HF := Lib.hid hf
    have HU := Lib.hid hsum
    have HMM := Lib.hid hmem
    clear hown hB hgo hf HR hh1 hb hb2 hsum hmem
    rcases List.eq_nil_or_concat out with rfl | ⟨o, y, rfl⟩
    · clear hV
      by_cases c1 : a < 0
      · have HN := Lib.hid (show R = none from by rw [← HG.out]; exact chain_bad (okAt_low c1))
        go_wp2
        all_goals
          go_ret2
          rw [HN.out]
          exact chainV_none HB.out
      · by_cases c2 : (n : Int) - 2 < a
        · have HN := Lib.hid (show R = none from by rw [← HG.out]; exact chain_bad (okAt_high HL.out (by omega)))
          go_wp2
          all_goals
            go_ret2
            rw [HN.out]
            exact chainV_none HB.out
        · obtain ⟨k, rfl⟩ := Int.eq_ofNat_of_zero_le (show 0 ≤ a by omega)
          obtain ⟨b, off, rfl, hcc⟩ := HA.out (by have := HL.out; omega)
          have hkl : k < code.length := by have := HL.out; omega
          have hbl := World.block_lt_of_cell? w _ (hcc k hkl)
          have hx : wr.cell? ⟨b, off + k, none⟩ = some (.int .u32 (code[k] : Nat)) := by rw [HB.out.cell (p := ⟨b, off + k, none⟩) hbl]; exact hcc k hkl
          obtain ⟨x, hxe⟩ : ∃ x, x = code[k] := ⟨_, rfl⟩
          have HX := Lib.hid (show code[k]? = some x by rw [hxe]; simp)
          have HX32 := Lib.hid (show x < 4294967296 by rw [hxe]; exact HS.out _ (List.getElem_mem hkl))
          rw [← hxe] at hx
          have HOK := Lib.hid (show okAt code (k : Int) [] = true from okAt_nil HL.out (by omega))
          have HK := Lib.hid (show k < n by omega)
          have HLN := Lib.hid (show 0 ≤ 70000 by have := HU.out (by omega); simp at this; omega)
          have k0 : (0 : Int) ≤ (k : Int) := by omega
          have kn : (k : Int) < (n : Int) := by omega
          clear hcc hbl hxe hkl
          cases hp : pOk x
          · have HN := Lib.hid (show R = none from by rw [← HG.out]; exact chain_no HX.out hp)
            have HP := Lib.hid (fun wx => rparts_not x HX32.out hp wx)
            clear hp
            go_wp2_with (go_at_call 25; (with_reducible refine (HP.out _).mono ?_); rintro e w1 ⟨rfl, hB1⟩; have HW1 := Lib.hid hB1; clear hB1)
            go_ret2
            rw [HN.out]
            exact chainV_none ((HB.out.trans (HW1.out.mono HB.out.size)).alloc (HB.out.trans (HW1.out.mono HB.out.size)).size _)
          · obtain ⟨q, hq⟩ : ∃ q, pBack x = q := ⟨_, rfl⟩
            have HP := Lib.hid (fun wx => rparts_as x HX32.out q hq hp wx)
            have HPT := Lib.hid hp
            have HQ := Lib.hid hq
            have hq2 : (q : Int) < 16384 := by rw [← hq]; unfold pBack; omega
            clear hp hq
            by_cases hq0 : q = 0
            · subst hq0
              have HRR := Lib.hid (show R = some ([] ++ [k]) from by rw [← HG.out]; exact chain_end HOK.out HX.out HPT.out HQ.out HF.out.1)
              go_wp2_with (first
                | (go_at_call 25; (with_reducible refine (HP.out _).mono ?_); rintro e w1 ⟨⟨r, s, m', rfl⟩, hB1⟩; have HW1 := Lib.hid hB1; clear hB1)
                | (at_builtin; refine wpList_append_own _ rfl _ _ 53 rfl w.heap.size 3 i0 (.int .i64 0) 1 8 Try.underlying53 hi hz0 hz1 hz2 rfl (by decide) _ 0 (Cs .i64 []) rfl (((own_on HO.out HW1.out).alloc _).alloc _) ⟨w1.heap.size + 1, 0, none⟩ 1 1 [.int .i64 (k : Nat)] rfl rfl (rlit_at w1 _ k) (Cs_one .i64 [k]) (by have := HLN.out; unfold maxLen; omega) (by have := HLN.out; omega) (by have := HB.out.size; have := HW1.out.size; simp; omega) ?_; intro v' w2 hown1 hgrow1 _; obtain ⟨g', c', rfl⟩ := own_pos hown1 (Nat.succ_pos _); have HO1 := Lib.hid hown1; have HB1 := Lib.hid (rchain_below HB.out HW1.out hgrow1 (fun g hg => (HO.out.lt g hg).1)); have X3 : w2.cell? ⟨w1.heap.size, 3, none⟩ = some (.int .i64 0) := rbox hgrow1 (row_far HO.out HW1.out) 3; clear hown1 hgrow1))
              go_ret2
              rw [HRR.out]
              have hown := HO1.out
              rw [show Cs .i64 [] ++ [.int .i64 ((k : Nat) : Int)] = Cs .i64 ([] ++ [k]) from (Cs_snoc _ _ _).symm] at hown
              have hlen : ([] ++ [k]).length = 0 + 1 := by simp
              obtain ⟨A', c'', hA', hS⟩ := own_slk hown hlen
              cases hA'
              have h := chainV_some hS HB1.out (c := c')
              rw [hlen] at h
              exact h
            · have hq1 : ((q : Int) == 0) = false := by simp; omega
              have HRR := Lib.hid (show ∀ f', f = f' + 1 → chainGo code f' ((k : Int) - (q : Int)) ([] ++ [k]) = R from fun f' hf' => by rw [← HG.out, hf', chain_on HOK.out HX.out HPT.out (by rw [HQ.out]; exact hq0), HQ.out])
              go_wp2_with (first
                | (go_at_call 25; (with_reducible refine (HP.out _).mono ?_); rintro e w1 ⟨⟨r, s, m', rfl⟩, hB1⟩; have HW1 := Lib.hid hB1; clear hB1)
                | (at_builtin; refine wpList_append_own _ rfl _ _ 53 rfl w.heap.size 3 i0 (.int .i64 0) 1 8 Try.underlying53 hi hz0 hz1 hz2 rfl (by decide) _ 0 (Cs .i64 []) rfl (((own_on HO.out HW1.out).alloc _).alloc _) ⟨w1.heap.size + 1, 0, none⟩ 1 1 [.int .i64 (k : Nat)] rfl rfl (rlit_at w1 _ k) (Cs_one .i64 [k]) (by have := HLN.out; unfold maxLen; omega) (by have := HLN.out; omega) (by have := HB.out.size; have := HW1.out.size; simp; omega) ?_; intro v' w2 hown1 hgrow1 _; obtain ⟨g', c', rfl⟩ := own_pos hown1 (Nat.succ_pos _); have HO1 := Lib.hid hown1; have HB1 := Lib.hid (rchain_below HB.out HW1.out hgrow1 (fun g hg => (HO.out.lt g hg).1)); have X3 : w2.cell? ⟨w1.heap.size, 3, none⟩ = some (.int .i64 (q : Nat)) := rbox hgrow1 (row_far HO.out HW1.out) 3; clear hown1 hgrow1))
              go_roundw
              case rel =>
                have hown := HO1.out
                rw [show Cs .i64 [] ++ [.int .i64 ((k : Nat) : Int)] = Cs .i64 ([] ++ [k]) from (Cs_snoc _ _ _).symm] at hown
                obtain ⟨f', hf'⟩ : ∃ f', f = f' + 1 := ⟨f - 1, by have := HF.out.1; omega⟩
                have hlen : ([] ++ [k]).length = 0 + 1 := by simp
                have h1 := HF.out
                have h2 := HU.out (by omega)
                refine ⟨f', (k : Int) - (q : Int), [] ++ [k], some ⟨g', 0, none⟩, c', rfl, by rw [hlen], by rw [hlen]; exact hown, fun _ => ⟨g', rfl⟩, HB1.out, HRR.out f' hf', ⟨by omega, fun _ => by omega⟩, ⟨by omega, by omega⟩, ?_, ?_⟩
                · intro _
                  rw [hlen]
                  simp at h2
                  omega
                · intro z hz
                  rcases List.mem_append.1 hz with hz | hz
                  · exact HMM.out z hz
                  · simp at hz
                    omega
              case measure => simp [intOf]; omega
    · obtain ⟨g, rfl⟩ := hV (by simp)
      clear hV
      obtain ⟨m, hml⟩ : ∃ m, m = o.length := ⟨_, rfl⟩
      have hlen : (o ++ [y]).length = m + 1 := by simp [hml]
      rw [List.concat_eq_append] at HO HU HG HMM ⊢
      have HML := Lib.hid hlen
      have HMO := Lib.hid hml
      rw [hlen] at HO HU
      rw [hlen]
      have hy : wr.cell? ⟨g, m, none⟩ = some (.int .i64 (y : Nat)) := by
        obtain ⟨A', c', hA', hS⟩ := own_slk HO.out HML.out
        cases hA'
        obtain ⟨b', o', hb', hc'⟩ := hS (by rw [HML.out]; omega)
        cases hb'
        have := hc' m (by rw [HML.out]; omega)
        simpa [hml] using this
      clear hlen hml
      by_cases c1 : a < 0
      · have HN := Lib.hid (show R = none from by rw [← HG.out]; exact chain_bad (okAt_low c1))
        go_wp2
        all_goals
          go_ret2
          rw [HN.out]
          exact chainV_none HB.out
      · by_cases c2 : (n : Int) - 2 < a
        · have HN := Lib.hid (show R = none from by rw [← HG.out]; exact chain_bad (okAt_high HL.out (by omega)))
          go_wp2
          all_goals
            go_ret2
            rw [HN.out]
            exact chainV_none HB.out
        · have hm7 : (m : Int) ≤ 70000 := by have := HU.out (by omega); omega
          have hm0 : (0 : Int) ≤ (m : Int) := by omega
          have hy0 : (y : Int) < n := HMM.out y (by simp)
          by_cases c3 : (y : Int) - a < 2
          · have HN := Lib.hid (show R = none from by rw [← HG.out]; exact chain_bad (okAt_near (by omega)))
            go_wp2
            all_goals
              go_ret2
              rw [HN.out]
              exact chainV_none HB.out
          · obtain ⟨k, rfl⟩ := Int.eq_ofNat_of_zero_le (show 0 ≤ a by omega)
            obtain ⟨b, off, rfl, hcc⟩ := HA.out (by have := HL.out; omega)
            have hkl : k < code.length := by have := HL.out; omega
            have hbl := World.block_lt_of_cell? w _ (hcc k hkl)
            have hx : wr.cell? ⟨b, off + k, none⟩ = some (.int .u32 (code[k] : Nat)) := by rw [HB.out.cell (p := ⟨b, off + k, none⟩) hbl]; exact hcc k hkl
            obtain ⟨x, hxe⟩ : ∃ x, x = code[k] := ⟨_, rfl⟩
            have HX := Lib.hid (show code[k]? = some x by rw [hxe]; simp)
            have HX32 := Lib.hid (show x < 4294967296 by rw [hxe]; exact HS.out _ (List.getElem_mem hkl))
            rw [← hxe] at hx
            have HOK := Lib.hid (show okAt code (k : Int) (o ++ [y]) = true from okAt_snoc HL.out (by omega) (by omega))
            have HK := Lib.hid (show k < n by omega)
            have HLN := Lib.hid (show (m + 1) ≤ 70000 by have := HU.out (by omega); simp at this; omega)
            have k0 : (0 : Int) ≤ (k : Int) := by omega
            have kn : (k : Int) < (n : Int) := by omega
            clear hcc hbl hxe hkl
            cases hp : pOk x
            · have HN := Lib.hid (show R = none from by rw [← HG.out]; exact chain_no HX.out hp)
              have HP := Lib.hid (fun wx => rparts_not x HX32.out hp wx)
              clear hp
              go_wp2_with (go_at_call 25; (with_reducible refine (HP.out _).mono ?_); rintro e w1 ⟨rfl, hB1⟩; have HW1 := Lib.hid hB1; clear hB1)
              go_ret2
              rw [HN.out]
              exact chainV_none ((HB.out.trans (HW1.out.mono HB.out.size)).alloc (HB.out.trans (HW1.out.mono HB.out.size)).size _)
            · obtain ⟨q, hq⟩ : ∃ q, pBack x = q := ⟨_, rfl⟩
              have HP := Lib.hid (fun wx => rparts_as x HX32.out q hq hp wx)
              have HPT := Lib.hid hp
              have HQ := Lib.hid hq
              have hq2 : (q : Int) < 16384 := by rw [← hq]; unfold pBack; omega
              clear hp hq
              by_cases hq0 : q = 0
              · subst hq0
                have HRR := Lib.hid (show R = some ((o ++ [y]) ++ [k]) from by rw [← HG.out]; exact chain_end HOK.out HX.out HPT.out HQ.out HF.out.1)
                go_wp2_with (first
                  | (go_at_call 25; (with_reducible refine (HP.out _).mono ?_); rintro e w1 ⟨⟨r, s, m', rfl⟩, hB1⟩; have HW1 := Lib.hid hB1; clear hB1)
                  | (at_builtin; refine wpList_append_own _ rfl _ _ 53 rfl w.heap.size 3 i0 (.int .i64 0) 1 8 Try.underlying53 hi hz0 hz1 hz2 rfl (by decide) _ (m + 1) (Cs .i64 (o ++ [y])) rfl (((own_on HO.out HW1.out).alloc _).alloc _) ⟨w1.heap.size + 1, 0, none⟩ 1 1 [.int .i64 (k : Nat)] rfl rfl (rlit_at w1 _ k) (Cs_one .i64 [k]) (by have := HLN.out; unfold maxLen; omega) (by have := HLN.out; omega) (by have := HB.out.size; have := HW1.out.size; simp; omega) ?_; intro v' w2 hown1 hgrow1 _; obtain ⟨g', c', rfl⟩ := own_pos hown1 (Nat.succ_pos _); have HO1 := Lib.hid hown1; have HB1 := Lib.hid (rchain_below HB.out HW1.out hgrow1 (fun g hg => (HO.out.lt g hg).1)); have X3 : w2.cell? ⟨w1.heap.size, 3, none⟩ = some (.int .i64 0) := rbox hgrow1 (row_far HO.out HW1.out) 3; clear hown1 hgrow1))
                go_ret2
                rw [HRR.out]
                have hown := HO1.out
                rw [show Cs .i64 (o ++ [y]) ++ [.int .i64 ((k : Nat) : Int)] = Cs .i64 ((o ++ [y]) ++ [k]) from (Cs_snoc _ _ _).symm] at hown
                have hlen : ((o ++ [y]) ++ [k]).length = (m + 1) + 1 := by simp [HMO.out]
                obtain ⟨A', c'', hA', hS⟩ := own_slk hown hlen
                cases hA'
                have h := chainV_some hS HB1.out (c := c')
                rw [hlen] at h
                exact h
              · have hq1 : ((q : Int) == 0) = false := by simp; omega
                have HRR := Lib.hid (show ∀ f', f = f' + 1 → chainGo code f' ((k : Int) - (q : Int)) ((o ++ [y]) ++ [k]) = R from fun f' hf' => by rw [← HG.out, hf', chain_on HOK.out HX.out HPT.out (by rw [HQ.out]; exact hq0), HQ.out])
                go_wp2_with (first
                  | (go_at_call 25; (with_reducible refine (HP.out _).mono ?_); rintro e w1 ⟨⟨r, s, m', rfl⟩, hB1⟩; have HW1 := Lib.hid hB1; clear hB1)
                  | (at_builtin; refine wpList_append_own _ rfl _ _ 53 rfl w.heap.size 3 i0 (.int .i64 0) 1 8 Try.underlying53 hi hz0 hz1 hz2 rfl (by decide) _ (m + 1) (Cs .i64 (o ++ [y])) rfl (((own_on HO.out HW1.out).alloc _).alloc _) ⟨w1.heap.size + 1, 0, none⟩ 1 1 [.int .i64 (k : Nat)] rfl rfl (rlit_at w1 _ k) (Cs_one .i64 [k]) (by have := HLN.out; unfold maxLen; omega) (by have := HLN.out; omega) (by have := HB.out.size; have := HW1.out.size; simp; omega) ?_; intro v' w2 hown1 hgrow1 _; obtain ⟨g', c', rfl⟩ := own_pos hown1 (Nat.succ_pos _); have HO1 := Lib.hid hown1; have HB1 := Lib.hid (rchain_below HB.out HW1.out hgrow1 (fun g hg => (HO.out.lt g hg).1)); have X3 : w2.cell? ⟨w1.heap.size, 3, none⟩ = some (.int .i64 (q : Nat)) := rbox hgrow1 (row_far HO.out HW1.out) 3; clear hown1 hgrow1))
                go_roundw
                case rel =>
                  have hown := HO1.out
                  rw [show Cs .i64 (o ++ [y]) ++ [.int .i64 ((k : Nat) : Int)] = Cs .i64 ((o ++ [y]) ++ [k]) from (Cs_snoc _ _ _).symm] at hown
                  obtain ⟨f', hf'⟩ : ∃ f', f = f' + 1 := ⟨f - 1, by have := HF.out.1; omega⟩
                  have hlen : ((o ++ [y]) ++ [k]).length = (m + 1) + 1 := by simp [HMO.out]
                  have h1 := HF.out
                  have h2 := HU.out (by omega)
                  refine ⟨f', (k : Int) - (q : Int), (o ++ [y]) ++ [k], some ⟨g', 0, none⟩, c', rfl, by rw [hlen], by rw [hlen]; exact hown, fun _ => ⟨g', rfl⟩, HB1.out, HRR.out f' hf', ⟨by omega, fun _ => by omega⟩, ⟨by omega, by omega⟩, ?_, ?_⟩
                  · intro _
                    rw [hlen]
                    simp at h2
                    omega
                  · intro z hz
                    rcases List.mem_append.1 hz with hz | hz
                    · exact HMM.out z hz
                    · simp at hz
                      omega
                case measure => simp [intOf]; omega
end Go.Proofs.Ytbhdejoljappfaa
