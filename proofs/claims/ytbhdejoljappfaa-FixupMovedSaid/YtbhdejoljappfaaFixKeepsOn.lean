/- FixupKeeps where the chain is filled in: the walk. -/
import Derived.Test.YtbhdejoljappfaaFixKeeps
import Derived.Test.YtbhdejoljappfaaFixFacts
import Derived.Laws.MakeOwn
import Derived.Laws.OwnMore
namespace Go.Proofs.Ytbhdejoljappfaa
open Go.RowKit
theorem made_row {w : World} {base g m : Nat} (h : w.ownsRow base 3 1 (.slice (some ⟨g, 0, none⟩) m m) m (madeCells (Value.int .i64 0).cells (m * 1)).toList) : Row w 3 .i64 g m (List.replicate m 0) ∧ base ≤ g := by
  refine row_own (n := m) (xs := List.replicate m 0) ?_ (by simp)
  have e : Cs .i64 (List.replicate m 0) = (madeCells (Value.int .i64 0).cells (m * 1)).toList := by
    simp [Cs, madeCells, Value.cells, Nat.mod_one, List.map_const']
  rw [e]
  exact h
theorem below_none {w w1 : World} (hg : w.grownBy w1 none) : Below w.heap.size w w1 := ⟨hg.os, hg.tape, hg.output, hg.size, fun k hk => hg.block k hk (by simp)⟩
set_option maxHeartbeats 16000000 in
set_option maxRecDepth 100000 in
theorem keeps_some (A B : Option Addr) (cap bn bc : Nat) (code : List Nat) (h0 h1 : Int) (ps : List Pl) (w : World) (hs : ∀ x ∈ code, x < 4294967296) (hA : SlK .u32 w A code) (hc0 : A = none → code.length = 0 ∧ cap = 0) (hm : (code.length : Int) ≤ 5000) (hB : PlR w B ps) (hbn : ps.length = bn) (hh0 : w64 h0 = true) (hh1 : w64 h1 = true)
    (l ys : List Nat) (hl : chainF code h0 = some l) (hF : fillF code h0 h1 (placesV (ps.take 300)) = some ys) :
    Calls Try.prog 11 #[.slice A code.length cap, .agg #[.int .i64 h0, .int .i64 h1], .slice B bn bc] w fun e w' => e = .returned (.bool true) ∧ Below w.heap.size w w' := by
  obtain ⟨i0, hi, hz0, hz1, hz2⟩ := info_parts infoU
  have bw := bounds_i64 hh0
  have bv := bounds_i64 hh1
  obtain ⟨R, hR⟩ : ∃ R, R = chainF code h0 := ⟨_, rfl⟩
  have HLL := Lib.hid (show ∀ l, R = some l → l.length ≤ 70000 from fun l hl => by have := (chainF_links (hR ▸ hl)).2; omega)
  have HC := Lib.hid (fun (wx : World) A c (h : SlK .u32 wx A code) => chain_calls A c code h0 wx (by omega) hs h bw.1 bw.2)
  rw [← hR] at HC
  have HLE := Lib.hid (show l = R.getD [] ∧ (0 : Int) = (if R = none then 220 else 0) from by rw [hR, hl]; exact ⟨rfl, by simp⟩)
  have HA := Lib.hid (fun (wx : World) (hb : Below w.heap.size w wx) => slk_cells (hA.below hb))
  have HN := Lib.hid hc0
  have B2 := Lib.hid (show 0 + code.length ≤ maxLen by unfold maxLen; omega)
  have B3 := Lib.hid (show (0 + code.length) * 4 ≤ 140737488355328 by omega)
  have HP := Lib.hid (fun (wx : World) (hb : Below w.heap.size w wx) => places_calls B bc bn ps wx hbn (hB.below hb))
  have HFC := Lib.hid (fun (wx : World) (b off c mb mn : Nat) (h : SlK .u32 wx (some ⟨b, off, none⟩) code) (hV : MapV wx mb mn (placesV (ps.take 300))) => fill_calls b off c mb mn code h0 h1 (placesV (ps.take 300)) wx (by omega) hs h hV bw.1 bw.2)
  have HF := Lib.hid hF
  have hfd := fillF_filled hs (by omega) hl hF
  have HYL := Lib.hid hfd.1
  have HFD := Lib.hid hfd
  have HLK := Lib.hid (chainF_links hl).1.1
  have HSA := Lib.hid hA
  have HS32 := Lib.hid hs
  have hlen : (l.length : Int) ≤ 70000 := by have := (chainF_links hl).2; omega
  obtain ⟨j0, hj, hj0, hj1, hj2⟩ := info_parts infoI
  have B4 := Lib.hid (show j0.bytes * code.length ≤ 281474976710656 by rw [hj2]; omega)
  have B5 := Lib.hid (show code.length ≤ maxLen by unfold maxLen; omega)
  clear hs hA hc0 bw bv hR hB hbn hh0 hh1 hF hl hfd
  go_enter Try.func11, Try.ntmps11
  go_wp2
  go_region_held3 (fun w' => w'.cell? ⟨w.heap.size, 0, none⟩ = some (.int .i64 h0) ∧ w'.cell? ⟨w.heap.size, 1, none⟩ = some (.int .i64 h1)) (first | exact ⟨q0, q1⟩ | exact ⟨r0, r1⟩ | go_keep)
    (first
      | (refine step_append_src rfl (.tmp 21) (.tmp 22) 52 (by rfl) w.heap.size 24 i0 (.int .u32 0) 1 4 Try.underlying52 hi hz0 hz1 hz2 rfl (by decide) _ 0 [] (by rfl) (own_lit (w0 := w.alloc _) (H := w.heap.size + 1) (by simp) (by omega)) A code.length cap (Cs .u32 code) (by rfl) (by rw [Cs_len]; simp) (HA.out _ (belowDrew (((Below.refl w.heap.size w).alloc (Nat.le_refl _) _).alloc (by simp) _))) (Cs_one _ code) HN.out B2.out B3.out (by simp; omega) ?_; intro v' w1 hown hgrow hnil; obtain ⟨g, c', rfl⟩ := row_lit hown.out hnil.out; have HI1 := Lib.hid (copied hown.out rfl); have HB1 := Lib.hid (head_below hgrow.out); have q0 : w1.cell? ⟨w.heap.size, 0, none⟩ = some (.int .i64 h0) := head_cell hgrow.out 0; have q1 : w1.cell? ⟨w.heap.size, 1, none⟩ = some (.int .i64 h1) := head_cell hgrow.out 1; clear hown hgrow hnil)
      | (go_at_call 27; refine Calls.mono (HC.out _ _ _ HI1.out) ?_; intro e w2 h2; obtain ⟨A2, c2, rfl, hS2, hB2, hl2⟩ := chain_told HLL.out HLE.out h2; have HL2 := Lib.hid hS2; have HB2 := Lib.hid (HB1.out.trans (hB2.mono HB1.out.size)); have HLB := Lib.hid hl2; have r0 : w2.cell? ⟨w.heap.size, 0, none⟩ = some (.int .i64 h0) := kept_cell q0 hB2; have r1 : w2.cell? ⟨w.heap.size, 1, none⟩ = some (.int .i64 h1) := kept_cell q1 hB2; clear h2 hS2 hB2 hl2))
  go_wp2
  go_region_held3 (fun w' => w'.cell? ⟨w.heap.size, 0, none⟩ = some (.int .i64 h0) ∧ w'.cell? ⟨w.heap.size, 1, none⟩ = some (.int .i64 h1)) (first | exact ⟨r0, r1⟩ | exact ⟨s0, s1⟩ | exact ⟨t0, t1⟩ | exact ⟨u0, u1⟩ | go_keep)
    (first
      | (refine step_append_src rfl (.tmp 30) (.tmp 31) 52 (by rfl) w2.heap.size 24 i0 (.int .u32 0) 1 4 Try.underlying52 hi hz0 hz1 hz2 rfl (by decide) _ 0 [] (by rfl) own_lit' A code.length cap (Cs .u32 code) (by rfl) (by rw [Cs_len]; simp) (HA.out _ (belowDrew (HB2.out.alloc HB2.out.size _))) (Cs_one _ code) HN.out B2.out B3.out (by simp) ?_; intro v' w3 hown hgrow hnil; obtain ⟨g, c', rfl⟩ := row_lit hown.out hnil.out; have hN3 := next_below hgrow.out; have HI3 := Lib.hid (copied hown.out rfl); have HB3 := Lib.hid (HB2.out.trans (hN3.mono HB2.out.size)); have HL3 := Lib.hid (HL2.out.below hN3); have s0 := kept_cell r0 hN3; have s1 := kept_cell r1 hN3; clear hown hgrow hnil hN3)
      | (go_at_call 32; refine Calls.mono (HP.out _ HB3.out) ?_; rintro e w4 ⟨mb, rfl, hM4, _, hB4⟩; have HM4 := Lib.hid hM4; have HI4 := Lib.hid (HI3.out.below hB4); have HL4 := Lib.hid (HL3.out.below hB4); have HB4 := Lib.hid (HB3.out.trans (hB4.mono HB3.out.size)); have t0 := kept_cell s0 hB4; have t1 := kept_cell s1 hB4; clear hM4 hB4)
      | (go_at_call 31; refine Calls.mono (HFC.out _ _ _ _ _ _ HI4.out HM4.out) ?_; rintro e w5 ⟨hf1, hf2, hB5⟩; obtain ⟨g5, c5, rfl, hR5, _⟩ := hf2 _ HF.out; rw [HYL.out]; have HR5 := Lib.hid hR5; have HL5 := Lib.hid (HL4.out.below hB5); have HB5 := Lib.hid (HB4.out.trans (hB5.mono HB4.out.size)); have u0 := kept_cell t0 hB5; have u1 := kept_cell t1 hB5; clear hf1 hf2 hB5))
  clear u0 u1 t0 t1 s0 s1 r0 r1 q0 q1
  go_wp2_with (at_make; refine wpList_make_full _ rfl _ _ 53 rfl w5.heap.size 3 j0 (.int .i64 0) 1 Try.underlying53 hj hj0 hj1 .i64 .i64 _ _ code.length rfl rfl rfl rfl B4.out B5.out (Nat.le_refl _) ?_; intro w6 hown hgrow; have HR6 := Lib.hid (made_row hown).1; have HB6 := Lib.hid (below_none hgrow); clear hown hgrow)
  go_loopw [12] (fun i wr => ∃ k : Nat, k ≤ l.length ∧ i = .int .i64 k ∧ Row wr 3 .i64 w5.heap.size code.length (marks code.length (l.take k)) ∧ Below w5.heap.size w5 wr) (fun i _ => l.length - (intOf i).toNat)
  case atStart => exact ⟨0, Nat.zero_le _, rfl, by rw [List.take_zero, marks_nil]; exact HR6.out, HB6.out⟩
  case round =>
    obtain ⟨k, hk, rfl, hRow, hBr⟩ := hrel
    have HRW := Lib.hid hRow
    have HBR := Lib.hid hBr
    clear hRow hBr HR6 HB6
    by_cases hlt : k < l.length
    · obtain ⟨bl, ol, rfl, hcl⟩ := HL5.out (by omega)
      have hp0 := hcl k hlt
      have hbl := World.block_lt_of_cell? w5 _ hp0
      have hpl : wr.cell? ⟨bl, ol + k, none⟩ = some (.int .i64 (l[k] : Nat)) := by rw [HBR.out.cell hbl]; exact hp0
      have hblt : bl < w5.heap.size := hbl
      obtain ⟨p, hpe⟩ : ∃ p, p = l[k] := ⟨_, rfl⟩
      have HD := Lib.hid (show marks code.length (l.take (k + 1)) = ((marks code.length (l.take k)).set p 1).set (p + 1) 1 by rw [List.take_succ_eq_append_getElem hlt, ← hpe, marks_snoc])
      have hpn := (HLK.out p (by rw [hpe]; exact List.getElem_mem hlt)).1
      rw [← hpe] at hpl
      have A1 : ∀ (j : Nat) (v : Value), (wr.setCell ⟨w5.heap.size, j, none⟩ v).cell? ⟨bl, ol + k, none⟩ = some (.int .i64 (p : Nat)) := fun j v => (World.cell?_setCell_other wr _ _ v (fun e => by injection e with e1; omega)).trans hpl
      have A2 : ∀ (j j' : Nat) (v v' : Value), ((wr.setCell ⟨w5.heap.size, j, none⟩ v).setCell ⟨w5.heap.size, j', none⟩ v').cell? ⟨bl, ol + k, none⟩ = some (.int .i64 (p : Nat)) := fun j j' v v' => (World.cell?_setCell_other _ _ _ v' (fun e => by injection e with e1; omega)).trans (A1 j v)
      obtain ⟨z0, F0⟩ : ∃ z : Int, wr.cell? ⟨w5.heap.size, p, none⟩ = some (.int .i64 z) := ⟨_, HRW.out.cell (j := p) (by rw [marks_len]; omega)⟩
      have F1 := HRW.out.free p
      have R1 := HRW.out.set p 1
      obtain ⟨z2, F2⟩ : ∃ z : Int, (wr.setCell ⟨w5.heap.size, p, none⟩ (.int .i64 1)).cell? ⟨w5.heap.size, p + 1, none⟩ = some (.int .i64 z) := ⟨_, R1.cell (j := p + 1) (by simp [marks_len]; omega)⟩
      have F3 : (wr.setCell ⟨w5.heap.size, p, none⟩ (.int .i64 1)).frozen? ⟨w5.heap.size, p + 1, none⟩ = false := R1.free (p + 1)
      have HR2 := Lib.hid (show Row ((wr.setCell ⟨w5.heap.size, p, none⟩ (.int .i64 1)).setCell ⟨w5.heap.size, p + 1, none⟩ (.int .i64 1)) 3 .i64 w5.heap.size code.length (marks code.length (l.take (k + 1))) from by rw [HD.out]; exact R1.set (p + 1) 1)
      have k0 : (0 : Int) ≤ (k : Int) := by omega
      have kn : (k : Int) < (l.length : Int) := by omega
      have p0 : (0 : Int) ≤ (p : Int) := by omega
      have pn0 : (p : Int) < (code.length : Int) := by omega
      have pn : (p : Int) + 1 < (code.length : Int) := by omega
      have WP : IntKind.i64.wrap ((p : Int) + 1) = (p : Int) + 1 := by rw [IntKind.wrap_i64]; omega
      have WN : ((p : Int) + 1).toNat = p + 1 := by omega
      have p2 : (0 : Int) ≤ (p : Int) + 1 := by omega
      clear hp0 hbl hcl hpe hpn R1
      go_wp2
      go_region_held3 (fun w' => w'.cell? ⟨bl, ol + k, none⟩ = some (.int .i64 (p : Nat))) (first | exact hpl | exact A1 _ _ | exact A2 _ _ _ _ | go_keep) (fail)
      go_wp2
      go_roundw
      case rel => exact ⟨k + 1, by omega, by go_num, HR2.out, belowDrew ((HBR.out.setCell (p := ⟨w5.heap.size, p, none⟩) (Nat.le_refl _) _).setCell (p := ⟨w5.heap.size, p + 1, none⟩) (Nat.le_refl _) _)⟩
      case measure => simp [intOf]; omega
    · obtain rfl : k = l.length := by omega
      rw [List.take_length] at HRW
      have HRM := Lib.hid (fun (wx : World) (hb : Below wr.heap.size wr wx) => HRW.out.below hb)
      have HR5b := Lib.hid (HR5.out.below HBR.out)
      have HSb := Lib.hid (HSA.out.below (HB5.out.trans (HBR.out.mono HB5.out.size)))
      have HBb := Lib.hid (HB5.out.trans (HBR.out.mono HB5.out.size))
      obtain ⟨wl, hwl⟩ : ∃ wl, wl = wr := ⟨_, rfl⟩
      rw [← hwl] at HRM HR5b HSb HBb
      have HRW' := Lib.hid (show Row wl 3 .i64 w5.heap.size code.length (marks code.length l) from by rw [hwl]; exact HRW.out)
      clear HRW HBR hlt hk
      subst hwl
      go_wp2
      go_loopw [13] (fun i wr => ∃ k : Nat, k ≤ code.length ∧ i = .int .i64 k ∧ Below wl.heap.size wl wr) (fun i _ => code.length - (intOf i).toNat)
      case atStart => exact ⟨0, Nat.zero_le _, rfl, Below.refl _ _⟩
      case round =>
        obtain ⟨k, hk, rfl, hBr⟩ := hrel
        have HBR := Lib.hid hBr
        clear hBr
        by_cases hlt : k < code.length
        · obtain ⟨b, off, rfl, hcc⟩ := HSb.out (by omega)
          have hky : k < ys.length := by rw [HYL.out]; exact hlt
          obtain ⟨y, hye⟩ : ∃ y, y = ys[k] := ⟨_, rfl⟩
          obtain ⟨x, hxe⟩ : ∃ x, x = code[k] := ⟨_, rfl⟩
          have HYK := HFD.out.2 k y (by rw [hye]; simp)
          have y32 : y < 4294967296 := by
            cases hin : isIn l k with
            | true => exact (HYK.2 hin).2
            | false =>
              have := HYK.1 hin
              rw [List.getElem?_eq_getElem hlt] at this
              cases this
              exact HS32.out _ (List.getElem_mem hlt)
          obtain ⟨D, hD⟩ : ∃ D, D = decI y := ⟨_, rfl⟩
          obtain ⟨de, hde⟩ : ∃ de, de = decE y := ⟨_, rfl⟩
          have hdc := fun wx => dec_calls y y32 wx
          rw [← hD, ← hde] at hdc
          obtain ⟨z0, z1, z2, z3, z4, z5, z6, z7⟩ := D
          have HDC := Lib.hid (show ∀ wx, Calls Try.prog 19 #[.int .u32 y] wx fun e w' => e = .returned (.tuple #[.agg #[.int .i64 z0, .bool z1, .bool z2, .int .i64 z3, .int .i64 z4, .int .i64 z5, .int .i64 z6, .int .i64 z7], .int .i64 de]) ∧ Below wx.heap.size wx w' from hdc)
          clear hdc hD
          obtain ⟨m, hme⟩ : ∃ m : Nat, m = if isIn l k then 1 else 0 := ⟨_, rfl⟩
          have g0 : wr.cell? ⟨g5, k, none⟩ = some (.int .u32 (y : Nat)) := by rw [hye]; exact (HR5b.out.below HBR.out).cell hky
          have HG := Lib.hid (fun (wx : World) (hb : Below wr.heap.size wr wx) => And.intro (show wx.cell? ⟨g5, k, none⟩ = some (.int .u32 (y : Nat)) from by rw [hye]; exact ((HR5b.out.below HBR.out).below hb).cell hky) (And.intro (show wx.cell? ⟨w5.heap.size, k, none⟩ = some (.int .i64 (m : Nat)) from by
              have hml : k < (marks code.length l).length := by rw [marks_len]; exact hlt
              have e : (marks code.length l)[k] = m := by
                have := marks_at code.length l k hlt
                rw [List.getElem?_eq_getElem hml] at this
                rw [hme]
                simpa using this
              have := ((HRW'.out.below HBR.out).below hb).cell hml
              rw [e] at this
              exact this) (show wx.cell? ⟨b, off + k, none⟩ = some (.int .u32 (x : Nat)) from by
              have h := hcc k hlt
              rw [← hxe] at h
              exact kept_cell (kept_cell h HBR.out) hb)))
          have k0 : (0 : Int) ≤ (k : Int) := by omega
          have kn : (k : Int) < (code.length : Int) := by omega
          have HEQ := Lib.hid (And.intro hye (And.intro hxe (And.intro hme hde)))
          have HYH := Lib.hid HYK
          clear hye hxe hme hde HYK hcc y32
          go_wp2_with fail
          ((with_reducible refine (HDC.out _).mono ?_))
          rintro e w7 ⟨rfl, hB7⟩
          have hG7 := HG.out w7 hB7
          have HB7 := Lib.hid hB7
          have m0 := fun o => (World.cell?_alloc_lt w7 o ⟨g5, k, none⟩ (World.block_lt_of_cell? w7 _ hG7.1)).trans hG7.1
          have m1 := fun o => (World.cell?_alloc_lt w7 o ⟨w5.heap.size, k, none⟩ (World.block_lt_of_cell? w7 _ hG7.2.1)).trans hG7.2.1
          have m2 := fun o => (World.cell?_alloc_lt w7 o ⟨b, off + k, none⟩ (World.block_lt_of_cell? w7 _ hG7.2.2)).trans hG7.2.2
          clear hB7 hG7 g0
          cases hin : isIn l k with
          | true =>
            have hm1 : m = 1 := by rw [HEQ.out.2.2.1, hin]; rfl
            have hd : de = 0 := by rw [HEQ.out.2.2.2]; exact (HYH.out.2 hin).1
            clear HEQ HYH HG hin
            subst hm1 hd
            go_wp2
            go_quiet (fail)
            go_wp2
            go_roundw
            case rel =>
              have hb7 := HBR.out.trans (HB7.out.mono HBR.out.size)
              exact ⟨k + 1, by omega, by go_num, below_drewN (hb7.alloc hb7.size _) _⟩
            case measure => simp [intOf]; omega
          | false =>
            have hm1 : m = 0 := by rw [HEQ.out.2.2.1, hin]; rfl
            have hxy : y = x := by
              have := HYH.out.1 hin
              rw [List.getElem?_eq_getElem hlt, ← HEQ.out.2.1] at this
              cases this
              rfl
            clear HEQ HYH HG hin
            subst hm1 hxy
            go_wp2
            go_quiet (fail)
            go_wp2
            go_roundw
            case rel =>
              have hb7 := HBR.out.trans (HB7.out.mono HBR.out.size)
              exact ⟨k + 1, by omega, by go_num, below_drewN (hb7.alloc hb7.size _) _⟩
            case measure => simp [intOf]; omega
        · go_wp2_with (go_at_call 26; (with_reducible refine (wakes22 _).mono ?_); rintro e w9 ⟨rfl, hB9⟩; have HB9 := Lib.hid hB9; clear hB9)
          go_ret
          have h1 := HBb.out.trans (HBR.out.mono HBb.out.size)
          exact ⟨rfl, h1.trans (HB9.out.mono h1.size)⟩
end Go.Proofs.Ytbhdejoljappfaa
