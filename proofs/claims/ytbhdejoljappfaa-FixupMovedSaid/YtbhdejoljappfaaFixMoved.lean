/- FixupMoved: the walk. -/
import Derived.Test.YtbhdejoljappfaaFixKeepsOn
import Derived.Test.YtbhdejoljappfaaFixMovedFacts
namespace Go.Proofs.Ytbhdejoljappfaa
open Go.RowKit
theorem fill_told {w w' : World} {R : Option (List Nat)} {e : Ending} {L : List Nat} {ee : Int} (hL : L = R.getD [] ∧ ee = if R = none then 220 else 0) (h : FillV w R e w') : ∃ A c, e = .returned (.tuple #[.slice A L.length c, .int .i64 ee]) ∧ SlK .u32 w' A L ∧ Below w.heap.size w w' := by
  obtain ⟨rfl, rfl⟩ := hL
  cases R with
  | none => exact ⟨none, 0, h.1 rfl, slk_nil _ _ _, h.2.2⟩
  | some l =>
    obtain ⟨g, c, he, hS, _⟩ := h.2.1 l rfl
    exact ⟨_, c, he, hS.slk, h.2.2⟩
theorem MapV.look {w : World} {b n : Nat} {V : Int → Int → Int → Option Int} (h : MapV w b n V) (i j k : Int) (hi : w64 i = true) (hj : w64 j = true) (hk : w64 k = true) : (Instr.lookup 65 (.map (some b)) (.agg #[.int .i64 i, .int .i64 j, .int .i64 k]) false).run Try.prog w = .ok (.int .i64 ((V i j k).getD 0)) w := by
  obtain ⟨D, h1, h2, h3⟩ := h
  obtain ⟨g1, g2⟩ := h3 i j k hi hj hk
  obtain ⟨c, hrun, hat, _⟩ := h1.lookup_int keyed3 Try.underlying65 Try.underlying3 (zeroI w) (kl_is i j k hi hj hk)
  rw [g2] at hat
  rw [lit_inj hat]
  exact hrun
set_option maxHeartbeats 16000000 in
set_option maxRecDepth 100000 in
theorem moved_nn (A B : Option Addr) (cap bn bc k : Nat) (code : List Nat) (h0 h1 h2 : Int) (ps : List Pl) (w : World) (hs : ∀ x ∈ code, x < 4294967296) (hA : SlK .u32 w A code) (hc0 : A = none → code.length = 0 ∧ cap = 0) (hm : (code.length : Int) ≤ 5000) (hB : PlR w B ps) (hbn : ps.length = bn) (hb3 : (bn : Int) ≤ 300) (hh0 : w64 h0 = true) (g0 : 0 ≤ h1) (g1 : h1 ≤ 60000) (hk : (IntKind.u64.wrap h2).tmod 2000 = (k : Int)) (hk2 : (k : Int) < 2000)
    (hRA : fillF code h0 h1 (placesV ps) = none) (hRB : fillF code h0 (h1 + (k : Int)) (movedV k (placesV ps) ps) = none) :
    Calls Try.prog 13 #[.slice A code.length cap, .agg #[.int .i64 h0, .int .i64 h1, .int .i64 h2], .slice B bn bc] w fun e w' => e = .returned (.bool true) ∧ Below w.heap.size w w' := by
  obtain ⟨i0, hi, hz0, hz1, hz2⟩ := info_parts infoU
  have bw := bounds_i64 hh0
  have hps : ps.take 300 = ps := List.take_of_length_le (by omega)
  have HLA := Lib.hid (show ([] : List Nat) = (fillF code h0 h1 (placesV ps)).getD [] ∧ (220 : Int) = (if fillF code h0 h1 (placesV ps) = none then 220 else 0) from by rw [hRA]; exact ⟨rfl, by simp⟩)
  have HLB := Lib.hid (show ([] : List Nat) = (fillF code h0 (h1 + (k : Int)) (movedV k (placesV ps) ps)).getD [] ∧ (220 : Int) = (if fillF code h0 (h1 + (k : Int)) (movedV k (placesV ps) ps) = none then 220 else 0) from by rw [hRB]; exact ⟨rfl, by simp⟩)
  have HFA := Lib.hid (fun (wx : World) (b off c mb mn : Nat) (h : SlK .u32 wx (some ⟨b, off, none⟩) code) (hV : MapV wx mb mn (placesV ps)) => fill_calls b off c mb mn code h0 h1 (placesV ps) wx (by omega) hs h hV bw.1 bw.2)
  have HFB := Lib.hid (fun (wx : World) (b off c mb mn : Nat) (h : SlK .u32 wx (some ⟨b, off, none⟩) code) (hV : MapV wx mb mn (movedV k (placesV ps) ps)) => fill_calls b off c mb mn code h0 (h1 + (k : Int)) (movedV k (placesV ps) ps) wx (by omega) hs h hV bw.1 bw.2)
  have HC := Lib.hid (fun (wx : World) A c (h : SlK .u32 wx A code) => chain_calls A c code h0 wx (by omega) hs h bw.1 bw.2)
  have HA := Lib.hid (fun (wx : World) (hb : Below w.heap.size w wx) => slk_cells (hA.below hb))
  have HSA := Lib.hid hA
  have HN := Lib.hid hc0
  have B2 := Lib.hid (show 0 + code.length ≤ maxLen by unfold maxLen; omega)
  have B3 := Lib.hid (show (0 + code.length) * 4 ≤ 140737488355328 by omega)
  have HP := Lib.hid (fun (wx : World) (hb : Below w.heap.size w wx) => by have := places_calls B bc bn ps wx hbn (hB.below hb); rw [hps] at this; exact this)
  have HPB := Lib.hid hB
  have HBN := Lib.hid hbn
  have HPS := Lib.hid hps
  have b1 : decide ((5000 : Int) < (code.length : Int)) = false := decide_eq_false (by omega)
  have b2 : decide ((300 : Int) < (bn : Int)) = false := decide_eq_false (by omega)
  have b3 : decide (h1 < 0) = false := decide_eq_false (by omega)
  have b4 : decide (60000 < h1) = false := decide_eq_false (by omega)
  have WH : IntKind.i64.wrap (h1 + (k : Int)) = h1 + (k : Int) := by rw [IntKind.wrap_i64]; omega
  have hmm := @run_makeMap Try.prog
  clear hs hA hc0 bw hB hbn hh0 hps hRA hRB
  go_enter Try.func13, Try.ntmps13
  go_wp2
  go_region_held3 (fun w' => w'.cell? ⟨w.heap.size, 0, none⟩ = some (.int .i64 h0) ∧ w'.cell? ⟨w.heap.size, 1, none⟩ = some (.int .i64 h1)) (first | exact ⟨q0, q1⟩ | exact ⟨r0, r1⟩ | exact ⟨s0, s1⟩ | go_keep)
    (first
      | (refine step_append_src rfl (.tmp 51) (.tmp 52) 52 (by rfl) w.heap.size 24 i0 (.int .u32 0) 1 4 Try.underlying52 hi hz0 hz1 hz2 rfl (by decide) _ 0 [] (by rfl) (own_lit (w0 := w.alloc _) (H := w.heap.size + 1) (by simp) (by omega)) A code.length cap (Cs .u32 code) (by rfl) (by rw [Cs_len]; simp) (HA.out _ (belowDrew (((Below.refl w.heap.size w).alloc (Nat.le_refl _) _).alloc (by simp) _))) (Cs_one _ code) HN.out B2.out B3.out (by simp; omega) ?_; intro v' w1 hown hgrow hnil; obtain ⟨g, c', rfl⟩ := row_lit hown.out hnil.out; have HI1 := Lib.hid (copied hown.out rfl); have HB1 := Lib.hid (head_below hgrow.out); have q0 : w1.cell? ⟨w.heap.size, 0, none⟩ = some (.int .i64 h0) := head_cell hgrow.out 0; have q1 : w1.cell? ⟨w.heap.size, 1, none⟩ = some (.int .i64 h1) := head_cell hgrow.out 1; clear hown hgrow hnil)
      | (go_at_call 32; refine Calls.mono (HP.out _ HB1.out) ?_; rintro e w2 ⟨mb, rfl, hM2, _, hB2⟩; have HM2 := Lib.hid hM2; have HI2 := Lib.hid (HI1.out.below hB2); have HB2 := Lib.hid (HB1.out.trans (hB2.mono HB1.out.size)); have r0 := kept_cell q0 hB2; have r1 := kept_cell q1 hB2; clear hM2 hB2)
      | (go_at_call 31; refine Calls.mono (HFA.out _ _ _ _ _ _ HI2.out HM2.out) ?_; intro e w3 h3; obtain ⟨A3, c3, rfl, hS3, hB3⟩ := fill_told HLA.out h3; have HS3 := Lib.hid hS3; have HB3 := Lib.hid (HB2.out.trans (hB3.mono HB2.out.size)); have s0 := kept_cell r0 hB3; have s1 := kept_cell r1 hB3; clear h3 hS3 hB3))
  clear q0 q1 r0 r1 b1 b2 b3 b4
  go_wp2_with (go_at_call 32; (with_reducible refine Calls.mono (HP.out _ HB3.out) ?_); rintro e w4 ⟨m4, rfl, hM4, _, hB4⟩; have HM4 := Lib.hid hM4; have HS4 := Lib.hid (HS3.out.below hB4); have HB4 := Lib.hid (HB3.out.trans (hB4.mono HB3.out.size)); have t0 := kept_cell s0 hB4; have t1 := kept_cell s1 hB4; clear hM4 hB4 s0 s1)
  have T := Lib.hid (And.intro t0 t1)
  clear t0 t1 hmm
  go_loopw [12] (fun i wr => ∃ j : Nat, j ≤ bn ∧ i = .int .i64 j ∧ MapV wr w4.heap.size j (movedV k (placesV ps) (ps.take j)) ∧ Below w4.heap.size w4 wr) (fun i _ => bn - (intOf i).toNat)
  case atStart => exact ⟨0, Nat.zero_le _, rfl, mapV_made w4, (Below.refl _ _).alloc (Nat.le_refl _) _⟩
  case round =>
    obtain ⟨j, hj, rfl, hM, hBr⟩ := hrel
    have HM := Lib.hid hM
    have HBR := Lib.hid hBr
    clear hM hBr
    by_cases hlt : j < bn
    · have hjl : j < ps.length := by have := HBN.out; omega
      obtain ⟨b, off, rfl, hw, c0, c1, c2, cx⟩ := HPB.out j hjl
      have HBW := Lib.hid (HB4.out.trans (HBR.out.mono HB4.out.size))
      obtain ⟨p, hp⟩ : ∃ p, p = ps[j] := ⟨_, rfl⟩
      rw [← hp] at hw c0 c1 c2
      obtain ⟨p0, p1, p2, p3⟩ := p
      have d0 : wr.cell? ⟨b, off + j * 4, none⟩ = some (.int .i64 p0) := kept_cell c0 HBW.out
      have d1 : wr.cell? ⟨b, off + j * 4 + 1, none⟩ = some (.int .i64 p1) := kept_cell c1 HBW.out
      have d2 : wr.cell? ⟨b, off + j * 4 + 2, none⟩ = some (.int .i64 p2) := kept_cell c2 HBW.out
      have HW := Lib.hid hw
      obtain ⟨v, hv⟩ : ∃ v, v = (placesV ps p0 p1 p2).getD 0 := ⟨_, rfl⟩
      have HNX := Lib.hid (show movedV k (placesV ps) (ps.take (j + 1)) = putV (movedV k (placesV ps) (ps.take j)) p0 p1 p2 (v + (k : Int)) by rw [List.take_succ_eq_append_getElem hjl, ← hp, movedV_snoc, hv])
      have HMm := Lib.hid (fun o => ((HM4.out.below HBR.out).alloc o))
      have LK1 : ∀ o, (Instr.lookup 65 (.map (some m4)) (.agg #[.int .i64 p0, .int .i64 p1, .int .i64 p2]) false).run Try.prog ((wr.alloc o).drew) = .ok (.int .i64 v) ((wr.alloc o).drew) := fun o => by rw [hv]; exact MapV.look ((HMm.out o).drewN 1) p0 p1 p2 hw.1 hw.2.1 hw.2.2.1
      have LK2 : ∀ o, (Instr.lookup 65 (.map (some m4)) (.agg #[.int .i64 p0, .int .i64 p1, .int .i64 p2]) false).run Try.prog ((wr.alloc o).drew.drew) = .ok (.int .i64 v) ((wr.alloc o).drew.drew) := fun o => by rw [hv]; exact MapV.look ((HMm.out o).drewN 2) p0 p1 p2 hw.1 hw.2.1 hw.2.2.1
      have HMn := Lib.hid (fun o => (show MapV ((wr.alloc o).drew.drew) w4.heap.size j (movedV k (placesV ps) (ps.take j)) from ((HM.out.alloc o).drewN 2)))
      have HBo := Lib.hid (fun o => (show Below w4.heap.size w4 ((wr.alloc o).drew.drew) from below_drewN (HBR.out.alloc HBR.out.size o) 2))
      have j0 : (0 : Int) ≤ (j : Int) := by omega
      have jn : (j : Int) < (bn : Int) := by omega
      have ne0 := World.new_ne wr _ d0
      have ne1 := World.new_ne wr _ d1
      have ne2 := World.new_ne wr _ d2
      clear cx
      clear c0 c1 c2 hw hp hjl hv
      go_wp2
      go_region_held3 (fun w' => w'.cell? ⟨b, off + j * 4, none⟩ = some (.int .i64 p0) ∧ w'.cell? ⟨b, off + j * 4 + 1, none⟩ = some (.int .i64 p1) ∧ w'.cell? ⟨b, off + j * 4 + 2, none⟩ = some (.int .i64 p2)) (go_keep) (fail)
      by_cases v0 : v < 0
      · have d0 : decide (v < 0) = true := decide_eq_true v0
        go_wp2_with (go_at_call 26; (with_reducible refine (wakes22 _).mono ?_); rintro e w19 ⟨rfl, hB19⟩; have HB19 := Lib.hid hB19; clear hB19)
        go_ret
        exact ⟨rfl, (belowDrew (HBW.out.alloc HBW.out.size _)).trans (HB19.out.mono (belowDrew (HBW.out.alloc HBW.out.size _)).size)⟩
      · by_cases v1 : 60000 < v
        · have d0 : decide (v < 0) = false := decide_eq_false v0
          have d1 : decide (60000 < v) = true := decide_eq_true v1
          go_wp2_with (go_at_call 26; (with_reducible refine (wakes22 _).mono ?_); rintro e w19 ⟨rfl, hB19⟩; have HB19 := Lib.hid hB19; clear hB19)
          go_ret
          exact ⟨rfl, (belowDrew (HBW.out.alloc HBW.out.size _)).trans (HB19.out.mono (belowDrew (HBW.out.alloc HBW.out.size _)).size)⟩
        · have d0 : decide (v < 0) = false := decide_eq_false v0
          have d1 : decide (60000 < v) = false := decide_eq_false v1
          have WV : IntKind.i64.wrap (v + (k : Int)) = v + (k : Int) := by rw [IntKind.wrap_i64]; omega
          have WW := Lib.hid (w64_of (v + (k : Int)) (by omega) (by omega))
          go_wp2
          refine wp_region_still_tail 7 (by kernel_rfl) (by kernel_rfl) ?_
          change wpStill _ _ (World.drew _) _ _ _
          simp only [List.take_succ_cons, List.take_zero, List.drop_succ_cons, List.drop_zero]
          repeat still_step
          refine wpStill_nil ?_
          refine wpList_put_V rfl (.tmp 99) (.tmp 100) (.tmp 105) (Or.inl (by rfl)) (by rfl) (HMn.out _) (by unfold maxLen; omega) p0 p1 p2 (v + (k : Int)) (by rfl) (by rfl) HW.out.1 HW.out.2.1 HW.out.2.2.1 WW.out ?_
          intro w5 hM5 hg5
          go_wp2
          go_roundw
          case rel => exact ⟨j + 1, by omega, by go_num, by rw [HNX.out]; exact hM5.out, (HBo.out _).grown hg5.out (HBo.out _).size (fun g hg => by simp at hg; omega)⟩
          case measure => simp [intOf]; omega
    · have HEQ := Lib.hid (show movedV k (placesV ps) (ps.take j) = movedV k (placesV ps) ps by rw [List.take_of_length_le (by have := HBN.out; omega)])
      rw [HEQ.out] at HM
      have HBW := Lib.hid (HB4.out.trans (HBR.out.mono HB4.out.size))
      obtain ⟨wl, hwl⟩ : ∃ wl, wl = wr := ⟨_, rfl⟩
      have HBL := Lib.hid (show Below w.heap.size w wl from by rw [hwl]; exact HBW.out)
      have HU := Lib.hid (show MapV wl w4.heap.size j (movedV k (placesV ps) ps) from by rw [hwl]; exact HM.out)
      have HSL := Lib.hid (show SlK .u32 wl A3 ([] : List Nat) from by rw [hwl]; exact HS4.out.below HBR.out)
      have q0 : wl.cell? ⟨w.heap.size, 0, none⟩ = some (.int .i64 h0) := by rw [hwl]; exact kept_cell T.out.1 HBR.out
      have q1 : wl.cell? ⟨w.heap.size, 1, none⟩ = some (.int .i64 h1) := by rw [hwl]; exact kept_cell T.out.2 HBR.out
      clear HM HBR HBW HEQ T
      subst hwl
      go_wp2
      go_region_held3 (fun w' => w'.cell? ⟨w.heap.size, 0, none⟩ = some (.int .i64 h0) ∧ w'.cell? ⟨w.heap.size, 1, none⟩ = some (.int .i64 h1)) (first | exact ⟨q0, q1⟩ | exact ⟨r0, r1⟩ | exact ⟨s0, s1⟩ | go_keep)
        (first
          | (refine step_append_src rfl (.tmp 107) (.tmp 108) 52 (by rfl) wl.heap.size 24 i0 (.int .u32 0) 1 4 Try.underlying52 hi hz0 hz1 hz2 rfl (by decide) _ 0 [] (by rfl) own_lit' A code.length cap (Cs .u32 code) (by rfl) (by rw [Cs_len]; simp) (HA.out _ (belowDrew (HBL.out.alloc HBL.out.size _))) (Cs_one _ code) HN.out B2.out B3.out (by simp) ?_; intro v' w6 hown hgrow hnil; obtain ⟨g, c', rfl⟩ := row_lit hown.out hnil.out; have hN6 := next_below hgrow.out; have HI6 := Lib.hid (copied hown.out rfl); have HB6 := Lib.hid (HBL.out.trans (hN6.mono HBL.out.size)); have HU6 := Lib.hid (HU.out.below hN6); have HS6 := Lib.hid (HSL.out.below hN6); have r0 := kept_cell q0 hN6; have r1 := kept_cell q1 hN6; clear hown hgrow hnil hN6)
          | (go_at_call 31; refine Calls.mono (HFB.out _ _ _ _ _ _ HI6.out HU6.out) ?_; intro e w7 h7; obtain ⟨A7, c7, rfl, hS7, hB7⟩ := fill_told HLB.out h7; have HT7 := Lib.hid hS7; have HS7 := Lib.hid (HS6.out.below hB7); have HB7 := Lib.hid (HB6.out.trans (hB7.mono HB6.out.size)); have s0 := kept_cell r0 hB7; have s1 := kept_cell r1 hB7; clear h7 hS7 hB7))
      go_wp2_with (go_at_call 26; (with_reducible refine (wakes22 _).mono ?_); rintro e w19 ⟨rfl, hB19⟩; have HB19 := Lib.hid hB19; clear hB19)
      go_ret
      exact ⟨rfl, HB7.out.trans (HB19.out.mono HB7.out.size)⟩
set_option maxHeartbeats 16000000 in
set_option maxRecDepth 100000 in
theorem moved_sn (A B : Option Addr) (cap bn bc k : Nat) (code : List Nat) (h0 h1 h2 : Int) (ps : List Pl) (w : World) (hs : ∀ x ∈ code, x < 4294967296) (hA : SlK .u32 w A code) (hc0 : A = none → code.length = 0 ∧ cap = 0) (hm : (code.length : Int) ≤ 5000) (hB : PlR w B ps) (hbn : ps.length = bn) (hb3 : (bn : Int) ≤ 300) (hh0 : w64 h0 = true) (g0 : 0 ≤ h1) (g1 : h1 ≤ 60000) (hk : (IntKind.u64.wrap h2).tmod 2000 = (k : Int)) (hk2 : (k : Int) < 2000)
    (LA : List Nat) (hRA : fillF code h0 h1 (placesV ps) = some LA) (hRB : fillF code h0 (h1 + (k : Int)) (movedV k (placesV ps) ps) = none) :
    Calls Try.prog 13 #[.slice A code.length cap, .agg #[.int .i64 h0, .int .i64 h1, .int .i64 h2], .slice B bn bc] w fun e w' => e = .returned (.bool true) ∧ Below w.heap.size w w' := by
  obtain ⟨i0, hi, hz0, hz1, hz2⟩ := info_parts infoU
  have bw := bounds_i64 hh0
  have hps : ps.take 300 = ps := List.take_of_length_le (by omega)
  have HLA := Lib.hid (show LA = (fillF code h0 h1 (placesV ps)).getD [] ∧ (0 : Int) = (if fillF code h0 h1 (placesV ps) = none then 220 else 0) from by rw [hRA]; exact ⟨rfl, by simp⟩)
  have HLB := Lib.hid (show ([] : List Nat) = (fillF code h0 (h1 + (k : Int)) (movedV k (placesV ps) ps)).getD [] ∧ (220 : Int) = (if fillF code h0 (h1 + (k : Int)) (movedV k (placesV ps) ps) = none then 220 else 0) from by rw [hRB]; exact ⟨rfl, by simp⟩)
  have HFA := Lib.hid (fun (wx : World) (b off c mb mn : Nat) (h : SlK .u32 wx (some ⟨b, off, none⟩) code) (hV : MapV wx mb mn (placesV ps)) => fill_calls b off c mb mn code h0 h1 (placesV ps) wx (by omega) hs h hV bw.1 bw.2)
  have HFB := Lib.hid (fun (wx : World) (b off c mb mn : Nat) (h : SlK .u32 wx (some ⟨b, off, none⟩) code) (hV : MapV wx mb mn (movedV k (placesV ps) ps)) => fill_calls b off c mb mn code h0 (h1 + (k : Int)) (movedV k (placesV ps) ps) wx (by omega) hs h hV bw.1 bw.2)
  have HC := Lib.hid (fun (wx : World) A c (h : SlK .u32 wx A code) => chain_calls A c code h0 wx (by omega) hs h bw.1 bw.2)
  have HA := Lib.hid (fun (wx : World) (hb : Below w.heap.size w wx) => slk_cells (hA.below hb))
  have HSA := Lib.hid hA
  have HN := Lib.hid hc0
  have B2 := Lib.hid (show 0 + code.length ≤ maxLen by unfold maxLen; omega)
  have B3 := Lib.hid (show (0 + code.length) * 4 ≤ 140737488355328 by omega)
  have HP := Lib.hid (fun (wx : World) (hb : Below w.heap.size w wx) => by have := places_calls B bc bn ps wx hbn (hB.below hb); rw [hps] at this; exact this)
  have HPB := Lib.hid hB
  have HBN := Lib.hid hbn
  have HPS := Lib.hid hps
  have b1 : decide ((5000 : Int) < (code.length : Int)) = false := decide_eq_false (by omega)
  have b2 : decide ((300 : Int) < (bn : Int)) = false := decide_eq_false (by omega)
  have b3 : decide (h1 < 0) = false := decide_eq_false (by omega)
  have b4 : decide (60000 < h1) = false := decide_eq_false (by omega)
  have WH : IntKind.i64.wrap (h1 + (k : Int)) = h1 + (k : Int) := by rw [IntKind.wrap_i64]; omega
  have hmm := @run_makeMap Try.prog
  clear hs hA hc0 bw hB hbn hh0 hps hRA hRB
  go_enter Try.func13, Try.ntmps13
  go_wp2
  go_region_held3 (fun w' => w'.cell? ⟨w.heap.size, 0, none⟩ = some (.int .i64 h0) ∧ w'.cell? ⟨w.heap.size, 1, none⟩ = some (.int .i64 h1)) (first | exact ⟨q0, q1⟩ | exact ⟨r0, r1⟩ | exact ⟨s0, s1⟩ | go_keep)
    (first
      | (refine step_append_src rfl (.tmp 51) (.tmp 52) 52 (by rfl) w.heap.size 24 i0 (.int .u32 0) 1 4 Try.underlying52 hi hz0 hz1 hz2 rfl (by decide) _ 0 [] (by rfl) (own_lit (w0 := w.alloc _) (H := w.heap.size + 1) (by simp) (by omega)) A code.length cap (Cs .u32 code) (by rfl) (by rw [Cs_len]; simp) (HA.out _ (belowDrew (((Below.refl w.heap.size w).alloc (Nat.le_refl _) _).alloc (by simp) _))) (Cs_one _ code) HN.out B2.out B3.out (by simp; omega) ?_; intro v' w1 hown hgrow hnil; obtain ⟨g, c', rfl⟩ := row_lit hown.out hnil.out; have HI1 := Lib.hid (copied hown.out rfl); have HB1 := Lib.hid (head_below hgrow.out); have q0 : w1.cell? ⟨w.heap.size, 0, none⟩ = some (.int .i64 h0) := head_cell hgrow.out 0; have q1 : w1.cell? ⟨w.heap.size, 1, none⟩ = some (.int .i64 h1) := head_cell hgrow.out 1; clear hown hgrow hnil)
      | (go_at_call 32; refine Calls.mono (HP.out _ HB1.out) ?_; rintro e w2 ⟨mb, rfl, hM2, _, hB2⟩; have HM2 := Lib.hid hM2; have HI2 := Lib.hid (HI1.out.below hB2); have HB2 := Lib.hid (HB1.out.trans (hB2.mono HB1.out.size)); have r0 := kept_cell q0 hB2; have r1 := kept_cell q1 hB2; clear hM2 hB2)
      | (go_at_call 31; refine Calls.mono (HFA.out _ _ _ _ _ _ HI2.out HM2.out) ?_; intro e w3 h3; obtain ⟨A3, c3, rfl, hS3, hB3⟩ := fill_told HLA.out h3; have HS3 := Lib.hid hS3; have HB3 := Lib.hid (HB2.out.trans (hB3.mono HB2.out.size)); have s0 := kept_cell r0 hB3; have s1 := kept_cell r1 hB3; clear h3 hS3 hB3))
  clear q0 q1 r0 r1 b1 b2 b3 b4
  go_wp2_with (go_at_call 32; (with_reducible refine Calls.mono (HP.out _ HB3.out) ?_); rintro e w4 ⟨m4, rfl, hM4, _, hB4⟩; have HM4 := Lib.hid hM4; have HS4 := Lib.hid (HS3.out.below hB4); have HB4 := Lib.hid (HB3.out.trans (hB4.mono HB3.out.size)); have t0 := kept_cell s0 hB4; have t1 := kept_cell s1 hB4; clear hM4 hB4 s0 s1)
  have T := Lib.hid (And.intro t0 t1)
  clear t0 t1 hmm
  go_loopw [12] (fun i wr => ∃ j : Nat, j ≤ bn ∧ i = .int .i64 j ∧ MapV wr w4.heap.size j (movedV k (placesV ps) (ps.take j)) ∧ Below w4.heap.size w4 wr) (fun i _ => bn - (intOf i).toNat)
  case atStart => exact ⟨0, Nat.zero_le _, rfl, mapV_made w4, (Below.refl _ _).alloc (Nat.le_refl _) _⟩
  case round =>
    obtain ⟨j, hj, rfl, hM, hBr⟩ := hrel
    have HM := Lib.hid hM
    have HBR := Lib.hid hBr
    clear hM hBr
    by_cases hlt : j < bn
    · have hjl : j < ps.length := by have := HBN.out; omega
      obtain ⟨b, off, rfl, hw, c0, c1, c2, cx⟩ := HPB.out j hjl
      have HBW := Lib.hid (HB4.out.trans (HBR.out.mono HB4.out.size))
      obtain ⟨p, hp⟩ : ∃ p, p = ps[j] := ⟨_, rfl⟩
      rw [← hp] at hw c0 c1 c2
      obtain ⟨p0, p1, p2, p3⟩ := p
      have d0 : wr.cell? ⟨b, off + j * 4, none⟩ = some (.int .i64 p0) := kept_cell c0 HBW.out
      have d1 : wr.cell? ⟨b, off + j * 4 + 1, none⟩ = some (.int .i64 p1) := kept_cell c1 HBW.out
      have d2 : wr.cell? ⟨b, off + j * 4 + 2, none⟩ = some (.int .i64 p2) := kept_cell c2 HBW.out
      have HW := Lib.hid hw
      obtain ⟨v, hv⟩ : ∃ v, v = (placesV ps p0 p1 p2).getD 0 := ⟨_, rfl⟩
      have HNX := Lib.hid (show movedV k (placesV ps) (ps.take (j + 1)) = putV (movedV k (placesV ps) (ps.take j)) p0 p1 p2 (v + (k : Int)) by rw [List.take_succ_eq_append_getElem hjl, ← hp, movedV_snoc, hv])
      have HMm := Lib.hid (fun o => ((HM4.out.below HBR.out).alloc o))
      have LK1 : ∀ o, (Instr.lookup 65 (.map (some m4)) (.agg #[.int .i64 p0, .int .i64 p1, .int .i64 p2]) false).run Try.prog ((wr.alloc o).drew) = .ok (.int .i64 v) ((wr.alloc o).drew) := fun o => by rw [hv]; exact MapV.look ((HMm.out o).drewN 1) p0 p1 p2 hw.1 hw.2.1 hw.2.2.1
      have LK2 : ∀ o, (Instr.lookup 65 (.map (some m4)) (.agg #[.int .i64 p0, .int .i64 p1, .int .i64 p2]) false).run Try.prog ((wr.alloc o).drew.drew) = .ok (.int .i64 v) ((wr.alloc o).drew.drew) := fun o => by rw [hv]; exact MapV.look ((HMm.out o).drewN 2) p0 p1 p2 hw.1 hw.2.1 hw.2.2.1
      have HMn := Lib.hid (fun o => (show MapV ((wr.alloc o).drew.drew) w4.heap.size j (movedV k (placesV ps) (ps.take j)) from ((HM.out.alloc o).drewN 2)))
      have HBo := Lib.hid (fun o => (show Below w4.heap.size w4 ((wr.alloc o).drew.drew) from below_drewN (HBR.out.alloc HBR.out.size o) 2))
      have j0 : (0 : Int) ≤ (j : Int) := by omega
      have jn : (j : Int) < (bn : Int) := by omega
      have ne0 := World.new_ne wr _ d0
      have ne1 := World.new_ne wr _ d1
      have ne2 := World.new_ne wr _ d2
      clear cx
      clear c0 c1 c2 hw hp hjl hv
      go_wp2
      go_region_held3 (fun w' => w'.cell? ⟨b, off + j * 4, none⟩ = some (.int .i64 p0) ∧ w'.cell? ⟨b, off + j * 4 + 1, none⟩ = some (.int .i64 p1) ∧ w'.cell? ⟨b, off + j * 4 + 2, none⟩ = some (.int .i64 p2)) (go_keep) (fail)
      by_cases v0 : v < 0
      · have d0 : decide (v < 0) = true := decide_eq_true v0
        go_wp2_with (go_at_call 26; (with_reducible refine (wakes22 _).mono ?_); rintro e w19 ⟨rfl, hB19⟩; have HB19 := Lib.hid hB19; clear hB19)
        go_ret
        exact ⟨rfl, (belowDrew (HBW.out.alloc HBW.out.size _)).trans (HB19.out.mono (belowDrew (HBW.out.alloc HBW.out.size _)).size)⟩
      · by_cases v1 : 60000 < v
        · have d0 : decide (v < 0) = false := decide_eq_false v0
          have d1 : decide (60000 < v) = true := decide_eq_true v1
          go_wp2_with (go_at_call 26; (with_reducible refine (wakes22 _).mono ?_); rintro e w19 ⟨rfl, hB19⟩; have HB19 := Lib.hid hB19; clear hB19)
          go_ret
          exact ⟨rfl, (belowDrew (HBW.out.alloc HBW.out.size _)).trans (HB19.out.mono (belowDrew (HBW.out.alloc HBW.out.size _)).size)⟩
        · have d0 : decide (v < 0) = false := decide_eq_false v0
          have d1 : decide (60000 < v) = false := decide_eq_false v1
          have WV : IntKind.i64.wrap (v + (k : Int)) = v + (k : Int) := by rw [IntKind.wrap_i64]; omega
          have WW := Lib.hid (w64_of (v + (k : Int)) (by omega) (by omega))
          go_wp2
          refine wp_region_still_tail 7 (by kernel_rfl) (by kernel_rfl) ?_
          change wpStill _ _ (World.drew _) _ _ _
          simp only [List.take_succ_cons, List.take_zero, List.drop_succ_cons, List.drop_zero]
          repeat still_step
          refine wpStill_nil ?_
          refine wpList_put_V rfl (.tmp 99) (.tmp 100) (.tmp 105) (Or.inl (by rfl)) (by rfl) (HMn.out _) (by unfold maxLen; omega) p0 p1 p2 (v + (k : Int)) (by rfl) (by rfl) HW.out.1 HW.out.2.1 HW.out.2.2.1 WW.out ?_
          intro w5 hM5 hg5
          go_wp2
          go_roundw
          case rel => exact ⟨j + 1, by omega, by go_num, by rw [HNX.out]; exact hM5.out, (HBo.out _).grown hg5.out (HBo.out _).size (fun g hg => by simp at hg; omega)⟩
          case measure => simp [intOf]; omega
    · have HEQ := Lib.hid (show movedV k (placesV ps) (ps.take j) = movedV k (placesV ps) ps by rw [List.take_of_length_le (by have := HBN.out; omega)])
      rw [HEQ.out] at HM
      have HBW := Lib.hid (HB4.out.trans (HBR.out.mono HB4.out.size))
      obtain ⟨wl, hwl⟩ : ∃ wl, wl = wr := ⟨_, rfl⟩
      have HBL := Lib.hid (show Below w.heap.size w wl from by rw [hwl]; exact HBW.out)
      have HU := Lib.hid (show MapV wl w4.heap.size j (movedV k (placesV ps) ps) from by rw [hwl]; exact HM.out)
      have HSL := Lib.hid (show SlK .u32 wl A3 LA from by rw [hwl]; exact HS4.out.below HBR.out)
      have q0 : wl.cell? ⟨w.heap.size, 0, none⟩ = some (.int .i64 h0) := by rw [hwl]; exact kept_cell T.out.1 HBR.out
      have q1 : wl.cell? ⟨w.heap.size, 1, none⟩ = some (.int .i64 h1) := by rw [hwl]; exact kept_cell T.out.2 HBR.out
      clear HM HBR HBW HEQ T
      subst hwl
      go_wp2
      go_region_held3 (fun w' => w'.cell? ⟨w.heap.size, 0, none⟩ = some (.int .i64 h0) ∧ w'.cell? ⟨w.heap.size, 1, none⟩ = some (.int .i64 h1)) (first | exact ⟨q0, q1⟩ | exact ⟨r0, r1⟩ | exact ⟨s0, s1⟩ | go_keep)
        (first
          | (refine step_append_src rfl (.tmp 107) (.tmp 108) 52 (by rfl) wl.heap.size 24 i0 (.int .u32 0) 1 4 Try.underlying52 hi hz0 hz1 hz2 rfl (by decide) _ 0 [] (by rfl) own_lit' A code.length cap (Cs .u32 code) (by rfl) (by rw [Cs_len]; simp) (HA.out _ (belowDrew (HBL.out.alloc HBL.out.size _))) (Cs_one _ code) HN.out B2.out B3.out (by simp) ?_; intro v' w6 hown hgrow hnil; obtain ⟨g, c', rfl⟩ := row_lit hown.out hnil.out; have hN6 := next_below hgrow.out; have HI6 := Lib.hid (copied hown.out rfl); have HB6 := Lib.hid (HBL.out.trans (hN6.mono HBL.out.size)); have HU6 := Lib.hid (HU.out.below hN6); have HS6 := Lib.hid (HSL.out.below hN6); have r0 := kept_cell q0 hN6; have r1 := kept_cell q1 hN6; clear hown hgrow hnil hN6)
          | (go_at_call 31; refine Calls.mono (HFB.out _ _ _ _ _ _ HI6.out HU6.out) ?_; intro e w7 h7; obtain ⟨A7, c7, rfl, hS7, hB7⟩ := fill_told HLB.out h7; have HT7 := Lib.hid hS7; have HS7 := Lib.hid (HS6.out.below hB7); have HB7 := Lib.hid (HB6.out.trans (hB7.mono HB6.out.size)); have s0 := kept_cell r0 hB7; have s1 := kept_cell r1 hB7; clear h7 hS7 hB7))
      go_wp2_with (go_at_call 26; (with_reducible refine (wakes22 _).mono ?_); rintro e w19 ⟨rfl, hB19⟩; have HB19 := Lib.hid hB19; clear hB19)
      go_ret
      exact ⟨rfl, HB7.out.trans (HB19.out.mono HB7.out.size)⟩
set_option maxHeartbeats 16000000 in
set_option maxRecDepth 100000 in
theorem moved_ns (A B : Option Addr) (cap bn bc k : Nat) (code : List Nat) (h0 h1 h2 : Int) (ps : List Pl) (w : World) (hs : ∀ x ∈ code, x < 4294967296) (hA : SlK .u32 w A code) (hc0 : A = none → code.length = 0 ∧ cap = 0) (hm : (code.length : Int) ≤ 5000) (hB : PlR w B ps) (hbn : ps.length = bn) (hb3 : (bn : Int) ≤ 300) (hh0 : w64 h0 = true) (g0 : 0 ≤ h1) (g1 : h1 ≤ 60000) (hk : (IntKind.u64.wrap h2).tmod 2000 = (k : Int)) (hk2 : (k : Int) < 2000)
    (hRA : fillF code h0 h1 (placesV ps) = none) (LB : List Nat) (hRB : fillF code h0 (h1 + (k : Int)) (movedV k (placesV ps) ps) = some LB) :
    Calls Try.prog 13 #[.slice A code.length cap, .agg #[.int .i64 h0, .int .i64 h1, .int .i64 h2], .slice B bn bc] w fun e w' => e = .returned (.bool true) ∧ Below w.heap.size w w' := by
  obtain ⟨i0, hi, hz0, hz1, hz2⟩ := info_parts infoU
  have bw := bounds_i64 hh0
  have hps : ps.take 300 = ps := List.take_of_length_le (by omega)
  have HLA := Lib.hid (show ([] : List Nat) = (fillF code h0 h1 (placesV ps)).getD [] ∧ (220 : Int) = (if fillF code h0 h1 (placesV ps) = none then 220 else 0) from by rw [hRA]; exact ⟨rfl, by simp⟩)
  have HLB := Lib.hid (show LB = (fillF code h0 (h1 + (k : Int)) (movedV k (placesV ps) ps)).getD [] ∧ (0 : Int) = (if fillF code h0 (h1 + (k : Int)) (movedV k (placesV ps) ps) = none then 220 else 0) from by rw [hRB]; exact ⟨rfl, by simp⟩)
  have HFA := Lib.hid (fun (wx : World) (b off c mb mn : Nat) (h : SlK .u32 wx (some ⟨b, off, none⟩) code) (hV : MapV wx mb mn (placesV ps)) => fill_calls b off c mb mn code h0 h1 (placesV ps) wx (by omega) hs h hV bw.1 bw.2)
  have HFB := Lib.hid (fun (wx : World) (b off c mb mn : Nat) (h : SlK .u32 wx (some ⟨b, off, none⟩) code) (hV : MapV wx mb mn (movedV k (placesV ps) ps)) => fill_calls b off c mb mn code h0 (h1 + (k : Int)) (movedV k (placesV ps) ps) wx (by omega) hs h hV bw.1 bw.2)
  have HC := Lib.hid (fun (wx : World) A c (h : SlK .u32 wx A code) => chain_calls A c code h0 wx (by omega) hs h bw.1 bw.2)
  have HA := Lib.hid (fun (wx : World) (hb : Below w.heap.size w wx) => slk_cells (hA.below hb))
  have HSA := Lib.hid hA
  have HN := Lib.hid hc0
  have B2 := Lib.hid (show 0 + code.length ≤ maxLen by unfold maxLen; omega)
  have B3 := Lib.hid (show (0 + code.length) * 4 ≤ 140737488355328 by omega)
  have HP := Lib.hid (fun (wx : World) (hb : Below w.heap.size w wx) => by have := places_calls B bc bn ps wx hbn (hB.below hb); rw [hps] at this; exact this)
  have HPB := Lib.hid hB
  have HBN := Lib.hid hbn
  have HPS := Lib.hid hps
  have b1 : decide ((5000 : Int) < (code.length : Int)) = false := decide_eq_false (by omega)
  have b2 : decide ((300 : Int) < (bn : Int)) = false := decide_eq_false (by omega)
  have b3 : decide (h1 < 0) = false := decide_eq_false (by omega)
  have b4 : decide (60000 < h1) = false := decide_eq_false (by omega)
  have WH : IntKind.i64.wrap (h1 + (k : Int)) = h1 + (k : Int) := by rw [IntKind.wrap_i64]; omega
  have hmm := @run_makeMap Try.prog
  clear hs hA hc0 bw hB hbn hh0 hps hRA hRB
  go_enter Try.func13, Try.ntmps13
  go_wp2
  go_region_held3 (fun w' => w'.cell? ⟨w.heap.size, 0, none⟩ = some (.int .i64 h0) ∧ w'.cell? ⟨w.heap.size, 1, none⟩ = some (.int .i64 h1)) (first | exact ⟨q0, q1⟩ | exact ⟨r0, r1⟩ | exact ⟨s0, s1⟩ | go_keep)
    (first
      | (refine step_append_src rfl (.tmp 51) (.tmp 52) 52 (by rfl) w.heap.size 24 i0 (.int .u32 0) 1 4 Try.underlying52 hi hz0 hz1 hz2 rfl (by decide) _ 0 [] (by rfl) (own_lit (w0 := w.alloc _) (H := w.heap.size + 1) (by simp) (by omega)) A code.length cap (Cs .u32 code) (by rfl) (by rw [Cs_len]; simp) (HA.out _ (belowDrew (((Below.refl w.heap.size w).alloc (Nat.le_refl _) _).alloc (by simp) _))) (Cs_one _ code) HN.out B2.out B3.out (by simp; omega) ?_; intro v' w1 hown hgrow hnil; obtain ⟨g, c', rfl⟩ := row_lit hown.out hnil.out; have HI1 := Lib.hid (copied hown.out rfl); have HB1 := Lib.hid (head_below hgrow.out); have q0 : w1.cell? ⟨w.heap.size, 0, none⟩ = some (.int .i64 h0) := head_cell hgrow.out 0; have q1 : w1.cell? ⟨w.heap.size, 1, none⟩ = some (.int .i64 h1) := head_cell hgrow.out 1; clear hown hgrow hnil)
      | (go_at_call 32; refine Calls.mono (HP.out _ HB1.out) ?_; rintro e w2 ⟨mb, rfl, hM2, _, hB2⟩; have HM2 := Lib.hid hM2; have HI2 := Lib.hid (HI1.out.below hB2); have HB2 := Lib.hid (HB1.out.trans (hB2.mono HB1.out.size)); have r0 := kept_cell q0 hB2; have r1 := kept_cell q1 hB2; clear hM2 hB2)
      | (go_at_call 31; refine Calls.mono (HFA.out _ _ _ _ _ _ HI2.out HM2.out) ?_; intro e w3 h3; obtain ⟨A3, c3, rfl, hS3, hB3⟩ := fill_told HLA.out h3; have HS3 := Lib.hid hS3; have HB3 := Lib.hid (HB2.out.trans (hB3.mono HB2.out.size)); have s0 := kept_cell r0 hB3; have s1 := kept_cell r1 hB3; clear h3 hS3 hB3))
  clear q0 q1 r0 r1 b1 b2 b3 b4
  go_wp2_with (go_at_call 32; (with_reducible refine Calls.mono (HP.out _ HB3.out) ?_); rintro e w4 ⟨m4, rfl, hM4, _, hB4⟩; have HM4 := Lib.hid hM4; have HS4 := Lib.hid (HS3.out.below hB4); have HB4 := Lib.hid (HB3.out.trans (hB4.mono HB3.out.size)); have t0 := kept_cell s0 hB4; have t1 := kept_cell s1 hB4; clear hM4 hB4 s0 s1)
  have T := Lib.hid (And.intro t0 t1)
  clear t0 t1 hmm
  go_loopw [12] (fun i wr => ∃ j : Nat, j ≤ bn ∧ i = .int .i64 j ∧ MapV wr w4.heap.size j (movedV k (placesV ps) (ps.take j)) ∧ Below w4.heap.size w4 wr) (fun i _ => bn - (intOf i).toNat)
  case atStart => exact ⟨0, Nat.zero_le _, rfl, mapV_made w4, (Below.refl _ _).alloc (Nat.le_refl _) _⟩
  case round =>
    obtain ⟨j, hj, rfl, hM, hBr⟩ := hrel
    have HM := Lib.hid hM
    have HBR := Lib.hid hBr
    clear hM hBr
    by_cases hlt : j < bn
    · have hjl : j < ps.length := by have := HBN.out; omega
      obtain ⟨b, off, rfl, hw, c0, c1, c2, cx⟩ := HPB.out j hjl
      have HBW := Lib.hid (HB4.out.trans (HBR.out.mono HB4.out.size))
      obtain ⟨p, hp⟩ : ∃ p, p = ps[j] := ⟨_, rfl⟩
      rw [← hp] at hw c0 c1 c2
      obtain ⟨p0, p1, p2, p3⟩ := p
      have d0 : wr.cell? ⟨b, off + j * 4, none⟩ = some (.int .i64 p0) := kept_cell c0 HBW.out
      have d1 : wr.cell? ⟨b, off + j * 4 + 1, none⟩ = some (.int .i64 p1) := kept_cell c1 HBW.out
      have d2 : wr.cell? ⟨b, off + j * 4 + 2, none⟩ = some (.int .i64 p2) := kept_cell c2 HBW.out
      have HW := Lib.hid hw
      obtain ⟨v, hv⟩ : ∃ v, v = (placesV ps p0 p1 p2).getD 0 := ⟨_, rfl⟩
      have HNX := Lib.hid (show movedV k (placesV ps) (ps.take (j + 1)) = putV (movedV k (placesV ps) (ps.take j)) p0 p1 p2 (v + (k : Int)) by rw [List.take_succ_eq_append_getElem hjl, ← hp, movedV_snoc, hv])
      have HMm := Lib.hid (fun o => ((HM4.out.below HBR.out).alloc o))
      have LK1 : ∀ o, (Instr.lookup 65 (.map (some m4)) (.agg #[.int .i64 p0, .int .i64 p1, .int .i64 p2]) false).run Try.prog ((wr.alloc o).drew) = .ok (.int .i64 v) ((wr.alloc o).drew) := fun o => by rw [hv]; exact MapV.look ((HMm.out o).drewN 1) p0 p1 p2 hw.1 hw.2.1 hw.2.2.1
      have LK2 : ∀ o, (Instr.lookup 65 (.map (some m4)) (.agg #[.int .i64 p0, .int .i64 p1, .int .i64 p2]) false).run Try.prog ((wr.alloc o).drew.drew) = .ok (.int .i64 v) ((wr.alloc o).drew.drew) := fun o => by rw [hv]; exact MapV.look ((HMm.out o).drewN 2) p0 p1 p2 hw.1 hw.2.1 hw.2.2.1
      have HMn := Lib.hid (fun o => (show MapV ((wr.alloc o).drew.drew) w4.heap.size j (movedV k (placesV ps) (ps.take j)) from ((HM.out.alloc o).drewN 2)))
      have HBo := Lib.hid (fun o => (show Below w4.heap.size w4 ((wr.alloc o).drew.drew) from below_drewN (HBR.out.alloc HBR.out.size o) 2))
      have j0 : (0 : Int) ≤ (j : Int) := by omega
      have jn : (j : Int) < (bn : Int) := by omega
      have ne0 := World.new_ne wr _ d0
      have ne1 := World.new_ne wr _ d1
      have ne2 := World.new_ne wr _ d2
      clear cx
      clear c0 c1 c2 hw hp hjl hv
      go_wp2
      go_region_held3 (fun w' => w'.cell? ⟨b, off + j * 4, none⟩ = some (.int .i64 p0) ∧ w'.cell? ⟨b, off + j * 4 + 1, none⟩ = some (.int .i64 p1) ∧ w'.cell? ⟨b, off + j * 4 + 2, none⟩ = some (.int .i64 p2)) (go_keep) (fail)
      by_cases v0 : v < 0
      · have d0 : decide (v < 0) = true := decide_eq_true v0
        go_wp2_with (go_at_call 26; (with_reducible refine (wakes22 _).mono ?_); rintro e w19 ⟨rfl, hB19⟩; have HB19 := Lib.hid hB19; clear hB19)
        go_ret
        exact ⟨rfl, (belowDrew (HBW.out.alloc HBW.out.size _)).trans (HB19.out.mono (belowDrew (HBW.out.alloc HBW.out.size _)).size)⟩
      · by_cases v1 : 60000 < v
        · have d0 : decide (v < 0) = false := decide_eq_false v0
          have d1 : decide (60000 < v) = true := decide_eq_true v1
          go_wp2_with (go_at_call 26; (with_reducible refine (wakes22 _).mono ?_); rintro e w19 ⟨rfl, hB19⟩; have HB19 := Lib.hid hB19; clear hB19)
          go_ret
          exact ⟨rfl, (belowDrew (HBW.out.alloc HBW.out.size _)).trans (HB19.out.mono (belowDrew (HBW.out.alloc HBW.out.size _)).size)⟩
        · have d0 : decide (v < 0) = false := decide_eq_false v0
          have d1 : decide (60000 < v) = false := decide_eq_false v1
          have WV : IntKind.i64.wrap (v + (k : Int)) = v + (k : Int) := by rw [IntKind.wrap_i64]; omega
          have WW := Lib.hid (w64_of (v + (k : Int)) (by omega) (by omega))
          go_wp2
          refine wp_region_still_tail 7 (by kernel_rfl) (by kernel_rfl) ?_
          change wpStill _ _ (World.drew _) _ _ _
          simp only [List.take_succ_cons, List.take_zero, List.drop_succ_cons, List.drop_zero]
          repeat still_step
          refine wpStill_nil ?_
          refine wpList_put_V rfl (.tmp 99) (.tmp 100) (.tmp 105) (Or.inl (by rfl)) (by rfl) (HMn.out _) (by unfold maxLen; omega) p0 p1 p2 (v + (k : Int)) (by rfl) (by rfl) HW.out.1 HW.out.2.1 HW.out.2.2.1 WW.out ?_
          intro w5 hM5 hg5
          go_wp2
          go_roundw
          case rel => exact ⟨j + 1, by omega, by go_num, by rw [HNX.out]; exact hM5.out, (HBo.out _).grown hg5.out (HBo.out _).size (fun g hg => by simp at hg; omega)⟩
          case measure => simp [intOf]; omega
    · have HEQ := Lib.hid (show movedV k (placesV ps) (ps.take j) = movedV k (placesV ps) ps by rw [List.take_of_length_le (by have := HBN.out; omega)])
      rw [HEQ.out] at HM
      have HBW := Lib.hid (HB4.out.trans (HBR.out.mono HB4.out.size))
      obtain ⟨wl, hwl⟩ : ∃ wl, wl = wr := ⟨_, rfl⟩
      have HBL := Lib.hid (show Below w.heap.size w wl from by rw [hwl]; exact HBW.out)
      have HU := Lib.hid (show MapV wl w4.heap.size j (movedV k (placesV ps) ps) from by rw [hwl]; exact HM.out)
      have HSL := Lib.hid (show SlK .u32 wl A3 ([] : List Nat) from by rw [hwl]; exact HS4.out.below HBR.out)
      have q0 : wl.cell? ⟨w.heap.size, 0, none⟩ = some (.int .i64 h0) := by rw [hwl]; exact kept_cell T.out.1 HBR.out
      have q1 : wl.cell? ⟨w.heap.size, 1, none⟩ = some (.int .i64 h1) := by rw [hwl]; exact kept_cell T.out.2 HBR.out
      clear HM HBR HBW HEQ T
      subst hwl
      go_wp2
      go_region_held3 (fun w' => w'.cell? ⟨w.heap.size, 0, none⟩ = some (.int .i64 h0) ∧ w'.cell? ⟨w.heap.size, 1, none⟩ = some (.int .i64 h1)) (first | exact ⟨q0, q1⟩ | exact ⟨r0, r1⟩ | exact ⟨s0, s1⟩ | go_keep)
        (first
          | (refine step_append_src rfl (.tmp 107) (.tmp 108) 52 (by rfl) wl.heap.size 24 i0 (.int .u32 0) 1 4 Try.underlying52 hi hz0 hz1 hz2 rfl (by decide) _ 0 [] (by rfl) own_lit' A code.length cap (Cs .u32 code) (by rfl) (by rw [Cs_len]; simp) (HA.out _ (belowDrew (HBL.out.alloc HBL.out.size _))) (Cs_one _ code) HN.out B2.out B3.out (by simp) ?_; intro v' w6 hown hgrow hnil; obtain ⟨g, c', rfl⟩ := row_lit hown.out hnil.out; have hN6 := next_below hgrow.out; have HI6 := Lib.hid (copied hown.out rfl); have HB6 := Lib.hid (HBL.out.trans (hN6.mono HBL.out.size)); have HU6 := Lib.hid (HU.out.below hN6); have HS6 := Lib.hid (HSL.out.below hN6); have r0 := kept_cell q0 hN6; have r1 := kept_cell q1 hN6; clear hown hgrow hnil hN6)
          | (go_at_call 31; refine Calls.mono (HFB.out _ _ _ _ _ _ HI6.out HU6.out) ?_; intro e w7 h7; obtain ⟨A7, c7, rfl, hS7, hB7⟩ := fill_told HLB.out h7; have HT7 := Lib.hid hS7; have HS7 := Lib.hid (HS6.out.below hB7); have HB7 := Lib.hid (HB6.out.trans (hB7.mono HB6.out.size)); have s0 := kept_cell r0 hB7; have s1 := kept_cell r1 hB7; clear h7 hS7 hB7))
      go_wp2_with (go_at_call 26; (with_reducible refine (wakes22 _).mono ?_); rintro e w19 ⟨rfl, hB19⟩; have HB19 := Lib.hid hB19; clear hB19)
      go_ret
      exact ⟨rfl, HB7.out.trans (HB19.out.mono HB7.out.size)⟩
end Go.Proofs.Ytbhdejoljappfaa
