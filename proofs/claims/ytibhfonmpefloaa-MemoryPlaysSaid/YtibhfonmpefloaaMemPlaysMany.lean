/- MemoryPlays: the walk where there are too many words for a memory. -/
import Derived.Test.YtibhfonmpefloaaMemPlays
namespace Go.Proofs.Ytibhfonmpefloaa
open Go.RowKit
set_option maxHeartbeats 4000000 in
set_option maxRecDepth 100000 in
theorem plays_many (A B : Option Addr) (cap ns nc : Nat) (xs : List Nat) (w : World) (hs : ∀ x ∈ xs, x < 4294967296) (hA : SlR w A xs) (h0 : A = none → xs.length = 0 ∧ cap = 0) (hS : Steps w B ns)
    (h1 : (65536 : Int) < (xs.length : Int)) (h2 : (xs.length : Int) ≤ 70000) :
    Calls Try.prog 12 #[.slice A xs.length cap, .slice B ns nc] w fun e w' => e = .returned (.bool true) ∧ Below w.heap.size w w' := by
  obtain ⟨i0, hi, hz0, hz1, hz2⟩ := info_parts info22
  have HS := Lib.hid hs
  have HN := Lib.hid h0
  have HR := Lib.hid hA
  have HA := Lib.hid (slr_cells hA)
  have HT := Lib.hid hS
  have B2 := Lib.hid (show 0 + xs.length ≤ maxLen by unfold maxLen; omega)
  have B3 := Lib.hid (show (0 + xs.length) * 4 ≤ 140737488355328 by omega)
  have HML := Lib.hid (show (xs.length : Int) ≤ 70000 by omega)
  have hns : (ns : Int) ≤ 9223372036854775807 := by have := hS.1; unfold maxLen at this; omega
  have b1 : decide ((3000 : Int) < (xs.length : Int)) = true := decide_eq_true (by omega)
  have b2 : decide ((70000 : Int) < (xs.length : Int)) = false := decide_eq_false (by omega)
  have b3 : decide (3000 < xs.length) = true := decide_eq_true (by omega)
  have b5 : decide ((xs.length : Int) ≤ 65536) = false := decide_eq_false (by omega)
  have b6 : decide (xs.length ≤ 65536) = false := decide_eq_false (by omega)
  have b4 : decide (70000 < xs.length) = false := decide_eq_false (by omega)
  clear hs h0 hA hS
  go_enter Try.func12, Try.ntmps12
  go_wp2_with (at_builtin; refine wpList_append_src rfl (.tmp 48) (.tmp 49) 38 rfl w.heap.size 22 i0 (.int .u32 0) 1 4 Try.underlying38 hi hz0 hz1 hz2 rfl (by decide) _ 0 [] rfl (World.ownsRow_lit w #[] 0 (Nat.le_refl _) (by decide) rfl) A xs.length cap (W32 xs) rfl (by rw [W32_len]; simp) (fun ad ha j u hu => cell_kept ⟨rfl, rfl, rfl, Nat.le_refl _, fun _ _ _ => rfl⟩ (HA.out ad ha j u hu)) (one_W32 xs) HN.out B2.out B3.out (by simp) ?_; intro v' w1 hown hgrow hnil; obtain ⟨g, c', rfl⟩ := row_lit hown.out hnil.out; clear hnil)
  have hgrow : (w.alloc (.cells #[] 22)).grownBy w1 (some w.heap.size) := hgrow.out
  have hown := hown.out
  rw [Nat.zero_add, List.nil_append] at hown
  have hB1 : Below w.heap.size w w1 := ((Below.refl w.heap.size w).alloc (Nat.le_refl _) _).grown hgrow (by simp) (fun k hk => by simp at hk; omega)
  obtain ⟨A', c'', hA', hSl⟩ := own_slr hown rfl
  cases hA'
  refine (v_new _ _ xs w1 HML.out HS.out hSl).mono ?_
  rintro e w2 ⟨r, rfl, hM, hAb, hB⟩
  have HIn := Lib.hid (hSl.below hB)
  have HM := Lib.hid hM
  have HAr := Lib.hid (hAb.mono hB1.size)
  have HB2 := Lib.hid (hB1.trans (hB.mono hB1.size))
  have HR2 := Lib.hid (HR.out.below HB2.out)
  clear hgrow hown hB1 hSl hM hAb hB
  go_wp2_with fail
  refine (r_new _ _ xs w2 HML.out HS.out HR2.out HN.out).mono ?_
  rintro e w3 ⟨s, rfl, hM, hAb, hB⟩
  have hap := Above.apart HM.out hAb
  have AP1 := Lib.hid hap.1
  have AP2 := Lib.hid hap.2
  have HMr := Lib.hid (HM.out.below hB)
  have HMs := Lib.hid hM
  have HAs := Lib.hid (hAb.mono HB2.out.size)
  have HB3 := Lib.hid (HB2.out.trans (hB.mono HB2.out.size))
  have HI3 := Lib.hid (HIn.out.below hB)
  have HR3 := Lib.hid (HR2.out.below hB)
  clear hap hM hAb hB HM HIn HR2 HB2
  go_wp2_with (first | (go_at_call 42; (with_reducible refine (v_size HMr.out).mono ?_); rintro e w4 ⟨rfl, rfl⟩) | (go_at_call 43; (with_reducible refine (r_size HMs.out).mono ?_); rintro e w4 ⟨rfl, rfl⟩) | (go_at_call 44; (with_reducible refine (keep_words _ _ xs.length _ _ xs _ rfl HML.out HI3.out HR3.out).mono ?_); rintro e w4 ⟨rfl, k4, hk4⟩; have HK4 := Lib.hid hk4; clear hk4))
  have HM4 := Lib.hid (show MV 65 w4 r (oldOf xs) from by rw [HK4.out]; exact HMr.out)
  have HS4 := Lib.hid (show MV 70 w4 s (oldOf xs) from by rw [HK4.out]; exact HMs.out)
  have HB4 := Lib.hid (show Below w.heap.size w w4 from by rw [HK4.out]; exact below_drewN HB3.out k4)
  clear HMr HMs HB3 HI3 HR3 HK4 HN HR HA HS b1 b2 b3 b4 b5 b6 h1 h2
  go_loopw [6, 8, 10] (fun m q i wr => ∃ (k : Nat) (r s : Option (Nat × Nat)) (ys : List Nat), k ≤ ns ∧ i = .int .i64 k ∧ m = pv r ∧ q = pv s ∧ MV 65 wr r ys ∧ MV 70 wr s ys ∧ Apart r s ∧ Apart s r ∧ Above w.heap.size r ∧ Above w.heap.size s ∧ Below w.heap.size w wr) (fun _ _ i _ => ns - (intOf i).toNat)
  case atStart => exact ⟨0, r, s, _, Nat.zero_le _, rfl, rfl, rfl, HM4.out, HS4.out, AP1.out, AP2.out, HAr.out, HAs.out, HB4.out⟩
  case round =>
    clear HM4 HS4 AP1 AP2 HAr HAs HB4
    obtain ⟨k, r, s, ys, hk, rfl, rfl, rfl, hm, hq, ha1, ha2, hb1, hb2, hB⟩ := hrel
    have HM := Lib.hid hm
    have HQ := Lib.hid hq
    have A1 := Lib.hid ha1
    have A2 := Lib.hid ha2
    have U1 := Lib.hid hb1
    have U2 := Lib.hid hb2
    have HB := Lib.hid hB
    clear hm hq ha1 ha2 hb1 hb2 hB
    have HBo := Lib.hid (fun o => HB.out.alloc HB.out.size o)
    have HMo := Lib.hid (fun o => HM.out.below ((Below.refl wr.heap.size wr).alloc (Nat.le_refl _) o))
    have HQo := Lib.hid (fun o => HQ.out.below ((Below.refl wr.heap.size wr).alloc (Nat.le_refl _) o))
    have HWL := Lib.hid (fun a n => wL_len HM.out.1 a n)
    have HMd := Lib.hid (fun o => (show MV 65 ((wr.alloc o).drew) r ys from HMo.out o))
    have HQd := Lib.hid (fun o => (show MV 70 ((wr.alloc o).drew) s ys from HQo.out o))
    have HBd := Lib.hid (fun o => (show Below w.heap.size w ((wr.alloc o).drew) from below_drewN (HBo.out o) 1))
    have HRm := Lib.hid (show some wr.heap.size ≠ rowOf r from fun e => by
      rcases r with _ | x
      · simp [rowOf] at e
      · simp [rowOf] at e
        have := (HM.out.lt x rfl).2
        omega)
    have HRs := Lib.hid (show some wr.heap.size ≠ rowOf s from fun e => by
      rcases s with _ | x
      · simp [rowOf] at e
      · simp [rowOf] at e
        have := (HQ.out.lt x rfl).2
        omega)
    by_cases hlt : k < ns
    · by_cases h60 : k < 60
      · obtain ⟨b, off, at_, v, kind, a, n, rfl, hat, hv, c0, c1, c2, c3, c4⟩ := HT.out.2 k hlt
        have hbl := World.block_lt_of_cell? w _ c0
        have d0 : wr.cell? ⟨b, off + k * 5, none⟩ = some (.int .i64 kind) := by rw [HB.out.cell (p := ⟨b, off + k * 5, none⟩) hbl]; exact c0
        have d1 : wr.cell? ⟨b, off + k * 5 + 1, none⟩ = some (.int .u32 at_) := by rw [HB.out.cell (p := ⟨b, off + k * 5 + 1, none⟩) hbl]; exact c1
        have d2 : wr.cell? ⟨b, off + k * 5 + 2, none⟩ = some (.int .u32 v) := by rw [HB.out.cell (p := ⟨b, off + k * 5 + 2, none⟩) hbl]; exact c2
        have d3 : wr.cell? ⟨b, off + k * 5 + 3, none⟩ = some (.int .i64 a) := by rw [HB.out.cell (p := ⟨b, off + k * 5 + 3, none⟩) hbl]; exact c3
        have d4 : wr.cell? ⟨b, off + k * 5 + 4, none⟩ = some (.int .i64 n) := by rw [HB.out.cell (p := ⟨b, off + k * 5 + 4, none⟩) hbl]; exact c4
        have HAT := Lib.hid hat
        have HV := Lib.hid hv
        clear c0 c1 c2 c3 c4 hat hv hbl
        by_cases k0 : kind = 0
        · subst k0
          go_wp2_with (first | (go_at_call 36; (with_reducible refine (v_load (HMo.out _) at_ HAT.out).mono ?_); rintro e w5 ⟨rfl, rfl⟩) | (go_at_call 45; (with_reducible refine (r_load (HQo.out _) at_ HAT.out).mono ?_); rintro e w5 ⟨rfl, rfl⟩))
          go_roundw
          case rel => exact ⟨k + 1, r, s, ys, by omega, by go_num, rfl, rfl, HMo.out _, HQo.out _, A1.out, A2.out, U1.out, U2.out, HBo.out _⟩
          case measure => simp [intOf]; omega
        · have e0 : (kind == 0) = false := by simpa using k0
          by_cases k1 : kind = 1
          · subst k1
            clear k0 e0
            go_wp2
            go_region_held3 (fun w' => w'.cell? ⟨wr.heap.size, 1, none⟩ = some (.int .u32 at_) ∧ w'.cell? ⟨wr.heap.size, 2, none⟩ = some (.int .u32 v)) (first | exact ⟨X1, X2⟩ | exact ⟨Y1, Y2⟩ | go_keep)
              (first
                | (go_at_call 39; refine Calls.mono (v_store (HMd.out _) at_ v HAT.out HV.out) ?_; rintro e w5 ⟨rfl, hm5, hg5, _⟩; have HM5 := Lib.hid hm5; have HQ5 := Lib.hid ((HQd.out _).grown hg5 A2.out); have HB5 := Lib.hid (below_row (HBd.out _) hg5 U1.out); have X1 : w5.cell? ⟨wr.heap.size, 1, none⟩ = some (.int .u32 at_) := (World.cell?_of_block (hg5.block wr.heap.size (by simp) HRm.out)).trans (box_cell wr _ _ 1); have X2 : w5.cell? ⟨wr.heap.size, 2, none⟩ = some (.int .u32 v) := (World.cell?_of_block (hg5.block wr.heap.size (by simp) HRm.out)).trans (box_cell wr _ _ 2); have HZ5 := Lib.hid (show wr.heap.size < w5.heap.size from Nat.lt_of_lt_of_le (by simp) hg5.size); clear hm5 hg5)
                | (go_at_call 46; refine Calls.mono (r_store HQ5.out at_ v HAT.out HV.out) ?_; rintro e w6 ⟨rfl, hq6, hg6, _⟩; have HQ6 := Lib.hid hq6; have HM6 := Lib.hid (HM5.out.grown hg6 A1.out); have HB6 := Lib.hid (below_row HB5.out hg6 U2.out); have Y1 : w6.cell? ⟨wr.heap.size, 1, none⟩ = some (.int .u32 at_) := (World.cell?_of_block (hg6.block wr.heap.size HZ5.out HRs.out)).trans X1; have Y2 : w6.cell? ⟨wr.heap.size, 2, none⟩ = some (.int .u32 v) := (World.cell?_of_block (hg6.block wr.heap.size HZ5.out HRs.out)).trans X2; clear hq6 hg6))
            go_wp2
            go_roundw
            case rel => exact ⟨k + 1, r, s, stL ys at_ v, by omega, by go_num, rfl, rfl, HM6.out, HQ6.out, A1.out, A2.out, U1.out, U2.out, HB6.out⟩
            case measure => simp [intOf]; omega
          · have e1 : (kind == 1) = false := by simpa using k1
            by_cases k2 : kind = 2
            · subst k2
              clear k0 e0 k1 e1
              go_wp2_with (first | (go_at_call 37; (with_reducible refine (v_byte (HMo.out _) at_ HAT.out).mono ?_); rintro e w5 ⟨rfl, rfl⟩) | (go_at_call 47; (with_reducible refine (r_byte (HQo.out _) at_ HAT.out).mono ?_); rintro e w5 ⟨rfl, kd, rfl⟩))
              go_roundw
              case rel => exact ⟨k + 1, r, s, ys, by omega, by go_num, rfl, rfl, (HMo.out _).drewN kd, (HQo.out _).drewN kd, A1.out, A2.out, U1.out, U2.out, below_drewN (HBo.out _) kd⟩
              case measure => simp [intOf]; omega
            · have e2 : (kind == 2) = false := by simpa using k2
              by_cases k3 : kind = 3
              · subst k3
                clear k0 e0 k1 e1 k2 e2
                go_wp2
                go_region_held3 (fun w' => w'.cell? ⟨wr.heap.size, 1, none⟩ = some (.int .u32 at_) ∧ w'.cell? ⟨wr.heap.size, 2, none⟩ = some (.int .u32 v)) (first | exact ⟨X1, X2⟩ | exact ⟨Y1, Y2⟩ | go_keep)
                  (first
                    | (go_at_call 35; refine Calls.mono (v_putb (HMd.out _) at_ v HAT.out) ?_; rintro e w5 ⟨rfl, hm5, hg5, _⟩; have HM5 := Lib.hid hm5; have HQ5 := Lib.hid ((HQd.out _).grown hg5 A2.out); have HB5 := Lib.hid (below_row (HBd.out _) hg5 U1.out); have X1 : w5.cell? ⟨wr.heap.size, 1, none⟩ = some (.int .u32 at_) := (World.cell?_of_block (hg5.block wr.heap.size (by simp) HRm.out)).trans (box_cell wr _ _ 1); have X2 : w5.cell? ⟨wr.heap.size, 2, none⟩ = some (.int .u32 v) := (World.cell?_of_block (hg5.block wr.heap.size (by simp) HRm.out)).trans (box_cell wr _ _ 2); have HZ5 := Lib.hid (show wr.heap.size < w5.heap.size from Nat.lt_of_lt_of_le (by simp) hg5.size); clear hm5 hg5)
                    | (go_at_call 48; refine Calls.mono (r_putb HQ5.out at_ v HAT.out) ?_; rintro e w6 ⟨rfl, hq6, hg6, _⟩; have HQ6 := Lib.hid hq6; have HM6 := Lib.hid (HM5.out.grown hg6 A1.out); have HB6 := Lib.hid (below_row HB5.out hg6 U2.out); have Y1 : w6.cell? ⟨wr.heap.size, 1, none⟩ = some (.int .u32 at_) := (World.cell?_of_block (hg6.block wr.heap.size HZ5.out HRs.out)).trans X1; have Y2 : w6.cell? ⟨wr.heap.size, 2, none⟩ = some (.int .u32 v) := (World.cell?_of_block (hg6.block wr.heap.size HZ5.out HRs.out)).trans X2; clear hq6 hg6))
                go_wp2
                go_roundw
                case rel => exact ⟨k + 1, r, s, pbL ys at_ v, by omega, by go_num, rfl, rfl, HM6.out, HQ6.out, A1.out, A2.out, U1.out, U2.out, HB6.out⟩
                case measure => simp [intOf]; omega
              · have e3 : (kind == 3) = false := by simpa using k3
                by_cases k4 : kind = 4
                · subst k4
                  clear k0 e0 k1 e1 k2 e2 k3 e3
                  go_wp2_with (first
                    | (go_at_call 40; (with_reducible refine Calls.mono (v_words (HMo.out _) a n) ?_); rintro e w5 ⟨A5, c5, rfl, hs5, hB5⟩; have HS5 := Lib.hid hs5; have HE5 := Lib.hid ((HBo.out _).trans (hB5.mono (HBo.out _).size)); have HQ5 := Lib.hid ((HQo.out _).below hB5); have HM5 := Lib.hid ((HMo.out _).below hB5); have X3 : w5.cell? ⟨wr.heap.size, 3, none⟩ = some (.int .i64 a) := (hB5.cell (p := ⟨wr.heap.size, 3, none⟩) (by simp)).trans (box_cell' wr _ _ 3); have X4 : w5.cell? ⟨wr.heap.size, 4, none⟩ = some (.int .i64 n) := (hB5.cell (p := ⟨wr.heap.size, 4, none⟩) (by simp)).trans (box_cell' wr _ _ 4); clear hs5 hB5)
                    | (go_at_call 49; (with_reducible refine Calls.mono (r_words HQ5.out a n) ?_); rintro e w6 ⟨A6, c6, rfl, hs6, hB6⟩; have HS6 := Lib.hid hs6; have HS56 := Lib.hid (HS5.out.below hB6); have HE6 := Lib.hid (HE5.out.trans (hB6.mono HE5.out.size)); have HQ6 := Lib.hid (HQ5.out.below hB6); have HM6 := Lib.hid (HM5.out.below hB6); clear hs6 hB6)
                    | (go_at_call 44; (with_reducible refine (keep_words _ _ _ _ _ _ _ rfl (HWL.out _ _) HS56.out HS6.out).mono ?_); rintro e w7 ⟨rfl, k7, rfl⟩))
                  go_roundw
                  case rel => exact ⟨k + 1, r, s, ys, by omega, by go_num, rfl, rfl, HM6.out.drewN k7, HQ6.out.drewN k7, A1.out, A2.out, U1.out, U2.out, below_drewN HE6.out k7⟩
                  case measure => simp [intOf]; omega
                · have e4 : (kind == 4) = false := by simpa using k4
                  by_cases k5 : kind = 5
                  · subst k5
                    clear k0 e0 k1 e1 k2 e2 k3 e3 k4 e4
                    go_wp2_with (first
                      | (go_at_call 38; (with_reducible refine (v_fork (HMo.out _)).mono ?_); rintro e w5 ⟨r5, rfl, hm5, hu5, hB5⟩; have HMn5 := Lib.hid hm5; have HMr5 := Lib.hid ((HMo.out _).below hB5); have HQ5 := Lib.hid ((HQo.out _).below hB5); have HU5 := Lib.hid hu5; have HE5 := Lib.hid hB5; clear hm5 hu5 hB5)
                      | (go_at_call 50; (with_reducible refine (r_fork HQ5.out).mono ?_); rintro e w6 ⟨s6, rfl, hq6, hu6, hB6⟩; have HQn6 := Lib.hid (show MV 70 w6.drew s6 ys from hq6); have HQs6 := Lib.hid (show MV 70 w6.drew s ys from MV.drewN (HQ5.out.below hB6) 1); have HMn6 := Lib.hid (show MV 65 w6.drew r5 ys from MV.drewN (HMn5.out.below hB6) 1); have HMr6 := Lib.hid (show MV 65 w6.drew r ys from MV.drewN (HMr5.out.below hB6) 1); have HU6 := Lib.hid hu6; have HE6 := Lib.hid hB6; clear hq6 hu6 hB6))
                    have S5 := HE5.out.size
                    have S6 := HE6.out.size
                    simp only [World.alloc, Array.size_push] at S5
                    have HB6 := Lib.hid (show Below w.heap.size w w6.drew from below_drewN (((HBo.out _).trans (HE5.out.mono (HBo.out _).size)).trans (HE6.out.mono ((HBo.out _).trans (HE5.out.mono (HBo.out _).size)).size)) 1)
                    have S0 := HB.out.size
                    have LM := HM.out.lt
                    have LQ := HQ.out.lt
                    have L5 := HMn5.out.lt
                    have P1 := HU5.out
                    have P2 := HU6.out
                    have Ar5 := Lib.hid (show Apart r r5 from fun x hx y hy => by have := LM x hx; have := P1 y hy; simp at this; omega)
                    have As5 := Lib.hid (show Apart s r5 from fun x hx y hy => by have := LQ x hx; have := P1 y hy; simp at this; omega)
                    have Ar6 := Lib.hid (show Apart r s6 from fun x hx y hy => by have := LM x hx; have := P2 y hy; omega)
                    have As6 := Lib.hid (show Apart s s6 from fun x hx y hy => by have := LQ x hx; have := P2 y hy; omega)
                    have A65 := Lib.hid (show Apart s6 r5 from fun x hx y hy => by have := P2 x hx; have := L5 y hy; omega)
                    have A56 := Lib.hid (show Apart r5 s6 from fun x hx y hy => by have := L5 x hx; have := P2 y hy; omega)
                    have V5 := Lib.hid (show Above w.heap.size r5 from P1.mono (by simp; omega))
                    have V6 := Lib.hid (show Above w.heap.size s6 from P2.mono (by omega))
                    have N5 := Lib.hid (show some wr.heap.size ≠ rowOf r5 from row_ne P1 (by simp))
                    have N6 := Lib.hid (show some wr.heap.size ≠ rowOf s6 from row_ne P2 (by omega))
                    have Z6 := Lib.hid (show wr.heap.size < w6.drew.heap.size from (by show wr.heap.size < w6.heap.size; omega))
                    have X2 : w6.cell? ⟨wr.heap.size, 2, none⟩ = some (.int .u32 v) := ((HE6.out.cell (p := ⟨wr.heap.size, 2, none⟩) (by simp; omega)).trans (HE5.out.cell (p := ⟨wr.heap.size, 2, none⟩) (by simp))).trans (box_cell' wr _ _ 2)
                    clear S5 S6 S0 LM LQ L5 P1 P2 HE5 HE6 HU5 HU6 HMn5 HMr5 HQ5
                    go_region_held3 (fun w' => w'.cell? ⟨wr.heap.size, 2, none⟩ = some (.int .u32 v)) (first | exact X2 | exact X3 | exact X4 | go_keep)
                      (first
                        | (go_at_call 39; refine Calls.mono (v_store HMn6.out 0 v (by decide) HV.out) ?_; rintro e w7 ⟨rfl, hm7, hg7, _⟩; have HMn7 := Lib.hid hm7; have HQn7 := Lib.hid (HQn6.out.grown hg7 A65.out); have HMr7 := Lib.hid (HMr6.out.grown hg7 Ar5.out); have HQs7 := Lib.hid (HQs6.out.grown hg7 As5.out); have HB7 := Lib.hid (below_row HB6.out hg7 V5.out); have X3 : w7.cell? ⟨wr.heap.size, 2, none⟩ = some (.int .u32 v) := (World.cell?_of_block (hg7.block wr.heap.size Z6.out N5.out)).trans X2; have Z7 := Lib.hid (Nat.lt_of_lt_of_le Z6.out hg7.size); clear hm7 hg7)
                        | (go_at_call 46; refine Calls.mono (r_store HQn7.out 0 v (by decide) HV.out) ?_; rintro e w8 ⟨rfl, hq8, hg8, _⟩; have HQn8 := Lib.hid hq8; have HMn8 := Lib.hid (HMn7.out.grown hg8 A56.out); have HMr8 := Lib.hid (HMr7.out.grown hg8 Ar6.out); have HQs8 := Lib.hid (HQs7.out.grown hg8 As6.out); have HB8 := Lib.hid (below_row HB7.out hg8 V6.out); have X4 : w8.cell? ⟨wr.heap.size, 2, none⟩ = some (.int .u32 v) := (World.cell?_of_block (hg8.block wr.heap.size Z7.out N6.out)).trans X3; clear hq8 hg8))
                    go_wp2_with (first | (go_at_call 36; refine (v_load HMr8.out 0 (by decide)).mono ?_; rintro e w9 ⟨rfl, rfl⟩) | (go_at_call 45; refine (r_load HQs8.out 0 (by decide)).mono ?_; rintro e w9 ⟨rfl, rfl⟩))
                    go_roundw
                    case rel => exact ⟨k + 1, r5, s6, stL ys 0 v, by omega, by go_num, rfl, rfl, HMn8.out, HQn8.out, A56.out, A65.out, V5.out, V6.out, HB8.out⟩
                    case measure => simp [intOf]; omega
                  · have e5 : (kind == 5) = false := by simpa using k5
                    go_wp2
                    go_roundw
                    case rel => exact ⟨k + 1, r, s, ys, by omega, by go_num, rfl, rfl, HMo.out _, HQo.out _, A1.out, A2.out, U1.out, U2.out, HBo.out _⟩
                    case measure => simp [intOf]; omega
      · go_wp2_with (first
                  | (go_at_call 42; (with_reducible refine (v_size HM.out).mono ?_); rintro e w4 ⟨rfl, rfl⟩)
                  | (go_at_call 40; (with_reducible refine Calls.mono (v_words HM.out 0 _) ?_); rintro e w5 ⟨A5, c5, rfl, hs5, hB5⟩; have HS5 := Lib.hid hs5; have HE5 := Lib.hid hB5; have HQ5 := Lib.hid (HQ.out.below hB5); clear hs5 hB5)
                  | (go_at_call 43; (with_reducible refine (r_size HQ5.out).mono ?_); rintro e w4 ⟨rfl, rfl⟩)
                  | (go_at_call 49; (with_reducible refine Calls.mono (r_words HQ5.out 0 _) ?_); rintro e w6 ⟨A6, c6, rfl, hs6, hB6⟩; have HS6 := Lib.hid hs6; have HS56 := Lib.hid (HS5.out.below hB6); have HE6 := Lib.hid ((HB.out.trans (HE5.out.mono HB.out.size)).trans (hB6.mono (HB.out.trans (HE5.out.mono HB.out.size)).size)); clear hs6 hB6)
                  | (go_at_call 44; (with_reducible refine (keep_words _ _ _ _ _ _ _ rfl (HWL.out _ _) HS56.out HS6.out).mono ?_); rintro e w7 ⟨rfl, k7, hk7⟩; have HE7 := Lib.hid (show Below w.heap.size w w7 from by rw [hk7]; exact below_drewN HE6.out k7); clear hk7)
                  | (go_at_call 33; (with_reducible refine (wakes04 _).mono ?_); rintro e w8 ⟨rfl, hB8⟩; have HE8 := Lib.hid (HE7.out.trans (hB8.mono HE7.out.size)); clear hB8))
        go_ret
        exact ⟨rfl, HE8.out⟩
    · go_wp2_with (first
                | (go_at_call 42; (with_reducible refine (v_size HM.out).mono ?_); rintro e w4 ⟨rfl, rfl⟩)
                | (go_at_call 40; (with_reducible refine Calls.mono (v_words HM.out 0 _) ?_); rintro e w5 ⟨A5, c5, rfl, hs5, hB5⟩; have HS5 := Lib.hid hs5; have HE5 := Lib.hid hB5; have HQ5 := Lib.hid (HQ.out.below hB5); clear hs5 hB5)
                | (go_at_call 43; (with_reducible refine (r_size HQ5.out).mono ?_); rintro e w4 ⟨rfl, rfl⟩)
                | (go_at_call 49; (with_reducible refine Calls.mono (r_words HQ5.out 0 _) ?_); rintro e w6 ⟨A6, c6, rfl, hs6, hB6⟩; have HS6 := Lib.hid hs6; have HS56 := Lib.hid (HS5.out.below hB6); have HE6 := Lib.hid ((HB.out.trans (HE5.out.mono HB.out.size)).trans (hB6.mono (HB.out.trans (HE5.out.mono HB.out.size)).size)); clear hs6 hB6)
                | (go_at_call 44; (with_reducible refine (keep_words _ _ _ _ _ _ _ rfl (HWL.out _ _) HS56.out HS6.out).mono ?_); rintro e w7 ⟨rfl, k7, hk7⟩; have HE7 := Lib.hid (show Below w.heap.size w w7 from by rw [hk7]; exact below_drewN HE6.out k7); clear hk7)
                | (go_at_call 33; (with_reducible refine (wakes04 _).mono ?_); rintro e w8 ⟨rfl, hB8⟩; have HE8 := Lib.hid (HE7.out.trans (hB8.mono HE7.out.size)); clear hB8))
      go_ret
      exact ⟨rfl, HE8.out⟩
end Go.Proofs.Ytibhfonmpefloaa
