/- places: the map that a list of places makes. -/
import Derived.Test.YtbhdejoljappfaaWakes22
import Derived.StillTailTactics
import Derived.Outline
namespace Go.Proofs.Ytbhdejoljappfaa
open Go.RowKit
abbrev Pl := Int × Int × Int × Int
/-- A slice of these places. -/
def PlR (w : World) (A : Option Addr) (ps : List Pl) : Prop :=
  ∀ i (h : i < ps.length), ∃ b off, A = some ⟨b, off, none⟩ ∧ (w64 ps[i].1 = true ∧ w64 ps[i].2.1 = true ∧ w64 ps[i].2.2.1 = true ∧ w64 ps[i].2.2.2 = true) ∧
    w.cell? ⟨b, off + i * 4, none⟩ = some (.int .i64 ps[i].1) ∧ w.cell? ⟨b, off + i * 4 + 1, none⟩ = some (.int .i64 ps[i].2.1) ∧ w.cell? ⟨b, off + i * 4 + 2, none⟩ = some (.int .i64 ps[i].2.2.1) ∧ w.cell? ⟨b, off + i * 4 + 3, none⟩ = some (.int .i64 ps[i].2.2.2)
theorem PlR.below {w w' : World} {A : Option Addr} {ps : List Pl} (h : PlR w A ps) (hB : Below w.heap.size w w') : PlR w' A ps := by
  intro i hi
  obtain ⟨b, off, rfl, hw, c0, c1, c2, c3⟩ := h i hi
  have hb := World.block_lt_of_cell? w _ c0
  exact ⟨b, off, rfl, hw, by rw [hB.cell (p := ⟨b, off + i * 4, none⟩) hb]; exact c0, by rw [hB.cell (p := ⟨b, off + i * 4 + 1, none⟩) hb]; exact c1, by rw [hB.cell (p := ⟨b, off + i * 4 + 2, none⟩) hb]; exact c2, by rw [hB.cell (p := ⟨b, off + i * 4 + 3, none⟩) hb]; exact c3⟩
def placesV (ps : List Pl) : Int → Int → Int → Option Int := ps.foldl (fun V p => putV V p.1 p.2.1 p.2.2.1 p.2.2.2) (fun _ _ _ => none)
theorem placesV_snoc (ps : List Pl) (p : Pl) : placesV (ps ++ [p]) = putV (placesV ps) p.1 p.2.1 p.2.2.1 p.2.2.2 := by simp [placesV, List.foldl_append]
/-- What places leaves. -/
def NewMap (w : World) (V : Int → Int → Int → Option Int) (e : Ending) (w' : World) : Prop := ∃ b, e = .returned (.map (some b)) ∧ MapV w' b 300 V ∧ w.heap.size ≤ b ∧ Below w.heap.size w w'
theorem places_end {w wr : World} {k : Nat} {ps : List Pl} (h : MapV wr w.heap.size k (placesV (ps.take k))) (hk : k ≤ 300) (hB : Below w.heap.size w wr) (he : k = 300 ∨ ps.length ≤ k) : NewMap w (placesV (ps.take 300)) (.returned (.map (some w.heap.size))) wr := by
  have e : ps.take k = ps.take 300 := by
    rcases he with rfl | he
    · rfl
    · rw [List.take_of_length_le he, List.take_of_length_le (by omega)]
  rw [e] at h
  exact ⟨_, rfl, h.mono hk, Nat.le_refl _, hB⟩
set_option maxHeartbeats 4000000 in
theorem places_calls (A : Option Addr) (c n : Nat) (ps : List Pl) (w : World) (hl : ps.length = n) (hA : PlR w A ps) :
    Calls Try.prog 32 #[.slice A n c] w (NewMap w (placesV (ps.take 300))) := by
  have HL := Lib.hid hl
  have HA := Lib.hid hA
  have hmm := @run_makeMap Try.prog
  clear hl hA
  go_enter Try.func32, Try.ntmps32
  go_wp2
  go_loopw [4] (fun i wr => ∃ k : Nat, k ≤ n ∧ k ≤ 300 ∧ i = .int .i64 k ∧ MapV wr w.heap.size k (placesV (ps.take k)) ∧ Below w.heap.size w wr) (fun i _ => 300 - (intOf i).toNat)
  case atStart => exact ⟨0, Nat.zero_le _, by omega, rfl, mapV_made w, (Below.refl _ _).alloc (Nat.le_refl _) _⟩
  case round =>
    obtain ⟨k, hk, hk3, rfl, hM, hB⟩ := hrel
    have HM := Lib.hid hM
    have HB := Lib.hid hB
    clear hM hB hmm
    by_cases hlt : k < n
    · by_cases h3 : k < 300
      · have hkl : k < ps.length := by rw [HL.out]; exact hlt
        obtain ⟨b, off, rfl, hw, c0, c1, c2, c3⟩ := HA.out k hkl
        have hb := World.block_lt_of_cell? w _ c0
        obtain ⟨p, hp⟩ : ∃ p, p = ps[k] := ⟨_, rfl⟩
        rw [← hp] at hw c0 c1 c2 c3
        obtain ⟨p0, p1, p2, p3⟩ := p
        have d0 : wr.cell? ⟨b, off + k * 4, none⟩ = some (.int .i64 p0) := by rw [HB.out.cell (p := ⟨b, off + k * 4, none⟩) hb]; exact c0
        have d1 : wr.cell? ⟨b, off + k * 4 + 1, none⟩ = some (.int .i64 p1) := by rw [HB.out.cell (p := ⟨b, off + k * 4 + 1, none⟩) hb]; exact c1
        have d2 : wr.cell? ⟨b, off + k * 4 + 2, none⟩ = some (.int .i64 p2) := by rw [HB.out.cell (p := ⟨b, off + k * 4 + 2, none⟩) hb]; exact c2
        have d3 : wr.cell? ⟨b, off + k * 4 + 3, none⟩ = some (.int .i64 p3) := by rw [HB.out.cell (p := ⟨b, off + k * 4 + 3, none⟩) hb]; exact c3
        have HW := Lib.hid hw
        have HS := Lib.hid (show placesV (ps.take (k + 1)) = putV (placesV (ps.take k)) p0 p1 p2 p3 by rw [List.take_succ_eq_append_getElem hkl, ← hp, placesV_snoc])
        have HMd := Lib.hid (show MapV wr.drew w.heap.size k (placesV (ps.take k)) from HM.out)
        have k0 : (0 : Int) ≤ (k : Int) := by omega
        have k3 : (k : Int) < 300 := by omega
        have kn : (k : Int) < (n : Int) := by omega
        clear c0 c1 c2 c3 hw hp hkl hb
        go_wp2
        refine wp_region_still_tail 22 (by kernel_rfl) (by kernel_rfl) ?_
        change wpStill _ _ wr.drew _ _ _
        simp only [List.take_succ_cons, List.take_zero, List.drop_succ_cons, List.drop_zero]
        repeat still_step
        refine wpStill_nil ?_
        refine wpList_put_V rfl (.tmp 16) (.tmp 32) (.tmp 37) (Or.inl (by rfl)) (by rfl) HMd.out (by unfold maxLen; omega) p0 p1 p2 p3 (by rfl) (by rfl) HW.out.1 HW.out.2.1 HW.out.2.2.1 HW.out.2.2.2 ?_
        intro w2 hM2 hg2
        go_wp2
        go_roundw
        case rel => exact ⟨k + 1, by omega, by omega, by go_num, by rw [HS.out]; exact hM2.out, (show Below w.heap.size w wr.drew from below_drewN HB.out 1).grown hg2.out HB.out.size (fun g hg => by simp at hg; omega)⟩
        case measure => simp [intOf]; omega
      · have H3 := Lib.hid hk3
        have HE := Lib.hid (show k = 300 by omega)
        have hd : decide ((k : Int) < 300) = false := decide_eq_false (by omega)
        have hd2 : decide (k < 300) = false := decide_eq_false (by omega)
        clear h3 hk3
        go_wp2
        go_ret
        exact places_end HM.out H3.out HB.out (.inl HE.out)
    · go_wp2
      go_ret
      exact places_end HM.out hk3 HB.out (by have := HL.out; omega)
end Go.Proofs.Ytbhdejoljappfaa
