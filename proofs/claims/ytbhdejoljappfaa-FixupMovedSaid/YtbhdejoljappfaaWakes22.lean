/- The small inputs asked first, of layer 22. -/
import Derived.Test.YtbhdejoljappfaaFixFillGo
namespace Go.Proofs.Ytbhdejoljappfaa
open Go.RowKit
theorem fill_calls (b off c mb mn : Nat) (code : List Nat) (head at_ : Int) (V : Int → Int → Int → Option Int) (w : World) (hm : (code.length : Int) ≤ 70000) (hs : ∀ x ∈ code, x < 4294967296) (hA : SlK .u32 w (some ⟨b, off, none⟩) code) (hV : MapV w mb mn V) (hb : -9223372036854775808 ≤ head) (hb2 : head ≤ 9223372036854775807) :
    Calls Try.prog 31 #[.slice (some ⟨b, off, none⟩) code.length c, .int .i64 head, .int .i64 at_, .map (some mb)] w (FillV w (fillF code head at_ V)) := by
  cases hl : chainF code head with
  | none => exact fill_chain_no _ c code head at_ _ w V hm hs hA hb hb2 hl
  | some l =>
    by_cases hn : at_ < 0 ∨ 65536 < at_ ∨ 65536 - at_ < code.length
    · exact fill_at_no _ c code l head at_ _ w V hm hs hA hb hb2 hl hn
    · exact fill_way b off c mb mn code l head at_ V w hm hs hA hV hb hb2 hl hn
def V22 : Int → Int → Int → Option Int := putV (fun _ _ _ => none) 0 1 7 50
theorem chain22 : chainF [0, 0, 0, 1048576, 7] 3 = some [3] := by decide +kernel
theorem fill22 : fillF [0, 0, 0, 1048576, 7] 3 100 V22 = some [0, 0, 0, 4160749514, 0] := by decide +kernel
theorem dec22 : decI 4160749514 = ⟨3, true, true, 7, 0, 0, 0, -54⟩ ∧ decE 4160749514 = 0 := by
  have h := enc_nat ⟨3, true, true, 7, 0, 0, 0, -54⟩ (good_a0 _ (by decide) (by decide))
  have e : (encZ ⟨3, true, true, 7, 0, 0, 0, -54⟩).toNat = 4160749514 := by decide +kernel
  rw [e] at h
  exact ⟨h.2.2.2, h.2.2.1⟩
theorem lit_slk (w : World) (xs : List Nat) (t : TypeId) : SlK .u32 (w.alloc (.cells (Cs .u32 xs).toArray t)) (some ⟨w.heap.size, 0, none⟩) xs := fun _ => ⟨w.heap.size, 0, rfl, fun j hj => by
  rw [Nat.zero_add, box_lit]
  simpa using Cs_at .u32 xs j hj⟩
theorem lk22 (w : World) : Calls Try.prog 22 #[.int .i64 0, .int .i64 0, .int .i64 1, .int .i64 0] w fun e w' => e = .returned (.tuple #[.int .u32 1048576, .int .i64 0]) ∧ Below w.heap.size w w' := by
  refine Calls.mono (link_calls 0 0 1 0 w) ?_
  rintro e w' ⟨rfl, hB⟩
  exact ⟨by simp [linkB, linkZ], hB⟩
theorem wakes22 (w : World) : Calls Try.prog 26 #[] w fun e w' => e = .returned (.bool true) ∧ Below w.heap.size w w' := by
  have hmm := @run_makeMap Try.prog
  go_enter Try.func26, Try.ntmps26
  go_wp2_with fail
  refine (lk22 _).mono ?_
  rintro e w1 ⟨rfl, hB1⟩
  have HB1 := Lib.hid hB1
  clear hB1
  go_wp2_with fail
  have HSL := Lib.hid (lit_slk w1 [0, 0, 0, 1048576, 7] 24)
  have HBL := Lib.hid (HB1.out.alloc HB1.out.size (.cells (Cs .u32 [0, 0, 0, 1048576, 7]).toArray 24))
  refine Calls.mono (chain_calls (some ⟨w1.heap.size, 0, none⟩) 5 [0, 0, 0, 1048576, 7] 3 _ (by decide) (by decide) HSL.out (by decide) (by decide)) ?_
  rintro e w2 ⟨_, h1, hB2⟩
  obtain ⟨A2, c2, rfl, _⟩ := h1 _ chain22
  have HS2 := Lib.hid (HSL.out.below hB2)
  have HB2 := Lib.hid (HBL.out.trans (hB2.mono HBL.out.size))
  clear h1 hB2 HSL HBL
  go_wp2_with (refine wpList_put_V rfl (.tmp 23) (.tmp 24) (.const (.int .i64 50)) (Or.inr (by rfl)) (by rfl) (mapV_made w2) (by decide) 0 1 7 50 (by rfl) (by rfl) (by decide) (by decide) (by decide) (by decide) ?_; intro w3 hM3 hg3)
  have hv : putV (fun _ _ _ => none) 0 1 7 50 = V22 := rfl
  rw [hv] at hM3
  have HA3 := Lib.hid (show Below w.heap.size w w3 from (HB2.out.alloc HB2.out.size _).grown hg3.out (by have := HB2.out.size; simp; omega) (fun g hg => by simp at hg; have := HB2.out.size; omega))
  have HS3 := Lib.hid (show SlK .u32 w3 (some ⟨w1.heap.size, 0, none⟩) [0, 0, 0, 1048576, 7] from HS2.out.below (((Below.refl w2.heap.size w2).alloc (Nat.le_refl _) (.map #[] 0)).grown hg3.out (by simp) (fun g hg => by simp at hg; omega)))
  clear hv hg3
  refine Calls.mono (fill_calls w1.heap.size 0 5 w2.heap.size 1 [0, 0, 0, 1048576, 7] 3 100 V22 w3 (by decide) (by decide) HS3.out hM3.out (by decide) (by decide)) ?_
  rintro e w4 ⟨_, h1, hB4⟩
  obtain ⟨g, c, rfl, hR, _⟩ := h1 _ fill22
  have HB4 := Lib.hid (HA3.out.trans (hB4.mono HA3.out.size))
  have c3 : w4.cell? ⟨g, 3, none⟩ = some (.int .u32 4160749514) := hR.cell (j := 3) (by decide)
  have c4 : w4.cell? ⟨g, 4, none⟩ = some (.int .u32 0) := hR.cell (j := 4) (by decide)
  clear h1 hB4 hR
  go_wp2_with fail
  refine (dec_calls 4160749514 (by decide) _).mono ?_
  rw [dec22.1, dec22.2]
  rintro e w5 ⟨rfl, hB5⟩
  have c5 : w5.cell? ⟨g, 4, none⟩ = some (.int .u32 0) := by rw [hB5.cell (World.block_lt_of_cell? w4 _ c4)]; exact c4
  have HB5 := Lib.hid (HB4.out.trans (hB5.mono HB4.out.size))
  clear hB5 c3 c4
  simp only [Ins.val]
  have c6 := fun o => (World.cell?_alloc_lt w5 o ⟨g, 4, none⟩ (World.block_lt_of_cell? w5 _ c5)).trans c5
  go_wp2
  go_ret
  exact ⟨rfl, HB5.out.alloc HB5.out.size _⟩
end Go.Proofs.Ytbhdejoljappfaa
