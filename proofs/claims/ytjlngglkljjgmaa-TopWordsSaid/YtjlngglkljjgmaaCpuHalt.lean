/- Halt: a program that puts a byte out, and halts. -/
import Derived.Test.YtjlngglkljjgmaaRunLoop
namespace Go.Proofs.Ytjlngglkljjgmaa
open Go.RowKit
theorem own_below {w w' : World} {base n : Nat} {e : TypeId} {v : Value} {xs : List Value} (h : w.ownsRow base e 1 v n xs) (hB : Below w.heap.size w w') : w'.ownsRow base e 1 v n xs := by
  refine h.kept (row := none) ⟨hB.os, hB.tape, hB.output, hB.size, fun k hk _ => hB.block k hk⟩ ?_
  rcases h : v.ownBlock with _ | k
  · exact .inl rfl
  · exact .inr (by simp)
def haltCells : List Value := [.int .i64 1, .bool true, .bool false, .int .i64 1, .int .i64 0, .int .i64 0, .int .i64 0, .int .i64 65535, .int .i64 1, .bool false, .bool false, .int .i64 1, .int .i64 1, .int .i64 0, .int .i64 8, .int .i64 65472, .int .i64 1, .bool false, .bool false, .int .i64 0, .int .i64 0, .int .i64 0, .int .i64 0, .int .i64 67, .int .i64 2, .bool true, .bool false, .int .i64 0, .int .i64 1, .int .i64 0, .int .i64 0, .int .i64 8, .int .i64 2, .bool true, .bool false, .int .i64 0, .int .i64 1, .int .i64 0, .int .i64 0, .int .i64 0]
set_option maxHeartbeats 4000000 in
set_option maxRecDepth 100000 in
theorem halt_calls (w : World) (a0 a1 a2 a3 a4 : Nat)
    (E0 : ∀ wx : World, Calls Try.prog 18 #[.agg #[.int .i64 1, .bool true, .bool false, .int .i64 1, .int .i64 0, .int .i64 0, .int .i64 0, .int .i64 65535]] wx fun e w' => e = .returned (.tuple #[.int .u32 a0, .int .i64 0]) ∧ Below wx.heap.size wx w')
    (E1 : ∀ wx : World, Calls Try.prog 18 #[.agg #[.int .i64 1, .bool false, .bool false, .int .i64 1, .int .i64 1, .int .i64 0, .int .i64 8, .int .i64 65472]] wx fun e w' => e = .returned (.tuple #[.int .u32 a1, .int .i64 0]) ∧ Below wx.heap.size wx w')
    (E2 : ∀ wx : World, Calls Try.prog 18 #[.agg #[.int .i64 1, .bool false, .bool false, .int .i64 0, .int .i64 0, .int .i64 0, .int .i64 0, .int .i64 67]] wx fun e w' => e = .returned (.tuple #[.int .u32 a2, .int .i64 0]) ∧ Below wx.heap.size wx w')
    (E3 : ∀ wx : World, Calls Try.prog 18 #[.agg #[.int .i64 2, .bool true, .bool false, .int .i64 0, .int .i64 1, .int .i64 0, .int .i64 0, .int .i64 8]] wx fun e w' => e = .returned (.tuple #[.int .u32 a3, .int .i64 0]) ∧ Below wx.heap.size wx w')
    (E4 : ∀ wx : World, Calls Try.prog 18 #[.agg #[.int .i64 2, .bool true, .bool false, .int .i64 0, .int .i64 1, .int .i64 0, .int .i64 0, .int .i64 0]] wx fun e w' => e = .returned (.tuple #[.int .u32 a4, .int .i64 0]) ∧ Below wx.heap.size wx w') :
    Calls Try.prog 11 #[.int .i64 67] w fun e w' => ∃ v, e = .returned v ∧ w'.ownsRow (w.heap.size + 1) 32 1 v 5 (W32 [a0, a1, a2, a3, a4]) ∧ Below w.heap.size w w' := by
  obtain ⟨i0, hi, hz0, hz1, hz2⟩ := info_parts info22
  replace E0 := Lib.hid E0
  replace E1 := Lib.hid E1
  replace E2 := Lib.hid E2
  replace E3 := Lib.hid E3
  replace E4 := Lib.hid E4
  have HL : Hid (∀ wr : World, Below (w.heap.size + 1) (w.alloc (.cells haltCells.toArray 39)) wr → ∀ j u, haltCells[j]? = some u → wr.cell? ⟨w.heap.size, j, none⟩ = some u) := Lib.hid (by
    intro wr hB j u hj
    rw [hB.cell (show w.heap.size < w.heap.size + 1 by omega)]
    unfold World.cell?
    dsimp only
    rw [heap_alloc_new]
    simpa using hj)
  go_enter Try.func11, Try.ntmps11
  go_wp2
  go_loopw [5, 4] (fun i v wr => ∃ k : Nat, k ≤ 5 ∧ i = .int .i64 k ∧ wr.ownsRow (w.heap.size + 1) 32 1 v k (W32 ([a0, a1, a2, a3, a4].take k)) ∧ Below (w.heap.size + 1) (w.alloc (.cells haltCells.toArray 39)) wr) (fun i _ _ => 5 - (intOf i).toNat)
  case atStart => exact ⟨0, by omega, rfl, ⟨rfl, .inl ⟨rfl, rfl⟩⟩, Below.refl _ _⟩
  case round =>
    rename_i v wr
    obtain ⟨k, hk, rfl, hO, hB⟩ := hrel
    have HO := Lib.hid hO
    have HB := Lib.hid hB
    have h : k = 0 ∨ k = 1 ∨ k = 2 ∨ k = 3 ∨ k = 4 ∨ k = 5 := by omega
    clear hk hO hB
    rcases h with rfl | rfl | rfl | rfl | rfl | rfl
    · have c0 := HL.out wr HB.out 0 _ rfl
      have c1 := HL.out wr HB.out 1 _ rfl
      have c2 := HL.out wr HB.out 2 _ rfl
      have c3 := HL.out wr HB.out 3 _ rfl
      have c4 := HL.out wr HB.out 4 _ rfl
      have c5 := HL.out wr HB.out 5 _ rfl
      have c6 := HL.out wr HB.out 6 _ rfl
      have c7 := HL.out wr HB.out 7 _ rfl
      obtain ⟨A, c, rfl⟩ := own_shape HO.out
      go_wp2_with (first | (go_at_call 18; (with_reducible refine (E0.out _).mono ?_); rintro e w1 ⟨rfl, hb⟩; have HO1 := Lib.hid (own_below HO.out hb); have HB1 := Lib.hid (HB.out.trans (hb.mono (by have := HB.out.size; simpa using this))); clear hb) | (at_builtin; (refine wpList_append_own _ rfl _ _ 22 rfl (w.heap.size + 1) 32 i0 (.int .u32 0) 1 4 Try.underlying22 hi hz0 hz1 hz2 rfl (by decide) _ 0 _ rfl (HO1.out.alloc _) ⟨w1.heap.size, 0, none⟩ 1 1 [.int .u32 a0] rfl rfl (lit_cell w1 _ 32) (one_lit _ rfl) (by decide) (by decide) (by have := HB1.out.size; simp at this; simp; omega) ?_); intro v' w2 hown hgrow hnil; have HO2 := Lib.hid hown; have HG := Lib.hid hgrow; clear hown hgrow hnil))
      go_roundw
      case rel => exact ⟨1, by omega, rfl, HO2.out, (HB1.out.alloc (by have := HB1.out.size; simp at this; omega) _).grown HG.out (by have := HB1.out.size; simp at this; simp; omega) (fun k hk => (HO1.out.lt k hk).1)⟩
      case measure => simp [intOf]
    · have c0 := HL.out wr HB.out 8 _ rfl
      have c1 := HL.out wr HB.out 9 _ rfl
      have c2 := HL.out wr HB.out 10 _ rfl
      have c3 := HL.out wr HB.out 11 _ rfl
      have c4 := HL.out wr HB.out 12 _ rfl
      have c5 := HL.out wr HB.out 13 _ rfl
      have c6 := HL.out wr HB.out 14 _ rfl
      have c7 := HL.out wr HB.out 15 _ rfl
      obtain ⟨A, c, rfl⟩ := own_shape HO.out
      go_wp2_with (first | (go_at_call 18; (with_reducible refine (E1.out _).mono ?_); rintro e w1 ⟨rfl, hb⟩; have HO1 := Lib.hid (own_below HO.out hb); have HB1 := Lib.hid (HB.out.trans (hb.mono (by have := HB.out.size; simpa using this))); clear hb) | (at_builtin; (refine wpList_append_own _ rfl _ _ 22 rfl (w.heap.size + 1) 32 i0 (.int .u32 0) 1 4 Try.underlying22 hi hz0 hz1 hz2 rfl (by decide) _ 1 _ rfl (HO1.out.alloc _) ⟨w1.heap.size, 0, none⟩ 1 1 [.int .u32 a1] rfl rfl (lit_cell w1 _ 32) (one_lit _ rfl) (by decide) (by decide) (by have := HB1.out.size; simp at this; simp; omega) ?_); intro v' w2 hown hgrow hnil; have HO2 := Lib.hid hown; have HG := Lib.hid hgrow; clear hown hgrow hnil))
      go_roundw
      case rel => exact ⟨2, by omega, rfl, HO2.out, (HB1.out.alloc (by have := HB1.out.size; simp at this; omega) _).grown HG.out (by have := HB1.out.size; simp at this; simp; omega) (fun k hk => (HO1.out.lt k hk).1)⟩
      case measure => simp [intOf]
    · have c0 := HL.out wr HB.out 16 _ rfl
      have c1 := HL.out wr HB.out 17 _ rfl
      have c2 := HL.out wr HB.out 18 _ rfl
      have c3 := HL.out wr HB.out 19 _ rfl
      have c4 := HL.out wr HB.out 20 _ rfl
      have c5 := HL.out wr HB.out 21 _ rfl
      have c6 := HL.out wr HB.out 22 _ rfl
      have c7 := HL.out wr HB.out 23 _ rfl
      obtain ⟨A, c, rfl⟩ := own_shape HO.out
      go_wp2_with (first | (go_at_call 18; (with_reducible refine (E2.out _).mono ?_); rintro e w1 ⟨rfl, hb⟩; have HO1 := Lib.hid (own_below HO.out hb); have HB1 := Lib.hid (HB.out.trans (hb.mono (by have := HB.out.size; simpa using this))); clear hb) | (at_builtin; (refine wpList_append_own _ rfl _ _ 22 rfl (w.heap.size + 1) 32 i0 (.int .u32 0) 1 4 Try.underlying22 hi hz0 hz1 hz2 rfl (by decide) _ 2 _ rfl (HO1.out.alloc _) ⟨w1.heap.size, 0, none⟩ 1 1 [.int .u32 a2] rfl rfl (lit_cell w1 _ 32) (one_lit _ rfl) (by decide) (by decide) (by have := HB1.out.size; simp at this; simp; omega) ?_); intro v' w2 hown hgrow hnil; have HO2 := Lib.hid hown; have HG := Lib.hid hgrow; clear hown hgrow hnil))
      go_roundw
      case rel => exact ⟨3, by omega, rfl, HO2.out, (HB1.out.alloc (by have := HB1.out.size; simp at this; omega) _).grown HG.out (by have := HB1.out.size; simp at this; simp; omega) (fun k hk => (HO1.out.lt k hk).1)⟩
      case measure => simp [intOf]
    · have c0 := HL.out wr HB.out 24 _ rfl
      have c1 := HL.out wr HB.out 25 _ rfl
      have c2 := HL.out wr HB.out 26 _ rfl
      have c3 := HL.out wr HB.out 27 _ rfl
      have c4 := HL.out wr HB.out 28 _ rfl
      have c5 := HL.out wr HB.out 29 _ rfl
      have c6 := HL.out wr HB.out 30 _ rfl
      have c7 := HL.out wr HB.out 31 _ rfl
      obtain ⟨A, c, rfl⟩ := own_shape HO.out
      go_wp2_with (first | (go_at_call 18; (with_reducible refine (E3.out _).mono ?_); rintro e w1 ⟨rfl, hb⟩; have HO1 := Lib.hid (own_below HO.out hb); have HB1 := Lib.hid (HB.out.trans (hb.mono (by have := HB.out.size; simpa using this))); clear hb) | (at_builtin; (refine wpList_append_own _ rfl _ _ 22 rfl (w.heap.size + 1) 32 i0 (.int .u32 0) 1 4 Try.underlying22 hi hz0 hz1 hz2 rfl (by decide) _ 3 _ rfl (HO1.out.alloc _) ⟨w1.heap.size, 0, none⟩ 1 1 [.int .u32 a3] rfl rfl (lit_cell w1 _ 32) (one_lit _ rfl) (by decide) (by decide) (by have := HB1.out.size; simp at this; simp; omega) ?_); intro v' w2 hown hgrow hnil; have HO2 := Lib.hid hown; have HG := Lib.hid hgrow; clear hown hgrow hnil))
      go_roundw
      case rel => exact ⟨4, by omega, rfl, HO2.out, (HB1.out.alloc (by have := HB1.out.size; simp at this; omega) _).grown HG.out (by have := HB1.out.size; simp at this; simp; omega) (fun k hk => (HO1.out.lt k hk).1)⟩
      case measure => simp [intOf]
    · have c0 := HL.out wr HB.out 32 _ rfl
      have c1 := HL.out wr HB.out 33 _ rfl
      have c2 := HL.out wr HB.out 34 _ rfl
      have c3 := HL.out wr HB.out 35 _ rfl
      have c4 := HL.out wr HB.out 36 _ rfl
      have c5 := HL.out wr HB.out 37 _ rfl
      have c6 := HL.out wr HB.out 38 _ rfl
      have c7 := HL.out wr HB.out 39 _ rfl
      obtain ⟨A, c, rfl⟩ := own_shape HO.out
      go_wp2_with (first | (go_at_call 18; (with_reducible refine (E4.out _).mono ?_); rintro e w1 ⟨rfl, hb⟩; have HO1 := Lib.hid (own_below HO.out hb); have HB1 := Lib.hid (HB.out.trans (hb.mono (by have := HB.out.size; simpa using this))); clear hb) | (at_builtin; (refine wpList_append_own _ rfl _ _ 22 rfl (w.heap.size + 1) 32 i0 (.int .u32 0) 1 4 Try.underlying22 hi hz0 hz1 hz2 rfl (by decide) _ 4 _ rfl (HO1.out.alloc _) ⟨w1.heap.size, 0, none⟩ 1 1 [.int .u32 a4] rfl rfl (lit_cell w1 _ 32) (one_lit _ rfl) (by decide) (by decide) (by have := HB1.out.size; simp at this; simp; omega) ?_); intro v' w2 hown hgrow hnil; have HO2 := Lib.hid hown; have HG := Lib.hid hgrow; clear hown hgrow hnil))
      go_roundw
      case rel => exact ⟨5, by omega, rfl, HO2.out, (HB1.out.alloc (by have := HB1.out.size; simp at this; omega) _).grown HG.out (by have := HB1.out.size; simp at this; simp; omega) (fun k hk => (HO1.out.lt k hk).1)⟩
      case measure => simp [intOf]
    · go_wp2
      go_ret
      exact ⟨_, rfl, HO.out, ((Below.refl _ _).alloc (Nat.le_refl _) _).trans (HB.out.mono (by omega))⟩
end Go.Proofs.Ytjlngglkljjgmaa
