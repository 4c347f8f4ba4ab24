/- The reference's memory, bytes. -/
import Derived.Test.YtibhfonmpefloaaMemRef
import Derived.StillTailTactics
import Derived.Deep.AppendLies
namespace Go.Proofs.Ytibhfonmpefloaa
open Go.RowKit
theorem rbyte_none (p : Value) (at_ : Nat) (w : World) (h : ThereAt w p at_ false) :
    Calls Try.prog 47 #[p, .int .u32 at_] w fun e w' => e = .returned (.tuple #[.int .u32 0, .bool false]) ∧ w = w' := by
  have H := Lib.hid (h w rfl)
  clear h
  go_enter Try.func47, Try.ntmps47
  go_wp2_with (go_at_call 58; refine H.out.mono ?_; rintro e w' ⟨rfl, rfl⟩)
  go_ret2
  exact ⟨rfl, rfl⟩
theorem byte_fin (x j : Nat) (s : Int) (hs : s = 256 ^ j) (h0 : 0 ≤ (x : Int) / s) : ((x : Int) / s).tmod 256 = ((x / 2 ^ (8 * j) % 256 : Nat) : Int) := by
  have e : (256 : Int) ^ j = ((2 ^ (8 * j) : Nat) : Int) := by rw [Nat.pow_mul]; simp
  rw [Int.tmod_eq_emod_of_nonneg h0, hs, e]
  simp
theorem rbyte_some (b d k n cap j : Nat) (x : Nat) (at_ : Nat) (w : World) (h : ThereAt w (.pointer (some ⟨b, 0, none⟩)) at_ true) (hp : w.cell? ⟨b, 0, none⟩ = some (.slice (some ⟨d, 0, none⟩) n cap)) (hj : (at_ : Int) % 4 = (j : Int)) (hj4 : (j : Int) < 4)
    (hk : (at_ : Int) / 4 = (k : Int)) (hb : (k : Int) < 1073741824) (hn : (k : Int) < (n : Int)) (hx : w.cell? ⟨d, k, none⟩ = some (.int .u32 x)) (hx32 : x < 4294967296) :
    Calls Try.prog 47 #[.pointer (some ⟨b, 0, none⟩), .int .u32 at_] w fun e w' => e = .returned (.tuple #[.int .u32 ((x / 2 ^ (8 * j) % 256 : Nat) : Int), .bool true]) ∧ ∃ k, w' = w.drewN k := by
  have H := Lib.hid (h w rfl)
  have h0 : (0 : Int) ≤ (k : Int) := Int.natCast_nonneg k
  have UW : IntKind.u32.wrap (k : Int) = (k : Int) := by rw [IntKind.wrap_u32]; omega
  obtain ⟨s, hs⟩ : ∃ s : Int, s = 256 ^ j := ⟨_, rfl⟩
  have s0 : 0 < s ∧ s ≤ 16777216 := by
    have : j = 0 ∨ j = 1 ∨ j = 2 ∨ j = 3 := by omega
    rw [hs]
    rcases this with rfl | rfl | rfl | rfl <;> decide
  have S := Lib.hid (fun wx => scale_calls at_ j hj hj4 wx)
  rw [← hs] at S
  have F := Lib.hid (byte_fin x j s hs (Int.ediv_nonneg (by omega) (by omega)))
  have X := Lib.hid hx32
  have s1 := s0.1
  have s2 : ¬ s = 0 := by omega
  have WD : IntKind.u32.wrap ((x : Int) / s) = (x : Int) / s := by
    have h1 : (x : Int) / s ≤ (x : Int) := Int.ediv_le_self _ (by omega)
    have h2 : 0 ≤ (x : Int) / s := Int.ediv_nonneg (by omega) (by omega)
    rw [IntKind.wrap_u32]; omega
  clear h hb hs s0 hx32 hj
  go_enter Try.func47, Try.ntmps47
  go_wp2_with (go_at_call 58; refine H.out.mono ?_; rintro e w' ⟨rfl, rfl⟩)
  go_quiet ((go_at_call 59; exact q0 (S.out _)))
  go_wp2
  go_ret2
  exact ⟨ret_tb F.out, nq, rfl⟩
theorem r_byte {w : World} {r : Option (Nat × Nat)} {xs : List Nat} (h : MV 70 w r xs) (at_ : Nat) (ha : at_ < 4294967296) : Calls Try.prog 47 #[pv r, .int .u32 at_] w fun e w' => e = .returned (.tuple #[.int .u32 (byI xs at_), .bool (here xs at_)]) ∧ ∃ k, w' = w.drewN k := by
  have hT := r_there h at_ ha
  by_cases hh : at_ / 4 < xs.length
  · rcases r with _ | x
    · have hx : xs = [] := h.2
      subst hx
      simp at hh
    · have hm : MT 70 w x.1 x.2 xs := h.2
      obtain ⟨cap, hp⟩ := hm.ptr
      have e : here xs at_ = true := by simp [here, hh]
      rw [byI, e, if_pos rfl]
      rw [e] at hT
      have ew : wordOf xs at_ = xs[at_ / 4] := by simp [wordOf, hh]
      rw [ew]
      exact rbyte_some x.1 x.2 (at_ / 4) xs.length cap (at_ % 4) _ at_ w hT hp (by omega) (by omega) (by omega) (by omega) (by omega) (hm.cell hh) (hm.small _ (List.getElem_mem hh))
  · have e : here xs at_ = false := by simp [here, hh]
    rw [byI, e]
    rw [e] at hT
    refine (rbyte_none _ at_ w hT).mono ?_
    rintro e w' ⟨rfl, rfl⟩
    exact ⟨rfl, 0, rfl⟩
theorem rputb_none (p : Value) (at_ : Nat) (v : Int) (w : World) (h : ThereAt w p at_ false) :
    Calls Try.prog 48 #[p, .int .u32 at_, .int .u32 v] w fun e w' => e = .returned (.bool false) ∧ w = w' := by
  have H := Lib.hid (h w rfl)
  clear h
  go_enter Try.func48, Try.ntmps48
  go_wp2_with (go_at_call 58; refine H.out.mono ?_; rintro e w' ⟨rfl, rfl⟩)
  go_ret
  exact ⟨rfl, rfl⟩
theorem rputb_fin (x v j y : Nat) (s : Int) (hx : x < 4294967296) (hj : (j : Int) < 4) (hs : s = 256 ^ j) (hy : y = x / 2 ^ (8 * j) % 256) :
    (((x : Int) - (y : Int) * s % 4294967296) % 4294967296 + (v : Int) % 256 * s % 4294967296) % 4294967296 = (putN x (8 * j) 8 v : Int) := by
  have h4 : j = 0 ∨ j = 1 ∨ j = 2 ∨ j = 3 := by omega
  rw [hs, hy]
  rcases h4 with rfl | rfl | rfl | rfl <;> simp [putN] <;> omega
theorem rputb_some (b d k n cap j : Nat) (x v y : Nat) (at_ : Nat) (w : World) (h : ThereAt w (.pointer (some ⟨b, 0, none⟩)) at_ true) (hp : w.cell? ⟨b, 0, none⟩ = some (.slice (some ⟨d, 0, none⟩) n cap)) (hj : (at_ : Int) % 4 = (j : Int)) (hj4 : (j : Int) < 4)
    (hk : (at_ : Int) / 4 = (k : Int)) (hb : (k : Int) < 1073741824) (hn : (k : Int) < (n : Int)) (hx : w.cell? ⟨d, k, none⟩ = some (.int .u32 x)) (hx32 : x < 4294967296) (hf : w.frozen? ⟨d, k, none⟩ = false)
    (hy : y = x / 2 ^ (8 * j) % 256)
    (hB : Calls Try.prog 47 #[.pointer (some ⟨b, 0, none⟩), .int .u32 at_] w fun e w' => e = .returned (.tuple #[.int .u32 (y : Int), .bool true]) ∧ ∃ k, w' = w.drewN k) :
    Calls Try.prog 48 #[.pointer (some ⟨b, 0, none⟩), .int .u32 at_, .int .u32 v] w fun e w' => e = .returned (.bool true) ∧ ∃ k', w' = ((w.drewN k').setCell ⟨d, k, none⟩ (.int .u32 (putN x (8 * j) 8 v))).drew := by
  have H := Lib.hid (h w rfl)
  have HB := Lib.hid hB
  have h0 : (0 : Int) ≤ (k : Int) := Int.natCast_nonneg k
  have UW : IntKind.u32.wrap (k : Int) = (k : Int) := by rw [IntKind.wrap_u32]; omega
  obtain ⟨s, hs⟩ : ∃ s : Int, s = 256 ^ j := ⟨_, rfl⟩
  have S := Lib.hid (fun wx => scale_calls at_ j hj hj4 wx)
  rw [← hs] at S
  have PF := Lib.hid (rputb_fin x v j y s hx32 hj4 hs hy)
  clear h hb hs hx32 hj hB hy
  go_enter Try.func48, Try.ntmps48
  go_wp2_with (go_at_call 58; refine H.out.mono ?_; rintro e w' ⟨rfl, rfl⟩)
  refine HB.out.mono ?_
  rintro e w1 ⟨rfl, k', hk'⟩
  have hp1 : w1.cell? ⟨b, 0, none⟩ = some (.slice (some ⟨d, 0, none⟩) n cap) := by (rw [hk']; exact hp)
  have hx1 : w1.cell? ⟨d, k, none⟩ = some (.int .u32 x) := by (rw [hk']; exact hx)
  have hf1 : w1.frozen? ⟨d, k, none⟩ = false := by (rw [hk']; exact hf)
  have HK := Lib.hid hk'
  clear hk' hp hx hf
  go_wp2
  refine wp_region_still_tail 26 (by kernel_rfl) (by kernel_rfl) ?_
  change wpStill _ _ w1.drew _ _ _
  simp only [List.take_succ_cons, List.take_zero, List.drop_succ_cons, List.drop_zero]
  repeat still_step
  still_call ((S.out _).mono fun _ _ ⟨h1, h2⟩ => ⟨h1, h2.symm⟩)
  repeat still_step
  still_call ((S.out _).mono fun _ _ ⟨h1, h2⟩ => ⟨h1, h2.symm⟩)
  repeat still_step
  refine wpStill_nil ?_
  go_wp2
  go_ret
  exact ⟨rfl, k', by rw [HK.out, PF.out]⟩
theorem r_putb {w : World} {r : Option (Nat × Nat)} {xs : List Nat} (h : MV 70 w r xs) (at_ v : Nat) (ha : at_ < 4294967296) : Calls Try.prog 48 #[pv r, .int .u32 at_, .int .u32 v] w (StoredV 70 w r (here xs at_) (pbL xs at_ v)) := by
  have hT := r_there h at_ ha
  have hY := r_byte h at_ ha
  by_cases hh : at_ / 4 < xs.length
  · rcases r with _ | x
    · have hx : xs = [] := h.2
      subst hx
      simp at hh
    · have hm : MT 70 w x.1 x.2 xs := h.2
      obtain ⟨cap, hp⟩ := hm.ptr
      have e : here xs at_ = true := by simp [here, hh]
      have ew : wordOf xs at_ = xs[at_ / 4] := by simp [wordOf, hh]
      have hx32 := hm.small _ (List.getElem_mem hh)
      rw [byI, e, if_pos rfl, ew] at hY
      rw [e] at hT
      rw [pbL, e, if_pos rfl, ew]
      refine Calls.mono (rputb_some x.1 x.2 (at_ / 4) xs.length cap (at_ % 4) _ v _ at_ w hT hp (by omega) (by omega) (by omega) (by omega) (by omega) (hm.cell hh) hx32 (hm.free _) rfl hY) ?_
      rintro e w' ⟨rfl, k', rfl⟩
      have hm2 := (hm.kept (w' := w.drewN k') rfl rfl).set (at_ / 4) _ (put_small xs[at_ / 4] (8 * (at_ % 4)) 8 v hx32 (by omega))
      refine ⟨rfl, ⟨by simpa using h.1, hm2.kept rfl rfl⟩, ?_, by simp⟩
      have hg := grown_set (w.drewN k') x.2 (at_ / 4) (.int .u32 (putN xs[at_ / 4] (8 * (at_ % 4)) 8 v))
      exact ⟨hg.os, hg.tape, hg.output, hg.size, hg.block⟩
  · have e : here xs at_ = false := by simp [here, hh]
    rw [pbL, e]
    rw [e] at hT
    refine Calls.mono (rputb_none _ at_ v w hT) ?_
    rintro e w' ⟨rfl, rfl⟩
    exact ⟨rfl, h, grown_self _ _, rfl⟩
end Go.Proofs.Ytibhfonmpefloaa
