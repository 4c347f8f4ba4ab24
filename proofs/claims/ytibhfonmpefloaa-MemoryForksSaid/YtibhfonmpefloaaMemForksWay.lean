/- MemoryForks: the walk. -/
import Derived.Test.YtibhfonmpefloaaRows
import Derived.Test.YtibhfonmpefloaaMemForks
import Derived.WalkKit
import Derived.WalkSmall
import Derived.ProofKit
import Derived.OpenShut
import Derived.ShutString
import Derived.ChangeOld
import Derived.Below
import Derived.SizedLaws
import Derived.Lib.SmallJoins
import Derived.Outline
namespace Go.Proofs.Ytibhfonmpefloaa
open Go.RowKit
theorem below_draws {w w' : World} (h : ∃ k, w' = w.drewN k) : Below w.heap.size w w' := by
  obtain ⟨k, rfl⟩ := h
  exact below_drewN (Below.refl _ _) k

set_option maxHeartbeats 40000000 in
set_option maxRecDepth 100000 in
theorem memoryForks_way (b off len cap k q x at_ v v1 : Nat) (xs : List Nat) (w : World) (hl : xs.length = len) (h0 : ((len : Int) == 0) = false) (h3 : ¬ (3000 : Int) < (len : Int)) (hs : ∀ x ∈ xs, x < 4294967296)
    (hc : ∀ j (h : j < xs.length), w.cell? ⟨b, off + j, none⟩ = some (.int .u32 (xs[j] : Nat))) (hv : v < 4294967296) (hv1 : v1 = (v + 1) % 4294967296) (hk : (at_ : Int) % (len : Int) = (q : Int)) (hk4 : k = 4 * q)
    (hx : xs[q]? = some x) :
    Calls Try.prog 11 #[.slice (some ⟨b, off, none⟩) len cap, .int .u32 at_, .int .u32 v] w fun e w' => e = .returned (.bool true) ∧ Below w.heap.size w w' := by
  obtain ⟨i0, hi, hz0, hz1, hz2⟩ := info_parts info22
  have hlen : 0 < len ∧ len ≤ 3000 := by simp at h0; omega
  have hqI : (q : Int) < (len : Int) := by rw [← hk]; exact Int.emod_lt_of_pos _ (by omega)
  have hql : q < xs.length := by omega
  have HL := Lib.hid hl
  have HLE := Lib.hid hlen
  have HC := Lib.hid (W32_cells hc)
  have HCC := Lib.hid hc
  have B2 := Lib.hid (show 0 + len ≤ maxLen by unfold maxLen; omega)
  have B3 := Lib.hid (show (0 + len) * 4 ≤ 140737488355328 by omega)
  have HM5 := Lib.hid (show (xs.length : Int) ≤ 65536 by omega)
  have HS := Lib.hid hs
  have HX := Lib.hid hx
  have HQ := Lib.hid hql
  have HV := Lib.hid hv
  have HV1 := Lib.hid (show v1 < 4294967296 by omega)
  have HK4 := Lib.hid hk4
  have HK32 := Lib.hid (show k < 4294967296 by omega)
  have W1 : IntKind.u32.wrap (len : Int) = (len : Int) := by rw [IntKind.wrap_u32]; omega
  have W2 : IntKind.u32.wrap ((q : Int) * 4) = (k : Int) := by rw [IntKind.wrap_u32]; omega
  have W3 : IntKind.u32.wrap ((v : Int) + 1) = (v1 : Int) := by rw [IntKind.wrap_u32]; omega
  have W4 : (k : Int) / 4 = (q : Int) := by omega
  have QW : q % 4294967296 = q := by omega
  have N1 : ¬ (len : Int) = 0 := by omega
  clear hl hs hc hv hv1 hk4 hx hql hlen
  go_enter Try.func11, Try.ntmps11
  go_wp2_with (at_builtin; refine wpList_append_own _ rfl _ _ 38 rfl w.heap.size 22 i0 (.int .u32 0) 1 4 Try.underlying38 hi hz0 hz1 hz2 rfl (by decide) _ 0 [] rfl (World.ownsRow_lit w #[] 0 (Nat.le_refl _) (by decide) rfl) ⟨b, off, none⟩ len cap (W32 xs) rfl (by rw [← HL.out]; simp [W32]) (fun j u hu => cell_kept ⟨rfl, rfl, rfl, Nat.le_refl _, fun _ _ _ => rfl⟩ (HC.out j u hu)) (one_W32 xs) B2.out B3.out (by simp) ?_; intro v' w1 hown hgrow hnil)
  have hv' : v' ≠ .slice none 0 0 := fun e => by have h : Value.slice (some ⟨w.heap.size, 0, none⟩) 0 0 = .slice none 0 0 := (hnil.1 e).1; simp at h
  have hgrow : (w.alloc (.cells #[] 22)).grownBy w1 (some w.heap.size) := hgrow
  obtain ⟨g, c, rfl, hNC⟩ := copied (n := 0 + len) (by simpa using hown) hv' (by rw [HL.out]; simp) HM5.out HS.out
  have NC := Lib.hid hNC
  have GR := Lib.hid (show Below w.heap.size w w1 from ((Below.refl w.heap.size w).alloc (Nat.le_refl _) _).grown hgrow (by simp) (fun k hk => by simp at hk; omega))
  clear hown hgrow hnil hNC hv'
  refine NC.out.mono ?_
  rintro e w2 ⟨b2, d2, rfl, hM, hb, hd, hB⟩
  have HM := Lib.hid hM
  have HB := Lib.hid (GR.out.trans (hB.mono GR.out.size))
  have HD2 := Lib.hid (Nat.le_trans GR.out.size hd)
  clear hM hb hd hB
  go_wp2_with fail
  refine (fork_mem HM.out HM5.out).mono ?_
  rintro e w3 ⟨b3, d3, rfl, hM, hb, hd, hB⟩
  have HMa := Lib.hid (HM.out.below_all hB)
  have HMb := Lib.hid hM
  have N23 := Lib.hid (show b2 ≠ d3 ∧ d2 ≠ d3 ∧ b3 ≠ d2 ∧ d3 ≠ d2 by have := HM.out.lt; omega)
  have HB3 := Lib.hid (HB.out.trans (hB.mono HB.out.size))
  have HD3 := Lib.hid (Nat.le_trans HB.out.size hd)
  clear hM hb hd hB
  go_wp2_with fail
  refine (st_word HMb.out k q v HK4.out HK32.out HQ.out HV.out).mono ?_
  rintro e w4 ⟨rfl, h1, h2, _⟩
  have HMb4 := Lib.hid h1
  have HMa4 := Lib.hid (HMa.out.apart h2 N23.out.1 N23.out.2.1)
  have HB4 := Lib.hid (HB3.out.grown h2 HB3.out.size (fun k hk => by have := HD3.out; simp at hk; omega))
  have LA := Lib.hid (ld_word HMa4.out k q x HK4.out HK32.out HX.out)
  have LB := Lib.hid (ld_word HMb4.out k q v HK4.out HK32.out (by have := HQ.out; simp [this]))
  have CQ4 : w4.cell? ⟨b, off + q, none⟩ = some (.int .u32 (x : Int)) := by
    have h := HCC.out q HQ.out
    have hxq : xs[q]'HQ.out = x := by have := HX.out; rw [List.getElem?_eq_getElem HQ.out] at this; simpa using this
    rw [hxq] at h
    rw [HB4.out.cell (World.block_lt_of_cell? w _ h)]
    exact h
  clear h1 h2
  go_wp2_with (go_at_call 36; (first | (with_reducible refine LA.out.mono ?_) | (with_reducible refine LB.out.mono ?_)); rintro e w5 ⟨rfl, rfl⟩)
  refine (st_word HMa4.out k q v1 HK4.out HK32.out HQ.out HV1.out).mono ?_
  rintro e w5 ⟨rfl, h1, h2, _⟩
  have HMa5 := Lib.hid h1
  have HMb5 := Lib.hid (HMb4.out.apart h2 N23.out.2.2.1 N23.out.2.2.2)
  have HB5 := Lib.hid (HB4.out.grown h2 HB4.out.size (fun k hk => by have := HD2.out; simp at hk; omega))
  have LB5 := Lib.hid (ld_word HMb5.out k q v HK4.out HK32.out (by have := HQ.out; simp [this]))
  have WA := Lib.hid (words_all HMa5.out (len := len) (by rw [List.length_set]; exact HL.out) HLE.out.1 (by have := HLE.out.2; omega))
  clear h1 h2 CQ4
  go_wp2_with (go_at_call 36; (with_reducible refine LB5.out.mono ?_); rintro e w6 ⟨rfl, rfl⟩)
  refine WA.out.mono ?_
  rintro e w6 ⟨gx, cx, rfl, hx1, hx2, hB⟩
  have HX1 := Lib.hid hx1
  have HMb6 := Lib.hid (HMb5.out.below_all hB)
  have HB6 := Lib.hid (HB5.out.trans (hB.mono HB5.out.size))
  have WB := Lib.hid (words_all HMb6.out (len := len) (by rw [List.length_set]; exact HL.out) HLE.out.1 (by have := HLE.out.2; omega))
  clear hx1 hx2 hB
  go_wp2_with fail
  refine WB.out.mono ?_
  rintro e w7 ⟨gy, cy, rfl, hy1, hy2, hB⟩
  have HY1 := Lib.hid hy1
  have HX7 := Lib.hid (show ∀ j z : Nat, (xs.set q v1)[j]? = some z → w7.cell? ⟨gx, j, none⟩ = some (.int .u32 (z : Int)) from fun j z h => by rw [hB.cell (World.block_lt_of_cell? w6 _ (HX1.out j z h))]; exact HX1.out j z h)
  have HB7 := Lib.hid (HB6.out.trans (hB.mono HB6.out.size))
  have HW7 := Lib.hid (show ∀ j (h : j < xs.length), w7.cell? ⟨b, off + j, none⟩ = some (.int .u32 (xs[j] : Nat)) from fun j h => by rw [HB7.out.cell (World.block_lt_of_cell? w _ (HCC.out j h))]; exact HCC.out j h)
  clear hy1 hy2 hB
  go_wp2_with fail
  go_loopw [21] (fun i wr => ∃ j n : Nat, j ≤ len ∧ i = .int .i64 j ∧ wr = w7.drewN n) (fun i _ => len - (intOf i).toNat)
  case atStart => exact ⟨0, 0, Nat.zero_le _, rfl, rfl⟩
  case round =>
    clear W1 W2 W3 QW N1 hk hqI
    obtain ⟨j, n, hj, rfl, rfl⟩ := hrel
    have H3 := Lib.hid h3
    have HJ := Lib.hid hj
    by_cases hlt : j < len
    · have JW : IntKind.u32.wrap (j : Int) = (j : Int) := by have := HLE.out.2; rw [IntKind.wrap_u32]; omega
      have hjx : j < xs.length := by have := HL.out; omega
      by_cases hjq : j = q
      · subst hjq
        clear HX7 HY1 HW7
        go_wp2
        go_quiet (fail)
        go_wp2
        go_roundw
        case rel => exact ⟨j + 1, _, by omega, by go_num, rfl⟩
        case measure => simp [intOf]; omega
      · have CX : w7.cell? ⟨gx, j, none⟩ = some (.int .u32 (xs[j] : Nat)) := HX7.out j xs[j] (by rw [List.getElem?_set_ne (Ne.symm hjq)]; simp)
        have CY : w7.cell? ⟨gy, j, none⟩ = some (.int .u32 (xs[j] : Nat)) := HY1.out j xs[j] (by rw [List.getElem?_set_ne (Ne.symm hjq)]; simp)
        have CW : w7.cell? ⟨b, off + j, none⟩ = some (.int .u32 (xs[j] : Nat)) := HW7.out j hjx
        have NE2 : ((j : Int) != (q : Int)) = true := by simp; omega
        have WQ : IntKind.u32.wrap (q : Int) = (q : Int) := by have := HQ.out; have := HL.out; have := HLE.out.2; rw [IntKind.wrap_u32]; omega
        obtain ⟨z, hz⟩ : ∃ z, z = xs[j] := ⟨_, rfl⟩
        rw [← hz] at CX CY CW
        clear HX7 HY1 HW7 hz hjq
        go_wp2
        go_quiet (fail)
        go_wp2
        go_roundw
        case rel => exact ⟨j + 1, _, by omega, by go_num, rfl⟩
        case measure => simp [intOf]; omega
    · go_wp2_with (go_at_call 33; (with_reducible refine (wakes04 _).mono ?_); rintro e w8 ⟨rfl, hB8⟩; have HB8 := Lib.hid ((below_drewN HB7.out n).trans (hB8.mono (below_drewN HB7.out n).size)); clear hB8)
      go_ret
      exact ⟨rfl, HB8.out⟩
end Go.Proofs.Ytibhfonmpefloaa
