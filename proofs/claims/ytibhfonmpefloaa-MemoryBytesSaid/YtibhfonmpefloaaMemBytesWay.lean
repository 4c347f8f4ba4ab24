/- MemoryBytes: the walk. -/
import Derived.Test.YtibhfonmpefloaaRows
import Derived.Test.YtibhfonmpefloaaMemBytes
import Derived.WalkKit
import Derived.WalkSmall
import Derived.ProofKit
import Derived.OpenShut
import Derived.ShutString
import Derived.ChangeOld
import Derived.Below
import Derived.SizedLaws
import Derived.Lib.SmallJoins
import Derived.Outline
namespace Go.Proofs.Ytibhfonmpefloaa
open Go.RowKit
theorem below_draws {w w' : World} (h : ∃ k, w' = w.drewN k) : Below w.heap.size w w' := by
  obtain ⟨k, rfl⟩ := h
  exact below_drewN (Below.refl _ _) k

theorem putN_lt (x j v : Nat) (hx : x < 4294967296) (hj : j < 4) : putN x (8 * j) 8 v < 4294967296 := put_small x _ _ v hx (by omega)
theorem at_set {xs : List Nat} {q y : Nat} (h : q < xs.length) (k : Nat) (hk : k / 4 = q) : wordOf (xs.set q y) k = y := by subst hk; simp [wordOf, h]
theorem at_word {xs : List Nat} {q : Nat} (h : q < xs.length) (k : Nat) (hk : k / 4 = q) : wordOf xs k = xs[q] := by subst hk; simp [wordOf, h]
theorem by_put {w : World} {b d : Nat} {xs : List Nat} (h : Mem w b d xs) (k q r v : Nat) (hk : k < 4294967296) (hq : k / 4 = q) (hr : k % 4 = r) (hl : q < xs.length) :
    Calls Try.prog 35 #[.pointer (some ⟨b, 0, none⟩), .int .u32 k, .int .u32 v] w fun e w' => e = .returned (.bool true) ∧ Mem w' b d (xs.set q (putN xs[q] (8 * r) 8 v)) ∧ w.grownBy w' (some d) ∧ w'.heap.size = w.heap.size := by
  subst hq hr
  have e : here xs k = true := by simp [here, hl]
  refine Calls.mono (mem_putb h k v hk) ?_
  rintro e' w' ⟨rfl, h1, h2, h3⟩
  rw [e, if_pos rfl, at_word hl k rfl] at h1
  exact ⟨by rw [e], h1, h2, h3⟩
theorem by_load {w : World} {b d : Nat} {xs : List Nat} (B q y : Nat) (h : Mem w b d (xs.set q y)) (hB : B = 4 * q) (hb : B < 4294967296) (hl : q < xs.length) :
    Calls Try.prog 36 #[.pointer (some ⟨b, 0, none⟩), .int .u32 B] w fun e w' => e = .returned (.tuple #[.int .u32 y, .bool true]) ∧ w = w' := by
  have e : full (xs.set q y) B = true := by simp [full]; omega
  refine (mem_load h B hb).mono ?_
  rintro e' w' ⟨rfl, rfl⟩
  rw [e, if_pos rfl, at_set hl B (by omega)]
  exact ⟨rfl, rfl⟩
theorem by_byte {w : World} {b d : Nat} {xs : List Nat} (B q y i : Nat) (h : Mem w b d (xs.set q y)) (hB : B = 4 * q) (hb : B + i < 4294967296) (hl : q < xs.length) (hi : i < 4) :
    Calls Try.prog 37 #[.pointer (some ⟨b, 0, none⟩), .int .u32 ((B : Int) + (i : Int))] w fun e w' => e = .returned (.tuple #[.int .u32 ((y / 2 ^ (8 * i) % 256 : Nat) : Int), .bool true]) ∧ w = w' := by
  have e : here (xs.set q y) (B + i) = true := by simp [here]; omega
  have h := mem_byte h (B + i) hb
  rw [e, if_pos rfl, at_set hl (B + i) (by omega), show (B + i) % 4 = i by omega, Int.natCast_add] at h
  exact h
set_option maxHeartbeats 40000000 in
set_option maxRecDepth 100000 in
theorem memoryBytes_way (b off len cap N k B q r x y at_ v z0 z1 z2 z3 s1 s2 s3 : Nat) (xs : List Nat) (w : World) (hl : xs.length = len) (h0 : ((len : Int) == 0) = false) (h3 : ¬ (3000 : Int) < (len : Int)) (hs : ∀ x ∈ xs, x < 4294967296)
    (hc : ∀ j (h : j < xs.length), w.cell? ⟨b, off + j, none⟩ = some (.int .u32 (xs[j] : Nat))) (hv : v < 4294967296) (hN : N = len * 4) (hk : (at_ : Int) % (N : Int) = (k : Int)) (hr : (k : Int) % 4 = (r : Int)) (hB : B = k - r) (hq : (B : Int) / 4 = (q : Int))
    (hx : xs[q]? = some x) (hy : y = putN x (8 * r) 8 v)
    (hz : z0 = y / 2 ^ (8 * 0) % 256 ∧ z1 = y / 2 ^ (8 * 1) % 256 ∧ z2 = y / 2 ^ (8 * 2) % 256 ∧ z3 = y / 2 ^ (8 * 3) % 256) (hs1 : s1 = y % 256) (hs2 : s2 = y % 65536) (hs3 : s3 = y % 16777216) :
    Calls Try.prog 10 #[.slice (some ⟨b, off, none⟩) len cap, .int .u32 at_, .int .u32 v] w fun e w' => e = .returned (.bool true) ∧ Below w.heap.size w w' := by
  obtain ⟨i0, hi, hz0, hz1, hz2⟩ := info_parts info22
  have hlen : 0 < len ∧ len ≤ 3000 := by simp at h0; omega
  have hkN : (k : Int) < (N : Int) := by rw [← hk]; exact Int.emod_lt_of_pos _ (by omega)
  have hql : q < xs.length := by omega
  have hxq : xs[q] = x := by rw [List.getElem?_eq_getElem hql] at hx; simpa using hx
  have HL := Lib.hid hl
  have HC := Lib.hid (W32_cells hc)
  have CQ := Lib.hid (hc q hql)
  have B2 := Lib.hid (show 0 + len ≤ maxLen by unfold maxLen; omega)
  have B3 := Lib.hid (show (0 + len) * 4 ≤ 140737488355328 by omega)
  have HM5 := Lib.hid (show (xs.length : Int) ≤ 65536 by omega)
  have HS := Lib.hid hs
  have PB := Lib.hid (fun (wx : World) (b d : Nat) (h : Mem wx b d xs) => by_put h k q r v (by omega) (by omega) (by omega) hql)
  have LD := Lib.hid (fun (wx : World) (b d y : Nat) (h : Mem wx b d (xs.set q y)) => by_load B q y h (by omega) (by omega) hql)
  have BY := Lib.hid (fun (wx : World) (b d y i : Nat) (hi : i < 4) (h : Mem wx b d (xs.set q y)) => by_byte B q y i h (by omega) (by omega) hql hi)
  have HBB := Lib.hid (show B < 4294967290 by omega)
  have HY := Lib.hid hy
  have HR := Lib.hid (show r = 0 ∨ r = 1 ∨ r = 2 ∨ r = 3 by omega)
  have hx32 : x < 4294967296 := by rw [← hxq]; exact hs _ (List.getElem_mem hql)
  have EV0 := Lib.hid (fun (h : r = 0) => byte_is0 x y v r z0 hv hy hz.1 h)
  have EX0 := Lib.hid (fun (h : r ≠ 0) => byte_on0 x y v r z0 hx32 hy hz.1 (by omega) h)
  have ZB0 : (z0 : Int) ≤ 255 := by rw [hz.1]; omega
  have EV1 := Lib.hid (fun (h : r = 1) => byte_is1 x y v r z1 hv hy hz.2.1 h)
  have EX1 := Lib.hid (fun (h : r ≠ 1) => byte_on1 x y v r z1 hx32 hy hz.2.1 (by omega) h)
  have ZB1 : (z1 : Int) ≤ 255 := by rw [hz.2.1]; omega
  have EV2 := Lib.hid (fun (h : r = 2) => byte_is2 x y v r z2 hv hy hz.2.2.1 h)
  have EX2 := Lib.hid (fun (h : r ≠ 2) => byte_on2 x y v r z2 hx32 hy hz.2.2.1 (by omega) h)
  have ZB2 : (z2 : Int) ≤ 255 := by rw [hz.2.2.1]; omega
  have EV3 := Lib.hid (fun (h : r = 3) => byte_is3 x y v r z3 hv hy hz.2.2.2 h)
  have EX3 := Lib.hid (fun (h : r ≠ 3) => byte_on3 x y v r z3 hx32 hy hz.2.2.2 (by omega) h)
  have ZB3 : (z3 : Int) ≤ 255 := by rw [hz.2.2.2]; omega
  have HYB := Lib.hid (show y < 4294967296 by rw [hy]; exact putN_lt x r v hx32 (by omega))
  have QW : q % 4294967296 = q := by omega
  have W1 : IntKind.u32.wrap ((len : Int) * 4) = (N : Int) := by rw [IntKind.wrap_u32]; omega
  have W0 : wrap64 ((len : Int) * 4) = (len : Int) * 4 := by unfold wrap64; omega
  have W2 : IntKind.u32.wrap ((k : Int) - (r : Int)) = (B : Int) := by rw [IntKind.wrap_u32]; omega
  have N0 : ((N : Int) == 0) = false := by simp; omega
  have N1 : ¬ (N : Int) = 0 := by omega
  clear hl hs hc hv hN hB hkN hy hx32
  go_enter Try.func10, Try.ntmps10
  go_wp2_with (first
    | (at_builtin; refine wpList_append_own _ rfl _ _ 38 rfl w.heap.size 22 i0 (.int .u32 0) 1 4 Try.underlying38 hi hz0 hz1 hz2 rfl (by decide) _ 0 [] rfl (World.ownsRow_lit w #[] 0 (Nat.le_refl _) (by decide) rfl) ⟨b, off, none⟩ len cap (W32 xs) rfl (by rw [← HL.out]; simp [W32]) (fun j u hu => cell_kept ⟨rfl, rfl, rfl, Nat.le_refl _, fun _ _ _ => rfl⟩ (HC.out j u hu)) (one_W32 xs) B2.out B3.out (by simp) ?_; intro v' w1 hown hgrow hnil))
  have hv' : v' ≠ .slice none 0 0 := fun e => by have h : Value.slice (some ⟨w.heap.size, 0, none⟩) 0 0 = .slice none 0 0 := (hnil.1 e).1; simp at h
  have hgrow : (w.alloc (.cells #[] 22)).grownBy w1 (some w.heap.size) := hgrow
  obtain ⟨g, c, rfl, hNC⟩ := copied (n := 0 + len) (by simpa using hown) hv' (by rw [HL.out]; simp) HM5.out HS.out
  have NC := Lib.hid hNC
  have GR := Lib.hid (show Below w.heap.size w w1 from ((Below.refl w.heap.size w).alloc (Nat.le_refl _) _).grown hgrow (by simp) (fun k hk => by simp at hk; omega))
  clear hown hgrow hnil hNC hv'
  refine NC.out.mono ?_
  rintro e w2 ⟨b2, d, rfl, hM, hb, hd, hB⟩
  have HM := Lib.hid hM
  have HB := Lib.hid (GR.out.trans (hB.mono GR.out.size))
  have HD := Lib.hid (Nat.le_trans GR.out.size hd)
  clear hM hb hd hB
  go_wp2_with fail
  refine (PB.out w2 b2 d HM.out).mono ?_
  rintro e w3 ⟨rfl, h1, h2, _⟩
  rw [hxq, ← HY.out] at h1
  have HM3 := Lib.hid h1
  have HB3 := Lib.hid (HB.out.grown h2 HB.out.size (fun k hk => by have := HD.out; simp at hk; omega))
  have CQ3 : w3.cell? ⟨b, off + q, none⟩ = some (.int .u32 (x : Int)) := by
    have := CQ.out
    rw [hxq] at this
    rw [HB3.out.cell (World.block_lt_of_cell? w _ this)]
    exact this
  clear h1 h2
  go_wp2_with (go_at_call 36; refine (LD.out w3 b2 d y HM3.out).mono ?_; rintro e w4 ⟨rfl, rfl⟩)
  have OR0 := Lib.hid (show Go.bits .or .u32 0 (z0 : Int) = (s1 : Int) from by have h := or_parts 0 z0 0 (by decide) (by omega); rw [hs1, show y % 256 = 0 + z0 * 2 ^ 0 by rw [hz.1]; omega]; rw [show z0 * 2 ^ 0 = z0 by omega] at h ⊢; exact h)
  have OR1 := Lib.hid (show Go.bits .or .u32 (s1 : Int) ((z1 : Int) * 256) = (s2 : Int) from by have h := or_parts s1 z1 8 (by omega) (by omega); rw [show s1 + z1 * 2 ^ 8 = s2 by rw [hz.2.1, hs1, hs2]; omega] at h; rw [Int.natCast_mul] at h; exact h)
  have OR2 := Lib.hid (show Go.bits .or .u32 (s2 : Int) ((z2 : Int) * 65536) = (s3 : Int) from by have h := or_parts s2 z2 16 (by omega) (by omega); rw [show s2 + z2 * 2 ^ 16 = s3 by rw [hz.2.2.1, hs2, hs3]; omega] at h; rw [Int.natCast_mul] at h; exact h)
  have OR3 := Lib.hid (show Go.bits .or .u32 (s3 : Int) ((z3 : Int) * 16777216) = (y : Int) from by have h := or_parts s3 z3 24 (by omega) (by omega); rw [show s3 + z3 * 2 ^ 24 = y by rw [hz.2.2.2, hs3]; have := HYB.out; omega] at h; rw [Int.natCast_mul] at h; exact h)
  clear hs1 hs2 hs3
  have BY0 := Lib.hid (show Calls Try.prog 37 #[.pointer (some ⟨b2, 0, none⟩), .int .u32 ((B : Int) % 4294967296)] w3 fun e w' => e = .returned (.tuple #[.int .u32 (z0 : Int), .bool true]) ∧ w3 = w' from by have h := BY.out w3 b2 d y 0 (by decide) HM3.out; rw [← hz.1] at h; rw [show ((B : Int) % 4294967296) = (B : Int) + ((0 : Nat) : Int) by have := HBB.out; omega]; exact h)
  have BY1 := Lib.hid (show Calls Try.prog 37 #[.pointer (some ⟨b2, 0, none⟩), .int .u32 (((B : Int) + 1) % 4294967296)] w3 fun e w' => e = .returned (.tuple #[.int .u32 (z1 : Int), .bool true]) ∧ w3 = w' from by have h := BY.out w3 b2 d y 1 (by decide) HM3.out; rw [← hz.2.1] at h; rw [show (((B : Int) + 1) % 4294967296) = (B : Int) + ((1 : Nat) : Int) by have := HBB.out; omega]; exact h)
  have BY2 := Lib.hid (show Calls Try.prog 37 #[.pointer (some ⟨b2, 0, none⟩), .int .u32 (((B : Int) + 2) % 4294967296)] w3 fun e w' => e = .returned (.tuple #[.int .u32 (z2 : Int), .bool true]) ∧ w3 = w' from by have h := BY.out w3 b2 d y 2 (by decide) HM3.out; rw [← hz.2.2.1] at h; rw [show (((B : Int) + 2) % 4294967296) = (B : Int) + ((2 : Nat) : Int) by have := HBB.out; omega]; exact h)
  have BY3 := Lib.hid (show Calls Try.prog 37 #[.pointer (some ⟨b2, 0, none⟩), .int .u32 (((B : Int) + 3) % 4294967296)] w3 fun e w' => e = .returned (.tuple #[.int .u32 (z3 : Int), .bool true]) ∧ w3 = w' from by have h := BY.out w3 b2 d y 3 (by decide) HM3.out; rw [← hz.2.2.2] at h; rw [show (((B : Int) + 3) % 4294967296) = (B : Int) + ((3 : Nat) : Int) by have := HBB.out; omega]; exact h)
  clear hz
  go_loop [13, 14] (fun s i => (i = .int .u32 0 ∧ s = .int .u32 0) ∨ (i = .int .u32 1 ∧ s = .int .u32 (s1 : Int)) ∨ (i = .int .u32 2 ∧ s = .int .u32 (s2 : Int)) ∨ (i = .int .u32 3 ∧ s = .int .u32 (s3 : Int)) ∨ (i = .int .u32 4 ∧ s = .int .u32 (y : Int))) (fun _ i => 4 - (intOf i).toNat)
  case atStart => exact .inl ⟨rfl, rfl⟩
  case round =>
    have hqL : (q : Int) < (len : Int) := by have := HL.out; omega
    clear CQ HC PB LD BY HM3
    clear hlen hxq hql hx W1 W0 W2 N0 N1 h3 h0
    rcases hrel with ⟨rfl, rfl⟩ | ⟨rfl, rfl⟩ | ⟨rfl, rfl⟩ | ⟨rfl, rfl⟩ | ⟨rfl, rfl⟩
    · have ZB := ZB0
      rcases HR.out with h | h | h | h
      all_goals have hr' := hr
      all_goals rw [h] at hr'
      all_goals clear hr ZB0 ZB1 ZB2 ZB3
      all_goals first | have AV := EV0.out h | have AX := EX0.out (by omega)
      all_goals clear h
      all_goals go_wp2_with (go_at_call 37; (with_reducible refine BY0.out.mono ?_); rintro e w4 ⟨rfl, rfl⟩)
      all_goals
        go_round
        case rel => exact .inr (.inl ⟨rfl, congrArg (Value.int .u32) OR0.out⟩)
        case measure => simp [intOf]
    · have ZB := ZB1
      rcases HR.out with h | h | h | h
      all_goals have hr' := hr
      all_goals rw [h] at hr'
      all_goals clear hr ZB0 ZB1 ZB2 ZB3
      all_goals first | have AV := EV1.out h | have AX := EX1.out (by omega)
      all_goals clear h
      all_goals go_wp2_with (go_at_call 37; (with_reducible refine BY1.out.mono ?_); rintro e w4 ⟨rfl, rfl⟩)
      all_goals
        go_round
        case rel => exact .inr (.inr (.inl ⟨rfl, congrArg (Value.int .u32) OR1.out⟩))
        case measure => simp [intOf]
    · have ZB := ZB2
      rcases HR.out with h | h | h | h
      all_goals have hr' := hr
      all_goals rw [h] at hr'
      all_goals clear hr ZB0 ZB1 ZB2 ZB3
      all_goals first | have AV := EV2.out h | have AX := EX2.out (by omega)
      all_goals clear h
      all_goals go_wp2_with (go_at_call 37; (with_reducible refine BY2.out.mono ?_); rintro e w4 ⟨rfl, rfl⟩)
      all_goals
        go_round
        case rel => exact .inr (.inr (.inr (.inl ⟨rfl, congrArg (Value.int .u32) OR2.out⟩)))
        case measure => simp [intOf]
    · have ZB := ZB3
      rcases HR.out with h | h | h | h
      all_goals have hr' := hr
      all_goals rw [h] at hr'
      all_goals clear hr ZB0 ZB1 ZB2 ZB3
      all_goals first | have AV := EV3.out h | have AX := EX3.out (by omega)
      all_goals clear h
      all_goals go_wp2_with (go_at_call 37; (with_reducible refine BY3.out.mono ?_); rintro e w4 ⟨rfl, rfl⟩)
      all_goals
        go_round
        case rel => exact .inr (.inr (.inr (.inr ⟨rfl, congrArg (Value.int .u32) OR3.out⟩)))
        case measure => simp [intOf]
    · go_wp2_with (go_at_call 33; (with_reducible refine (wakes04 _).mono ?_); rintro e w4 ⟨rfl, hB4⟩; have HB4 := Lib.hid (HB3.out.trans (hB4.mono HB3.out.size)); clear hB4)
      go_ret
      exact ⟨rfl, HB4.out⟩
end Go.Proofs.Ytibhfonmpefloaa
