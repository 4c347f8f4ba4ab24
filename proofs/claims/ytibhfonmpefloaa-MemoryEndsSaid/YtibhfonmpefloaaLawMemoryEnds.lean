/- MemoryEnds: every number of words, every place: just the words that are there are there. For every input, without a condition. -/
import Derived.Test.YtibhfonmpefloaaRows
import Derived.Test.YtibhfonmpefloaaWakes04
import Derived.WalkKit
import Derived.WalkSmall
import Derived.ProofKit
import Derived.OpenShut
import Derived.ShutString
import Derived.ChangeOld
import Derived.Below
import Derived.SizedLaws
import Derived.Lib.SmallJoins
import Derived.Outline
namespace Go.Proofs.Ytibhfonmpefloaa
open Go.RowKit
theorem below_draws {w w' : World} (h : ∃ k, w' = w.drewN k) : Below w.heap.size w w' := by
  obtain ⟨k, rfl⟩ := h
  exact below_drewN (Below.refl _ _) k

theorem W32_rep (m : Nat) : W32 (List.replicate m 0) = List.replicate m (.int .u32 0) := by simp [W32]
theorem rep_small (m : Nat) : ∀ x ∈ List.replicate m 0, x < 4294967296 := by intro x hx; rw [(List.mem_replicate.1 hx).2]; decide
/-- Load and Byte of an all-zero memory, with what the place is. -/
theorem ends_load {w : World} {b d m at_ : Nat} (h : Mem w b d (List.replicate m 0)) (ha : at_ < 4294967296) (f : Bool) (hf : (decide (at_ / 4 < m) && at_ % 4 == 0) = f) :
    Calls Try.prog 36 #[.pointer (some ⟨b, 0, none⟩), .int .u32 at_] w fun e w' => (∃ x : Int, e = .returned (.tuple #[.int .u32 x, .bool f])) ∧ w = w' := by
  refine (mem_load h at_ ha).mono ?_
  rintro e w' ⟨rfl, rfl⟩
  have hh : full (List.replicate m 0) at_ = f := by rw [← hf]; simp only [full, List.length_replicate]
  rw [hh]
  exact ⟨⟨_, rfl⟩, rfl⟩
theorem ends_byte {w : World} {b d m at_ : Nat} (h : Mem w b d (List.replicate m 0)) (ha : at_ < 4294967296) (f : Bool) (hf : decide (at_ / 4 < m) = f) :
    Calls Try.prog 37 #[.pointer (some ⟨b, 0, none⟩), .int .u32 at_] w fun e w' => (∃ x : Int, e = .returned (.tuple #[.int .u32 x, .bool f])) ∧ w = w' := by
  refine (mem_byte h at_ ha).mono ?_
  rintro e w' ⟨rfl, rfl⟩
  have hh : here (List.replicate m 0) at_ = f := by rw [← hf]; simp only [here, List.length_replicate]
  rw [hh]
  exact ⟨⟨_, rfl⟩, rfl⟩
theorem made_cells {w : World} {base g m : Nat} {e : TypeId} (h : w.ownsRow base e 1 (.slice (some ⟨g, 0, none⟩) m m) m (List.replicate m (.int .u32 0))) :
    ∀ j u, (W32 (List.replicate m 0))[j]? = some u → w.cell? ((⟨g, 0, none⟩ : Addr).add j) = some u := by
  obtain ⟨cur, C1, C2, C3, _, _⟩ := made_block h
  intro j u hu
  have hc : cur = W32 (List.replicate m 0) := by rw [W32_rep, ← C3.out, List.take_of_length_le (by rw [C2.out]; exact Nat.le_refl _)]
  rw [add_at0]
  unfold World.cell?
  dsimp only
  rw [C1.out, hc]
  simp [hu]
theorem wordAt_nil (at_ k : Nat) (hk : (at_ : Int) / 4 = (k : Int)) (hb : (k : Int) < 1073741824) (w : World) : WordAt w (.pointer none) at_ none := by
  intro w1 hw
  subst hw
  exact word_nil k at_ _ hk hb

set_option maxHeartbeats 2000000 in
set_option maxRecDepth 100000 in
theorem memoryEnds_way (n m at_ q r : Nat) (f g : Bool) (w : World) (hm : (n : Int) % 70 = (m : Int)) (_hm2 : (m : Int) < 70) (hn : (n : Int) < 65536) (ha : at_ < 4294967296)
    (hq : (at_ : Int) / 4 = (q : Int)) (hr : (at_ : Int) % 4 = (r : Int)) (hq2 : (q : Int) < 1073741824) (hg : decide ((q : Int) < (m : Int)) = g) (hf : ((r : Int) == 0) = f) :
    Calls Try.prog 13 #[.int .u16 n, .int .u32 at_] w fun e w' => e = .returned (.bool true) ∧ Below w.heap.size w w' := by
  obtain ⟨i0, hi, hz0, hz1, hz2⟩ := info_parts info22
  have B2 := Lib.hid (show i0.bytes * m ≤ 281474976710656 by rw [hz2]; omega)
  have B3 := Lib.hid (show m ≤ maxLen by unfold maxLen; omega)
  have B4 := Lib.hid (show (m : Int) ≤ 65536 by omega)
  have HA := Lib.hid ha
  have WN := Lib.hid (fun wx => wordAt_nil at_ q hq hq2 wx)
  have HG := Lib.hid (show decide (at_ / 4 < m) = g by rw [← hg]; congr 1; apply propext; constructor <;> intro h <;> omega)
  have HF := Lib.hid (show (decide (at_ / 4 < m) && at_ % 4 == 0) = (g && f) by
    rw [← hf, HG.out]
    congr 1
    rw [Bool.eq_iff_iff]; simp; omega)
  have HGE := Lib.hid (show g = decide ((q : Int) % 4294967296 < (m : Int) % 4294967296) by rw [← hg]; congr 1; apply propext; constructor <;> intro h <;> omega)
  have WM : IntKind.u32.wrap ((n : Int) % 70) = (m : Int) := by rw [hm, IntKind.wrap_u32]; omega
  clear ha hq2
  go_enter Try.func13, Try.ntmps13
  have MC : ∀ w1 : World, w1.ownsRow w.heap.size 22 1 (.slice (some ⟨w.heap.size, 0, none⟩) m m) m (madeCells (Value.int .u32 0).cells (m * 1)).toList → Hid (∀ j u, (W32 (List.replicate m 0))[j]? = some u → w1.cell? ((⟨w.heap.size, 0, none⟩ : Addr).add j) = some u) := by
    intro w1 hown
    exact made_cells (by simpa [madeCells, Value.cells, Nat.mod_one, List.map_const'] using hown)
  go_wp2_with (first
    | (at_make; refine wpList_make_full _ rfl _ _ 38 rfl w.heap.size 22 i0 (.int .u32 0) 1 Try.underlying38 hi hz0 hz1 .i64 .i64 _ _ m rfl rfl hm hm B2.out B3.out (Nat.le_refl _) ?_; intro w1 hown hgrow; have NC := Lib.hid (new_mem (some ⟨w.heap.size, 0, none⟩) m m (List.replicate m 0) w1 (by simp) B4.out (rep_small m) (fun _ => ⟨_, rfl, (MC w1 hown).out⟩)); have GR := Lib.hid (below_grown hgrow); clear hown hgrow)
    | (go_at_call 34; (with_reducible refine NC.out.mono ?_); rintro e w2 ⟨b, d, rfl, hM, hb, hd, hB⟩; have HM := Lib.hid hM; have HB := Lib.hid (GR.out.trans (hB.mono GR.out.size)); clear hM hb hd hB)
    | (go_at_call 36; ((first | (with_reducible refine (load_none _ _ _ (WN.out _)).mono ?_); rintro e w2 ⟨rfl, rfl⟩ | (with_reducible refine (ends_load HM.out HA.out _ HF.out).mono ?_); rintro e w2 ⟨⟨x1, rfl⟩, rfl⟩)))
    | (go_at_call 37; ((first | (with_reducible refine (byte_none _ _ _ (WN.out _)).mono ?_); rintro e w2 ⟨rfl, rfl⟩ | (with_reducible refine (ends_byte HM.out HA.out _ HG.out).mono ?_); rintro e w2 ⟨⟨x2, rfl⟩, rfl⟩)))
    | (go_at_call 40; (with_reducible refine (words_nil _).mono ?_); rintro e w2 ⟨rfl, rfl⟩; clear hm hn _hm2)
    | (go_at_call 42; (with_reducible refine (size_nil _).mono ?_); rintro e w2 ⟨rfl, rfl⟩)
    | (go_at_call 38; (with_reducible refine (fork_nil _).mono ?_); rintro e w2 ⟨rfl, rfl⟩)
    | (go_at_call 39; (with_reducible refine (store_none _ _ _ _ (WN.out _)).mono ?_); rintro e w2 ⟨rfl, rfl⟩)
    | (go_at_call 35; (with_reducible refine (putb_none _ _ _ _ (WN.out _)).mono ?_); rintro e w2 ⟨rfl, rfl⟩)
    | (go_at_call 33; (with_reducible refine (wakes04 _).mono ?_); rintro e w2 ⟨rfl, hB2⟩; have HB2 := Lib.hid (HB.out.trans (hB2.mono HB.out.size)); clear hB2))
  all_goals first | exact absurd HGE.out (by assumption) | (go_ret; exact ⟨rfl, HB2.out⟩)
theorem memoryEnds_calls (a0 a1 : Int) (w : World) (w0 : (Lit.int .u16 a0).wf = true) (w1 : (Lit.int .u32 a1).wf = true) :
    Calls Try.prog 13 #[.int .u16 a0, .int .u32 a1] w fun e w' => e = .returned (.bool true) ∧ Below w.heap.size w w' := by
  obtain ⟨h0, h1⟩ := bounds_u16 w0
  obtain ⟨h2, h3⟩ := bounds_u32 w1
  obtain ⟨x, rfl⟩ := Int.eq_ofNat_of_zero_le h0
  obtain ⟨y, rfl⟩ := Int.eq_ofNat_of_zero_le h2
  exact memoryEnds_way x (x % 70) y (y / 4) (y % 4) _ _ w (by omega) (by omega) (by omega) (by omega) (by omega) (by omega) (by omega) rfl rfl
end Go.Proofs.Ytibhfonmpefloaa
namespace Go.Proofs.Ytibhfonmpefloaa.memoryEnds
open Go.ChangeShapes Go.WideShapes Go.ChangeAt Go.RowKit Go.Joins
open Go.ChangeMaps (open_string shut_string)
set_option linter.unusedVariables false
theorem own : ownKnob Try.prog.godebug = none := by kernel_rfl
set_option maxRecDepth 100000 in
theorem lifted (os : Os) (started : os.Started) (H : Type) (enc : TypeId × Value → H) :
    ReturnsInHanded {} Try.checked os 13 .any (Rows.memoryEndsSpec.pre6 enc Try.prog Try.f13 Rows.memoryEndsRow.domain false) (Rows.memoryEndsSpec.post enc Try.prog Try.f13 false true false false) := by
  refine returnsInHanded_of_change_sized (C := Try.checked) own started (by kernel_rfl) Try.func13
    (ChangeSpec.witness6 (enc := enc) (C := Try.checked) false ⟨#[], #[.int .u16 0, .int .u32 0], []⟩ 8 (by kernel_rfl) (by kernel_rfl) (by kernel_rfl) (by kernel_rfl)) ?_
  intro W base args ds gs before hval0 hW hcnd hsz0 _
  have hval : ∀ (j : Nat) t v, Try.f13.params[j]? = some t → args[j]? = some v → Value.okWide Try.prog W .any base t v := hval0
  have hW' := hW
  obtain ⟨p, q, hA0, hV, rfl, hfz, hnd⟩ := hW
  have hA : DataW.TrodAll enc Try.prog W 0 (fun _ => true) true Try.f13.params.toList args.toList ds p := hA0
  rw [Try.params13] at hA hval
  obtain ⟨v0, vs0, d0, ds0, p0, q0, hargs, rfl, rfl, h0, r0⟩ := trodAll_cons hA
  obtain ⟨v1, vs1, d1, ds1, p1, q1, rfl, rfl, rfl, h1, r1⟩ := trodAll_cons r0
  obtain ⟨rfl, rfl, rfl⟩ := trodAll_nil r1
  obtain rfl : args = #[v0, v1] := by cases args; simp_all
  obtain ⟨rfl, rfl⟩ := trodVars_none hV
  obtain ⟨a0, rfl, rfl, rfl, w0⟩ := open_int Try.underlying59 (hval 0 59 v0 rfl rfl) h0
  obtain ⟨a1, rfl, rfl, rfl, w1⟩ := open_int Try.underlying22 (hval 1 22 v1 rfl rfl) h1
  refine (memoryEnds_calls a0 a1 W w0 w1).mono fun e W' ⟨he, hd⟩ => ?_
  subst he
  exact ⟨_, rfl, _, _, _, [], _, [], hW', trodAll_mk1 (shut_bool Try.underlying4 _), (trodAll_cons_mk (shut_int Try.underlying59 w0) (trodAll_cons_mk (shut_int Try.underlying22 w1) trodAll_mk0)), rfl, hd.frame _, fun h => by cases h⟩
theorem over : Rows.memoryEndsRow.holds Try.pinned (OpenSpec.ofChange Rows.memoryEndsSpec) :=
  OpenClaim.holds_of_wide 13 Try.f13 rfl rfl rfl rfl rfl rfl rfl ⟨rfl, rfl, rfl, rfl, rfl⟩ rfl rfl rfl rfl rfl (by kernel_rfl) Try.func13 (by kernel_rfl)
    (of_decide_eq_true (by kernel_rfl)) (by unfold Func.isWrapper; first | (rw [if_pos (by decide +kernel)]; kernel_rfl) | (rw [if_neg (by decide +kernel)]; exact ⟨rfl, rfl⟩))
    (fun os started H enc _ => lifted os started H enc)
theorem proved : Rows.MemoryEndsSaid := over
#print axioms proved
end Go.Proofs.Ytibhfonmpefloaa.memoryEnds
namespace Go.Proofs.Ytibhfonmpefloaa
theorem memoryEnds_holds : Rows.MemoryEndsSaid := memoryEnds.proved
end Go.Proofs.Ytibhfonmpefloaa
