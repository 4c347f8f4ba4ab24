/- reckons: the two moves that tell no operation. -/
import Derived.Test.YtjlngglkljjgmaaMovesOn
import Derived.Test.YtjlngglkljjgmaaPack
import Derived.Test.YtjlngglkljjgmaaDecode
namespace Go.Proofs.Ytjlngglkljjgmaa
open Go.RowKit
set_option maxHeartbeats 4000000 in
set_option maxRecDepth 100000 in
theorem reckons_up {w : World} {B p b d : Nat} {inp : ByteArray} {ov : Value} {s : St} (M : Mach w p b d inp ov s) (hB : B ≤ p) (a x q : Nat) (im : Int) (ha : a < 16) (hq : im % 4294967296 * 65536 % 4294967296 = (q : Int)) (hq2 : q < 4294967296) :
    Calls Try.prog 22 #[.pointer (some ⟨p, 0, none⟩), insV 1 true false a x 0 0 im] w fun e w' => e = .returned (.tuple #[]) ∧ After w B p b d inp (s.sets a q) w' := by
  unfold insV
  have HM := Lib.hid M
  have hp := M.lt
  have z2 := M.reg 0 (by omega)
  generalize s.r.getD 0 0 = rc at z2
  have HS := Lib.hid (fun (wx : World) (m : Mach wx p b d inp ov s) => sets_after m hB a q ha hq2)
  have HBw := Lib.hid (show B ≤ w.heap.size by omega)
  clear M ha hq2
  go_enter Try.func22, Try.ntmps22
  go_wp2
  go_region_held3 (fun w' => w'.cell? ⟨w.heap.size, 5, none⟩ = some (.int .i64 0) ∧ w'.cell? ⟨p, 0, none⟩ = some (.int .u32 rc)) (first | exact ⟨by simp [go_sem], by simp [go_sem, hp, z2]⟩ | go_keep) (fail)
  go_wp2_with (go_at_call 33; (with_reducible refine (HS.out _ (Mach.drew (Mach.alloc HM.out _))).mono ?_); rintro e w2 ⟨rfl, h1⟩)
  refine bodyPost_ret (results_none rfl _ _ _) rfl ?_
  obtain ⟨ov', h2, h3⟩ := h1
  exact ⟨rfl, ov', h2, Below.trans (below_drew1' ((Below.refl B w).alloc HBw.out _)) h3⟩
set_option maxHeartbeats 4000000 in
set_option maxRecDepth 100000 in
theorem reckons_upv {w : World} {B p b d : Nat} {inp : ByteArray} {ov : Value} {s : St} (M : Mach w p b d inp ov s) (hB : B ≤ p) (a x q : Nat) (im : Int) (ha : a < 16) (hq : im % 4294967296 * 65536 % 4294967296 = (q : Int)) (hq2 : q < 4294967296) :
    Calls Try.prog 22 #[.pointer (some ⟨p, 0, none⟩), insV 1 true true a x 0 0 im] w fun e w' => e = .returned (.tuple #[]) ∧ After w B p b d inp (s.sets a q) w' := by
  unfold insV
  have HM := Lib.hid M
  have hp := M.lt
  have z2 := M.reg 0 (by omega)
  generalize s.r.getD 0 0 = rc at z2
  have HS := Lib.hid (fun (wx : World) (m : Mach wx p b d inp ov s) => sets_after m hB a q ha hq2)
  have HBw := Lib.hid (show B ≤ w.heap.size by omega)
  clear M ha hq2
  go_enter Try.func22, Try.ntmps22
  go_wp2
  go_region_held3 (fun w' => w'.cell? ⟨w.heap.size, 5, none⟩ = some (.int .i64 0) ∧ w'.cell? ⟨p, 0, none⟩ = some (.int .u32 rc)) (first | exact ⟨by simp [go_sem], by simp [go_sem, hp, z2]⟩ | go_keep) (fail)
  go_wp2_with (go_at_call 33; (with_reducible refine (HS.out _ (Mach.drew (Mach.alloc HM.out _))).mono ?_); rintro e w2 ⟨rfl, h1⟩)
  refine bodyPost_ret (results_none rfl _ _ _) rfl ?_
  obtain ⟨ov', h2, h3⟩ := h1
  exact ⟨rfl, ov', h2, Below.trans (below_drew1' ((Below.refl B w).alloc HBw.out _)) h3⟩
set_option maxHeartbeats 4000000 in
set_option maxRecDepth 100000 in
theorem reckons_flags {w : World} {B p b d : Nat} {inp : ByteArray} {ov : Value} {s : St} (M : Mach w p b d inp ov s) (hB : B ≤ p) (a x c : Nat) (im : Int) (ha : a < 16) (hc : c < 16) :
    Calls Try.prog 22 #[.pointer (some ⟨p, 0, none⟩), insV 0 true true a x c 0 im] w fun e w' => e = .returned (.tuple #[]) ∧ After w B p b d inp (s.sets a (packN s.f)) w' := by
  unfold insV
  have HM := Lib.hid M
  have hp := M.lt
  have z2 := M.reg c hc
  generalize s.r.getD c 0 = rc at z2
  have HC : Hid (∀ wx : World, Mach wx p b d inp ov s → wx.cell? ⟨p, 17, none⟩ = some (.bool s.f.n) ∧ wx.cell? ⟨p, 18, none⟩ = some (.bool s.f.z) ∧ wx.cell? ⟨p, 19, none⟩ = some (.bool s.f.c) ∧ wx.cell? ⟨p, 20, none⟩ = some (.bool s.f.v)) := Lib.hid (fun wx m => ⟨m.c17, m.c18, m.c19, m.c20⟩)
  have HP : Hid (∀ wx : World, Calls Try.prog 35 #[.agg #[.bool s.f.n, .bool s.f.z, .bool s.f.c, .bool s.f.v]] wx fun e w' => e = .returned (.int .u32 (packN s.f : Nat)) ∧ Below wx.heap.size wx w') := Lib.hid (fun wx => packed_calls s.f wx)
  have HS := Lib.hid (fun (wx : World) (m : Mach wx p b d inp ov s) => sets_calls m a (packN s.f) ha (pk_lt s.f 4 (by decide)))
  generalize packN s.f = pn at HP HS
  have ⟨z4, z5, z6, z7⟩ := HC.out _ HM.out
  have HBw := Lib.hid (show B ≤ w.heap.size by omega)
  have c0 : (0 : Int) ≤ (c : Int) := by omega
  have c1 : (c : Int) < 16 := by omega
  clear M ha hc
  go_enter Try.func22, Try.ntmps22
  go_wp2
  go_region_held3 (fun w' => w'.cell? ⟨w.heap.size, 5, none⟩ = some (.int .i64 c) ∧ w'.cell? ⟨p, c, none⟩ = some (.int .u32 rc)) (first | exact ⟨by simp [go_sem], by simp [go_sem, hp, z2]⟩ | go_keep) (fail)
  go_wp2
  go_region_with
    (first | (go_at_call 35; (with_reducible refine (HP.out _).mono ?_); rintro e w1 ⟨rfl, hb⟩; have q3 : w1.cell? ⟨w.heap.size, 3, none⟩ = some (.int .i64 a) := (hb.cell (by simp [go_sem])).trans (by simp [go_sem]); have MG : Hid (Mach w1 p b d inp ov s) := Lib.hid (Mach.grown (Mach.drew (Mach.drew (Mach.alloc HM.out _))) hb); have HB := Lib.hid hb; clear hb) | (go_at_call 33; (with_reducible refine (HS.out _ MG.out).mono ?_); rintro e w2 ⟨rfl, h1, hg, _⟩; have q4 : w2.cell? ⟨w.heap.size, 3, none⟩ = some (.int .i64 a) := (World.cell?_of_block (hg.block w.heap.size (Nat.lt_of_lt_of_le (by simp) HB.out.size) (by have := MG.out.lt; simp; omega))).trans q3; have h2 := Lib.hid h1; have h3 := Lib.hid hg; clear h1 hg))
  all_goals
    go_wp2
    refine bodyPost_ret (results_none rfl _ _ _) rfl ?_
    have hB1 : Below B w w1 := Below.trans (below_drew1' (below_drew1' ((Below.refl B w).alloc HBw.out _))) (HB.out.mono (by have := HBw.out; simp; omega))
    exact ⟨rfl, ov, h2.out, hB1.grown h3.out (by have := MG.out.lt; omega) (fun k hk => by simp at hk; omega)⟩
end Go.Proofs.Ytjlngglkljjgmaa
