/- moves: the ports. -/
import Derived.Test.YtjlngglkljjgmaaMovesOn
namespace Go.Proofs.Ytjlngglkljjgmaa
open Go.RowKit
set_option maxHeartbeats 4000000 in
set_option maxRecDepth 100000 in
theorem moves_data_t {w : World} {B p b d : Nat} {inp : ByteArray} {ov : Value} {s : St} (M : Mach w p b d inp ov s) (hB : B ≤ p) (v : Bool) (a x c op k r : Nat) (im : Int) (ha : a < 16) (hx : x < 16) (hat : IntKind.u32.wrap ((s.r.getD x 0 : Nat) + IntKind.u32.wrap im) = 4294967240) (hk : s.rd = k)  (hlt : k < inp.size) (hr : (((inp[k]'hlt).toNat : Nat) : Int) = (r : Int)) (hr3 : (r : Int) % 4294967296 = (r : Int)) (hr2 : r < 256) (hkb : k < 4096) :
    Calls Try.prog 20 #[.pointer (some ⟨p, 0, none⟩), insV 2 false v a x c op im] w fun e w' => e = .returned (.tuple #[]) ∧ After w B p b d inp (({ s with rd := k + 1 } : St).sets a r) w' := by
  unfold insV
  have HM := Lib.hid M
  have hp := M.lt
  have z0 := M.reg x hx
  have z1 := M.c22
  have z2 := M.c26
  have f2 := M.free 26
  obtain ⟨rx, hrx⟩ : ∃ r, r = s.r.getD x 0 := ⟨_, rfl⟩
  rw [← hrx] at z0 hat
  have z3 := M.c23
  have z4 := M.c24
  have f4 := M.free 24
  rw [hk] at z4
  have HS : Hid (∀ wx : World, Mach wx p b d inp ov ({ s with rd := k + 1 } : St) → Calls Try.prog 33 #[.pointer (some ⟨p, 0, none⟩), .int .i64 a, .int .u32 r] wx fun e w' => e = .returned (.tuple #[]) ∧ After wx B p b d inp (({ s with rd := k + 1 } : St).sets a r) w') := Lib.hid (fun wx m => sets_after m hB a r ha (by omega))
  have HM2 : Hid (∀ wx : World, Mach wx p b d inp ov s → Mach (wx.setCell ⟨p, 24, none⟩ (.int .i64 ((k : Int) + 1))) p b d inp ov ({ s with rd := k + 1 } : St)) := Lib.hid (fun wx m => m.rdset (k + 1) (by omega))
  have k0 : (0 : Int) ≤ (k : Int) := by omega
  have kb : (k : Int) < 4096 := by omega
  have kn : (k : Int) < (inp.size : Int) := by omega
  have HBw := Lib.hid (show B ≤ w.heap.size by omega)
  have x0 : (0 : Int) ≤ (x : Int) := by omega
  have x1 : (x : Int) < 16 := by omega
  clear M hrx hx ha hr2 hkb
  go_enter Try.func20, Try.ntmps20
  go_wp2
  go_region_held3 (fun w' => w'.cell? ⟨w.heap.size, 4, none⟩ = some (.int .i64 x) ∧ w'.cell? ⟨w.heap.size, 7, none⟩ = some (.int .i64 im) ∧ w'.cell? ⟨p, x, none⟩ = some (.int .u32 rx)) (first | exact ⟨by simp [go_sem], by simp [go_sem], by simp [go_sem, hp, z0]⟩ | go_keep) (fail)
  go_wp2
  go_quiet (fail)
  go_wp2
  go_quiet (fail)
  go_wp2_with (go_at_call 33; (with_reducible refine (HS.out _ (HM2.out _ (Mach.drewN (Mach.alloc HM.out _) _))).mono ?_); rintro e w2 ⟨rfl, h1⟩)
  go_end0
  obtain ⟨ov', h2, h3⟩ := h1
  exact ⟨rfl, ov', h2, Below.trans ((below_drewN ((Below.refl B w).alloc HBw.out _) _).setCell (p := ⟨p, 24, none⟩) hB _) h3⟩
set_option maxHeartbeats 4000000 in
set_option maxRecDepth 100000 in
theorem moves_data_f {w : World} {B p b d : Nat} {inp : ByteArray} {ov : Value} {s : St} (M : Mach w p b d inp ov s) (hB : B ≤ p) (v : Bool) (a x c op k : Nat) (im : Int) (ha : a < 16) (hx : x < 16) (hat : IntKind.u32.wrap ((s.r.getD x 0 : Nat) + IntKind.u32.wrap im) = 4294967240) (hk : s.rd = k) (hn2 : decide (k < inp.size) = false) :
    Calls Try.prog 20 #[.pointer (some ⟨p, 0, none⟩), insV 2 false v a x c op im] w fun e w' => e = .returned (.tuple #[]) ∧ After w B p b d inp (s.sets a 0) w' := by
  unfold insV
  have HM := Lib.hid M
  have hp := M.lt
  have z0 := M.reg x hx
  have z1 := M.c22
  have z2 := M.c26
  have f2 := M.free 26
  obtain ⟨rx, hrx⟩ : ∃ r, r = s.r.getD x 0 := ⟨_, rfl⟩
  rw [← hrx] at z0 hat
  have z3 := M.c23
  have z4 := M.c24
  have f4 := M.free 24
  rw [hk] at z4
  have HS : Hid (∀ wx : World, Mach wx p b d inp ov s → Calls Try.prog 33 #[.pointer (some ⟨p, 0, none⟩), .int .i64 a, .int .u32 0] wx fun e w' => e = .returned (.tuple #[]) ∧ After wx B p b d inp (s.sets a 0) w') := Lib.hid (fun wx m => sets_after m hB a 0 ha (by omega))
  have HBw := Lib.hid (show B ≤ w.heap.size by omega)
  have x0 : (0 : Int) ≤ (x : Int) := by omega
  have x1 : (x : Int) < 16 := by omega
  clear M hrx hx ha
  go_enter Try.func20, Try.ntmps20
  go_wp2
  go_region_held3 (fun w' => w'.cell? ⟨w.heap.size, 4, none⟩ = some (.int .i64 x) ∧ w'.cell? ⟨w.heap.size, 7, none⟩ = some (.int .i64 im) ∧ w'.cell? ⟨p, x, none⟩ = some (.int .u32 rx)) (first | exact ⟨by simp [go_sem], by simp [go_sem], by simp [go_sem, hp, z0]⟩ | go_keep) (fail)
  go_wp2
  go_quiet (fail)
  go_wp2_with (go_at_call 33; (with_reducible refine (HS.out _ (Mach.drewN (Mach.alloc HM.out _) _)).mono ?_); rintro e w2 ⟨rfl, h1⟩)
  go_end0
  obtain ⟨ov', h2, h3⟩ := h1
  exact ⟨rfl, ov', h2, Below.trans (below_drewN ((Below.refl B w).alloc HBw.out _) _) h3⟩
set_option maxHeartbeats 4000000 in
set_option maxRecDepth 100000 in
theorem moves_state_t {w : World} {B p b d : Nat} {inp : ByteArray} {ov : Value} {s : St} (M : Mach w p b d inp ov s) (hB : B ≤ p) (v : Bool) (a x c op k : Nat) (im : Int) (ha : a < 16) (hx : x < 16) (hat : IntKind.u32.wrap ((s.r.getD x 0 : Nat) + IntKind.u32.wrap im) = 4294967244) (hk : s.rd = k) (hn2 : decide (k < inp.size) = true) :
    Calls Try.prog 20 #[.pointer (some ⟨p, 0, none⟩), insV 2 false v a x c op im] w fun e w' => e = .returned (.tuple #[]) ∧ After w B p b d inp (s.sets a 1) w' := by
  unfold insV
  have HM := Lib.hid M
  have hp := M.lt
  have z0 := M.reg x hx
  have z1 := M.c22
  have z2 := M.c26
  have f2 := M.free 26
  obtain ⟨rx, hrx⟩ : ∃ r, r = s.r.getD x 0 := ⟨_, rfl⟩
  rw [← hrx] at z0 hat
  have z3 := M.c23
  have z4 := M.c24
  have f4 := M.free 24
  rw [hk] at z4
  have HS : Hid (∀ wx : World, Mach wx p b d inp ov s → Calls Try.prog 33 #[.pointer (some ⟨p, 0, none⟩), .int .i64 a, .int .u32 1] wx fun e w' => e = .returned (.tuple #[]) ∧ After wx B p b d inp (s.sets a 1) w') := Lib.hid (fun wx m => sets_after m hB a 1 ha (by omega))
  have HBw := Lib.hid (show B ≤ w.heap.size by omega)
  have x0 : (0 : Int) ≤ (x : Int) := by omega
  have x1 : (x : Int) < 16 := by omega
  clear M hrx hx ha
  go_enter Try.func20, Try.ntmps20
  go_wp2
  go_region_held3 (fun w' => w'.cell? ⟨w.heap.size, 4, none⟩ = some (.int .i64 x) ∧ w'.cell? ⟨w.heap.size, 7, none⟩ = some (.int .i64 im) ∧ w'.cell? ⟨p, x, none⟩ = some (.int .u32 rx)) (first | exact ⟨by simp [go_sem], by simp [go_sem], by simp [go_sem, hp, z0]⟩ | go_keep) (fail)
  go_wp2
  go_quiet (fail)
  go_wp2_with (go_at_call 33; (with_reducible refine (HS.out _ (Mach.drewN (Mach.alloc HM.out _) _)).mono ?_); rintro e w2 ⟨rfl, h1⟩)
  go_end0
  obtain ⟨ov', h2, h3⟩ := h1
  exact ⟨rfl, ov', h2, Below.trans (below_drewN ((Below.refl B w).alloc HBw.out _) _) h3⟩
set_option maxHeartbeats 4000000 in
set_option maxRecDepth 100000 in
theorem moves_state_f {w : World} {B p b d : Nat} {inp : ByteArray} {ov : Value} {s : St} (M : Mach w p b d inp ov s) (hB : B ≤ p) (v : Bool) (a x c op k : Nat) (im : Int) (ha : a < 16) (hx : x < 16) (hat : IntKind.u32.wrap ((s.r.getD x 0 : Nat) + IntKind.u32.wrap im) = 4294967244) (hk : s.rd = k) (hn2 : decide (k < inp.size) = false) :
    Calls Try.prog 20 #[.pointer (some ⟨p, 0, none⟩), insV 2 false v a x c op im] w fun e w' => e = .returned (.tuple #[]) ∧ After w B p b d inp (s.sets a 0) w' := by
  unfold insV
  have HM := Lib.hid M
  have hp := M.lt
  have z0 := M.reg x hx
  have z1 := M.c22
  have z2 := M.c26
  have f2 := M.free 26
  obtain ⟨rx, hrx⟩ : ∃ r, r = s.r.getD x 0 := ⟨_, rfl⟩
  rw [← hrx] at z0 hat
  have z3 := M.c23
  have z4 := M.c24
  have f4 := M.free 24
  rw [hk] at z4
  have HS : Hid (∀ wx : World, Mach wx p b d inp ov s → Calls Try.prog 33 #[.pointer (some ⟨p, 0, none⟩), .int .i64 a, .int .u32 0] wx fun e w' => e = .returned (.tuple #[]) ∧ After wx B p b d inp (s.sets a 0) w') := Lib.hid (fun wx m => sets_after m hB a 0 ha (by omega))
  have HBw := Lib.hid (show B ≤ w.heap.size by omega)
  have x0 : (0 : Int) ≤ (x : Int) := by omega
  have x1 : (x : Int) < 16 := by omega
  clear M hrx hx ha
  go_enter Try.func20, Try.ntmps20
  go_wp2
  go_region_held3 (fun w' => w'.cell? ⟨w.heap.size, 4, none⟩ = some (.int .i64 x) ∧ w'.cell? ⟨w.heap.size, 7, none⟩ = some (.int .i64 im) ∧ w'.cell? ⟨p, x, none⟩ = some (.int .u32 rx)) (first | exact ⟨by simp [go_sem], by simp [go_sem], by simp [go_sem, hp, z0]⟩ | go_keep) (fail)
  go_wp2
  go_quiet (fail)
  go_wp2_with (go_at_call 33; (with_reducible refine (HS.out _ (Mach.drewN (Mach.alloc HM.out _) _)).mono ?_); rintro e w2 ⟨rfl, h1⟩)
  go_end0
  obtain ⟨ov', h2, h3⟩ := h1
  exact ⟨rfl, ov', h2, Below.trans (below_drewN ((Below.refl B w).alloc HBw.out _) _) h3⟩
end Go.Proofs.Ytjlngglkljjgmaa
