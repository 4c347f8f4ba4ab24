/- moves: the loads. -/
import Derived.Test.YtjlngglkljjgmaaMoves
namespace Go.Proofs.Ytjlngglkljjgmaa
open Go.RowKit
theorem sets_after {w : World} {B p b d : Nat} {inp : ByteArray} {ov : Value} {s : St} (M : Mach w p b d inp ov s) (hB : B ≤ p) (a r : Nat) (ha : a < 16) (hr : r < 4294967296) :
    Calls Try.prog 33 #[.pointer (some ⟨p, 0, none⟩), .int .i64 a, .int .u32 r] w fun e w' => e = .returned (.tuple #[]) ∧ After w B p b d inp (s.sets a r) w' := by
  refine (sets_calls M a r ha hr).mono ?_
  rintro e w' ⟨rfl, h1, h2, _⟩
  have hp := M.lt
  exact ⟨rfl, ov, h1, (Below.refl B w).grown h2 (by omega) (fun k hk => by simp at hk; omega)⟩
set_option maxHeartbeats 4000000 in
set_option maxRecDepth 100000 in
theorem moves_word_t {w : World} {B p b d : Nat} {inp : ByteArray} {ov : Value} {s : St} (M : Mach w p b d inp ov s) (hB : B ≤ p) (a x c op at_ r : Nat) (im : Int) (ha : a < 16) (hr : r < 4294967296) (hx : x < 16) (hat : IntKind.u32.wrap ((s.r.getD x 0 : Nat) + IntKind.u32.wrap im) = (at_ : Int)) (h0 : ((at_ : Int) == 4294967240) = false) (h1 : ((at_ : Int) == 4294967244) = false)
    (hL : ∀ wx : World, Mem wx b d s.ws → Calls Try.prog 8 #[.pointer (some ⟨b, 0, none⟩), .int .u32 at_] wx fun e w' => e = .returned (.tuple #[.int .u32 r, .bool true]) ∧ wx = w') :
    Calls Try.prog 20 #[.pointer (some ⟨p, 0, none⟩), insV 2 false false a x c op im] w fun e w' => e = .returned (.tuple #[]) ∧ After w B p b d inp (s.sets a r) w' := by
  unfold insV
  have HM := Lib.hid M
  have hp := M.lt
  have z0 := M.reg x hx
  have z1 := M.c22
  have z2 := M.c26
  have f2 := M.free 26
  obtain ⟨rx, hrx⟩ : ∃ r, r = s.r.getD x 0 := ⟨_, rfl⟩
  rw [← hrx] at z0 hat
  have HL := Lib.hid (fun (wx : World) (m : Mach wx p b d inp ov s) => hL wx m.mem)
  have HS := Lib.hid (fun (wx : World) (m : Mach wx p b d inp ov s) => sets_after m hB a r ha hr)
  have HBw := Lib.hid (show B ≤ w.heap.size by omega)
  have x0 : (0 : Int) ≤ (x : Int) := by omega
  have x1 : (x : Int) < 16 := by omega
  clear M hrx hx hL ha hr
  go_enter Try.func20, Try.ntmps20
  go_wp2
  go_region_held3 (fun w' => w'.cell? ⟨w.heap.size, 4, none⟩ = some (.int .i64 x) ∧ w'.cell? ⟨w.heap.size, 7, none⟩ = some (.int .i64 im) ∧ w'.cell? ⟨p, x, none⟩ = some (.int .u32 rx)) (first | exact ⟨by simp [go_sem], by simp [go_sem], by simp [go_sem, hp, z0]⟩ | go_keep) (fail)
  go_wp2_with (first | (go_at_call 8; (with_reducible refine (HL.out _ (Mach.drew (Mach.alloc HM.out _))).mono ?_); rintro e w1 ⟨rfl, rfl⟩) | (go_at_call 33; (with_reducible refine (HS.out _ (Mach.drew (Mach.alloc HM.out _))).mono ?_); rintro e w2 ⟨rfl, h1⟩))
  go_end0
  obtain ⟨ov', h2, h3⟩ := h1
  exact ⟨rfl, ov', h2, Below.trans (below_drew1' ((Below.refl B w).alloc HBw.out _)) h3⟩
set_option maxHeartbeats 4000000 in
set_option maxRecDepth 100000 in
theorem moves_word_f {w : World} {B p b d : Nat} {inp : ByteArray} {ov : Value} {s : St} (M : Mach w p b d inp ov s) (hB : B ≤ p) (a x c op at_ : Nat) (im : Int) (hx : x < 16) (hat : IntKind.u32.wrap ((s.r.getD x 0 : Nat) + IntKind.u32.wrap im) = (at_ : Int)) (h0 : ((at_ : Int) == 4294967240) = false) (h1 : ((at_ : Int) == 4294967244) = false)
    (hL : ∀ wx : World, Mem wx b d s.ws → Calls Try.prog 8 #[.pointer (some ⟨b, 0, none⟩), .int .u32 at_] wx fun e w' => e = .returned (.tuple #[.int .u32 0, .bool false]) ∧ wx = w') :
    Calls Try.prog 20 #[.pointer (some ⟨p, 0, none⟩), insV 2 false false a x c op im] w fun e w' => e = .returned (.tuple #[]) ∧ After w B p b d inp { s with e := 5 } w' := by
  unfold insV
  have HM := Lib.hid M
  have hp := M.lt
  have z0 := M.reg x hx
  have z1 := M.c22
  have z2 := M.c26
  have f2 := M.free 26
  obtain ⟨rx, hrx⟩ : ∃ r, r = s.r.getD x 0 := ⟨_, rfl⟩
  rw [← hrx] at z0 hat
  have HL := Lib.hid (fun (wx : World) (m : Mach wx p b d inp ov s) => hL wx m.mem)
  have HBw := Lib.hid (show B ≤ w.heap.size by omega)
  have x0 : (0 : Int) ≤ (x : Int) := by omega
  have x1 : (x : Int) < 16 := by omega
  clear M hrx hx hL
  go_enter Try.func20, Try.ntmps20
  go_wp2
  go_region_held3 (fun w' => w'.cell? ⟨w.heap.size, 4, none⟩ = some (.int .i64 x) ∧ w'.cell? ⟨w.heap.size, 7, none⟩ = some (.int .i64 im) ∧ w'.cell? ⟨p, x, none⟩ = some (.int .u32 rx)) (first | exact ⟨by simp [go_sem], by simp [go_sem], by simp [go_sem, hp, z0]⟩ | go_keep) (fail)
  go_wp2_with (go_at_call 8; (with_reducible refine (HL.out _ (Mach.drew (Mach.alloc HM.out _))).mono ?_); rintro e w1 ⟨rfl, rfl⟩)
  refine bodyPost_ret (results_none rfl _ _ _) rfl ?_
  exact ⟨rfl, ov, ((HM.out.eset 5).alloc _).drew, below_drew1' (((Below.refl B w).setCell (p := ⟨p, 26, none⟩) hB _).alloc (by simp; exact HBw.out) _)⟩
set_option maxHeartbeats 4000000 in
set_option maxRecDepth 100000 in
theorem moves_byte_t {w : World} {B p b d : Nat} {inp : ByteArray} {ov : Value} {s : St} (M : Mach w p b d inp ov s) (hB : B ≤ p) (a x c op at_ r : Nat) (im : Int) (ha : a < 16) (hr : r < 4294967296) (hx : x < 16) (hat : IntKind.u32.wrap ((s.r.getD x 0 : Nat) + IntKind.u32.wrap im) = (at_ : Int)) (h0 : ((at_ : Int) == 4294967240) = false) (h1 : ((at_ : Int) == 4294967244) = false)
    (hL : ∀ wx : World, Mem wx b d s.ws → Calls Try.prog 32 #[.pointer (some ⟨b, 0, none⟩), .int .u32 at_] wx fun e w' => e = .returned (.tuple #[.int .u32 r, .bool true]) ∧ wx = w') :
    Calls Try.prog 20 #[.pointer (some ⟨p, 0, none⟩), insV 2 false true a x c op im] w fun e w' => e = .returned (.tuple #[]) ∧ After w B p b d inp (s.sets a r) w' := by
  unfold insV
  have HM := Lib.hid M
  have hp := M.lt
  have z0 := M.reg x hx
  have z1 := M.c22
  have z2 := M.c26
  have f2 := M.free 26
  obtain ⟨rx, hrx⟩ : ∃ r, r = s.r.getD x 0 := ⟨_, rfl⟩
  rw [← hrx] at z0 hat
  have HL := Lib.hid (fun (wx : World) (m : Mach wx p b d inp ov s) => hL wx m.mem)
  have HS := Lib.hid (fun (wx : World) (m : Mach wx p b d inp ov s) => sets_after m hB a r ha hr)
  have HBw := Lib.hid (show B ≤ w.heap.size by omega)
  have x0 : (0 : Int) ≤ (x : Int) := by omega
  have x1 : (x : Int) < 16 := by omega
  clear M hrx hx hL ha hr
  go_enter Try.func20, Try.ntmps20
  go_wp2
  go_region_held3 (fun w' => w'.cell? ⟨w.heap.size, 4, none⟩ = some (.int .i64 x) ∧ w'.cell? ⟨w.heap.size, 7, none⟩ = some (.int .i64 im) ∧ w'.cell? ⟨p, x, none⟩ = some (.int .u32 rx)) (first | exact ⟨by simp [go_sem], by simp [go_sem], by simp [go_sem, hp, z0]⟩ | go_keep) (fail)
  go_wp2_with (first | (go_at_call 32; (with_reducible refine (HL.out _ (Mach.drew (Mach.alloc HM.out _))).mono ?_); rintro e w1 ⟨rfl, rfl⟩) | (go_at_call 33; (with_reducible refine (HS.out _ (Mach.drew (Mach.alloc HM.out _))).mono ?_); rintro e w2 ⟨rfl, h1⟩))
  go_end0
  obtain ⟨ov', h2, h3⟩ := h1
  exact ⟨rfl, ov', h2, Below.trans (below_drew1' ((Below.refl B w).alloc HBw.out _)) h3⟩
set_option maxHeartbeats 4000000 in
set_option maxRecDepth 100000 in
theorem moves_byte_f {w : World} {B p b d : Nat} {inp : ByteArray} {ov : Value} {s : St} (M : Mach w p b d inp ov s) (hB : B ≤ p) (a x c op at_ : Nat) (im : Int) (hx : x < 16) (hat : IntKind.u32.wrap ((s.r.getD x 0 : Nat) + IntKind.u32.wrap im) = (at_ : Int)) (h0 : ((at_ : Int) == 4294967240) = false) (h1 : ((at_ : Int) == 4294967244) = false)
    (hL : ∀ wx : World, Mem wx b d s.ws → Calls Try.prog 32 #[.pointer (some ⟨b, 0, none⟩), .int .u32 at_] wx fun e w' => e = .returned (.tuple #[.int .u32 0, .bool false]) ∧ wx = w') :
    Calls Try.prog 20 #[.pointer (some ⟨p, 0, none⟩), insV 2 false true a x c op im] w fun e w' => e = .returned (.tuple #[]) ∧ After w B p b d inp { s with e := 5 } w' := by
  unfold insV
  have HM := Lib.hid M
  have hp := M.lt
  have z0 := M.reg x hx
  have z1 := M.c22
  have z2 := M.c26
  have f2 := M.free 26
  obtain ⟨rx, hrx⟩ : ∃ r, r = s.r.getD x 0 := ⟨_, rfl⟩
  rw [← hrx] at z0 hat
  have HL := Lib.hid (fun (wx : World) (m : Mach wx p b d inp ov s) => hL wx m.mem)
  have HBw := Lib.hid (show B ≤ w.heap.size by omega)
  have x0 : (0 : Int) ≤ (x : Int) := by omega
  have x1 : (x : Int) < 16 := by omega
  clear M hrx hx hL
  go_enter Try.func20, Try.ntmps20
  go_wp2
  go_region_held3 (fun w' => w'.cell? ⟨w.heap.size, 4, none⟩ = some (.int .i64 x) ∧ w'.cell? ⟨w.heap.size, 7, none⟩ = some (.int .i64 im) ∧ w'.cell? ⟨p, x, none⟩ = some (.int .u32 rx)) (first | exact ⟨by simp [go_sem], by simp [go_sem], by simp [go_sem, hp, z0]⟩ | go_keep) (fail)
  go_wp2_with (go_at_call 32; (with_reducible refine (HL.out _ (Mach.drew (Mach.alloc HM.out _))).mono ?_); rintro e w1 ⟨rfl, rfl⟩)
  refine bodyPost_ret (results_none rfl _ _ _) rfl ?_
  exact ⟨rfl, ov, ((HM.out.eset 5).alloc _).drew, below_drew1' (((Below.refl B w).setCell (p := ⟨p, 26, none⟩) hB _).alloc (by simp; exact HBw.out) _)⟩
end Go.Proofs.Ytjlngglkljjgmaa
