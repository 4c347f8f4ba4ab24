/- moves: what a load or a store leaves. -/
import Derived.Test.YtjlngglkljjgmaaStores
import Derived.StillTailTactics
namespace Go.Proofs.Ytjlngglkljjgmaa
open Go.RowKit
set_option maxHeartbeats 4000000 in
set_option maxRecDepth 100000 in
theorem moves_store {w : World} {B p b d : Nat} {inp : ByteArray} {ov : Value} {s : St} (M : Mach w p b d inp ov s) (hB : B ≤ p) (hd : B ≤ d) (v : Bool) (a x c op at_ : Nat) (im : Int) (ha : a < 16) (hx : x < 16) (hat : IntKind.u32.wrap ((s.r.getD x 0 : Nat) + IntKind.u32.wrap im) = (at_ : Int)) (hat2 : at_ < 4294967296) :
    Calls Try.prog 20 #[.pointer (some ⟨p, 0, none⟩), insV 2 true v a x c op im] w fun e w' => e = .returned (.tuple #[]) ∧ After w B p b d inp (s.store at_ (s.r.getD a 0) v) w' := by
  unfold insV
  have HM := Lib.hid M
  have hp := M.lt
  have z0 := M.reg x hx
  have z1 := M.reg a ha
  obtain ⟨rx, hrx⟩ : ∃ r, r = s.r.getD x 0 := ⟨_, rfl⟩
  obtain ⟨ra, hra⟩ : ∃ r, r = s.r.getD a 0 := ⟨_, rfl⟩
  rw [← hrx] at z0 hat
  rw [← hra] at z1 ⊢
  have HS := Lib.hid (fun (wx : World) (m : Mach wx p b d inp ov s) => stores_calls m hB hd at_ ra hat2 (by rw [hra]; exact M.reglt a ha) v)
  have HBw := Lib.hid (show B ≤ w.heap.size by omega)
  have x0 : (0 : Int) ≤ (x : Int) := by omega
  have x1 : (x : Int) < 16 := by omega
  have a0 : (0 : Int) ≤ (a : Int) := by omega
  have a1 : (a : Int) < 16 := by omega
  clear M hrx hra ha hx hat2
  go_enter Try.func20, Try.ntmps20
  go_wp2
  go_region_held3 (fun w' => w'.cell? ⟨w.heap.size, 4, none⟩ = some (.int .i64 x) ∧ w'.cell? ⟨w.heap.size, 7, none⟩ = some (.int .i64 im) ∧ w'.cell? ⟨p, x, none⟩ = some (.int .u32 rx)) (first | exact ⟨by simp [go_sem], by simp [go_sem], by simp [go_sem, hp, z0]⟩ | go_keep) (fail)
  go_wp2
  refine wp_region_still_tail 11 (by kernel_rfl) (by kernel_rfl) ?_
  change wpStill _ _ (World.drew (World.drew (World.alloc w _))) _ _ _
  simp only [List.take_succ_cons, List.take_zero, List.drop_succ_cons, List.drop_zero]
  repeat still_step
  refine wpStill_nil ?_
  change wpList _ _ _ _ _ (World.drew (World.drew (World.alloc w _)))
  go_wp2_with (go_at_call 31; (with_reducible refine (HS.out _ (Mach.drew (Mach.drew (Mach.alloc HM.out _)))).mono ?_); rintro e w1 ⟨rfl, h1⟩)
  go_wp2
  refine bodyPost_ret (results_none rfl _ _ _) rfl ?_
  obtain ⟨ov', h2, h3⟩ := h1
  exact ⟨rfl, ov', h2, Below.trans (below_drew1' (below_drew1' ((Below.refl B w).alloc HBw.out _))) h3⟩
end Go.Proofs.Ytjlngglkljjgmaa
