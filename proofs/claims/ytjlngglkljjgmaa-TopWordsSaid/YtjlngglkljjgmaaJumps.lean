/- jumps: what a jump leaves. -/
import Derived.Test.YtjlngglkljjgmaaCpu
import Derived.Test.YtjlngglkljjgmaaAlu2
import Derived.Deep.RegionHeld3
namespace Go.Proofs.Ytjlngglkljjgmaa
open Go.RowKit
/-- What a call leaves: the machine in this state, all below B as it was. -/
def After (w : World) (B p b d : Nat) (inp : ByteArray) (s : St) (w' : World) : Prop := ∃ ov, Mach w' p b d inp ov s ∧ Below B w w'
/-- An instruction's value. -/
def insV (form : Int) (u v : Bool) (a b c op : Nat) (im : Int) : Value := .agg #[.int .i64 form, .bool u, .bool v, .int .i64 a, .int .i64 b, .int .i64 c, .int .i64 op, .int .i64 im]
section
variable {w : World} {B p b d : Nat} {inp : ByteArray} {ov : Value} {s : St}
theorem Mach.alloc (M : Mach w p b d inp ov s) (o : Obj) : Mach (w.alloc o) p b d inp ov s := M.grown ((Below.refl _ _).alloc (Nat.le_refl _) o)
theorem Mach.drew (M : Mach w p b d inp ov s) : Mach w.drew p b d inp ov s := M.drewN 1
theorem Mach.holds (_M : Mach w p b d inp ov s) (a : Nat) (ha : a < 16) : Hid (∀ w, Calls Try.prog 34 #[.int .i64 a, .agg #[.bool s.f.n, .bool s.f.z, .bool s.f.c, .bool s.f.v]] w fun e w' => e = .returned (.bool (holdB a s.f)) ∧ ∃ o, w' = w.alloc o) := Lib.hid (fun w => holds_calls a s.f ha w)
def St.jump (s : St) (u v : Bool) (a c q : Nat) : St := if holdB a s.f then { s with pc := if u then q else s.r.getD c 0 / 4, r := if v then s.r.set 15 (s.pc * 4) else s.r } else s
theorem Mach.pcset (M : Mach w p b d inp ov s) (q : Nat) (hq : q < 1073741824) : Mach (w.setCell ⟨p, 21, none⟩ (.int .i64 q)) p b d inp ov { s with pc := q } := by
  refine M.wrote (grown_set _ _ _ _) ⟨M.ok.len, M.ok.small, M.ok.h, hq, M.ok.rd, M.ok.out, M.ok.ws⟩ ?_ rfl rfl
  have h := row_set M.row 21 (.int .i64 (q : Nat))
  exact h.trans (congrArg (fun c : List Value => some (Obj.cells c.toArray 51 (0, 0))) (set_tail M.ok.len 5 _))
theorem Mach.regset (M : Mach w p b d inp ov s) (a v : Nat) (ha : a < 16) (hv : v < 4294967296) : Mach (w.setCell ⟨p, a, none⟩ (.int .u32 v)) p b d inp ov { s with r := s.r.set a v } := by
  refine M.wrote (grown_set _ _ _ _) ⟨by simp [M.ok.len], ?_, M.ok.h, M.ok.pc, M.ok.rd, M.ok.out, M.ok.ws⟩ ?_ rfl rfl
  · intro x hx
    rcases List.mem_or_eq_of_mem_set hx with hx | rfl
    · exact M.ok.small x hx
    · exact hv
  · have h := row_set M.row a (.int .u32 (v : Nat))
    rw [set_reg M.ok.len a v ha] at h
    exact h
theorem Mach.reglt (M : Mach w p b d inp ov s) (c : Nat) (hc : c < 16) : s.r.getD c 0 < 4294967296 := by
  have h : c < s.r.length := by rw [M.ok.len]; exact hc
  simp only [List.getD_eq_getElem?_getD, List.getElem?_eq_getElem h, Option.getD_some]
  exact M.ok.small _ (List.getElem_mem h)
end
theorem below_p {B : Nat} {a w w' : World} (h : Below B a w) (hg : ∃ p k v, B ≤ p ∧ w' = w.setCell ⟨p, k, none⟩ v) : Below B a w' := by
  obtain ⟨p, k, v, hp, rfl⟩ := hg
  exact h.setCell (p := ⟨p, k, none⟩) hp v
set_option maxHeartbeats 4000000 in
set_option maxRecDepth 100000 in
theorem jumps_u {w : World} {B p b d : Nat} {inp : ByteArray} {ov : Value} {s : St} (M : Mach w p b d inp ov s) (hB : B ≤ p) (v : Bool) (a x c op q : Nat) (im : Int) (ha : a < 16) (hq : Go.bits .and .i64 (wrap64 (s.pc + im)) 1073741823 = (q : Int)) (hq2 : q < 1073741824) :
    Calls Try.prog 21 #[.pointer (some ⟨p, 0, none⟩), insV 3 true v a x c op im] w fun e w' => e = .returned (.tuple #[]) ∧ After w B p b d inp (s.jump true v a c q) w' := by
  unfold insV
  have HM := Lib.hid M
  have hp := M.lt
  have z0 := M.c17
  have z1 := M.c18
  have z2 := M.c19
  have z3 := M.c20
  have z4 := M.c21
  have HH := M.holds a ha
  have f4 := M.free 21
  have f5 := M.free 15
  have z5 := M.reg 15 (by decide)
  have HQ := Lib.hid hq2
  have HL := Lib.hid (show (s.pc : Int) % 4294967296 * 4 % 4294967296 = ((s.pc * 4 : Nat) : Int) by have := M.ok.pc; omega)
  have HL2 := Lib.hid (show s.pc * 4 < 4294967296 by have := M.ok.pc; omega)
  have HBp := Lib.hid (show B ≤ w.heap.size by omega)
  clear M hq2 ha
  cases v
  all_goals
    go_enter Try.func21, Try.ntmps21
    go_wp2
    go_region_held3 (fun w' => w'.cell? ⟨w.heap.size, 3, none⟩ = some (.int .i64 a) ∧ w'.cell? ⟨p, 17, none⟩ = some (.bool s.f.n) ∧ w'.cell? ⟨p, 18, none⟩ = some (.bool s.f.z) ∧ w'.cell? ⟨p, 19, none⟩ = some (.bool s.f.c) ∧ w'.cell? ⟨p, 20, none⟩ = some (.bool s.f.v))
      (first | exact ⟨by simp [go_sem], by simp [go_sem, hp, z0], by simp [go_sem, hp, z1], by simp [go_sem, hp, z2], by simp [go_sem, hp, z3]⟩ | go_keep)
      ((go_at_call 34; (with_reducible refine (HH.out _).mono ?_); rintro e w' ⟨rfl, o, rfl⟩))
    go_wp2
  · refine bodyPost_ret (results_none rfl _ _ _) rfl ?_
    refine ⟨rfl, ov, ?_, (by (repeat (with_reducible (first | exact Below.refl _ _ | refine below_drewN ?_ _ | apply below_drew1' | refine Below.alloc ?_ (by first | exact HBp.out | (simp; exact HBp.out) | (simp; have := HBp.out; omega)) _ | refine Below.setCell ?_ hB _))))⟩
    rw [show s.jump true false a c q = s from if_neg (by rename_i h; simpa using h)]
    exact ((HM.out.alloc _).alloc _).drew
  · go_end0
    refine ⟨rfl, ov, ?_, (by (repeat (with_reducible (first | exact Below.refl _ _ | refine below_drewN ?_ _ | apply below_drew1' | refine Below.alloc ?_ (by first | exact HBp.out | (simp; exact HBp.out) | (simp; have := HBp.out; omega)) _ | refine Below.setCell ?_ hB _))))⟩
    rw [show s.jump true false a c q = _ from if_pos (by rename_i h; simpa using h)]
    exact (((HM.out.pcset q HQ.out).alloc _).alloc _).drew
  · refine bodyPost_ret (results_none rfl _ _ _) rfl ?_
    refine ⟨rfl, ov, ?_, (by (repeat (with_reducible (first | exact Below.refl _ _ | refine below_drewN ?_ _ | apply below_drew1' | refine Below.alloc ?_ (by first | exact HBp.out | (simp; exact HBp.out) | (simp; have := HBp.out; omega)) _ | refine Below.setCell ?_ hB _))))⟩
    rw [show s.jump true true a c q = s from if_neg (by rename_i h; simpa using h)]
    exact ((HM.out.alloc _).alloc _).drew
  · go_end0
    refine ⟨rfl, ov, ?_, (by (repeat (with_reducible (first | exact Below.refl _ _ | refine below_drewN ?_ _ | apply below_drew1' | refine Below.alloc ?_ (by first | exact HBp.out | (simp; exact HBp.out) | (simp; have := HBp.out; omega)) _ | refine Below.setCell ?_ hB _))))⟩
    rw [show s.jump true true a c q = _ from if_pos (by rename_i h; simpa using h)]
    rw [HL.out]
    exact (((HM.out.pcset q HQ.out).regset 15 (s.pc * 4) (by decide) HL2.out).alloc _).alloc _ |>.drew
set_option maxHeartbeats 4000000 in
set_option maxRecDepth 100000 in
theorem jumps_r {w : World} {B p b d : Nat} {inp : ByteArray} {ov : Value} {s : St} (M : Mach w p b d inp ov s) (hB : B ≤ p) (v : Bool) (a x c op q : Nat) (im : Int) (ha : a < 16) (hc : c < 16) :
    Calls Try.prog 21 #[.pointer (some ⟨p, 0, none⟩), insV 3 false v a x c op im] w fun e w' => e = .returned (.tuple #[]) ∧ After w B p b d inp (s.jump false v a c q) w' := by
  unfold insV
  have HM := Lib.hid M
  have hp := M.lt
  have z0 := M.c17
  have z1 := M.c18
  have z2 := M.c19
  have z3 := M.c20
  have z4 := M.c21
  have HH := M.holds a ha
  have f4 := M.free 21
  have f5 := M.free 15
  have z5 := M.reg 15 (by decide)
  have z6 := M.reg c hc
  obtain ⟨r, hr⟩ : ∃ r, r = s.r.getD c 0 := ⟨_, rfl⟩
  rw [← hr] at z6
  have HR := Lib.hid (show r < 4294967296 by rw [hr]; exact M.reglt c hc)
  have HQ := Lib.hid (show r / 4 < 1073741824 by have := HR.out; omega)
  have HE := Lib.hid hr
  have HW := Lib.hid (show wrap64 ((r : Int) / 4) = ((r / 4 : Nat) : Int) by have := HR.out; unfold wrap64; omega)
  have c0 : (0 : Int) ≤ (c : Int) := by omega
  have c1 : (c : Int) < 16 := by omega
  have HL := Lib.hid (show (s.pc : Int) % 4294967296 * 4 % 4294967296 = ((s.pc * 4 : Nat) : Int) by have := M.ok.pc; omega)
  have HL2 := Lib.hid (show s.pc * 4 < 4294967296 by have := M.ok.pc; omega)
  have HBp := Lib.hid (show B ≤ w.heap.size by omega)
  clear M ha hr hc
  cases v
  all_goals
    go_enter Try.func21, Try.ntmps21
    go_wp2
    go_region_held3 (fun w' => w'.cell? ⟨w.heap.size, 3, none⟩ = some (.int .i64 a) ∧ w'.cell? ⟨p, 17, none⟩ = some (.bool s.f.n) ∧ w'.cell? ⟨p, 18, none⟩ = some (.bool s.f.z) ∧ w'.cell? ⟨p, 19, none⟩ = some (.bool s.f.c) ∧ w'.cell? ⟨p, 20, none⟩ = some (.bool s.f.v))
      (first | exact ⟨by simp [go_sem], by simp [go_sem, hp, z0], by simp [go_sem, hp, z1], by simp [go_sem, hp, z2], by simp [go_sem, hp, z3]⟩ | go_keep)
      ((go_at_call 34; (with_reducible refine (HH.out _).mono ?_); rintro e w' ⟨rfl, o, rfl⟩))
    go_wp2
  · refine bodyPost_ret (results_none rfl _ _ _) rfl ?_
    refine ⟨rfl, ov, ?_, (by (repeat (with_reducible (first | exact Below.refl _ _ | refine below_drewN ?_ _ | apply below_drew1' | refine Below.alloc ?_ (by first | exact HBp.out | (simp; exact HBp.out) | (simp; have := HBp.out; omega)) _ | refine Below.setCell ?_ hB _))))⟩
    rw [show s.jump false false a c q = s from if_neg (by rename_i h; simpa using h)]
    exact ((HM.out.alloc _).alloc _).drew
  · rename_i hyes _ _
    go_region_held3 (fun w' => w'.cell? ⟨w.heap.size, 5, none⟩ = some (.int .i64 c) ∧ w'.cell? ⟨p, c, none⟩ = some (.int .u32 r)) (first | exact ⟨by simp [go_sem], by simp [go_sem, hp, z6]⟩ | go_keep) (fail)
    go_wp2
    go_end0
    refine ⟨rfl, ov, ?_, (by (repeat (with_reducible (first | exact Below.refl _ _ | refine below_drewN ?_ _ | apply below_drew1' | refine Below.alloc ?_ (by first | exact HBp.out | (simp; exact HBp.out) | (simp; have := HBp.out; omega)) _ | refine Below.setCell ?_ hB _))))⟩
    rw [show s.jump false false a c q = _ from if_pos (by simpa using hyes)]
    rw [HW.out, ← HE.out]
    exact (((HM.out.pcset (r / 4) HQ.out).alloc _).alloc _).drew.drew
  · refine bodyPost_ret (results_none rfl _ _ _) rfl ?_
    refine ⟨rfl, ov, ?_, (by (repeat (with_reducible (first | exact Below.refl _ _ | refine below_drewN ?_ _ | apply below_drew1' | refine Below.alloc ?_ (by first | exact HBp.out | (simp; exact HBp.out) | (simp; have := HBp.out; omega)) _ | refine Below.setCell ?_ hB _))))⟩
    rw [show s.jump false true a c q = s from if_neg (by rename_i h; simpa using h)]
    exact ((HM.out.alloc _).alloc _).drew
  · rename_i hyes _ _
    go_region_held3 (fun w' => w'.cell? ⟨w.heap.size, 5, none⟩ = some (.int .i64 c) ∧ w'.cell? ⟨p, c, none⟩ = some (.int .u32 r)) (first | exact ⟨by simp [go_sem], by simp [go_sem, hp, z6]⟩ | go_keep) (fail)
    go_wp2
    go_end0
    refine ⟨rfl, ov, ?_, (by (repeat (with_reducible (first | exact Below.refl _ _ | refine below_drewN ?_ _ | apply below_drew1' | refine Below.alloc ?_ (by first | exact HBp.out | (simp; exact HBp.out) | (simp; have := HBp.out; omega)) _ | refine Below.setCell ?_ hB _))))⟩
    rw [show s.jump false true a c q = _ from if_pos (by simpa using hyes)]
    rw [HL.out, HW.out, ← HE.out]
    exact (((HM.out.pcset (r / 4) HQ.out).regset 15 (s.pc * 4) (by decide) HL2.out).alloc _).alloc _ |>.drew.drew
end Go.Proofs.Ytjlngglkljjgmaa
