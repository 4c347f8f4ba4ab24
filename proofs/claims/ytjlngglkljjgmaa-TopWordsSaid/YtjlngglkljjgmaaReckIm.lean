/- reckons: what a register instruction leaves. -/
import Derived.Test.YtjlngglkljjgmaaReckons
namespace Go.Proofs.Ytjlngglkljjgmaa
open Go.RowKit
set_option maxHeartbeats 4000000 in
set_option maxRecDepth 100000 in
theorem reckons_im {w : World} {B p b d : Nat} {inp : ByteArray} {ov : Value} {s : St} (M : Mach w p b d inp ov s) (hB : B ≤ p) (u : Bool) (a x op : Nat) (im : Int) (ha : a < 16) (hx : x < 16) (n : Nat) (hop : ((op : Int) == 0) = false) (hn : IntKind.u32.wrap (IntKind.u16.wrap im) = (n : Int)) (r h : Nat) (f : Fl) (hr : r < 4294967296) (hh : h < 4294967296)
    (hD : ∀ wx : World, Calls Try.prog 36 #[.int .i64 op, .bool u, .int .u32 (s.r.getD x 0 : Nat), .int .u32 n, .int .u32 s.h, s.f.val] wx fun e w' => e = .returned (.tuple #[.int .u32 r, .int .u32 h, f.val, .bool true]) ∧ Below wx.heap.size wx w') :
    Calls Try.prog 22 #[.pointer (some ⟨p, 0, none⟩), insV 1 u false a x 0 op im] w fun e w' => e = .returned (.tuple #[]) ∧ After w B p b d inp (s.reck a r h f) w' := by
  unfold insV
  have HM := Lib.hid M
  have hp := M.lt
  have HC : Hid (∀ wx : World, Mach wx p b d inp ov s → wx.cell? ⟨p, x, none⟩ = some (.int .u32 (s.r.getD x 0 : Nat)) ∧ wx.cell? ⟨p, a, none⟩ = some (.int .u32 (s.r.getD a 0 : Nat)) ∧ wx.cell? ⟨p, 0, none⟩ = some (.int .u32 (s.r.getD 0 0 : Nat)) ∧ wx.cell? ⟨p, 16, none⟩ = some (.int .u32 s.h) ∧ wx.cell? ⟨p, 17, none⟩ = some (.bool s.f.n) ∧ wx.cell? ⟨p, 18, none⟩ = some (.bool s.f.z) ∧ wx.cell? ⟨p, 19, none⟩ = some (.bool s.f.c) ∧ wx.cell? ⟨p, 20, none⟩ = some (.bool s.f.v) ∧ wx.frozen? ⟨p, a, none⟩ = false ∧ wx.frozen? ⟨p, 16, none⟩ = false ∧ wx.frozen? ⟨p, 17, none⟩ = false ∧ wx.frozen? ⟨p, 18, none⟩ = false ∧ wx.frozen? ⟨p, 19, none⟩ = false ∧ wx.frozen? ⟨p, 20, none⟩ = false ∧ p < wx.heap.size) := Lib.hid (fun wx m => ⟨m.reg x hx, m.reg a ha, m.reg 0 (by omega), m.c16, m.c17, m.c18, m.c19, m.c20, m.free a, m.free 16, m.free 17, m.free 18, m.free 19, m.free 20, m.lt⟩)
  unfold Fl.val at hD
  generalize s.r.getD x 0 = rx at HC hD
  generalize s.r.getD a 0 = ra at HC
  generalize s.r.getD 0 0 = rc at HC
  generalize s.h = sh at HC hD
  generalize s.f.n = sn at HC hD
  generalize s.f.z = sz at HC hD
  generalize s.f.c = sc at HC hD
  generalize s.f.v = sv at HC hD
  have ⟨z0, z1, z2, z3, z4, z5, z6, z7, f1, f2, f3, f4, f5, f6, _⟩ := HC.out _ HM.out
  have HD := Lib.hid hD
  have HA := Lib.hid ha
  have HR := Lib.hid hr
  have HH := Lib.hid hh
  have HBw := Lib.hid (show B ≤ w.heap.size by omega)
  have x0 : (0 : Int) ≤ (x : Int) := by omega
  have x1 : (x : Int) < 16 := by omega
  have a0 : (0 : Int) ≤ (a : Int) := by omega
  have a1 : (a : Int) < 16 := by omega
  clear M hx ha hD hr hh
  obtain ⟨fn, fz, fc, fv⟩ := f
  go_enter Try.func22, Try.ntmps22
  go_wp2
  go_region_held3 (fun w' => w'.cell? ⟨w.heap.size, 5, none⟩ = some (.int .i64 0) ∧ w'.cell? ⟨p, 0, none⟩ = some (.int .u32 rc)) (first | exact ⟨by simp [go_sem], by simp [go_sem, hp, z2]⟩ | go_keep) (fail)
  go_wp2
  go_region_held3 (fun w' => w'.cell? ⟨w.heap.size, 6, none⟩ = some (.int .i64 op) ∧ w'.cell? ⟨w.heap.size, 1, none⟩ = some (.bool u) ∧ w'.cell? ⟨w.heap.size, 4, none⟩ = some (.int .i64 x) ∧ w'.cell? ⟨p, x, none⟩ = some (.int .u32 rx) ∧ w'.cell? ⟨p, 16, none⟩ = some (.int .u32 sh) ∧ w'.cell? ⟨p, 17, none⟩ = some (.bool sn) ∧ w'.cell? ⟨p, 18, none⟩ = some (.bool sz) ∧ w'.cell? ⟨p, 19, none⟩ = some (.bool sc) ∧ w'.cell? ⟨p, 20, none⟩ = some (.bool sv))
    ((refine ⟨?_, ?_, ?_, ?_, ?_, ?_, ?_, ?_, ?_⟩ <;> (first | (with_reducible assumption) | (simp [go_sem, hp, z0, z3, z4, z5, z6, z7]; done) | (simp [go_sem, hq1, hq2, q6, q1, q4, y0, y3, y4, y5, y6, y7]; done))))
    ((go_at_call 36; (with_reducible refine (HD.out _).mono ?_); rintro e w1 ⟨rfl, hb⟩; have q6 : w1.cell? ⟨w.heap.size, 6, none⟩ = some (.int .i64 op) := (hb.cell (by simp [go_sem]; try omega)).trans (by simp [go_sem]); have q1 : w1.cell? ⟨w.heap.size, 1, none⟩ = some (.bool u) := (hb.cell (by simp [go_sem]; try omega)).trans (by simp [go_sem]); have q4 : w1.cell? ⟨w.heap.size, 4, none⟩ = some (.int .i64 x) := (hb.cell (by simp [go_sem]; try omega)).trans (by simp [go_sem]); have q3 : w1.cell? ⟨w.heap.size, 3, none⟩ = some (.int .i64 a) := (hb.cell (by simp [go_sem]; try omega)).trans (by simp [go_sem]); have MG : Hid (Mach w1 p b d inp ov s) := (by first | exact Lib.hid (Mach.grown (Mach.drew (Mach.drew (Mach.alloc HM.out _))) hb) | exact Lib.hid (Mach.grown (Mach.drew (Mach.drew (Mach.alloc (Mach.alloc HM.out _) _))) hb)); have ⟨y0, y1, y2, y3, y4, y5, y6, y7, g1, g2, g3, g4, g5, g6, hq1⟩ := HC.out _ MG.out; have hq2 : w.heap.size < w1.heap.size := (by have := hb.size; simp [go_sem] at this; omega); (first | (have _hw : Below _ (World.drew (World.drew (World.alloc (World.alloc w _) _))) w1 := hb; have k0 : w1.cell? ⟨w.heap.size + 1, 0, none⟩ = some (.bool false) := (hb.cell (by simp [go_sem])).trans (by simp [go_sem]); have l0 : w1.frozen? ⟨w.heap.size + 1, 0, none⟩ = false := ((bcell hb).2 _ _ (by simp [go_sem])).trans (by simp [go_sem]); have k1 : w1.cell? ⟨w.heap.size + 1, 1, none⟩ = some (.bool false) := (hb.cell (by simp [go_sem])).trans (by simp [go_sem]); have l1 : w1.frozen? ⟨w.heap.size + 1, 1, none⟩ = false := ((bcell hb).2 _ _ (by simp [go_sem])).trans (by simp [go_sem]); have k2 : w1.cell? ⟨w.heap.size + 1, 2, none⟩ = some (.bool false) := (hb.cell (by simp [go_sem])).trans (by simp [go_sem]); have l2 : w1.frozen? ⟨w.heap.size + 1, 2, none⟩ = false := ((bcell hb).2 _ _ (by simp [go_sem])).trans (by simp [go_sem]); have k3 : w1.cell? ⟨w.heap.size + 1, 3, none⟩ = some (.bool false) := (hb.cell (by simp [go_sem])).trans (by simp [go_sem]); have l3 : w1.frozen? ⟨w.heap.size + 1, 3, none⟩ = false := ((bcell hb).2 _ _ (by simp [go_sem])).trans (by simp [go_sem]); skip) | skip); have HB := Lib.hid hb; clear hb))
  · go_wp2
    go_region_held3 (fun w' => w'.cell? ⟨w.heap.size, 3, none⟩ = some (.int .i64 a) ∧ w'.cell? ⟨w1.heap.size, 0, none⟩ = some (.bool fn) ∧ w'.cell? ⟨w1.heap.size, 1, none⟩ = some (.bool fz) ∧ w'.cell? ⟨w1.heap.size, 2, none⟩ = some (.bool fc) ∧ w'.cell? ⟨w1.heap.size, 3, none⟩ = some (.bool fv))
      ((refine ⟨?_, ?_, ?_, ?_, ?_⟩ <;> (first | (with_reducible assumption) | (simp [go_sem, hq2, q3]; done))))
      (fail)
    go_end0
    have hB0 := HBw.out
    have hB1 : Below B w w1 := Below.trans (by (repeat (with_reducible (first | exact Below.refl _ _ | apply below_drew1' | refine Below.alloc ?_ (by first | exact hB0 | (simp; omega)) _)))) (HB.out.mono (by simp; try omega))
    refine ⟨rfl, ov, (((((((MG.out.regset a r HA.out HR.out).hset h HH.out).fsetn fn).fsetz fz).fsetc fc).fsetv fv).alloc _).drew, (by repeat (with_reducible (first | exact hB1 | apply below_drew1' | refine Below.alloc ?_ (by simp; omega) _ | refine Below.setCell ?_ (by first | exact hB | exact hB0 | (simp; omega)) _)))⟩
  · go_wp2
    go_region_held3 (fun w' => w'.cell? ⟨w.heap.size, 3, none⟩ = some (.int .i64 a) ∧ w'.cell? ⟨w.heap.size + 1, 0, none⟩ = some (.bool fn) ∧ w'.cell? ⟨w.heap.size + 1, 1, none⟩ = some (.bool fz) ∧ w'.cell? ⟨w.heap.size + 1, 2, none⟩ = some (.bool fc) ∧ w'.cell? ⟨w.heap.size + 1, 3, none⟩ = some (.bool fv))
      ((refine ⟨?_, ?_, ?_, ?_, ?_⟩ <;> (first | (with_reducible assumption) | (simp [go_sem, q3, k0, k1, k2, k3]; done))))
      (fail)
    go_end0
    have hB0 := HBw.out
    have hB1 : Below B w w1 := Below.trans (by (repeat (with_reducible (first | exact Below.refl _ _ | apply below_drew1' | refine Below.alloc ?_ (by first | exact hB0 | (simp; omega)) _)))) (HB.out.mono (by simp; try omega))
    have hB2 : Below w.heap.size w w1 := Below.trans (by (repeat (with_reducible (first | exact Below.refl _ _ | apply below_drew1' | refine Below.alloc ?_ (by simp; try omega) _)))) (HB.out.mono (by simp; try omega))
    have M2 := HM.out.grown ((((hB2.setCell (p := ⟨w.heap.size + 1, 0, none⟩) (by simp) (.bool fn)).setCell (p := ⟨w.heap.size + 1, 1, none⟩) (by simp) (.bool fz)).setCell (p := ⟨w.heap.size + 1, 2, none⟩) (by simp) (.bool fc)).setCell (p := ⟨w.heap.size + 1, 3, none⟩) (by simp) (.bool fv))
    refine ⟨rfl, ov, ((((((M2.regset a r HA.out HR.out).hset h HH.out).fsetn fn).fsetz fz).fsetc fc).fsetv fv).drew, (by repeat (with_reducible (first | exact hB1 | apply below_drew1' | refine Below.alloc ?_ (by simp; omega) _ | refine Below.setCell ?_ (by first | exact hB | exact hB0 | (simp; omega)) _)))⟩
set_option maxHeartbeats 4000000 in
set_option maxRecDepth 100000 in
theorem reckons_imv {w : World} {B p b d : Nat} {inp : ByteArray} {ov : Value} {s : St} (M : Mach w p b d inp ov s) (hB : B ≤ p) (u : Bool) (a x op : Nat) (im : Int) (ha : a < 16) (hx : x < 16) (n : Nat) (hop : ((op : Int) == 0) = false) (m : Nat) (hm : IntKind.u32.wrap (IntKind.u16.wrap im) = (m : Int)) (hn : Go.bits .or .u32 m 4294901760 = (n : Int)) (r h : Nat) (f : Fl) (hr : r < 4294967296) (hh : h < 4294967296)
    (hD : ∀ wx : World, Calls Try.prog 36 #[.int .i64 op, .bool u, .int .u32 (s.r.getD x 0 : Nat), .int .u32 n, .int .u32 s.h, s.f.val] wx fun e w' => e = .returned (.tuple #[.int .u32 r, .int .u32 h, f.val, .bool true]) ∧ Below wx.heap.size wx w') :
    Calls Try.prog 22 #[.pointer (some ⟨p, 0, none⟩), insV 1 u true a x 0 op im] w fun e w' => e = .returned (.tuple #[]) ∧ After w B p b d inp (s.reck a r h f) w' := by
  unfold insV
  have HM := Lib.hid M
  have hp := M.lt
  have HC : Hid (∀ wx : World, Mach wx p b d inp ov s → wx.cell? ⟨p, x, none⟩ = some (.int .u32 (s.r.getD x 0 : Nat)) ∧ wx.cell? ⟨p, a, none⟩ = some (.int .u32 (s.r.getD a 0 : Nat)) ∧ wx.cell? ⟨p, 0, none⟩ = some (.int .u32 (s.r.getD 0 0 : Nat)) ∧ wx.cell? ⟨p, 16, none⟩ = some (.int .u32 s.h) ∧ wx.cell? ⟨p, 17, none⟩ = some (.bool s.f.n) ∧ wx.cell? ⟨p, 18, none⟩ = some (.bool s.f.z) ∧ wx.cell? ⟨p, 19, none⟩ = some (.bool s.f.c) ∧ wx.cell? ⟨p, 20, none⟩ = some (.bool s.f.v) ∧ wx.frozen? ⟨p, a, none⟩ = false ∧ wx.frozen? ⟨p, 16, none⟩ = false ∧ wx.frozen? ⟨p, 17, none⟩ = false ∧ wx.frozen? ⟨p, 18, none⟩ = false ∧ wx.frozen? ⟨p, 19, none⟩ = false ∧ wx.frozen? ⟨p, 20, none⟩ = false ∧ p < wx.heap.size) := Lib.hid (fun wx m => ⟨m.reg x hx, m.reg a ha, m.reg 0 (by omega), m.c16, m.c17, m.c18, m.c19, m.c20, m.free a, m.free 16, m.free 17, m.free 18, m.free 19, m.free 20, m.lt⟩)
  unfold Fl.val at hD
  generalize s.r.getD x 0 = rx at HC hD
  generalize s.r.getD a 0 = ra at HC
  generalize s.r.getD 0 0 = rc at HC
  generalize s.h = sh at HC hD
  generalize s.f.n = sn at HC hD
  generalize s.f.z = sz at HC hD
  generalize s.f.c = sc at HC hD
  generalize s.f.v = sv at HC hD
  have ⟨z0, z1, z2, z3, z4, z5, z6, z7, f1, f2, f3, f4, f5, f6, _⟩ := HC.out _ HM.out
  have HD := Lib.hid hD
  have HA := Lib.hid ha
  have HR := Lib.hid hr
  have HH := Lib.hid hh
  have HBw := Lib.hid (show B ≤ w.heap.size by omega)
  have x0 : (0 : Int) ≤ (x : Int) := by omega
  have x1 : (x : Int) < 16 := by omega
  have a0 : (0 : Int) ≤ (a : Int) := by omega
  have a1 : (a : Int) < 16 := by omega
  clear M hx ha hD hr hh
  obtain ⟨fn, fz, fc, fv⟩ := f
  go_enter Try.func22, Try.ntmps22
  go_wp2
  go_region_held3 (fun w' => w'.cell? ⟨w.heap.size, 5, none⟩ = some (.int .i64 0) ∧ w'.cell? ⟨p, 0, none⟩ = some (.int .u32 rc)) (first | exact ⟨by simp [go_sem], by simp [go_sem, hp, z2]⟩ | go_keep) (fail)
  go_wp2
  go_region_held3 (fun w' => w'.cell? ⟨w.heap.size, 6, none⟩ = some (.int .i64 op) ∧ w'.cell? ⟨w.heap.size, 1, none⟩ = some (.bool u) ∧ w'.cell? ⟨w.heap.size, 4, none⟩ = some (.int .i64 x) ∧ w'.cell? ⟨p, x, none⟩ = some (.int .u32 rx) ∧ w'.cell? ⟨p, 16, none⟩ = some (.int .u32 sh) ∧ w'.cell? ⟨p, 17, none⟩ = some (.bool sn) ∧ w'.cell? ⟨p, 18, none⟩ = some (.bool sz) ∧ w'.cell? ⟨p, 19, none⟩ = some (.bool sc) ∧ w'.cell? ⟨p, 20, none⟩ = some (.bool sv))
    ((refine ⟨?_, ?_, ?_, ?_, ?_, ?_, ?_, ?_, ?_⟩ <;> (first | (with_reducible assumption) | (simp [go_sem, hp, z0, z3, z4, z5, z6, z7]; done) | (simp [go_sem, hq1, hq2, q6, q1, q4, y0, y3, y4, y5, y6, y7]; done))))
    ((go_at_call 36; (with_reducible refine (HD.out _).mono ?_); rintro e w1 ⟨rfl, hb⟩; have q6 : w1.cell? ⟨w.heap.size, 6, none⟩ = some (.int .i64 op) := (hb.cell (by simp [go_sem]; try omega)).trans (by simp [go_sem]); have q1 : w1.cell? ⟨w.heap.size, 1, none⟩ = some (.bool u) := (hb.cell (by simp [go_sem]; try omega)).trans (by simp [go_sem]); have q4 : w1.cell? ⟨w.heap.size, 4, none⟩ = some (.int .i64 x) := (hb.cell (by simp [go_sem]; try omega)).trans (by simp [go_sem]); have q3 : w1.cell? ⟨w.heap.size, 3, none⟩ = some (.int .i64 a) := (hb.cell (by simp [go_sem]; try omega)).trans (by simp [go_sem]); have MG : Hid (Mach w1 p b d inp ov s) := (by first | exact Lib.hid (Mach.grown (Mach.drew (Mach.drew (Mach.alloc HM.out _))) hb) | exact Lib.hid (Mach.grown (Mach.drew (Mach.drew (Mach.alloc (Mach.alloc HM.out _) _))) hb)); have ⟨y0, y1, y2, y3, y4, y5, y6, y7, g1, g2, g3, g4, g5, g6, hq1⟩ := HC.out _ MG.out; have hq2 : w.heap.size < w1.heap.size := (by have := hb.size; simp [go_sem] at this; omega); (first | (have _hw : Below _ (World.drew (World.drew (World.alloc (World.alloc w _) _))) w1 := hb; have k0 : w1.cell? ⟨w.heap.size + 1, 0, none⟩ = some (.bool false) := (hb.cell (by simp [go_sem])).trans (by simp [go_sem]); have l0 : w1.frozen? ⟨w.heap.size + 1, 0, none⟩ = false := ((bcell hb).2 _ _ (by simp [go_sem])).trans (by simp [go_sem]); have k1 : w1.cell? ⟨w.heap.size + 1, 1, none⟩ = some (.bool false) := (hb.cell (by simp [go_sem])).trans (by simp [go_sem]); have l1 : w1.frozen? ⟨w.heap.size + 1, 1, none⟩ = false := ((bcell hb).2 _ _ (by simp [go_sem])).trans (by simp [go_sem]); have k2 : w1.cell? ⟨w.heap.size + 1, 2, none⟩ = some (.bool false) := (hb.cell (by simp [go_sem])).trans (by simp [go_sem]); have l2 : w1.frozen? ⟨w.heap.size + 1, 2, none⟩ = false := ((bcell hb).2 _ _ (by simp [go_sem])).trans (by simp [go_sem]); have k3 : w1.cell? ⟨w.heap.size + 1, 3, none⟩ = some (.bool false) := (hb.cell (by simp [go_sem])).trans (by simp [go_sem]); have l3 : w1.frozen? ⟨w.heap.size + 1, 3, none⟩ = false := ((bcell hb).2 _ _ (by simp [go_sem])).trans (by simp [go_sem]); skip) | skip); have HB := Lib.hid hb; clear hb))
  · go_wp2
    go_region_held3 (fun w' => w'.cell? ⟨w.heap.size, 3, none⟩ = some (.int .i64 a) ∧ w'.cell? ⟨w1.heap.size, 0, none⟩ = some (.bool fn) ∧ w'.cell? ⟨w1.heap.size, 1, none⟩ = some (.bool fz) ∧ w'.cell? ⟨w1.heap.size, 2, none⟩ = some (.bool fc) ∧ w'.cell? ⟨w1.heap.size, 3, none⟩ = some (.bool fv))
      ((refine ⟨?_, ?_, ?_, ?_, ?_⟩ <;> (first | (with_reducible assumption) | (simp [go_sem, hq2, q3]; done))))
      (fail)
    go_end0
    have hB0 := HBw.out
    have hB1 : Below B w w1 := Below.trans (by (repeat (with_reducible (first | exact Below.refl _ _ | apply below_drew1' | refine Below.alloc ?_ (by first | exact hB0 | (simp; omega)) _)))) (HB.out.mono (by simp; try omega))
    refine ⟨rfl, ov, (((((((MG.out.regset a r HA.out HR.out).hset h HH.out).fsetn fn).fsetz fz).fsetc fc).fsetv fv).alloc _).drew, (by repeat (with_reducible (first | exact hB1 | apply below_drew1' | refine Below.alloc ?_ (by simp; omega) _ | refine Below.setCell ?_ (by first | exact hB | exact hB0 | (simp; omega)) _)))⟩
  · go_wp2
    go_region_held3 (fun w' => w'.cell? ⟨w.heap.size, 3, none⟩ = some (.int .i64 a) ∧ w'.cell? ⟨w.heap.size + 1, 0, none⟩ = some (.bool fn) ∧ w'.cell? ⟨w.heap.size + 1, 1, none⟩ = some (.bool fz) ∧ w'.cell? ⟨w.heap.size + 1, 2, none⟩ = some (.bool fc) ∧ w'.cell? ⟨w.heap.size + 1, 3, none⟩ = some (.bool fv))
      ((refine ⟨?_, ?_, ?_, ?_, ?_⟩ <;> (first | (with_reducible assumption) | (simp [go_sem, q3, k0, k1, k2, k3]; done))))
      (fail)
    go_end0
    have hB0 := HBw.out
    have hB1 : Below B w w1 := Below.trans (by (repeat (with_reducible (first | exact Below.refl _ _ | apply below_drew1' | refine Below.alloc ?_ (by first | exact hB0 | (simp; omega)) _)))) (HB.out.mono (by simp; try omega))
    have hB2 : Below w.heap.size w w1 := Below.trans (by (repeat (with_reducible (first | exact Below.refl _ _ | apply below_drew1' | refine Below.alloc ?_ (by simp; try omega) _)))) (HB.out.mono (by simp; try omega))
    have M2 := HM.out.grown ((((hB2.setCell (p := ⟨w.heap.size + 1, 0, none⟩) (by simp) (.bool fn)).setCell (p := ⟨w.heap.size + 1, 1, none⟩) (by simp) (.bool fz)).setCell (p := ⟨w.heap.size + 1, 2, none⟩) (by simp) (.bool fc)).setCell (p := ⟨w.heap.size + 1, 3, none⟩) (by simp) (.bool fv))
    refine ⟨rfl, ov, ((((((M2.regset a r HA.out HR.out).hset h HH.out).fsetn fn).fsetz fz).fsetc fc).fsetv fv).drew, (by repeat (with_reducible (first | exact hB1 | apply below_drew1' | refine Below.alloc ?_ (by simp; omega) _ | refine Below.setCell ?_ (by first | exact hB | exact hB0 | (simp; omega)) _)))⟩
end Go.Proofs.Ytjlngglkljjgmaa
