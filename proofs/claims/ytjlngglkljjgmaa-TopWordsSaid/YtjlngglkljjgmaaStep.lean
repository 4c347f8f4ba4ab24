/- step: what a step leaves. -/
import Derived.Test.YtjlngglkljjgmaaMovesIn
import Derived.Test.YtjlngglkljjgmaaDecode
namespace Go.Proofs.Ytjlngglkljjgmaa
open Go.RowKit
theorem qA {P : Program} {f : FuncId} {args : Array Value} {w : World} {a n : Nat} {v : Value}
    (h : Calls P f args (w.drewN (a + n)) fun e w' => e = .returned v ∧ w.drewN (a + n) = w') : Calls P f args (w.drewN (a + n)) fun e w'' => e = .returned v ∧ ∃ m, w'' = w.drewN (a + m) :=
  h.mono fun _ _ ⟨he, hm⟩ => ⟨he, n, hm.symm⟩
set_option maxHeartbeats 4000000 in
set_option maxRecDepth 100000 in
theorem step_none {w : World} {B p b d : Nat} {inp : ByteArray} {ov : Value} {s : St} (M : Mach w p b d inp ov s) (hB : B ≤ p) (hn : s.ws.length ≤ s.pc) :
    Calls Try.prog 13 #[.pointer (some ⟨p, 0, none⟩)] w fun e w' => e = .returned (.tuple #[]) ∧ After w B p b d inp { s with e := 5 } w' := by
  have HM := Lib.hid M
  have hp := M.lt
  have z1 := M.c21
  have z2 := M.c22
  have z3 := M.c26
  have f3 := M.free 26
  have f1 := M.free 21
  have HZ : Hid (∀ wx : World, Mach wx p b d inp ov s → Calls Try.prog 19 #[.pointer (some ⟨b, 0, none⟩)] wx fun e w' => e = .returned (.int .i64 s.ws.length) ∧ wx = w') := Lib.hid (fun wx m => mem_size m.mem)
  obtain ⟨k, hk⟩ : ∃ k, k = s.pc := ⟨_, rfl⟩
  rw [← hk] at z1 hn
  generalize s.ws.length = n at HZ hn
  have h1 : decide ((k : Int) < (n : Int)) = false := by simp; omega
  have h2 : decide (k < n) = false := by simp; omega
  clear M hn hk
  go_enter Try.func13, Try.ntmps13
  go_wp2
  go_quiet ((go_at_call 19; exact q0 (HZ.out _ (Mach.drewN HM.out _))))
  go_wp2
  refine bodyPost_ret (results_none rfl _ _ _) rfl ?_
  exact ⟨rfl, ov, (HM.out.drewN _).eset 5, Below.setCell (p := ⟨p, 26, none⟩) (below_drewN (Below.refl B w) _) hB _⟩
set_option maxHeartbeats 4000000 in
set_option maxRecDepth 100000 in
theorem step_bad {w : World} {B p b d : Nat} {inp : ByteArray} {ov : Value} {s : St} (M : Mach w p b d inp ov s) (hB : B ≤ p) (wd : Nat) (hn : s.pc < s.ws.length) (hw : s.ws.getD s.pc 0 = wd) (HD : ∀ wx : World, Calls Try.prog 10 #[.int .u32 wd] wx fun e w' => e = .returned (.tuple #[insV 0 false false 0 0 0 0 0, .int .i64 20]) ∧ Below wx.heap.size wx w') :
    Calls Try.prog 13 #[.pointer (some ⟨p, 0, none⟩)] w fun e w' => e = .returned (.tuple #[]) ∧ After w B p b d inp { s with e := 4 } w' := by
  unfold insV at HD
  have HM := Lib.hid M
  have hp := M.lt
  have z1 := M.c21
  have z2 := M.c22
  have z3 := M.c26
  have f3 := M.free 26
  have f1 := M.free 21
  have HZ : Hid (∀ wx : World, Mach wx p b d inp ov s → Calls Try.prog 19 #[.pointer (some ⟨b, 0, none⟩)] wx fun e w' => e = .returned (.int .i64 s.ws.length) ∧ wx = w') := Lib.hid (fun wx m => mem_size m.mem)
  have HD := Lib.hid HD
  have HBw := Lib.hid (show B ≤ w.heap.size by omega)
  have hnb : s.ws.length ≤ 65536 := M.ok.ws
  obtain ⟨k, hk⟩ : ∃ k, k = s.pc := ⟨_, rfl⟩
  rw [← hk] at z1 hn hw
  have HL : Hid (∀ wx : World, Mach wx p b d inp ov s → Calls Try.prog 8 #[.pointer (some ⟨b, 0, none⟩), .int .u32 ((k : Int) * 4)] wx fun e w' => e = .returned (.tuple #[.int .u32 wd, .bool true]) ∧ wx = w') := Lib.hid (fun wx m => by
    have h := mem_load m.mem (k * 4) (by omega)
    have e1 : full s.ws (k * 4) = true := by simp [full]; omega
    rw [e1, if_pos rfl, show wordOf s.ws (k * 4) = wd by rw [← hw]; unfold wordOf; rw [Nat.mul_div_cancel _ (by decide)]] at h
    rw [show (k : Int) * 4 = ((k * 4 : Nat) : Int) by omega]
    exact h)
  have HK := Lib.hid hk
  generalize s.ws.length = n at HZ hn hnb
  have h1 : decide ((k : Int) < (n : Int)) = true := by simp; omega
  have h2 : decide (k < n) = true := by simp; omega
  have kb : (k : Int) < 65536 := by omega
  clear M hn hk hnb hw
  go_enter Try.func13, Try.ntmps13
  go_wp2
  go_quiet ((go_at_call 19; exact q0 (HZ.out _ (Mach.drewN HM.out _))))
  go_wp2
  go_quiet ((go_at_call 8; exact qA (HL.out _ (Mach.drewN HM.out _))))
  go_wp2_with ((go_at_call 10; (with_reducible refine (HD.out _).mono ?_); rintro e w1 ⟨rfl, hb⟩; have MG : Hid (Mach w1 p b d inp ov s) := Lib.hid (Mach.grown (Mach.drewN HM.out _) hb); have y1 := MG.out.c26; have y2 := MG.out.free 26; have y3 := MG.out.c21; have y4 := MG.out.free 21; have hq1 := MG.out.lt; rw [← HK.out] at y3; have HB := Lib.hid hb; clear hb))
  refine bodyPost_ret (results_none rfl _ _ _) rfl ?_
  have hB1 : Below B w w1 := Below.trans (below_drewN (Below.refl B w) _) (HB.out.mono (by simpa using HBw.out))
  exact ⟨rfl, ov, (MG.out.eset 4).alloc _, (Below.setCell (p := ⟨p, 26, none⟩) hB1 hB _).alloc (by have := HBw.out; simp; omega) _⟩
set_option maxHeartbeats 4000000 in
set_option maxRecDepth 100000 in
theorem step_mem {w : World} {B p b d : Nat} {inp : ByteArray} {ov : Value} {s : St} (M : Mach w p b d inp ov s) (hB : B ≤ p) (wd : Nat) (hn : s.pc < s.ws.length) (hw : s.ws.getD s.pc 0 = wd) (u v : Bool) (a x c op : Nat) (im : Int) (HD : ∀ wx : World, Calls Try.prog 10 #[.int .u32 wd] wx fun e w' => e = .returned (.tuple #[insV 2 u v a x c op im, .int .i64 0]) ∧ Below wx.heap.size wx w')
    (s' : St) (HF : ∀ wx : World, Mach wx p b d inp ov { s with pc := s.pc + 1 } → Calls Try.prog 20 #[.pointer (some ⟨p, 0, none⟩), insV 2 u v a x c op im] wx fun e w' => e = .returned (.tuple #[]) ∧ After wx B p b d inp s' w') :
    Calls Try.prog 13 #[.pointer (some ⟨p, 0, none⟩)] w fun e w' => e = .returned (.tuple #[]) ∧ After w B p b d inp s' w' := by
  unfold insV at HD HF
  have HM := Lib.hid M
  have hp := M.lt
  have z1 := M.c21
  have z2 := M.c22
  have z3 := M.c26
  have f3 := M.free 26
  have f1 := M.free 21
  have HZ : Hid (∀ wx : World, Mach wx p b d inp ov s → Calls Try.prog 19 #[.pointer (some ⟨b, 0, none⟩)] wx fun e w' => e = .returned (.int .i64 s.ws.length) ∧ wx = w') := Lib.hid (fun wx m => mem_size m.mem)
  have HD := Lib.hid HD
  have HBw := Lib.hid (show B ≤ w.heap.size by omega)
  have hnb : s.ws.length ≤ 65536 := M.ok.ws
  obtain ⟨k, hk⟩ : ∃ k, k = s.pc := ⟨_, rfl⟩
  rw [← hk] at z1 hn hw
  have HL : Hid (∀ wx : World, Mach wx p b d inp ov s → Calls Try.prog 8 #[.pointer (some ⟨b, 0, none⟩), .int .u32 ((k : Int) * 4)] wx fun e w' => e = .returned (.tuple #[.int .u32 wd, .bool true]) ∧ wx = w') := Lib.hid (fun wx m => by
    have h := mem_load m.mem (k * 4) (by omega)
    have e1 : full s.ws (k * 4) = true := by simp [full]; omega
    rw [e1, if_pos rfl, show wordOf s.ws (k * 4) = wd by rw [← hw]; unfold wordOf; rw [Nat.mul_div_cancel _ (by decide)]] at h
    rw [show (k : Int) * 4 = ((k * 4 : Nat) : Int) by omega]
    exact h)
  have HK := Lib.hid hk
  have HF := Lib.hid HF
  have HP : Hid (∀ wx : World, Mach wx p b d inp ov s → Mach (wx.setCell ⟨p, 21, none⟩ (.int .i64 ((k : Int) + 1))) p b d inp ov { s with pc := s.pc + 1 }) := Lib.hid (fun wx m => by rw [← hk]; exact m.pcset (k + 1) (by omega))
  generalize s.ws.length = n at HZ hn hnb
  have h1 : decide ((k : Int) < (n : Int)) = true := by simp; omega
  have h2 : decide (k < n) = true := by simp; omega
  have kb : (k : Int) < 65536 := by omega
  clear M hn hk hnb hw
  go_enter Try.func13, Try.ntmps13
  go_wp2
  go_quiet ((go_at_call 19; exact q0 (HZ.out _ (Mach.drewN HM.out _))))
  go_wp2
  go_quiet ((go_at_call 8; exact qA (HL.out _ (Mach.drewN HM.out _))))
  go_wp2_with ((go_at_call 10; (with_reducible refine (HD.out _).mono ?_); rintro e w1 ⟨rfl, hb⟩; have MG : Hid (Mach w1 p b d inp ov s) := Lib.hid (Mach.grown (Mach.drewN HM.out _) hb); have y1 := MG.out.c26; have y2 := MG.out.free 26; have y3 := MG.out.c21; have y4 := MG.out.free 21; have hq1 := MG.out.lt; rw [← HK.out] at y3; have HB := Lib.hid hb; clear hb))
  go_wp2_with ((go_at_call 20; (with_reducible refine (HF.out _ (Mach.alloc (HP.out _ MG.out) _)).mono ?_); rintro e w2 ⟨rfl, h1⟩))
  go_end0
  have hB1 : Below B w w1 := Below.trans (below_drewN (Below.refl B w) _) (HB.out.mono (by simpa using HBw.out))
  obtain ⟨ov', h2, h3⟩ := h1
  exact ⟨rfl, ov', h2, Below.trans ((Below.setCell (p := ⟨p, 21, none⟩) hB1 hB _).alloc (by have := HBw.out; simp; omega) _) h3⟩
set_option maxHeartbeats 4000000 in
set_option maxRecDepth 100000 in
theorem step_jump {w : World} {B p b d : Nat} {inp : ByteArray} {ov : Value} {s : St} (M : Mach w p b d inp ov s) (hB : B ≤ p) (wd : Nat) (hn : s.pc < s.ws.length) (hw : s.ws.getD s.pc 0 = wd) (u v : Bool) (a x c op : Nat) (im : Int) (HD : ∀ wx : World, Calls Try.prog 10 #[.int .u32 wd] wx fun e w' => e = .returned (.tuple #[insV 3 u v a x c op im, .int .i64 0]) ∧ Below wx.heap.size wx w')
    (s' : St) (HF : ∀ wx : World, Mach wx p b d inp ov { s with pc := s.pc + 1 } → Calls Try.prog 21 #[.pointer (some ⟨p, 0, none⟩), insV 3 u v a x c op im] wx fun e w' => e = .returned (.tuple #[]) ∧ After wx B p b d inp s' w') :
    Calls Try.prog 13 #[.pointer (some ⟨p, 0, none⟩)] w fun e w' => e = .returned (.tuple #[]) ∧ After w B p b d inp s' w' := by
  unfold insV at HD HF
  have HM := Lib.hid M
  have hp := M.lt
  have z1 := M.c21
  have z2 := M.c22
  have z3 := M.c26
  have f3 := M.free 26
  have f1 := M.free 21
  have HZ : Hid (∀ wx : World, Mach wx p b d inp ov s → Calls Try.prog 19 #[.pointer (some ⟨b, 0, none⟩)] wx fun e w' => e = .returned (.int .i64 s.ws.length) ∧ wx = w') := Lib.hid (fun wx m => mem_size m.mem)
  have HD := Lib.hid HD
  have HBw := Lib.hid (show B ≤ w.heap.size by omega)
  have hnb : s.ws.length ≤ 65536 := M.ok.ws
  obtain ⟨k, hk⟩ : ∃ k, k = s.pc := ⟨_, rfl⟩
  rw [← hk] at z1 hn hw
  have HL : Hid (∀ wx : World, Mach wx p b d inp ov s → Calls Try.prog 8 #[.pointer (some ⟨b, 0, none⟩), .int .u32 ((k : Int) * 4)] wx fun e w' => e = .returned (.tuple #[.int .u32 wd, .bool true]) ∧ wx = w') := Lib.hid (fun wx m => by
    have h := mem_load m.mem (k * 4) (by omega)
    have e1 : full s.ws (k * 4) = true := by simp [full]; omega
    rw [e1, if_pos rfl, show wordOf s.ws (k * 4) = wd by rw [← hw]; unfold wordOf; rw [Nat.mul_div_cancel _ (by decide)]] at h
    rw [show (k : Int) * 4 = ((k * 4 : Nat) : Int) by omega]
    exact h)
  have HK := Lib.hid hk
  have HF := Lib.hid HF
  have HP : Hid (∀ wx : World, Mach wx p b d inp ov s → Mach (wx.setCell ⟨p, 21, none⟩ (.int .i64 ((k : Int) + 1))) p b d inp ov { s with pc := s.pc + 1 }) := Lib.hid (fun wx m => by rw [← hk]; exact m.pcset (k + 1) (by omega))
  generalize s.ws.length = n at HZ hn hnb
  have h1 : decide ((k : Int) < (n : Int)) = true := by simp; omega
  have h2 : decide (k < n) = true := by simp; omega
  have kb : (k : Int) < 65536 := by omega
  clear M hn hk hnb hw
  go_enter Try.func13, Try.ntmps13
  go_wp2
  go_quiet ((go_at_call 19; exact q0 (HZ.out _ (Mach.drewN HM.out _))))
  go_wp2
  go_quiet ((go_at_call 8; exact qA (HL.out _ (Mach.drewN HM.out _))))
  go_wp2_with ((go_at_call 10; (with_reducible refine (HD.out _).mono ?_); rintro e w1 ⟨rfl, hb⟩; have MG : Hid (Mach w1 p b d inp ov s) := Lib.hid (Mach.grown (Mach.drewN HM.out _) hb); have y1 := MG.out.c26; have y2 := MG.out.free 26; have y3 := MG.out.c21; have y4 := MG.out.free 21; have hq1 := MG.out.lt; rw [← HK.out] at y3; have HB := Lib.hid hb; clear hb))
  go_wp2_with ((go_at_call 21; (with_reducible refine (HF.out _ (Mach.alloc (HP.out _ MG.out) _)).mono ?_); rintro e w2 ⟨rfl, h1⟩))
  go_end0
  have hB1 : Below B w w1 := Below.trans (below_drewN (Below.refl B w) _) (HB.out.mono (by simpa using HBw.out))
  obtain ⟨ov', h2, h3⟩ := h1
  exact ⟨rfl, ov', h2, Below.trans ((Below.setCell (p := ⟨p, 21, none⟩) hB1 hB _).alloc (by have := HBw.out; simp; omega) _) h3⟩
set_option maxHeartbeats 4000000 in
set_option maxRecDepth 100000 in
theorem step_reg {w : World} {B p b d : Nat} {inp : ByteArray} {ov : Value} {s : St} (M : Mach w p b d inp ov s) (hB : B ≤ p) (wd : Nat) (hn : s.pc < s.ws.length) (hw : s.ws.getD s.pc 0 = wd) (u v : Bool) (a x c op : Nat) (im : Int) (HD : ∀ wx : World, Calls Try.prog 10 #[.int .u32 wd] wx fun e w' => e = .returned (.tuple #[insV 0 u v a x c op im, .int .i64 0]) ∧ Below wx.heap.size wx w')
    (s' : St) (HF : ∀ wx : World, Mach wx p b d inp ov { s with pc := s.pc + 1 } → Calls Try.prog 22 #[.pointer (some ⟨p, 0, none⟩), insV 0 u v a x c op im] wx fun e w' => e = .returned (.tuple #[]) ∧ After wx B p b d inp s' w') :
    Calls Try.prog 13 #[.pointer (some ⟨p, 0, none⟩)] w fun e w' => e = .returned (.tuple #[]) ∧ After w B p b d inp s' w' := by
  unfold insV at HD HF
  have HM := Lib.hid M
  have hp := M.lt
  have z1 := M.c21
  have z2 := M.c22
  have z3 := M.c26
  have f3 := M.free 26
  have f1 := M.free 21
  have HZ : Hid (∀ wx : World, Mach wx p b d inp ov s → Calls Try.prog 19 #[.pointer (some ⟨b, 0, none⟩)] wx fun e w' => e = .returned (.int .i64 s.ws.length) ∧ wx = w') := Lib.hid (fun wx m => mem_size m.mem)
  have HD := Lib.hid HD
  have HBw := Lib.hid (show B ≤ w.heap.size by omega)
  have hnb : s.ws.length ≤ 65536 := M.ok.ws
  obtain ⟨k, hk⟩ : ∃ k, k = s.pc := ⟨_, rfl⟩
  rw [← hk] at z1 hn hw
  have HL : Hid (∀ wx : World, Mach wx p b d inp ov s → Calls Try.prog 8 #[.pointer (some ⟨b, 0, none⟩), .int .u32 ((k : Int) * 4)] wx fun e w' => e = .returned (.tuple #[.int .u32 wd, .bool true]) ∧ wx = w') := Lib.hid (fun wx m => by
    have h := mem_load m.mem (k * 4) (by omega)
    have e1 : full s.ws (k * 4) = true := by simp [full]; omega
    rw [e1, if_pos rfl, show wordOf s.ws (k * 4) = wd by rw [← hw]; unfold wordOf; rw [Nat.mul_div_cancel _ (by decide)]] at h
    rw [show (k : Int) * 4 = ((k * 4 : Nat) : Int) by omega]
    exact h)
  have HK := Lib.hid hk
  have HF := Lib.hid HF
  have HP : Hid (∀ wx : World, Mach wx p b d inp ov s → Mach (wx.setCell ⟨p, 21, none⟩ (.int .i64 ((k : Int) + 1))) p b d inp ov { s with pc := s.pc + 1 }) := Lib.hid (fun wx m => by rw [← hk]; exact m.pcset (k + 1) (by omega))
  generalize s.ws.length = n at HZ hn hnb
  have h1 : decide ((k : Int) < (n : Int)) = true := by simp; omega
  have h2 : decide (k < n) = true := by simp; omega
  have kb : (k : Int) < 65536 := by omega
  clear M hn hk hnb hw
  go_enter Try.func13, Try.ntmps13
  go_wp2
  go_quiet ((go_at_call 19; exact q0 (HZ.out _ (Mach.drewN HM.out _))))
  go_wp2
  go_quiet ((go_at_call 8; exact qA (HL.out _ (Mach.drewN HM.out _))))
  go_wp2_with ((go_at_call 10; (with_reducible refine (HD.out _).mono ?_); rintro e w1 ⟨rfl, hb⟩; have MG : Hid (Mach w1 p b d inp ov s) := Lib.hid (Mach.grown (Mach.drewN HM.out _) hb); have y1 := MG.out.c26; have y2 := MG.out.free 26; have y3 := MG.out.c21; have y4 := MG.out.free 21; have hq1 := MG.out.lt; rw [← HK.out] at y3; have HB := Lib.hid hb; clear hb))
  go_wp2_with ((go_at_call 22; (with_reducible refine (HF.out _ (Mach.alloc (HP.out _ MG.out) _)).mono ?_); rintro e w2 ⟨rfl, h1⟩))
  go_end0
  have hB1 : Below B w w1 := Below.trans (below_drewN (Below.refl B w) _) (HB.out.mono (by simpa using HBw.out))
  obtain ⟨ov', h2, h3⟩ := h1
  exact ⟨rfl, ov', h2, Below.trans ((Below.setCell (p := ⟨p, 21, none⟩) hB1 hB _).alloc (by have := HBw.out; simp; omega) _) h3⟩
set_option maxHeartbeats 4000000 in
set_option maxRecDepth 100000 in
theorem step_im {w : World} {B p b d : Nat} {inp : ByteArray} {ov : Value} {s : St} (M : Mach w p b d inp ov s) (hB : B ≤ p) (wd : Nat) (hn : s.pc < s.ws.length) (hw : s.ws.getD s.pc 0 = wd) (u v : Bool) (a x c op : Nat) (im : Int) (HD : ∀ wx : World, Calls Try.prog 10 #[.int .u32 wd] wx fun e w' => e = .returned (.tuple #[insV 1 u v a x c op im, .int .i64 0]) ∧ Below wx.heap.size wx w')
    (s' : St) (HF : ∀ wx : World, Mach wx p b d inp ov { s with pc := s.pc + 1 } → Calls Try.prog 22 #[.pointer (some ⟨p, 0, none⟩), insV 1 u v a x c op im] wx fun e w' => e = .returned (.tuple #[]) ∧ After wx B p b d inp s' w') :
    Calls Try.prog 13 #[.pointer (some ⟨p, 0, none⟩)] w fun e w' => e = .returned (.tuple #[]) ∧ After w B p b d inp s' w' := by
  unfold insV at HD HF
  have HM := Lib.hid M
  have hp := M.lt
  have z1 := M.c21
  have z2 := M.c22
  have z3 := M.c26
  have f3 := M.free 26
  have f1 := M.free 21
  have HZ : Hid (∀ wx : World, Mach wx p b d inp ov s → Calls Try.prog 19 #[.pointer (some ⟨b, 0, none⟩)] wx fun e w' => e = .returned (.int .i64 s.ws.length) ∧ wx = w') := Lib.hid (fun wx m => mem_size m.mem)
  have HD := Lib.hid HD
  have HBw := Lib.hid (show B ≤ w.heap.size by omega)
  have hnb : s.ws.length ≤ 65536 := M.ok.ws
  obtain ⟨k, hk⟩ : ∃ k, k = s.pc := ⟨_, rfl⟩
  rw [← hk] at z1 hn hw
  have HL : Hid (∀ wx : World, Mach wx p b d inp ov s → Calls Try.prog 8 #[.pointer (some ⟨b, 0, none⟩), .int .u32 ((k : Int) * 4)] wx fun e w' => e = .returned (.tuple #[.int .u32 wd, .bool true]) ∧ wx = w') := Lib.hid (fun wx m => by
    have h := mem_load m.mem (k * 4) (by omega)
    have e1 : full s.ws (k * 4) = true := by simp [full]; omega
    rw [e1, if_pos rfl, show wordOf s.ws (k * 4) = wd by rw [← hw]; unfold wordOf; rw [Nat.mul_div_cancel _ (by decide)]] at h
    rw [show (k : Int) * 4 = ((k * 4 : Nat) : Int) by omega]
    exact h)
  have HK := Lib.hid hk
  have HF := Lib.hid HF
  have HP : Hid (∀ wx : World, Mach wx p b d inp ov s → Mach (wx.setCell ⟨p, 21, none⟩ (.int .i64 ((k : Int) + 1))) p b d inp ov { s with pc := s.pc + 1 }) := Lib.hid (fun wx m => by rw [← hk]; exact m.pcset (k + 1) (by omega))
  generalize s.ws.length = n at HZ hn hnb
  have h1 : decide ((k : Int) < (n : Int)) = true := by simp; omega
  have h2 : decide (k < n) = true := by simp; omega
  have kb : (k : Int) < 65536 := by omega
  clear M hn hk hnb hw
  go_enter Try.func13, Try.ntmps13
  go_wp2
  go_quiet ((go_at_call 19; exact q0 (HZ.out _ (Mach.drewN HM.out _))))
  go_wp2
  go_quiet ((go_at_call 8; exact qA (HL.out _ (Mach.drewN HM.out _))))
  go_wp2_with ((go_at_call 10; (with_reducible refine (HD.out _).mono ?_); rintro e w1 ⟨rfl, hb⟩; have MG : Hid (Mach w1 p b d inp ov s) := Lib.hid (Mach.grown (Mach.drewN HM.out _) hb); have y1 := MG.out.c26; have y2 := MG.out.free 26; have y3 := MG.out.c21; have y4 := MG.out.free 21; have hq1 := MG.out.lt; rw [← HK.out] at y3; have HB := Lib.hid hb; clear hb))
  go_wp2_with ((go_at_call 22; (with_reducible refine (HF.out _ (Mach.alloc (HP.out _ MG.out) _)).mono ?_); rintro e w2 ⟨rfl, h1⟩))
  go_end0
  have hB1 : Below B w w1 := Below.trans (below_drewN (Below.refl B w) _) (HB.out.mono (by simpa using HBw.out))
  obtain ⟨ov', h2, h3⟩ := h1
  exact ⟨rfl, ov', h2, Below.trans ((Below.setCell (p := ⟨p, 21, none⟩) hB1 hB _).alloc (by have := HBw.out; simp; omega) _) h3⟩
end Go.Proofs.Ytjlngglkljjgmaa
