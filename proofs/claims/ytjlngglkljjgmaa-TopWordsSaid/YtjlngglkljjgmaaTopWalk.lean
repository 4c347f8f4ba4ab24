/- TopWords: the walk. -/
import Derived.Test.YtjlngglkljjgmaaTopRun
import Derived.Test.YtjlngglkljjgmaaCpuWakes2
namespace Go.Proofs.Ytjlngglkljjgmaa
open Go.RowKit
theorem top_end {w : World} {B p b d : Nat} {inp : ByteArray} {ov : Value} {s : St} (M : Mach w p b d inp ov s) (he0 : s.e = 0) (hin : inp.size ≤ 4096) (hB : B ≤ p) (hd : B ≤ d) (F : Int → Prop) (hF : ∀ s', Steps s s' → F s'.endI) :
    Calls Try.prog 6 #[.pointer (some ⟨p, 0, none⟩), .int .i64 1] w fun e w' => ∃ (k : Nat) (E t : Int) (o : ByteArray) (rd : Nat), e = .returned (.tuple #[.agg #[.int .i64 E, .int .i64 t, .string o, .int .i64 k, .int .i64 rd], .int .i64 0]) ∧ F E ∧ Below B w w' := by
  refine (top_run1 M he0 hin hB hd).mono ?_
  rintro e w' ⟨k, s', t, o, rd, rfl, hS, hb⟩
  exact ⟨k, _, t, o, rd, rfl, hF s' hS, hb⟩
theorem decE_or (x : Nat) : decE x = 0 ∨ decE x = 20 := by
  unfold decE
  split
  · exact .inl rfl
  · exact .inr rfl
theorem below_more {B : Nat} {w w1 w2 : World} {o : Obj} (h : Below B w w1) (h2 : Below (w1.alloc o).heap.size (w1.alloc o) w2) (hB : B ≤ w.heap.size := by simp) : Below B w w2 := by
  have hs := h.size
  exact (h.alloc (by omega) o).trans (h2.mono (by simp; omega))
theorem top_load {w : World} {p b d : Nat} {inp : ByteArray} {ov : Value} {s : St} (M : Mach w p b d inp ov s) (q wd a4 : Nat) (hq : q = s.pc) (h4 : a4 = q * 4) (hw : s.ws.getD s.pc 0 = wd) (hl : s.pc < s.ws.length) :
    Calls Try.prog 8 #[.pointer (some ⟨b, 0, none⟩), .int .u32 (a4 : Nat)] w fun e w' => e = .returned (.tuple #[.int .u32 wd, .bool true]) ∧ w = w' := by
  have hpc := M.ok.pc
  have h := mem_load M.mem (q * 4) (by omega)
  have e1 : full s.ws (q * 4) = true := by simp [full]; omega
  rw [e1, if_pos rfl, show wordOf s.ws (q * 4) = wd by rw [← hw, hq]; unfold wordOf; rw [Nat.mul_div_cancel _ (by decide)]] at h
  rw [h4]
  exact h
theorem top_load_no {w : World} {p b d : Nat} {inp : ByteArray} {ov : Value} {s : St} (M : Mach w p b d inp ov s) (q a4 : Nat) (hq : q = s.pc) (h4 : a4 = q * 4) (hl : ¬ s.pc < s.ws.length) :
    Calls Try.prog 8 #[.pointer (some ⟨b, 0, none⟩), .int .u32 (a4 : Nat)] w fun e w' => e = .returned (.tuple #[.int .u32 (0 : Nat), .bool false]) ∧ w = w' := by
  have hpc := M.ok.pc
  have h := mem_load M.mem (q * 4) (by omega)
  have e1 : full s.ws (q * 4) = false := by simp [full]; omega
  rw [e1] at h
  rw [h4]
  exact h
theorem top_dec (x : Nat) (hx : x < 4294967296) (E : Int) (hE : decE x = E) : ∀ wx : World, Calls Try.prog 10 #[.int .u32 x] wx fun e w' => e = .returned (.tuple #[.agg #[.int .i64 (decI x).form, .bool (decI x).u, .bool (decI x).v, .int .i64 (decI x).a, .int .i64 (decI x).b, .int .i64 (decI x).c, .int .i64 (decI x).op, .int .i64 (decI x).im], .int .i64 E]) ∧ Below wx.heap.size wx w' := by
  intro wx
  have h := dec_calls x hx wx
  rw [hE] at h
  exact h
theorem top_dec0 (E : Int) (hE : decE 0 = E) : ∀ wx : World, Calls Try.prog 10 #[.int .u32 0] wx fun e w' => e = .returned (.tuple #[.agg #[.int .i64 (decI 0).form, .bool (decI 0).u, .bool (decI 0).v, .int .i64 (decI 0).a, .int .i64 (decI 0).b, .int .i64 (decI 0).c, .int .i64 (decI 0).op, .int .i64 (decI 0).im], .int .i64 E]) ∧ Below wx.heap.size wx w' := top_dec 0 (by decide) E hE
set_option maxHeartbeats 4000000 in
set_option maxRecDepth 100000 in
theorem top_long (a : Option Addr) (len cap : Nat) (inp : ByteArray) (fuel : Int) (w : World) (h : decide (2000 < (len : Int)) = true) :
    Calls Try.prog 3 #[.slice a len cap, .string inp, .int .i64 fuel] w fun e w' => e = .returned (.bool true) ∧ Below w.heap.size w w' := by
  go_enter Try.func3, Try.ntmps3
  go_wp2_with (go_at_call 4; (with_reducible refine (wakes_cpu _).mono ?_); rintro e w1 ⟨rfl, hb⟩)
  go_ret
  exact ⟨rfl, hb⟩
set_option maxHeartbeats 4000000 in
set_option maxRecDepth 100000 in
theorem top_input (a : Option Addr) (len cap : Nat) (inp : ByteArray) (fuel : Int) (w : World) (h1 : decide (2000 < (len : Int)) = false) (h : decide (4000 < (inp.size : Int)) = true) :
    Calls Try.prog 3 #[.slice a len cap, .string inp, .int .i64 fuel] w fun e w' => e = .returned (.bool true) ∧ Below w.heap.size w w' := by
  go_enter Try.func3, Try.ntmps3
  go_wp2_with (go_at_call 4; (with_reducible refine (wakes_cpu _).mono ?_); rintro e w1 ⟨rfl, hb⟩)
  go_ret
  exact ⟨rfl, hb⟩
set_option maxHeartbeats 4000000 in
set_option maxRecDepth 100000 in
theorem top_low (a : Option Addr) (len cap : Nat) (inp : ByteArray) (fuel : Int) (w : World) (h1 : decide (2000 < (len : Int)) = false) (h2 : decide (4000 < (inp.size : Int)) = false) (h : decide (fuel < 1) = true) :
    Calls Try.prog 3 #[.slice a len cap, .string inp, .int .i64 fuel] w fun e w' => e = .returned (.bool true) ∧ Below w.heap.size w w' := by
  go_enter Try.func3, Try.ntmps3
  go_wp2_with (go_at_call 4; (with_reducible refine (wakes_cpu _).mono ?_); rintro e w1 ⟨rfl, hb⟩)
  go_ret
  exact ⟨rfl, hb⟩
set_option maxHeartbeats 4000000 in
set_option maxRecDepth 100000 in
theorem top_high (a : Option Addr) (len cap : Nat) (inp : ByteArray) (fuel : Int) (w : World) (h1 : decide (2000 < (len : Int)) = false) (h2 : decide (4000 < (inp.size : Int)) = false) (h3 : decide (fuel < 1) = false) (h : decide (20000 < fuel) = true) :
    Calls Try.prog 3 #[.slice a len cap, .string inp, .int .i64 fuel] w fun e w' => e = .returned (.bool true) ∧ Below w.heap.size w w' := by
  go_enter Try.func3, Try.ntmps3
  go_wp2_with (go_at_call 4; (with_reducible refine (wakes_cpu _).mono ?_); rintro e w1 ⟨rfl, hb⟩)
  go_ret
  exact ⟨rfl, hb⟩
set_option maxHeartbeats 4000000 in
set_option maxRecDepth 100000 in
theorem top_some (ad : Addr) (len cap : Nat) (xs : List Nat) (inp : ByteArray) (fuel : Nat) (w : World) (hl : xs.length = len) (hlen : len ≤ 2000) (hs : ∀ x ∈ xs, x < 4294967296) (hc : ∀ j u, (W32 xs)[j]? = some u → w.cell? (ad.add j) = some u) (hi : inp.size ≤ 4000) (hf1 : 1 ≤ fuel) (hf2 : fuel ≤ 20000) :
    Calls Try.prog 3 #[.slice (some ad) len cap, .string inp, .int .i64 fuel] w fun e w' => e = .returned (.bool true) ∧ Below w.heap.size w w' := by
  obtain ⟨i0, hi0, hz0, hz1, hz2⟩ := info_parts info22
  have HL := Lib.hid hl
  have HS := Lib.hid hs
  have HC := Lib.hid hc
  have HLn := Lib.hid hlen
  have B2 := Lib.hid (show 0 + len ≤ maxLen by unfold maxLen; omega)
  have B3 := Lib.hid (show (0 + len) * 4 ≤ 140737488355328 by omega)
  have g1 : decide (2000 < (len : Int)) = false := by simp; omega
  have g1' : decide (2000 < len) = false := by simp; omega
  have g2 : decide (4000 < (inp.size : Int)) = false := by simp; omega
  have g2' : decide (4000 < inp.size) = false := by simp; omega
  have g3 : decide ((fuel : Int) < 1) = false := by simp; omega
  have g3' : decide (fuel < 1) = false := by simp; omega
  have g4 : decide (20000 < (fuel : Int)) = false := by simp; omega
  have g4' : decide (20000 < fuel) = false := by simp; omega
  have HI := Lib.hid (show inp.size ≤ 4096 by omega)
  have HF1 := Lib.hid hf1
  have HF2 := Lib.hid (show fuel ≤ 4194304 by omega)
  clear hi hf1 hf2 hl hs hc hlen
  go_enter Try.func3, Try.ntmps3
  go_wp2_with (at_builtin; refine wpList_append_own _ rfl _ _ 22 rfl w.heap.size 32 i0 (.int .u32 0) 1 4 Try.underlying22 hi0 hz0 hz1 hz2 rfl (by decide) _ 0 [] rfl (World.ownsRow_lit w #[] 0 (Nat.le_refl _) (by decide) rfl) ad len cap (W32 xs) rfl (by rw [← HL.out]; simp [W32]) (fun j u hu => cell_kept ⟨rfl, rfl, rfl, Nat.le_refl _, fun _ _ _ => rfl⟩ (HC.out j u hu)) (one_W32 xs) B2.out B3.out (by simp) ?_; intro v' w1 hown hgrow hnil)
  have hgrow : (w.alloc (.cells #[] 32)).grownBy w1 (some w.heap.size) := hgrow
  have GR := Lib.hid (show Below w.heap.size w w1 from ((Below.refl w.heap.size w).alloc (Nat.le_refl _) _).grown hgrow (by simp) (fun k hk => by simp at hk; omega))
  obtain ⟨g, c, rfl, hcells⟩ : ∃ g c, v' = .slice (some ⟨g, 0, none⟩) len c ∧ ∀ j u, (W32 xs)[j]? = some u → w1.cell? ((⟨g, 0, none⟩ : Addr).add j) = some u := by
    rcases hown.2 with ⟨h, _⟩ | ⟨g, c, cur, h, _, e3, _, _, _, e7⟩
    · have h : Value.slice (some ⟨w.heap.size, 0, none⟩) 0 0 = .slice none 0 0 := (hnil.1 h).1
      simp at h
    · refine ⟨g, c, by rw [h, Nat.zero_add], fun j u hu => ?_⟩
      have hj : j < xs.length := by
        rcases Nat.lt_or_ge j xs.length with h' | h'
        · exact h'
        · rw [List.getElem?_eq_none (by simp [W32]; omega)] at hu; cases hu
      have hcc : w1.cell? ⟨g, j, none⟩ = cur[j]? := by simp [World.cell?, e3]
      have ht : (cur.toList.take ((0 + len) * 1))[j]? = some u := by rw [e7]; simpa using hu
      rw [List.getElem?_take_of_lt (by rw [← HL.out]; omega)] at ht
      rw [add_at0, hcc]
      simpa using ht
  have NC := Lib.hid (cpu_new (some ⟨g, 0, none⟩) len c xs inp w1 HL.out (by have := HLn.out; omega) HS.out HI.out (fun _ => ⟨_, rfl, hcells⟩))
  clear hown hgrow hnil hcells
  refine NC.out.mono ?_
  rintro e w2 ⟨p, b, d, rfl, hM, hb, hd, hp, hB⟩
  have RC := Lib.hid (top_run hM rfl HI.out hp hd fuel HF1.out HF2.out)
  have HB := Lib.hid (GR.out.trans (hB.mono GR.out.size))
  have Hd := Lib.hid hd
  have Hp := Lib.hid hp
  clear hM hb hd hp hB
  go_wp2_with fail
  refine RC.out.mono ?_
  rintro e w3 ⟨k, s, ov, t, o, rd, rfl, hk1, hk2, h3, h4, hM3, hB3⟩
  have HM3 := Lib.hid hM3
  have HB3 := Lib.hid (HB.out.trans (hB3.mono GR.out.size))
  have H4 := Lib.hid h4
  clear hM3 hB3 h4
  have HBz := HB3
  have hpc := HM3.out.ok.pc
  obtain ⟨q, hq⟩ : ∃ q, q = s.pc := ⟨_, rfl⟩
  obtain ⟨a4, h4⟩ : ∃ a, a = q * 4 := ⟨_, rfl⟩
  have W1 : wrap64 (4 * (q : Int)) = (a4 : Int) := by unfold wrap64; omega
  have W3 : IntKind.u32.wrap (a4 : Int) = (a4 : Int) := by rw [IntKind.wrap_u32]; omega
  have HMem : Hid (∀ wx : World, Mach wx p b d inp ov s → Calls Try.prog 7 #[.pointer (some ⟨p, 0, none⟩)] wx fun e w' => e = .returned (.pointer (some ⟨b, 0, none⟩)) ∧ wx = w') := Lib.hid (fun wx m => memory_calls m)
  have HPc : Hid (∀ wx : World, Mach wx p b d inp ov s → Calls Try.prog 9 #[.pointer (some ⟨p, 0, none⟩)] wx fun e w' => e = .returned (.int .i64 q) ∧ wx = w') := Lib.hid (fun wx m => by rw [hq]; exact pc_calls m)
  by_cases he4 : s.e = 4
  · obtain ⟨hb1, hb2⟩ := H4.out he4
    obtain ⟨wd, hwd⟩ : ∃ wd, s.ws.getD s.pc 0 = wd := ⟨_, rfl⟩
    rw [hwd] at hb2
    have hwd2 : wd < 4294967296 := by
      rw [← hwd, List.getD_eq_getElem?_getD, List.getElem?_eq_getElem hb1, Option.getD_some]
      exact HM3.out.mem.small _ (List.getElem_mem hb1)
    have HLd := Lib.hid (fun (wx : World) (m : Mach wx p b d inp ov s) => top_load m q wd a4 hq h4 hwd hb1)
    have HDc := Lib.hid (top_dec wd hwd2 20 (by rcases decE_or wd with h | h; exact absurd h hb2; exact h))
    have hE : s.endI = 4 := by unfold St.endI; rw [if_neg (by rw [he4]; decide)]; exact he4
    rw [hE]
    generalize decI wd = x at HDc
    clear hk1 hk2 h3 hpc hq h4 he4 hb1 hb2 hwd hwd2 hE
    go_wp2_with (first | (go_at_call 7; (with_reducible refine (HMem.out _ (Mach.alloc HM3.out _)).mono ?_); rintro e w4 ⟨rfl, rfl⟩) | (go_at_call 9; (with_reducible refine (HPc.out _ (Mach.alloc HM3.out _)).mono ?_); rintro e w4 ⟨rfl, rfl⟩) | (go_at_call 8; (with_reducible refine (HLd.out _ (Mach.alloc HM3.out _)).mono ?_); rintro e w4 ⟨rfl, rfl⟩) | (go_at_call 10; (with_reducible refine (HDc.out _).mono ?_); rintro e w5 ⟨rfl, hb⟩; have o0 : w5.cell? ⟨w3.heap.size, 0, none⟩ = some (.int .i64 4) := (hb.cell (by simp)).trans (by simp [go_sem]); have l5 : w3.heap.size < w5.heap.size := (by have := hb.size; simp at this; omega); have HB5 := Lib.hid (below_more HBz.out hb); have HM5 := Lib.hid (Mach.grown (Mach.alloc HM3.out _) hb); clear hb) | (go_at_call 4; (with_reducible refine (wakes_cpu _).mono ?_); rintro e w7 ⟨rfl, hb⟩; have HB7 := Lib.hid (below_more HB5.out hb)))
    go_ret
    exact ⟨rfl, HB7.out⟩
  · by_cases he0 : s.e = 0
    · have hE : s.endI = 3 := if_pos he0
      rw [hE]
      by_cases hpl : s.pc < s.ws.length
      · rcases decE_or (s.ws.getD s.pc 0) with hbd | hbd
        · obtain ⟨wd, hwd⟩ : ∃ wd, s.ws.getD s.pc 0 = wd := ⟨_, rfl⟩
          have hwd2 : wd < 4294967296 := by
            rw [← hwd, List.getD_eq_getElem?_getD, List.getElem?_eq_getElem hpl, Option.getD_some]
            exact HM3.out.mem.small _ (List.getElem_mem hpl)
          have HLd := Lib.hid (fun (wx : World) (m : Mach wx p b d inp ov s) => top_load m q wd a4 hq h4 hwd hpl)
          rw [hwd] at hbd
          have HDc := Lib.hid (top_dec wd hwd2 0 hbd)
          have HR := Lib.hid (fun (wx : World) (m : Mach wx p b d inp ov s) => top_end m he0 HI.out Hp.out Hd.out (fun z => (z != 4) = true) (fun s' hS => by unfold St.endI; have h := (hS.good hpl (by rw [hwd, hbd])).2; split <;> simp [h]))
          generalize decI wd = x at HDc
          clear hk1 hk2 h3 hpc hq h4 he0 he4 hpl hE hbd hwd hwd2
          go_wp2_with (first | (go_at_call 7; (with_reducible refine (HMem.out _ (Mach.alloc HM3.out _)).mono ?_); rintro e w4 ⟨rfl, rfl⟩) | (go_at_call 9; (with_reducible refine (HPc.out _ (Mach.alloc HM3.out _)).mono ?_); rintro e w4 ⟨rfl, rfl⟩) | (go_at_call 8; (with_reducible refine (HLd.out _ (Mach.alloc HM3.out _)).mono ?_); rintro e w4 ⟨rfl, rfl⟩) | (go_at_call 10; (with_reducible refine (HDc.out _).mono ?_); rintro e w5 ⟨rfl, hb⟩; have o0 : w5.cell? ⟨w3.heap.size, 0, none⟩ = some (.int .i64 3) := (hb.cell (by simp)).trans (by simp [go_sem]); have l5 : w3.heap.size < w5.heap.size := (by have := hb.size; simp at this; omega); have HB5 := Lib.hid (below_more HBz.out hb); have HM5 := Lib.hid (Mach.grown (Mach.alloc HM3.out _) hb); clear hb) | (go_at_call 6; (with_reducible refine (HR.out _ (Mach.alloc HM5.out _)).mono ?_); rintro e w6 ⟨k2, E2, t2, o2, rd2, rfl, hE2, hb⟩;  have HB6 := Lib.hid ((HB5.out.alloc HB5.out.size _).trans (hb.mono GR.out.size)); clear hb) | (go_at_call 4; (with_reducible refine (wakes_cpu _).mono ?_); rintro e w7 ⟨rfl, hb⟩; have HB7 := Lib.hid (below_more HB6.out hb)))
          go_ret
          exact ⟨rfl, HB7.out⟩
        · obtain ⟨wd, hwd⟩ : ∃ wd, s.ws.getD s.pc 0 = wd := ⟨_, rfl⟩
          have hwd2 : wd < 4294967296 := by
            rw [← hwd, List.getD_eq_getElem?_getD, List.getElem?_eq_getElem hpl, Option.getD_some]
            exact HM3.out.mem.small _ (List.getElem_mem hpl)
          have HLd := Lib.hid (fun (wx : World) (m : Mach wx p b d inp ov s) => top_load m q wd a4 hq h4 hwd hpl)
          rw [hwd] at hbd
          have HDc := Lib.hid (top_dec wd hwd2 20 hbd)
          have HR := Lib.hid (fun (wx : World) (m : Mach wx p b d inp ov s) => top_end m he0 HI.out Hp.out Hd.out (fun z => z = 4) (fun s' hS => by unfold St.endI; rw [(hS.bad hpl (by rw [hwd, hbd]; decide)).1]; rfl))
          generalize decI wd = x at HDc
          clear hk1 hk2 h3 hpc hq h4 he0 he4 hpl hE hbd hwd hwd2
          go_wp2_with (first | (go_at_call 7; (with_reducible refine (HMem.out _ (Mach.alloc HM3.out _)).mono ?_); rintro e w4 ⟨rfl, rfl⟩) | (go_at_call 9; (with_reducible refine (HPc.out _ (Mach.alloc HM3.out _)).mono ?_); rintro e w4 ⟨rfl, rfl⟩) | (go_at_call 8; (with_reducible refine (HLd.out _ (Mach.alloc HM3.out _)).mono ?_); rintro e w4 ⟨rfl, rfl⟩) | (go_at_call 10; (with_reducible refine (HDc.out _).mono ?_); rintro e w5 ⟨rfl, hb⟩; have o0 : w5.cell? ⟨w3.heap.size, 0, none⟩ = some (.int .i64 3) := (hb.cell (by simp)).trans (by simp [go_sem]); have l5 : w3.heap.size < w5.heap.size := (by have := hb.size; simp at this; omega); have HB5 := Lib.hid (below_more HBz.out hb); have HM5 := Lib.hid (Mach.grown (Mach.alloc HM3.out _) hb); clear hb) | (go_at_call 6; (with_reducible refine (HR.out _ (Mach.alloc HM5.out _)).mono ?_); rintro e w6 ⟨k2, E2, t2, o2, rd2, rfl, hE2, hb⟩; subst hE2; have HB6 := Lib.hid ((HB5.out.alloc HB5.out.size _).trans (hb.mono GR.out.size)); clear hb) | (go_at_call 4; (with_reducible refine (wakes_cpu _).mono ?_); rintro e w7 ⟨rfl, hb⟩; have HB7 := Lib.hid (below_more HB6.out hb)))
          go_ret
          exact ⟨rfl, HB7.out⟩
      · have HLd := Lib.hid (fun (wx : World) (m : Mach wx p b d inp ov s) => top_load_no m q a4 hq h4 hpl)
        obtain ⟨E0, hE0⟩ : ∃ E0, decE 0 = E0 := ⟨_, rfl⟩
        have HDc := Lib.hid (top_dec0 E0 hE0)
        have HR := Lib.hid (fun (wx : World) (m : Mach wx p b d inp ov s) => top_end m he0 HI.out Hp.out Hd.out (fun z => z = 5) (fun s' hS => by unfold St.endI; rw [hS.none (by omega)]; rfl))
        generalize decI 0 = x at HDc
        clear hk1 hk2 h3 hpc hq h4 he0 he4 hpl hE hE0
        go_wp2_with (first | (go_at_call 7; (with_reducible refine (HMem.out _ (Mach.alloc HM3.out _)).mono ?_); rintro e w4 ⟨rfl, rfl⟩) | (go_at_call 9; (with_reducible refine (HPc.out _ (Mach.alloc HM3.out _)).mono ?_); rintro e w4 ⟨rfl, rfl⟩) | (go_at_call 8; (with_reducible refine (HLd.out _ (Mach.alloc HM3.out _)).mono ?_); rintro e w4 ⟨rfl, rfl⟩) | (go_at_call 10; (with_reducible refine (HDc.out _).mono ?_); rintro e w5 ⟨rfl, hb⟩; have o0 : w5.cell? ⟨w3.heap.size, 0, none⟩ = some (.int .i64 3) := (hb.cell (by simp)).trans (by simp [go_sem]); have l5 : w3.heap.size < w5.heap.size := (by have := hb.size; simp at this; omega); have HB5 := Lib.hid (below_more HBz.out hb); have HM5 := Lib.hid (Mach.grown (Mach.alloc HM3.out _) hb); clear hb) | (go_at_call 6; (with_reducible refine (HR.out _ (Mach.alloc HM5.out _)).mono ?_); rintro e w6 ⟨k2, E2, t2, o2, rd2, rfl, hE2, hb⟩; subst hE2; have HB6 := Lib.hid ((HB5.out.alloc HB5.out.size _).trans (hb.mono GR.out.size)); clear hb) | (go_at_call 4; (with_reducible refine (wakes_cpu _).mono ?_); rintro e w7 ⟨rfl, hb⟩; have HB7 := Lib.hid (below_more HB6.out hb)))
        go_ret
        exact ⟨rfl, HB7.out⟩
    · have e1 : (s.endI != 4) = true := by unfold St.endI; rw [if_neg he0]; simpa using he4
      have e2 : (s.endI != 3) = true := by unfold St.endI; rw [if_neg he0]; simpa using h3
      have e3 : decide ((1 : Int) ≤ (k : Int)) = true := by simp; omega
      have e3' : decide (1 ≤ k) = true := by simp; omega
      have e4 : decide ((k : Int) ≤ (fuel : Int)) = true := by simp; omega
      have e4' : decide (k ≤ fuel) = true := by simp; omega
      have e1n : ¬ s.endI = 4 := by unfold St.endI; rw [if_neg he0]; exact he4
      have e2n : ¬ s.endI = 3 := by unfold St.endI; rw [if_neg he0]; exact h3
      clear hk1 hk2 h3 he0 he4 hpc hq h4
      generalize s.endI = E at e1 e2 e1n e2n ⊢
      go_wp2_with (go_at_call 4; (with_reducible refine (wakes_cpu _).mono ?_); rintro e w4 ⟨rfl, hb⟩)
      go_ret
      exact ⟨rfl, below_more HBz.out hb⟩
set_option maxHeartbeats 4000000 in
set_option maxRecDepth 100000 in
theorem top_none (inp : ByteArray) (fuel : Nat) (w : World) (hi : inp.size ≤ 4000) (hf1 : 1 ≤ fuel) (hf2 : fuel ≤ 20000) :
    Calls Try.prog 3 #[.slice none 0 0, .string inp, .int .i64 fuel] w fun e w' => e = .returned (.bool true) ∧ Below w.heap.size w w' := by
  have g2 : decide (4000 < (inp.size : Int)) = false := by simp; omega
  have g2' : decide (4000 < inp.size) = false := by simp; omega
  have g3 : decide ((fuel : Int) < 1) = false := by simp; omega
  have g3' : decide (fuel < 1) = false := by simp; omega
  have g4 : decide (20000 < (fuel : Int)) = false := by simp; omega
  have g4' : decide (20000 < fuel) = false := by simp; omega
  have HI := Lib.hid (show inp.size ≤ 4096 by omega)
  have HF1 := Lib.hid hf1
  have HF2 := Lib.hid (show fuel ≤ 4194304 by omega)
  clear hi hf1 hf2
  go_enter Try.func3, Try.ntmps3
  go_wp2_with fail
  have NC := Lib.hid (cpu_new (some ⟨w.heap.size, 0, none⟩) 0 0 [] inp (w.alloc (.cells #[] 32)) rfl (by decide) (by simp) HI.out (fun h => absurd h (by decide)))
  have GR := Lib.hid (show Below w.heap.size w (w.alloc (.cells #[] 32)) from (Below.refl w.heap.size w).alloc (Nat.le_refl _) _)
  refine NC.out.mono ?_
  rintro e w2 ⟨p, b, d, rfl, hM, hb, hd, hp, hB⟩
  have RC := Lib.hid (top_run hM rfl HI.out hp hd fuel HF1.out HF2.out)
  have HB := Lib.hid (GR.out.trans (hB.mono GR.out.size))
  have Hd := Lib.hid hd
  have Hp := Lib.hid hp
  clear hM hb hd hp hB
  go_wp2_with fail
  refine RC.out.mono ?_
  rintro e w3 ⟨k, s, ov, t, o, rd, rfl, hk1, hk2, h3, h4, hM3, hB3⟩
  have HM3 := Lib.hid hM3
  have HB3 := Lib.hid (HB.out.trans (hB3.mono GR.out.size))
  have H4 := Lib.hid h4
  clear hM3 hB3 h4
  have HBz := HB3
  have hpc := HM3.out.ok.pc
  obtain ⟨q, hq⟩ : ∃ q, q = s.pc := ⟨_, rfl⟩
  obtain ⟨a4, h4⟩ : ∃ a, a = q * 4 := ⟨_, rfl⟩
  have W1 : wrap64 (4 * (q : Int)) = (a4 : Int) := by unfold wrap64; omega
  have W3 : IntKind.u32.wrap (a4 : Int) = (a4 : Int) := by rw [IntKind.wrap_u32]; omega
  have HMem : Hid (∀ wx : World, Mach wx p b d inp ov s → Calls Try.prog 7 #[.pointer (some ⟨p, 0, none⟩)] wx fun e w' => e = .returned (.pointer (some ⟨b, 0, none⟩)) ∧ wx = w') := Lib.hid (fun wx m => memory_calls m)
  have HPc : Hid (∀ wx : World, Mach wx p b d inp ov s → Calls Try.prog 9 #[.pointer (some ⟨p, 0, none⟩)] wx fun e w' => e = .returned (.int .i64 q) ∧ wx = w') := Lib.hid (fun wx m => by rw [hq]; exact pc_calls m)
  by_cases he4 : s.e = 4
  · obtain ⟨hb1, hb2⟩ := H4.out he4
    obtain ⟨wd, hwd⟩ : ∃ wd, s.ws.getD s.pc 0 = wd := ⟨_, rfl⟩
    rw [hwd] at hb2
    have hwd2 : wd < 4294967296 := by
      rw [← hwd, List.getD_eq_getElem?_getD, List.getElem?_eq_getElem hb1, Option.getD_some]
      exact HM3.out.mem.small _ (List.getElem_mem hb1)
    have HLd := Lib.hid (fun (wx : World) (m : Mach wx p b d inp ov s) => top_load m q wd a4 hq h4 hwd hb1)
    have HDc := Lib.hid (top_dec wd hwd2 20 (by rcases decE_or wd with h | h; exact absurd h hb2; exact h))
    have hE : s.endI = 4 := by unfold St.endI; rw [if_neg (by rw [he4]; decide)]; exact he4
    rw [hE]
    generalize decI wd = x at HDc
    clear hk1 hk2 h3 hpc hq h4 he4 hb1 hb2 hwd hwd2 hE
    go_wp2_with (first | (go_at_call 7; (with_reducible refine (HMem.out _ (Mach.alloc HM3.out _)).mono ?_); rintro e w4 ⟨rfl, rfl⟩) | (go_at_call 9; (with_reducible refine (HPc.out _ (Mach.alloc HM3.out _)).mono ?_); rintro e w4 ⟨rfl, rfl⟩) | (go_at_call 8; (with_reducible refine (HLd.out _ (Mach.alloc HM3.out _)).mono ?_); rintro e w4 ⟨rfl, rfl⟩) | (go_at_call 10; (with_reducible refine (HDc.out _).mono ?_); rintro e w5 ⟨rfl, hb⟩; have o0 : w5.cell? ⟨w3.heap.size, 0, none⟩ = some (.int .i64 4) := (hb.cell (by simp)).trans (by simp [go_sem]); have l5 : w3.heap.size < w5.heap.size := (by have := hb.size; simp at this; omega); have HB5 := Lib.hid (below_more HBz.out hb); have HM5 := Lib.hid (Mach.grown (Mach.alloc HM3.out _) hb); clear hb) | (go_at_call 4; (with_reducible refine (wakes_cpu _).mono ?_); rintro e w7 ⟨rfl, hb⟩; have HB7 := Lib.hid (below_more HB5.out hb)))
    go_ret
    exact ⟨rfl, HB7.out⟩
  · by_cases he0 : s.e = 0
    · have hE : s.endI = 3 := if_pos he0
      rw [hE]
      by_cases hpl : s.pc < s.ws.length
      · rcases decE_or (s.ws.getD s.pc 0) with hbd | hbd
        · obtain ⟨wd, hwd⟩ : ∃ wd, s.ws.getD s.pc 0 = wd := ⟨_, rfl⟩
          have hwd2 : wd < 4294967296 := by
            rw [← hwd, List.getD_eq_getElem?_getD, List.getElem?_eq_getElem hpl, Option.getD_some]
            exact HM3.out.mem.small _ (List.getElem_mem hpl)
          have HLd := Lib.hid (fun (wx : World) (m : Mach wx p b d inp ov s) => top_load m q wd a4 hq h4 hwd hpl)
          rw [hwd] at hbd
          have HDc := Lib.hid (top_dec wd hwd2 0 hbd)
          have HR := Lib.hid (fun (wx : World) (m : Mach wx p b d inp ov s) => top_end m he0 HI.out Hp.out Hd.out (fun z => (z != 4) = true) (fun s' hS => by unfold St.endI; have h := (hS.good hpl (by rw [hwd, hbd])).2; split <;> simp [h]))
          generalize decI wd = x at HDc
          clear hk1 hk2 h3 hpc hq h4 he0 he4 hpl hE hbd hwd hwd2
          go_wp2_with (first | (go_at_call 7; (with_reducible refine (HMem.out _ (Mach.alloc HM3.out _)).mono ?_); rintro e w4 ⟨rfl, rfl⟩) | (go_at_call 9; (with_reducible refine (HPc.out _ (Mach.alloc HM3.out _)).mono ?_); rintro e w4 ⟨rfl, rfl⟩) | (go_at_call 8; (with_reducible refine (HLd.out _ (Mach.alloc HM3.out _)).mono ?_); rintro e w4 ⟨rfl, rfl⟩) | (go_at_call 10; (with_reducible refine (HDc.out _).mono ?_); rintro e w5 ⟨rfl, hb⟩; have o0 : w5.cell? ⟨w3.heap.size, 0, none⟩ = some (.int .i64 3) := (hb.cell (by simp)).trans (by simp [go_sem]); have l5 : w3.heap.size < w5.heap.size := (by have := hb.size; simp at this; omega); have HB5 := Lib.hid (below_more HBz.out hb); have HM5 := Lib.hid (Mach.grown (Mach.alloc HM3.out _) hb); clear hb) | (go_at_call 6; (with_reducible refine (HR.out _ (Mach.alloc HM5.out _)).mono ?_); rintro e w6 ⟨k2, E2, t2, o2, rd2, rfl, hE2, hb⟩;  have HB6 := Lib.hid ((HB5.out.alloc HB5.out.size _).trans (hb.mono GR.out.size)); clear hb) | (go_at_call 4; (with_reducible refine (wakes_cpu _).mono ?_); rintro e w7 ⟨rfl, hb⟩; have HB7 := Lib.hid (below_more HB6.out hb)))
          go_ret
          exact ⟨rfl, HB7.out⟩
        · obtain ⟨wd, hwd⟩ : ∃ wd, s.ws.getD s.pc 0 = wd := ⟨_, rfl⟩
          have hwd2 : wd < 4294967296 := by
            rw [← hwd, List.getD_eq_getElem?_getD, List.getElem?_eq_getElem hpl, Option.getD_some]
            exact HM3.out.mem.small _ (List.getElem_mem hpl)
          have HLd := Lib.hid (fun (wx : World) (m : Mach wx p b d inp ov s) => top_load m q wd a4 hq h4 hwd hpl)
          rw [hwd] at hbd
          have HDc := Lib.hid (top_dec wd hwd2 20 hbd)
          have HR := Lib.hid (fun (wx : World) (m : Mach wx p b d inp ov s) => top_end m he0 HI.out Hp.out Hd.out (fun z => z = 4) (fun s' hS => by unfold St.endI; rw [(hS.bad hpl (by rw [hwd, hbd]; decide)).1]; rfl))
          generalize decI wd = x at HDc
          clear hk1 hk2 h3 hpc hq h4 he0 he4 hpl hE hbd hwd hwd2
          go_wp2_with (first | (go_at_call 7; (with_reducible refine (HMem.out _ (Mach.alloc HM3.out _)).mono ?_); rintro e w4 ⟨rfl, rfl⟩) | (go_at_call 9; (with_reducible refine (HPc.out _ (Mach.alloc HM3.out _)).mono ?_); rintro e w4 ⟨rfl, rfl⟩) | (go_at_call 8; (with_reducible refine (HLd.out _ (Mach.alloc HM3.out _)).mono ?_); rintro e w4 ⟨rfl, rfl⟩) | (go_at_call 10; (with_reducible refine (HDc.out _).mono ?_); rintro e w5 ⟨rfl, hb⟩; have o0 : w5.cell? ⟨w3.heap.size, 0, none⟩ = some (.int .i64 3) := (hb.cell (by simp)).trans (by simp [go_sem]); have l5 : w3.heap.size < w5.heap.size := (by have := hb.size; simp at this; omega); have HB5 := Lib.hid (below_more HBz.out hb); have HM5 := Lib.hid (Mach.grown (Mach.alloc HM3.out _) hb); clear hb) | (go_at_call 6; (with_reducible refine (HR.out _ (Mach.alloc HM5.out _)).mono ?_); rintro e w6 ⟨k2, E2, t2, o2, rd2, rfl, hE2, hb⟩; subst hE2; have HB6 := Lib.hid ((HB5.out.alloc HB5.out.size _).trans (hb.mono GR.out.size)); clear hb) | (go_at_call 4; (with_reducible refine (wakes_cpu _).mono ?_); rintro e w7 ⟨rfl, hb⟩; have HB7 := Lib.hid (below_more HB6.out hb)))
          go_ret
          exact ⟨rfl, HB7.out⟩
      · have HLd := Lib.hid (fun (wx : World) (m : Mach wx p b d inp ov s) => top_load_no m q a4 hq h4 hpl)
        obtain ⟨E0, hE0⟩ : ∃ E0, decE 0 = E0 := ⟨_, rfl⟩
        have HDc := Lib.hid (top_dec0 E0 hE0)
        have HR := Lib.hid (fun (wx : World) (m : Mach wx p b d inp ov s) => top_end m he0 HI.out Hp.out Hd.out (fun z => z = 5) (fun s' hS => by unfold St.endI; rw [hS.none (by omega)]; rfl))
        generalize decI 0 = x at HDc
        clear hk1 hk2 h3 hpc hq h4 he0 he4 hpl hE hE0
        go_wp2_with (first | (go_at_call 7; (with_reducible refine (HMem.out _ (Mach.alloc HM3.out _)).mono ?_); rintro e w4 ⟨rfl, rfl⟩) | (go_at_call 9; (with_reducible refine (HPc.out _ (Mach.alloc HM3.out _)).mono ?_); rintro e w4 ⟨rfl, rfl⟩) | (go_at_call 8; (with_reducible refine (HLd.out _ (Mach.alloc HM3.out _)).mono ?_); rintro e w4 ⟨rfl, rfl⟩) | (go_at_call 10; (with_reducible refine (HDc.out _).mono ?_); rintro e w5 ⟨rfl, hb⟩; have o0 : w5.cell? ⟨w3.heap.size, 0, none⟩ = some (.int .i64 3) := (hb.cell (by simp)).trans (by simp [go_sem]); have l5 : w3.heap.size < w5.heap.size := (by have := hb.size; simp at this; omega); have HB5 := Lib.hid (below_more HBz.out hb); have HM5 := Lib.hid (Mach.grown (Mach.alloc HM3.out _) hb); clear hb) | (go_at_call 6; (with_reducible refine (HR.out _ (Mach.alloc HM5.out _)).mono ?_); rintro e w6 ⟨k2, E2, t2, o2, rd2, rfl, hE2, hb⟩; subst hE2; have HB6 := Lib.hid ((HB5.out.alloc HB5.out.size _).trans (hb.mono GR.out.size)); clear hb) | (go_at_call 4; (with_reducible refine (wakes_cpu _).mono ?_); rintro e w7 ⟨rfl, hb⟩; have HB7 := Lib.hid (below_more HB6.out hb)))
        go_ret
        exact ⟨rfl, HB7.out⟩
    · have e1 : (s.endI != 4) = true := by unfold St.endI; rw [if_neg he0]; simpa using he4
      have e2 : (s.endI != 3) = true := by unfold St.endI; rw [if_neg he0]; simpa using h3
      have e3 : decide ((1 : Int) ≤ (k : Int)) = true := by simp; omega
      have e3' : decide (1 ≤ k) = true := by simp; omega
      have e4 : decide ((k : Int) ≤ (fuel : Int)) = true := by simp; omega
      have e4' : decide (k ≤ fuel) = true := by simp; omega
      have e1n : ¬ s.endI = 4 := by unfold St.endI; rw [if_neg he0]; exact he4
      have e2n : ¬ s.endI = 3 := by unfold St.endI; rw [if_neg he0]; exact h3
      clear hk1 hk2 h3 he0 he4 hpc hq h4
      generalize s.endI = E at e1 e2 e1n e2n ⊢
      go_wp2_with (go_at_call 4; (with_reducible refine (wakes_cpu _).mono ?_); rintro e w4 ⟨rfl, hb⟩)
      go_ret
      exact ⟨rfl, below_more HBz.out hb⟩
end Go.Proofs.Ytjlngglkljjgmaa
