/- fixup.Fill where the chain is one and the place is good. -/
import Derived.Test.YtbhdejoljappfaaFixFillWay
namespace Go.Proofs.Ytbhdejoljappfaa
open Go.RowKit
theorem fillGo_nil {code : List Nat} {at_ : Int} {V : Int → Int → Int → Option Int} {l ys : List Nat} (h : l = []) : fillGo code at_ V l ys = some ys := by
  subst h
  rfl
theorem fillGo_none {code : List Nat} {at_ : Int} {V : Int → Int → Int → Option Int} {l l' ys : List Nat} {p x y : Nat} (h : l = p :: l') (hx : code[p]? = some x) (hy : code[p + 1]? = some y) (hv : V (pSort x) (pMod x) y = none) : fillGo code at_ V l ys = none := by
  subst h
  simp [fillGo, hx, hy, hv]
theorem fillGo_bad {code : List Nat} {at_ to : Int} {V : Int → Int → Int → Option Int} {l l' ys : List Nat} {p x y : Nat} (h : l = p :: l') (hx : code[p]? = some x) (hy : code[p + 1]? = some y) (hv : V (pSort x) (pMod x) y = some to) (hb : ¬ (0 ≤ to ∧ to < 65536)) : fillGo code at_ V l ys = none := by
  subst h
  simp only [fillGo, List.getD_eq_getElem?_getD, hx, hy, Option.getD_some, hv]
  rw [if_neg hb]
theorem fillGo_on {code : List Nat} {at_ to : Int} {V : Int → Int → Int → Option Int} {l l' ys : List Nat} {p x y : Nat} (h : l = p :: l') (hx : code[p]? = some x) (hy : code[p + 1]? = some y) (hv : V (pSort x) (pMod x) y = some to) (hb : 0 ≤ to ∧ to < 65536) :
    fillGo code at_ V l ys = fillGo code at_ V l' ((ys.set p (wA x at_ p to)).set (p + 1) (wB x to)) := by
  subst h
  simp only [fillGo, List.getD_eq_getElem?_getD, hx, hy, Option.getD_some, hv]
  rw [if_pos hb]
theorem drop_at {α : Type} {l : List α} {j : Nat} (h : j < l.length) : l.drop j = l[j] :: l.drop (j + 1) := List.drop_eq_getElem_cons h
theorem and_i64 (to : Int) (t0 : 0 ≤ to) (t1 : to < 65536) : Go.bits .and .i64 (4 * to) 65535 = 4 * to % 65536 := by
  obtain ⟨n, rfl⟩ := Int.eq_ofNat_of_zero_le t0
  have e : 4 * (n : Int) = ((4 * n : Nat) : Int) := by omega
  rw [e]
  show IntKind.i64.wrap ((BitVec.ofInt 64 ((4 * n : Nat) : Int) &&& BitVec.ofInt 64 ((65535 : Nat) : Int)).toNat : Int) = _
  rw [BitVec.toNat_and, BitVec.ofInt_natCast, BitVec.ofInt_natCast, BitVec.toNat_ofNat, BitVec.toNat_ofNat, show 4 * n % 2 ^ 64 = 4 * n by omega, show 65535 % 2 ^ 64 = 65535 by omega, show (4 * n &&& 65535) = 4 * n % 65536 from Nat.and_two_pow_sub_one_eq_mod (4 * n) 16, IntKind.wrap_i64]
  omega
theorem fill_row4 {w w4 : World} {g c : Nat} {oA oB : Obj} {ys : List Nat} (h : Row w 24 .u32 g c ys) (hB : Below ((w.alloc oA).alloc oB).heap.size ((w.alloc oA).alloc oB) w4) : Row w4 24 .u32 g c ys :=
  ((h.below (((Below.refl w.heap.size _).alloc (Nat.le_refl _) oA).alloc (by simp) oB)).below hB)
theorem fill_boxB {w w4 : World} {g : Nat} {oA : Obj} {z0 z1 z2 z3 z4 z5 z6 z7 : Value} {t B : Nat} (hg : g < w.heap.size) (hB : Below B ((w.alloc oA).alloc (.cells #[z0, z1, z2, z3, z4, z5, z6, z7] t)) w4) (p : Nat) (v : Value) (hBB : w.heap.size + 1 < B := by simp) :
    (w4.setCell ⟨g, p, none⟩ v).cell? ⟨w.heap.size + 1, 0, none⟩ = some z0 ∧ (w4.setCell ⟨g, p, none⟩ v).cell? ⟨w.heap.size + 1, 1, none⟩ = some z1 ∧ (w4.setCell ⟨g, p, none⟩ v).cell? ⟨w.heap.size + 1, 2, none⟩ = some z2 ∧ (w4.setCell ⟨g, p, none⟩ v).cell? ⟨w.heap.size + 1, 3, none⟩ = some z3 ∧
    (w4.setCell ⟨g, p, none⟩ v).cell? ⟨w.heap.size + 1, 4, none⟩ = some z4 ∧ (w4.setCell ⟨g, p, none⟩ v).cell? ⟨w.heap.size + 1, 5, none⟩ = some z5 ∧ (w4.setCell ⟨g, p, none⟩ v).cell? ⟨w.heap.size + 1, 6, none⟩ = some z6 ∧ (w4.setCell ⟨g, p, none⟩ v).cell? ⟨w.heap.size + 1, 7, none⟩ = some z7 := by
  have e : (w.alloc oA).heap.size = w.heap.size + 1 := by simp
  have h := boxed hB (by rw [e]; exact hBB)
  rw [e] at h
  have f : ∀ i, (w4.setCell ⟨g, p, none⟩ v).cell? ⟨w.heap.size + 1, i, none⟩ = w4.cell? ⟨w.heap.size + 1, i, none⟩ := fun i => World.cell?_setCell_other w4 ⟨g, p, none⟩ ⟨w.heap.size + 1, i, none⟩ v (fun e => by injection e with e1; omega)
  simp only [f]
  exact h
theorem fill_below {w1 wr w4 w5 : World} {g p p' : Nat} {oA oB : Obj} {v v' : Value} (hB : Below w1.heap.size w1 wr) (h4 : Below ((wr.alloc oA).alloc oB).heap.size ((wr.alloc oA).alloc oB) w4) (h5 : Below (w4.setCell ⟨g, p, none⟩ v).heap.size (w4.setCell ⟨g, p, none⟩ v) w5) (hg : w1.heap.size ≤ g) : Below w1.heap.size w1 (w5.setCell ⟨g, p', none⟩ v') := by
  have a1 : Below w1.heap.size w1 ((wr.alloc oA).alloc oB) := (hB.alloc hB.size oA).alloc (by have := hB.size; simp; omega) oB
  have a2 : Below w1.heap.size w1 w4 := a1.trans (h4.mono a1.size)
  have a3 : Below w1.heap.size w1 (w4.setCell ⟨g, p, none⟩ v) := a2.setCell hg v
  exact (a3.trans (h5.mono a3.size)).setCell hg v'
set_option maxHeartbeats 8000000 in
set_option maxRecDepth 100000 in
theorem fill_way (b off c mb mn : Nat) (code l : List Nat) (head at_ : Int) (V : Int → Int → Int → Option Int) (w : World) (hm : (code.length : Int) ≤ 70000) (hs : ∀ x ∈ code, x < 4294967296) (hA : SlK .u32 w (some ⟨b, off, none⟩) code) (hV : MapV w mb mn V) (hb : -9223372036854775808 ≤ head) (hb2 : head ≤ 9223372036854775807) (hl : chainF code head = some l) (hn : ¬ (at_ < 0 ∨ 65536 < at_ ∨ 65536 - at_ < code.length)) :
    Calls Try.prog 31 #[.slice (some ⟨b, off, none⟩) code.length c, .int .i64 head, .int .i64 at_, .map (some mb)] w (FillV w (fillF code head at_ V)) := by
  have CH := Lib.hid (chain_calls _ c code head w hm hs hA hb hb2)
  have HF := Lib.hid (show fillF code head at_ V = fillGo code at_ V l code by unfold fillF; rw [hl]; simp only []; rw [if_neg hn])
  obtain ⟨R, hR⟩ : ∃ R, R = fillF code head at_ V := ⟨_, rfl⟩
  rw [← hR] at HF ⊢
  have HN := Lib.hid hl
  have HL := Lib.hid (chainF_links hl).1
  have hll : (l.length : Int) ≤ 70002 := by have := (chainF_links hl).2; omega
  have HS := Lib.hid hs
  have HA := Lib.hid hA
  have HV := Lib.hid hV
  have h0 : 0 ≤ at_ := by omega
  have h1 : at_ ≤ 65536 := by omega
  have b1 : decide (at_ < 0) = false := decide_eq_false (by omega)
  have b2 : decide (65536 < at_) = false := decide_eq_false (by omega)
  have b3 : decide (65536 - at_ < (code.length : Int)) = false := decide_eq_false (by omega)
  clear hs hA hl hV hn hR
  go_enter Try.func31, Try.ntmps31
  go_wp2_with (first
    | (go_at_call 27; (with_reducible refine Calls.mono CH.out ?_); rintro e w1 ⟨_, h1, hB⟩; obtain ⟨A1, c1, rfl, hS1⟩ := h1 _ HN.out; have HB := Lib.hid hB; have HL1 := Lib.hid hS1; have HA1 := Lib.hid (HA.out.below hB); have HV1 := Lib.hid (HV.out.below hB); clear h1 hB hS1)
    | (go_at_call 46; (with_reducible refine Calls.mono (clone_calls b off c code w1 hm HA1.out) ?_); rintro e w2 ⟨g, cg, rfl, hR2, hg2, hB2⟩; have HR2 := Lib.hid hR2; have HG := Lib.hid hg2; have HB2 := Lib.hid hB2; clear hR2 hg2 hB2))
  clear b1 b2 b3
  go_loopw [50] (fun i wr => ∃ (j : Nat) (ys : List Nat), j ≤ l.length ∧ i = .int .i64 j ∧ Row wr 24 .u32 g cg ys ∧ ys.length = code.length ∧ fillGo code at_ V (l.drop j) ys = R ∧ Below w1.heap.size w1 wr) (fun i _ => l.length - (intOf i).toNat)
  case atStart => exact ⟨0, code, Nat.zero_le _, rfl, HR2.out, rfl, by rw [List.drop_zero]; exact HF.out.symm, HB2.out⟩
  case round =>
    obtain ⟨j, ys, hj, rfl, hRow, hlen, hgo, hBr⟩ := hrel
    have HRW := Lib.hid hRow
    have HLE := Lib.hid hlen
    have HGO := Lib.hid hgo
    have HBR := Lib.hid hBr
    have HBW := Lib.hid (HB.out.trans (hBr.mono HB.out.size))
    clear hRow hlen hgo hBr HR2 HB2 HF
    by_cases hlt : j < l.length
    · obtain ⟨bl, ol, rfl, hcl⟩ := HL1.out (by omega)
      have hp0 := hcl j hlt
      have hpl : wr.cell? ⟨bl, ol + j, none⟩ = some (.int .i64 (l[j] : Nat)) := by rw [HBR.out.cell (World.block_lt_of_cell? w1 _ hp0)]; exact hp0
      obtain ⟨p, hpe⟩ : ∃ p, p = l[j] := ⟨_, rfl⟩
      have HD := Lib.hid (show l.drop j = p :: l.drop (j + 1) by rw [hpe]; exact drop_at hlt)
      have hlk := HL.out.1 p (by rw [hpe]; exact List.getElem_mem hlt)
      rw [← hpe] at hpl
      obtain ⟨b', o', hbo, hcc⟩ := HA1.out (by omega)
      cases hbo
      have hx0 := hcc p (by omega)
      have hy0 := hcc (p + 1) hlk.1
      obtain ⟨x, hxe⟩ : ∃ x, x = code[p]'(by omega) := ⟨_, rfl⟩
      obtain ⟨y, hye⟩ : ∃ y, y = code[p + 1]'hlk.1 := ⟨_, rfl⟩
      have HX := Lib.hid (show code[p]? = some x by rw [hxe]; simp)
      have HY := Lib.hid (show code[p + 1]? = some y by rw [hye]; exact List.getElem?_eq_getElem hlk.1)
      have hx1 : wr.cell? ⟨b, off + p, none⟩ = some (.int .u32 (x : Nat)) := by rw [HBR.out.cell (World.block_lt_of_cell? w1 _ hx0), hxe]; exact hx0
      have hy1 : wr.cell? ⟨b, off + (p + 1), none⟩ = some (.int .u32 (y : Nat)) := by rw [HBR.out.cell (World.block_lt_of_cell? w1 _ hy0), hye]; exact hy0
      have hx32 : x < 4294967296 := by rw [hxe]; exact HS.out _ (List.getElem_mem _)
      have hy32 : y < 4294967296 := by rw [hye]; exact HS.out _ (List.getElem_mem _)
      have hok : pOk x = true := by
        have := hlk.2
        rw [List.getD_eq_getElem?_getD, HX.out] at this
        simpa using this
      have HPT := Lib.hid (fun wx => parts_yes x hx32 (by simpa [pOk] using hok) wx)
      obtain ⟨s, hse⟩ : ∃ s, s = pSort x := ⟨_, rfl⟩
      obtain ⟨m, hme⟩ : ∃ m, m = pMod x := ⟨_, rfl⟩
      obtain ⟨r, hre⟩ : ∃ r, r = pReg x := ⟨_, rfl⟩
      obtain ⟨q, hqe⟩ : ∃ q, q = pBack x := ⟨_, rfl⟩
      rw [← hse, ← hme, ← hre, ← hqe] at HPT
      have hs4 : (s : Int) < 4 := by rw [hse]; unfold pSort; omega
      have hm64 : (m : Int) < 64 := by rw [hme]; unfold pMod; omega
      have hr16 : (r : Int) < 16 := by rw [hre]; have := pReg_lt x hx32; omega
      have KW := Lib.hid (show w64 (s : Int) = true ∧ w64 (m : Int) = true ∧ w64 (y : Int) = true from ⟨w64_of _ (by omega) (by omega), w64_of _ (by omega) (by omega), w64_of _ (by omega) (by omega)⟩)
      have p0 : (0 : Int) ≤ (p : Int) := by omega
      have p1 : (p : Int) + 1 < (code.length : Int) := by have := hlk.1; omega
      have HMV := Lib.hid (fun n => ((HV1.out.below HBR.out).drewN n))
      have X32 := Lib.hid (And.intro hx32 hy32)
      have WY : IntKind.i64.wrap (y : Int) = (y : Int) := by rw [IntKind.wrap_i64]; omega
      clear hp0 hpe hlk hcc hx0 hy0 hxe hye hok hcl hx32 hy32
      cases hv : V (s : Int) (m : Int) (y : Int) with
      | none =>
        have HNN := Lib.hid (show R = none from by rw [← HGO.out]; exact fillGo_none HD.out HX.out HY.out (by rw [← hse, ← hme]; exact hv))
        have HVV := Lib.hid hv
        clear hv hse hme hre hqe
        go_wp2_with (first
          | (go_at_call 24; (with_reducible refine (HPT.out _).mono ?_); rintro e w3 ⟨rfl, k1, hk1⟩; have hy3 : w3.cell? ⟨b, off + (p + 1), none⟩ = some (.int .u32 (y : Nat)) := (by rw [hk1]; exact hy1); have HR3 := Lib.hid (show Row w3 24 .u32 g cg ys from (by rw [hk1]; exact HRW.out.drewN k1)); have HB3 := Lib.hid (show Below w1.heap.size w1 w3 from (by rw [hk1]; exact below_drewN HBR.out k1)); have HBW3 := Lib.hid (show Below w.heap.size w w3 from (by rw [hk1]; exact below_drewN HBW.out k1)); have HMV3 := Lib.hid (show MapV w3 mb mn V from (by rw [hk1]; exact HMV.out k1)); clear hk1)
          | (at_lookup; refine wpList_look_ok_V rfl _ _ rfl rfl HMV3.out (s : Int) (m : Int) (y : Int) rfl KW.out.1 KW.out.2.1 KW.out.2.2 ?_; rw [HVV.out]))
        go_ret2
        rw [HNN.out]
        exact fillV_none HBW3.out
      | some to =>
        have HPL := Lib.hid (show p < ys.length by rw [HLE.out]; omega)
        have HPL2 := Lib.hid (show p + 1 < (ys.set p (wA x at_ p to)).length by rw [List.length_set, HLE.out]; omega)
        by_cases t0 : 0 ≤ to
        · by_cases t1 : to < 65536
          · have HRR := Lib.hid (show fillGo code at_ V (l.drop (j + 1)) ((ys.set p (wA x at_ p to)).set (p + 1) (wB x to)) = R from by rw [← HGO.out]; exact (fillGo_on HD.out HX.out HY.out (by rw [← hse, ← hme]; exact hv) ⟨t0, t1⟩).symm)
            have HVV := Lib.hid hv
            have eA := enc_nat (fiA x at_ p to) (good_fiA x at_ p to X32.out.1 h0 h1 (by omega) t0 t1)
            have eB := enc_nat (fiB x to) (good_fiB x to X32.out.1)
            obtain ⟨za, hza⟩ : ∃ za, za = wA x at_ p to := ⟨_, rfl⟩
            obtain ⟨zb, hzb⟩ : ∃ zb, zb = wB x to := ⟨_, rfl⟩
            have GA := good_fiA x at_ p to X32.out.1 h0 h1 (by omega) t0 t1
            have GB := good_fiB x to X32.out.1
            have EA := fun wx => enc_yes (fiA x at_ p to) GA wx
            have EB := fun wx => enc_yes (fiB x to) GB wx
            rw [eA.1, show (encZ (fiA x at_ p to)).toNat = za from hza.symm] at EA
            rw [eB.1, show (encZ (fiB x to)).toNat = zb from hzb.symm] at EB
            rw [← hza, ← hzb] at HRR
            rw [← hza] at HPL2
            clear hv eA eB hza hzb GA GB
            by_cases hs0 : s = 0
            · rw [show fiA x at_ p to = ⟨3, true, true, 7, 0, 0, 0, to - (at_ + (p : Int) + 1)⟩ from if_pos (by rw [← hse]; exact hs0)] at EA
              rw [show fiB x to = ⟨0, false, false, 0, 0, 0, 0, 0⟩ from if_pos (by rw [← hse]; exact hs0)] at EB
              have hs1 : ((s : Int) != 0) = false := by simp; omega
              have HEA := Lib.hid (show ∀ wx, Calls Try.prog 14 #[.agg #[.int .i64 3, .bool true, .bool true, .int .i64 7, .int .i64 0, .int .i64 0, .int .i64 0, .int .i64 (to - (at_ + (p : Int) + 1))]] wx fun e w' => e = .returned (.tuple #[.int .u32 (za : Int), .int .i64 0]) ∧ Below wx.heap.size wx w' from EA)
              have HEB := Lib.hid (show ∀ wx, Calls Try.prog 14 #[.agg #[.int .i64 0, .bool false, .bool false, .int .i64 0, .int .i64 0, .int .i64 0, .int .i64 0, .int .i64 0]] wx fun e w' => e = .returned (.tuple #[.int .u32 (zb : Int), .int .i64 0]) ∧ Below wx.heap.size wx w' from EB)
              clear EA EB hse hme hre hqe hs0
              go_wp2_with (first
                | (go_at_call 24; (with_reducible refine (HPT.out _).mono ?_); rintro e w3 ⟨rfl, k1, hk1⟩; have hy3 : w3.cell? ⟨b, off + (p + 1), none⟩ = some (.int .u32 (y : Nat)) := (by rw [hk1]; exact hy1); have HR3 := Lib.hid (show Row w3 24 .u32 g cg ys from (by rw [hk1]; exact HRW.out.drewN k1)); have HB3 := Lib.hid (show Below w1.heap.size w1 w3 from (by rw [hk1]; exact below_drewN HBR.out k1)); have HBW3 := Lib.hid (show Below w.heap.size w w3 from (by rw [hk1]; exact below_drewN HBW.out k1)); have HMV3 := Lib.hid (show MapV w3 mb mn V from (by rw [hk1]; exact HMV.out k1)); clear hk1)
                | (at_lookup; refine wpList_look_ok_V rfl _ _ rfl rfl HMV3.out (s : Int) (m : Int) (y : Int) rfl KW.out.1 KW.out.2.1 KW.out.2.2 ?_; rw [HVV.out])
                | (go_at_call 14; (with_reducible refine (HEA.out _).mono ?_); rintro e w4 ⟨rfl, hB4⟩; have HB4 := Lib.hid hB4; have HR4 := Lib.hid (fill_row4 HR3.out hB4); have hc4 : w4.cell? ⟨g, p, none⟩ = some (.int .u32 (ys[p]'(HPL.out) : Nat)) := HR4.out.cell HPL.out; have hf4 : w4.frozen? ⟨g, p, none⟩ = false := HR4.out.free p; have hx4 := fill_boxB HR3.out.lt hB4 p (.int .u32 (za : Int)); obtain ⟨q0, q1, q2, q3, q4, q5, q6, q7⟩ := hx4; clear hB4)
                | (go_at_call 14; (with_reducible refine (HEB.out _).mono ?_); rintro e w5 ⟨rfl, hB5⟩; have HB5 := Lib.hid hB5; have HR5 := Lib.hid ((HR4.out.set p za).below hB5); have hc5 : w5.cell? ⟨g, p + 1, none⟩ = some (.int .u32 ((ys.set p za)[p + 1]'(HPL2.out) : Nat)) := HR5.out.cell HPL2.out; have hf5 : w5.frozen? ⟨g, p + 1, none⟩ = false := HR5.out.free (p + 1); clear hB5 q0 q1 q2 q3 q4 q5 q6 q7 hc4 hf4))
              go_roundw
              case rel => exact ⟨j + 1, (ys.set p za).set (p + 1) zb, by omega, by go_num, HR5.out.set (p + 1) zb, by simp [HLE.out], HRR.out, fill_below HB3.out HB4.out HB5.out HG.out⟩
              case measure => simp [intOf]; omega
            · have hs1 : ((s : Int) != 0) = true := by simp; omega
              rw [show fiA x at_ p to = ⟨1, true, false, (r : Int), 0, 0, 0, 4 * to / 65536⟩ from by rw [hre]; exact if_neg (by rw [← hse]; exact hs0)] at EA
              rw [show fiB x to = ⟨1, false, false, (r : Int), (r : Int), 0, 6, 4 * to % 65536⟩ from by rw [hre]; exact if_neg (by rw [← hse]; exact hs0)] at EB
              have HEA := Lib.hid (show ∀ wx, Calls Try.prog 14 #[.agg #[.int .i64 1, .bool true, .bool false, .int .i64 (r : Int), .int .i64 0, .int .i64 0, .int .i64 0, .int .i64 (4 * to / 65536)]] wx fun e w' => e = .returned (.tuple #[.int .u32 (za : Int), .int .i64 0]) ∧ Below wx.heap.size wx w' from EA)
              have HEB := Lib.hid (show ∀ wx, Calls Try.prog 14 #[.agg #[.int .i64 1, .bool false, .bool false, .int .i64 (r : Int), .int .i64 (r : Int), .int .i64 0, .int .i64 6, .int .i64 (4 * to % 65536)]] wx fun e w' => e = .returned (.tuple #[.int .u32 (zb : Int), .int .i64 0]) ∧ Below wx.heap.size wx w' from EB)
              have hand : Go.bits .and .i64 (4 * to) 65535 = 4 * to % 65536 := and_i64 to t0 t1
              clear EA EB hse hme hre hqe hs0
              go_wp2_with (first
                | (go_at_call 24; (with_reducible refine (HPT.out _).mono ?_); rintro e w3 ⟨rfl, k1, hk1⟩; have hy3 : w3.cell? ⟨b, off + (p + 1), none⟩ = some (.int .u32 (y : Nat)) := (by rw [hk1]; exact hy1); have HR3 := Lib.hid (show Row w3 24 .u32 g cg ys from (by rw [hk1]; exact HRW.out.drewN k1)); have HB3 := Lib.hid (show Below w1.heap.size w1 w3 from (by rw [hk1]; exact below_drewN HBR.out k1)); have HBW3 := Lib.hid (show Below w.heap.size w w3 from (by rw [hk1]; exact below_drewN HBW.out k1)); have HMV3 := Lib.hid (show MapV w3 mb mn V from (by rw [hk1]; exact HMV.out k1)); clear hk1)
                | (at_lookup; refine wpList_look_ok_V rfl _ _ rfl rfl HMV3.out (s : Int) (m : Int) (y : Int) rfl KW.out.1 KW.out.2.1 KW.out.2.2 ?_; rw [HVV.out])
                | (go_at_call 14; (with_reducible refine (HEA.out _).mono ?_); rintro e w4 ⟨rfl, hB4⟩; have HB4 := Lib.hid hB4; have HR4 := Lib.hid (fill_row4 HR3.out hB4); have hc4 : w4.cell? ⟨g, p, none⟩ = some (.int .u32 (ys[p]'(HPL.out) : Nat)) := HR4.out.cell HPL.out; have hf4 : w4.frozen? ⟨g, p, none⟩ = false := HR4.out.free p; have hx4 := fill_boxB HR3.out.lt hB4 p (.int .u32 (za : Int)); obtain ⟨q0, q1, q2, q3, q4, q5, q6, q7⟩ := hx4; clear hB4)
                | (go_at_call 14; (with_reducible refine (HEB.out _).mono ?_); rintro e w5 ⟨rfl, hB5⟩; have HB5 := Lib.hid hB5; have HR5 := Lib.hid ((HR4.out.set p za).below hB5); have hc5 : w5.cell? ⟨g, p + 1, none⟩ = some (.int .u32 ((ys.set p za)[p + 1]'(HPL2.out) : Nat)) := HR5.out.cell HPL2.out; have hf5 : w5.frozen? ⟨g, p + 1, none⟩ = false := HR5.out.free (p + 1); clear hB5 q0 q1 q2 q3 q4 q5 q6 q7 hc4 hf4))
              go_roundw
              case rel => exact ⟨j + 1, (ys.set p za).set (p + 1) zb, by omega, by go_num, HR5.out.set (p + 1) zb, by simp [HLE.out], HRR.out, fill_below HB3.out HB4.out HB5.out HG.out⟩
              case measure => simp [intOf]; omega
          · have HNN := Lib.hid (show R = none from by rw [← HGO.out]; exact fillGo_bad HD.out HX.out HY.out (by rw [← hse, ← hme]; exact hv) (by omega))
            have HVV := Lib.hid hv
            clear hv hse hme hre hqe
            go_wp2_with (first
              | (go_at_call 24; (with_reducible refine (HPT.out _).mono ?_); rintro e w3 ⟨rfl, k1, hk1⟩; have hy3 : w3.cell? ⟨b, off + (p + 1), none⟩ = some (.int .u32 (y : Nat)) := (by rw [hk1]; exact hy1); have HR3 := Lib.hid (show Row w3 24 .u32 g cg ys from (by rw [hk1]; exact HRW.out.drewN k1)); have HB3 := Lib.hid (show Below w1.heap.size w1 w3 from (by rw [hk1]; exact below_drewN HBR.out k1)); have HBW3 := Lib.hid (show Below w.heap.size w w3 from (by rw [hk1]; exact below_drewN HBW.out k1)); have HMV3 := Lib.hid (show MapV w3 mb mn V from (by rw [hk1]; exact HMV.out k1)); clear hk1)
              | (at_lookup; refine wpList_look_ok_V rfl _ _ rfl rfl HMV3.out (s : Int) (m : Int) (y : Int) rfl KW.out.1 KW.out.2.1 KW.out.2.2 ?_; rw [HVV.out]))
            go_ret2
            rw [HNN.out]
            exact fillV_none HBW3.out
        · have t2 : to < 0 := by omega
          have HNN := Lib.hid (show R = none from by rw [← HGO.out]; exact fillGo_bad HD.out HX.out HY.out (by rw [← hse, ← hme]; exact hv) (by omega))
          have HVV := Lib.hid hv
          clear hv hse hme hre hqe
          go_wp2_with (first
            | (go_at_call 24; (with_reducible refine (HPT.out _).mono ?_); rintro e w3 ⟨rfl, k1, hk1⟩; have hy3 : w3.cell? ⟨b, off + (p + 1), none⟩ = some (.int .u32 (y : Nat)) := (by rw [hk1]; exact hy1); have HR3 := Lib.hid (show Row w3 24 .u32 g cg ys from (by rw [hk1]; exact HRW.out.drewN k1)); have HB3 := Lib.hid (show Below w1.heap.size w1 w3 from (by rw [hk1]; exact below_drewN HBR.out k1)); have HBW3 := Lib.hid (show Below w.heap.size w w3 from (by rw [hk1]; exact below_drewN HBW.out k1)); have HMV3 := Lib.hid (show MapV w3 mb mn V from (by rw [hk1]; exact HMV.out k1)); clear hk1)
            | (at_lookup; refine wpList_look_ok_V rfl _ _ rfl rfl HMV3.out (s : Int) (m : Int) (y : Int) rfl KW.out.1 KW.out.2.1 KW.out.2.2 ?_; rw [HVV.out]))
          go_ret2
          rw [HNN.out]
          exact fillV_none HBW3.out
    · go_wp2
      go_ret2
      rw [← HGO.out, fillGo_nil (by rw [List.drop_eq_nil_of_le (by omega)]), ← HLE.out]
      exact fillV_some HRW.out (Nat.le_trans HB.out.size HG.out) HBW.out
end Go.Proofs.Ytbhdejoljappfaa
