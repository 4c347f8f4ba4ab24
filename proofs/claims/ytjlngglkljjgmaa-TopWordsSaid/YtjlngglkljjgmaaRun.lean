/- Run: a loop of steps. -/
import Derived.Test.YtjlngglkljjgmaaRunLoop
import Derived.Deep.RegionHeld3
namespace Go.Proofs.Ytjlngglkljjgmaa
open Go.RowKit
set_option maxHeartbeats 4000000 in
set_option maxRecDepth 100000 in
theorem run_calls {w : World} {B p b d : Nat} {inp : ByteArray} {ov : Value} {s0 : St} (M : Mach w p b d inp ov s0) (hB : B ≤ p) (fuel : Nat) (hf : fuel ≤ 4194304) (P : Nat → St → Prop) (h0 : P 0 s0) (hP : ∀ k s g, P k s → P k { s with g := g })
    (hS : ∀ (k : Nat) (s : St) (wx : World) (ov : Value), k < fuel → P k s → s.e = 0 → Mach wx p b d inp ov s → ∃ s', P (k + 1) s' ∧ s'.g = s.g ∧ Calls Try.prog 13 #[.pointer (some ⟨p, 0, none⟩)] wx fun e w' => e = .returned (.tuple #[]) ∧ After wx B p b d inp s' w') :
    Calls Try.prog 6 #[.pointer (some ⟨p, 0, none⟩), .int .i64 fuel] w fun e w' => ∃ (k : Nat) (s : St) (ov' : Value), e = .returned (.tuple #[.agg #[.int .i64 (if s.e = 0 then 3 else s.e), .int .i64 s.t, .string (strOf s.out), .int .i64 k, .int .i64 s.rd], .int .i64 0]) ∧ P k s ∧ k ≤ fuel ∧ (s.e = 0 → k = fuel) ∧ s.g = s0.g ∧ Mach w' p b d inp ov' s ∧ Below B w w' := by
  have hp := M.lt
  have HBw := Lib.hid (show B ≤ w.heap.size by omega)
  have fb : (fuel : Int) ≤ 4194304 := by omega
  obtain ⟨g1, hg1⟩ : ∃ g1 : Nat → Option (List Value), g1 = fun k => if k = w.heap.size then some [.int .i64 0, .int .i64 0, .string ByteArray.empty, .int .i64 0, .int .i64 0] else s0.g k := ⟨_, rfl⟩
  have HM1 : Hid (Mach (w.alloc (.cells #[.int .i64 0, .int .i64 0, .string ByteArray.empty, .int .i64 0, .int .i64 0] 29)) p b d inp ov { s0 with g := g1 }) := Lib.hid (by
    refine (M.alloc _).frame g1 (fun k cs hk => ?_)
    rw [hg1] at hk
    dsimp only at hk
    split at hk
    · rename_i h
      rw [h]
      simp at hk
      rw [← hk, heap_alloc_new]
    · exact (M.alloc _).keep k cs hk)
  have H0 := Lib.hid (hP 0 s0 g1 h0)
  have HS := Lib.hid hS
  have HP := Lib.hid hP
  have HG : Hid (g1 w.heap.size = some [.int .i64 0, .int .i64 0, .string ByteArray.empty, .int .i64 0, .int .i64 0]) := Lib.hid (by rw [hg1]; simp)
  have HG2 : Hid (∀ k cs, s0.g k = some cs → g1 k = some cs) := Lib.hid (by
    intro k cs hk
    have h := (Array.getElem?_eq_some_iff.1 (M.keep k cs hk)).1
    rw [hg1]
    dsimp only
    rw [if_neg (by omega)]
    exact hk)
  have HG3 : Hid (s0.g w.heap.size = none) := Lib.hid (by
    rcases h : s0.g w.heap.size with _ | cs
    · rfl
    · have h := (Array.getElem?_eq_some_iff.1 (M.keep _ cs h)).1
      omega)
  clear M h0 hP hS hf hg1
  go_enter Try.func6, Try.ntmps6
  go_wp2
  go_loopw [6] (fun i wr => ∃ (k : Nat) (s : St) (ov' : Value), i = .int .i64 k ∧ k ≤ fuel ∧ P k s ∧ s.g = g1 ∧ Mach wr p b d inp ov' s ∧ Below B w wr) (fun i _ => fuel - (intOf i).toNat)
  case atStart => exact ⟨0, _, ov, rfl, by omega, H0.out, rfl, HM1.out, (Below.refl B w).alloc HBw.out _⟩
  case round =>
    rename_i wr
    obtain ⟨k, s, ov', rfl, hk, hPk, hg, M, hB1⟩ := hrel
    have HM := Lib.hid M
    have HPk := Lib.hid hPk
    have HBr := Lib.hid hB1
    have Hg := Lib.hid hg
    have z1 := M.c26
    have k0 : (k : Int) ≤ (fuel : Int) := by omega
    by_cases he : s.e = 0
    · by_cases hkf : k < fuel
      · obtain ⟨s', hP', hg', hC⟩ := HS.out k s _ ov' hkf hPk he M
        have HC := Lib.hid hC
        have HP' := Lib.hid hP'
        have Hg' := Lib.hid (hg'.trans hg)
        have hk1 : decide ((k : Int) < (fuel : Int)) = true := by simp; omega
        have hk2 : decide (k < fuel) = true := by simp; omega
        have Hkf := Lib.hid hkf
        rw [he] at z1
        clear M hPk hB1 hg hC hP' hg' hkf he hk
        go_wp2_with (go_at_call 13; (with_reducible refine HC.out.mono ?_); rintro e w1 ⟨rfl, h1⟩)
        obtain ⟨ov2, M2, hB2⟩ := h1
        have HM2 := Lib.hid M2
        have HB2 := Lib.hid hB2
        clear M2 hB2
        go_roundw
        case rel => exact ⟨k + 1, s', ov2, rfl, by have := Hkf.out; omega, HP'.out, Hg'.out, HM2.out, HBr.out.trans HB2.out⟩
        case measure => simp [intOf]; have := Hkf.out; omega
      · have hkf' : k = fuel := by omega
        have HPf : Hid (P fuel s) := Lib.hid (by rw [← hkf']; exact hPk)
        have hk1 : decide ((k : Int) < (fuel : Int)) = false := by simp; omega
        have hk2 : decide (k < fuel) = false := by simp; omega
        have He := Lib.hid he
        rw [he] at z1
        clear hPk hB1 hkf he hk
        have z2 := M.c27
        have z3 := M.c24
        have z4 := M.c25
        have HV : Hid (∀ wx : World, Mach wx p b d inp ov' s → (convert 49 9 ov').run Try.prog wx = .ok (.string (strOf s.out)) wx) := Lib.hid (fun wx m => out_str m)
        have z5 := HV.out _ M
        have hrow : wr.heap[w.heap.size]? = some (.cells (List.toArray [.int .i64 0, .int .i64 0, .string ByteArray.empty, .int .i64 0, .int .i64 0]) 29 (0, 0)) := M.keep _ _ (by rw [hg]; exact HG.out)
        have hlt : w.heap.size < wr.heap.size := (Array.getElem?_eq_some_iff.1 hrow).1
        have Hrow := Lib.hid hrow
        have r0 : wr.cell? ⟨w.heap.size, 0, none⟩ = some (.int .i64 0) := by simp [World.cell?, hrow]
        have r1 : wr.cell? ⟨w.heap.size, 1, none⟩ = some (.int .i64 0) := by simp [World.cell?, hrow]
        have r2 : wr.cell? ⟨w.heap.size, 2, none⟩ = some (.string ByteArray.empty) := by simp [World.cell?, hrow]
        have r3 : wr.cell? ⟨w.heap.size, 3, none⟩ = some (.int .i64 0) := by simp [World.cell?, hrow]
        have r4 : wr.cell? ⟨w.heap.size, 4, none⟩ = some (.int .i64 0) := by simp [World.cell?, hrow]
        have l0 : wr.frozen? ⟨w.heap.size, 0, none⟩ = false := by simp [World.frozen?, hrow]
        have l1 : wr.frozen? ⟨w.heap.size, 1, none⟩ = false := by simp [World.frozen?, hrow]
        have l2 : wr.frozen? ⟨w.heap.size, 2, none⟩ = false := by simp [World.frozen?, hrow]
        have l3 : wr.frozen? ⟨w.heap.size, 3, none⟩ = false := by simp [World.frozen?, hrow]
        have l4 : wr.frozen? ⟨w.heap.size, 4, none⟩ = false := by simp [World.frozen?, hrow]
        have hpr := M.lt
        clear M hg hrow
        go_wp2
        go_region_held3 (fun w' => w'.cell? ⟨p, 26, none⟩ = some (.int .i64 0) ∧ w'.cell? ⟨p, 27, none⟩ = some (.int .i64 s.t) ∧ w'.cell? ⟨p, 25, none⟩ = some ov' ∧ w'.cell? ⟨p, 24, none⟩ = some (.int .i64 s.rd) ∧ (convert 49 9 ov').run Try.prog w' = .ok (.string (strOf s.out)) w')
          ((refine ⟨?_, ?_, ?_, ?_, ?_⟩ <;> (first | (with_reducible assumption) | (simp [go_sem, hpr, z1, z2, z3, z4]; done) | (with_reducible exact HV.out _ (Mach.drew HM.out)) | (with_reducible exact HV.out _ (Mach.drew (Mach.alloc HM.out _))))))
          (fail)
        go_wp2
        refine bodyPost_ret (v := .tuple #[.agg #[.int .i64 3, .int .i64 s.t, .string (strOf s.out), .int .i64 fuel, .int .i64 s.rd], .int .i64 0]) (by simp [results, Try.results6, go_sem, hlt, r0, r1, r2, r3, r4]) rfl ?_
        have M1 := HM.out.frame s0.g (fun k cs hk => HM.out.keep k cs (by rw [Hg.out]; exact HG2.out k cs hk))
        have ⟨M2, h2⟩ := M1.side w.heap.size 0 (.int .i64 3) Hrow.out HG3.out
        have ⟨M3, h3⟩ := M2.side w.heap.size 1 (.int .i64 s.t) h2 HG3.out
        have ⟨M4, h4⟩ := M3.side w.heap.size 2 (.string (strOf s.out)) h3 HG3.out
        have ⟨M5, h5⟩ := M4.side w.heap.size 3 (.int .i64 fuel) h4 HG3.out
        have ⟨M6, _⟩ := M5.side w.heap.size 4 (.int .i64 s.rd) h5 HG3.out
        have hB0 := HBw.out
        have hB1 := HBr.out
        refine ⟨fuel, { s with g := s0.g }, ov', ?_, HP.out _ _ _ HPf.out, by omega, fun _ => rfl, rfl, (M6.alloc _).drew, ?_⟩
        · show _ = Ending.returned (.tuple #[.agg #[.int .i64 (if s.e = 0 then 3 else s.e), .int .i64 s.t, .string (strOf s.out), .int .i64 fuel, .int .i64 s.rd], .int .i64 0])
          rw [if_pos He.out]
        · exact below_drew1' (((((((hB1.setCell (p := ⟨w.heap.size, 0, none⟩) hB0 _).setCell (p := ⟨w.heap.size, 1, none⟩) hB0 _).setCell (p := ⟨w.heap.size, 2, none⟩) hB0 _).setCell (p := ⟨w.heap.size, 3, none⟩) hB0 _).setCell (p := ⟨w.heap.size, 4, none⟩) hB0 _).alloc (by simp; omega) _))
    · have he1 : (s.e == 0) = false := by simpa using he
      have He := Lib.hid he
      have Hk := Lib.hid hk
      clear hPk hB1 he hk
      have z2 := M.c27
      have z3 := M.c24
      have z4 := M.c25
      have HV : Hid (∀ wx : World, Mach wx p b d inp ov' s → (convert 49 9 ov').run Try.prog wx = .ok (.string (strOf s.out)) wx) := Lib.hid (fun wx m => out_str m)
      have z5 := HV.out _ M
      have hrow : wr.heap[w.heap.size]? = some (.cells (List.toArray [.int .i64 0, .int .i64 0, .string ByteArray.empty, .int .i64 0, .int .i64 0]) 29 (0, 0)) := M.keep _ _ (by rw [hg]; exact HG.out)
      have hlt : w.heap.size < wr.heap.size := (Array.getElem?_eq_some_iff.1 hrow).1
      have Hrow := Lib.hid hrow
      have r0 : wr.cell? ⟨w.heap.size, 0, none⟩ = some (.int .i64 0) := by simp [World.cell?, hrow]
      have r1 : wr.cell? ⟨w.heap.size, 1, none⟩ = some (.int .i64 0) := by simp [World.cell?, hrow]
      have r2 : wr.cell? ⟨w.heap.size, 2, none⟩ = some (.string ByteArray.empty) := by simp [World.cell?, hrow]
      have r3 : wr.cell? ⟨w.heap.size, 3, none⟩ = some (.int .i64 0) := by simp [World.cell?, hrow]
      have r4 : wr.cell? ⟨w.heap.size, 4, none⟩ = some (.int .i64 0) := by simp [World.cell?, hrow]
      have l0 : wr.frozen? ⟨w.heap.size, 0, none⟩ = false := by simp [World.frozen?, hrow]
      have l1 : wr.frozen? ⟨w.heap.size, 1, none⟩ = false := by simp [World.frozen?, hrow]
      have l2 : wr.frozen? ⟨w.heap.size, 2, none⟩ = false := by simp [World.frozen?, hrow]
      have l3 : wr.frozen? ⟨w.heap.size, 3, none⟩ = false := by simp [World.frozen?, hrow]
      have l4 : wr.frozen? ⟨w.heap.size, 4, none⟩ = false := by simp [World.frozen?, hrow]
      have hpr := M.lt
      clear M hg hrow
      go_wp2
      go_region_held3 (fun w' => w'.cell? ⟨p, 26, none⟩ = some (.int .i64 s.e) ∧ w'.cell? ⟨p, 27, none⟩ = some (.int .i64 s.t) ∧ w'.cell? ⟨p, 25, none⟩ = some ov' ∧ w'.cell? ⟨p, 24, none⟩ = some (.int .i64 s.rd) ∧ (convert 49 9 ov').run Try.prog w' = .ok (.string (strOf s.out)) w')
        ((refine ⟨?_, ?_, ?_, ?_, ?_⟩ <;> (first | (with_reducible assumption) | (simp [go_sem, hpr, z1, z2, z3, z4]; done) | (with_reducible exact HV.out _ (Mach.drew HM.out)) | (with_reducible exact HV.out _ (Mach.drew (Mach.alloc HM.out _))))))
        (fail)
      go_wp2
      refine bodyPost_ret (v := .tuple #[.agg #[.int .i64 s.e, .int .i64 s.t, .string (strOf s.out), .int .i64 k, .int .i64 s.rd], .int .i64 0]) (by simp [results, Try.results6, go_sem, hlt, r0, r1, r2, r3, r4]) rfl ?_
      have M1 := HM.out.frame s0.g (fun k cs hk => HM.out.keep k cs (by rw [Hg.out]; exact HG2.out k cs hk))
      have ⟨M2, h2⟩ := M1.side w.heap.size 0 (.int .i64 s.e) Hrow.out HG3.out
      have ⟨M3, h3⟩ := M2.side w.heap.size 1 (.int .i64 s.t) h2 HG3.out
      have ⟨M4, h4⟩ := M3.side w.heap.size 2 (.string (strOf s.out)) h3 HG3.out
      have ⟨M5, h5⟩ := M4.side w.heap.size 3 (.int .i64 k) h4 HG3.out
      have ⟨M6, _⟩ := M5.side w.heap.size 4 (.int .i64 s.rd) h5 HG3.out
      have hB0 := HBw.out
      have hB1 := HBr.out
      refine ⟨k, { s with g := s0.g }, ov', ?_, HP.out _ _ _ HPk.out, Hk.out, fun h => absurd h He.out, rfl, (M6.alloc _).drew, ?_⟩
      · show _ = Ending.returned (.tuple #[.agg #[.int .i64 (if s.e = 0 then 3 else s.e), .int .i64 s.t, .string (strOf s.out), .int .i64 k, .int .i64 s.rd], .int .i64 0])
        rw [if_neg He.out]
      · exact below_drew1' (((((((hB1.setCell (p := ⟨w.heap.size, 0, none⟩) hB0 _).setCell (p := ⟨w.heap.size, 1, none⟩) hB0 _).setCell (p := ⟨w.heap.size, 2, none⟩) hB0 _).setCell (p := ⟨w.heap.size, 3, none⟩) hB0 _).setCell (p := ⟨w.heap.size, 4, none⟩) hB0 _).alloc (by simp; omega) _))
end Go.Proofs.Ytjlngglkljjgmaa
