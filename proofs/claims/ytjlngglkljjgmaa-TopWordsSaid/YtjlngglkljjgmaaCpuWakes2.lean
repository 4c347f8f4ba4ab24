/- wakesCpu: Halt's program puts its byte out, and halts. -/
import Derived.Test.YtjlngglkljjgmaaCpuWakes
import Derived.Test.YtjlngglkljjgmaaCpuHalt
import Derived.Test.YtjlngglkljjgmaaRun
import Derived.Test.YtjlngglkljjgmaaRefRisc
namespace Go.Proofs.Ytjlngglkljjgmaa
open Go.RowKit
def chain (f j : Fl) : Nat → St
  | 0 => S0
  | 1 => S1
  | 2 => S2 f
  | 3 => S3 f j
  | 4 => S4 f j
  | _ => S5 f j
theorem chain_low (f j : Fl) (k : Nat) (hk : k < 5) : (chain f j k).e = 0 := by
  have h : k = 0 ∨ k = 1 ∨ k = 2 ∨ k = 3 ∨ k = 4 := by omega
  rcases h with rfl | rfl | rfl | rfl | rfl <;> rfl
theorem chain_high (f j : Fl) (k : Nat) (hk : 5 ≤ k) : chain f j k = S5 f j := by
  obtain ⟨n, rfl⟩ : ∃ n, k = n + 5 := ⟨k - 5, by omega⟩
  rfl
theorem wakes_run {w : World} {B p b d : Nat} {inp : ByteArray} {ov : Value} (M : Mach w p b d inp ov S0) (hB : B ≤ p) (hd : B ≤ d) :
    Calls Try.prog 6 #[.pointer (some ⟨p, 0, none⟩), .int .i64 100] w fun e w' => ∃ (t : Int) (k rd : Nat), e = .returned (.tuple #[.agg #[.int .i64 1, .int .i64 t, .string { data := #[67] }, .int .i64 k, .int .i64 rd], .int .i64 0]) ∧ Below B w w' := by
  obtain ⟨f, hf⟩ := add8
  obtain ⟨j, hj⟩ := mov0 f
  refine (run_calls M hB 100 (by decide) (fun k s => s = { chain f j k with g := s.g }) rfl (fun k s g h => ?_) (fun k s wx ov hk h he m => ?_)).mono ?_
  · rw [h]
  · have hk5 : k < 5 := by
      rcases Nat.lt_or_ge k 5 with h5 | h5
      · exact h5
      · rw [h, chain_high f j k h5] at he
        exact absurd he (show ¬ ((1 : Int) = 0) by decide)
    obtain ⟨γ, hγ⟩ : ∃ γ, γ = s.g := ⟨_, rfl⟩
    rw [← hγ] at h
    subst h
    have hc : k = 0 ∨ k = 1 ∨ k = 2 ∨ k = 3 ∨ k = 4 := by omega
    rcases hc with rfl | rfl | rfl | rfl | rfl
    · exact ⟨{ S1 with g := γ }, rfl, rfl, wake1 m hB⟩
    · exact ⟨{ S2 f with g := γ }, rfl, rfl, wake2 f hf m hB⟩
    · exact ⟨{ S3 f j with g := γ }, rfl, rfl, wake3 f j hj m hB⟩
    · exact ⟨{ S4 f j with g := γ }, rfl, rfl, wake4 f j m hB hd⟩
    · exact ⟨{ S5 f j with g := γ }, rfl, rfl, wake5 f j m hB hd⟩
  · rintro e w' ⟨k, s, ov', rfl, h, hk, h0, _, _, hb⟩
    have hk5 : 5 ≤ k := by
      rcases Nat.lt_or_ge k 5 with h5 | h5
      · have he : s.e = 0 := by rw [h]; exact chain_low f j k h5
        have := h0 he
        omega
      · exact h5
    rw [chain_high f j k hk5] at h
    refine ⟨s.t, k, s.rd, ?_, hb⟩
    rw [show s.e = 1 by rw [h]; rfl, show s.out = [67] by rw [h]; rfl]
    rfl
theorem enc_any (x : Ins) (k : Nat) (h : ∀ wx : World, Calls Try.prog 18 #[x.val] wx fun e w' => e = .returned (.tuple #[.int .u32 (encZ x), .int .i64 0]) ∧ Below wx.heap.size wx w') (hk : encZ x = (k : Int)) :
    ∀ wx : World, Calls Try.prog 18 #[x.val] wx fun e w' => e = .returned (.tuple #[.int .u32 (k : Nat), .int .i64 0]) ∧ Below wx.heap.size wx w' := by
  rw [← hk]
  exact h
theorem halt_words (w : World) : Calls Try.prog 11 #[.int .i64 67] w fun e w' => ∃ g c, e = .returned (.slice (some ⟨g, 0, none⟩) 5 c) ∧ (∀ j u, (W32 WS)[j]? = some u → w'.cell? ((⟨g, 0, none⟩ : Addr).add j) = some u) ∧ Below w.heap.size w w' := by
  refine (halt_calls w 1627455487 1092157376 1073741891 2685403144 2685403136
    (enc_any ⟨1, true, false, 1, 0, 0, 0, 65535⟩ _ (fun wx => renc_im true false 1 0 0 0 65535 wx (by decide)) (by decide))
    (enc_any ⟨1, false, false, 1, 1, 0, 8, 65472⟩ _ (fun wx => renc_im false false 1 1 0 8 65472 wx (by decide)) (by decide))
    (enc_any ⟨1, false, false, 0, 0, 0, 0, 67⟩ _ (fun wx => renc_im false false 0 0 0 0 67 wx (by decide)) (by decide))
    (enc_any ⟨2, true, false, 0, 1, 0, 0, 8⟩ _ (fun wx => renc_mem true false 0 1 0 0 8 wx (by decide)) (by decide))
    (enc_any ⟨2, true, false, 0, 1, 0, 0, 0⟩ _ (fun wx => renc_mem true false 0 1 0 0 0 wx (by decide)) (by decide))).mono ?_
  rintro e w' ⟨v, rfl, hO, hB⟩
  rcases hO.2 with ⟨_, h0⟩ | ⟨g, cap, cur, rfl, _, h3, h4, h5, h6, h7⟩
  · exact absurd h0 (by decide)
  · refine ⟨g, cap, rfl, fun j u hj => ?_, hB⟩
    rw [add_at0]
    have hjl : j < 5 := (List.getElem?_eq_some_iff.1 hj).1
    have hc : w'.cell? ⟨g, j, none⟩ = cur[j]? := by simp [World.cell?, h3]
    have ht : (cur.toList.take (5 * 1))[j]? = some u := by rw [h7]; exact hj
    rw [List.getElem?_take_of_lt (by omega)] at ht
    rw [hc]
    simpa using ht
set_option maxHeartbeats 4000000 in
set_option maxRecDepth 100000 in
theorem wakes_cpu (w : World) : Calls Try.prog 4 #[] w fun e w' => e = .returned (.bool true) ∧ Below w.heap.size w w' := by
  go_enter Try.func4, Try.ntmps4
  go_wp2_with (first | (go_at_call 11; (with_reducible refine (halt_words _).mono ?_); rintro e w1 ⟨g, c, rfl, hc, hb⟩; have HB := Lib.hid hb; have HC := Lib.hid hc; clear hb hc) | (go_at_call 5; (with_reducible refine (cpu_new _ 5 c WS _ w1 rfl (by decide) (by decide) (by decide) (fun _ => ⟨_, rfl, HC.out⟩)).mono ?_); rintro e w2 ⟨p, b, d, rfl, hM, hb, hd, hp, hB⟩; have HR := Lib.hid (wakes_run (B := w1.heap.size) hM hp hd); have HB2 := Lib.hid (HB.out.trans (hB.mono HB.out.size)); have HS := Lib.hid hB.size; clear hM hb hd hp hB) | (go_at_call 6; (with_reducible refine HR.out.mono ?_); rintro e w3 ⟨t, k, rd, rfl, hB⟩; have HB3 := Lib.hid (HB2.out.trans (hB.mono HB.out.size)); clear hB))
  go_ret
  exact ⟨rfl, HB3.out.alloc HB3.out.size _⟩
end Go.Proofs.Ytjlngglkljjgmaa
