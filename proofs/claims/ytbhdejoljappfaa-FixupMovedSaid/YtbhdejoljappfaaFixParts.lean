/- Package fixup: Parts and Link, and the reference's. -/
import Derived.Test.YtbhdejoljappfaaRefBits
import Derived.Test.YtbhdejoljappfaaDecode
import Derived.LoopTactic
namespace Go.Proofs.Ytbhdejoljappfaa
open Go.RowKit
theorem results_five {fn : Func} {t u v x y : Tmp} (h : fn.results = #[.tmp t, .tmp u, .tmp v, .tmp x, .tmp y]) (tmps : Array Value) (P : Program) (w : World) :
    (results fn tmps).run P w = .ok (.tuple #[tmps.getD t undef, tmps.getD u undef, tmps.getD v undef, tmps.getD x undef, tmps.getD y undef]) w := by simp [results, h]
/-- What a link's first word says. -/
def pReg (x : Nat) : Nat := x / 268435456
def pSort (x : Nat) : Nat := x / 67108864 % 4
def pMod (x : Nat) : Nat := x / 1048576 % 64
def pBack (x : Nat) : Nat := x % 16384
def pOk (x : Nat) : Bool := x / 16384 % 64 == 0
/-- What Parts tells. -/
def PartsV (w : World) (x : Nat) (e : Ending) (w' : World) : Prop :=
  e = .returned (.tuple (if pOk x then #[.int .i64 (pReg x : Nat), .int .i64 (pSort x : Nat), .int .i64 (pMod x : Nat), .int .i64 (pBack x : Nat), .bool true] else #[.int .i64 0, .int .i64 0, .int .i64 0, .int .i64 0, .bool false])) ∧ ∃ k, w' = w.drewN k
theorem get_as (x lo n z : Nat) (l k : Int) (hl : l = (lo : Int)) (hk : k = (n : Int)) (hx : x < 4294967296) (h1 : 1 ≤ n) (h2 : lo + n ≤ 32) (hz : x / 2 ^ lo % 2 ^ n = z) (w : World) :
    Calls Try.prog 41 #[.int .u32 x, .int .i64 l, .int .i64 k] w fun e w' => e = .returned (.int .u32 (z : Int)) ∧ ∃ k, w' = w.drewN k := by
  subst hl hk
  rw [← hz]
  exact get_yes x lo n hx h1 h2 w
theorem ret5 {a b c d a' b' c' d' : Int} {f : Bool} (h1 : a = a') (h2 : b = b') (h3 : c = c') (h4 : d = d') : Ending.returned (.tuple #[.int .i64 a, .int .i64 b, .int .i64 c, .int .i64 d, .bool f]) = .returned (.tuple #[.int .i64 a', .int .i64 b', .int .i64 c', .int .i64 d', .bool f]) := by rw [h1, h2, h3, h4]
theorem parts_no (x z : Nat) (hx : x < 4294967296) (hz : x / 16384 % 64 = z) (h0 : ((z : Int) != 0) = true) (w : World) :
    Calls Try.prog 24 #[.int .u32 x] w fun e w' => e = .returned (.tuple #[.int .i64 0, .int .i64 0, .int .i64 0, .int .i64 0, .bool false]) ∧ ∃ k, w' = w.drewN k := by
  have G := Lib.hid (fun wx => get_as x 14 6 z 14 6 rfl rfl hx (by decide) (by decide) hz wx)
  clear hx hz
  go_enter Try.func24, Try.ntmps24
  go_wp2_with (go_at_call 41; refine (G.out _).mono ?_; rintro e w1 ⟨rfl, k1, rfl⟩)
  refine bodyPost_ret (results_five rfl _ _ _) rfl ⟨rfl, k1, rfl⟩
theorem parts_yes (x : Nat) (hx : x < 4294967296) (hz : x / 16384 % 64 = 0) (w : World) :
    Calls Try.prog 24 #[.int .u32 x] w fun e w' => e = .returned (.tuple #[.int .i64 (pReg x : Nat), .int .i64 (pSort x : Nat), .int .i64 (pMod x : Nat), .int .i64 (pBack x : Nat), .bool true]) ∧ ∃ k, w' = w.drewN k := by
  have G0 := Lib.hid (fun wx => get_as x 14 6 0 14 6 rfl rfl hx (by decide) (by decide) hz wx)
  obtain ⟨s, hs⟩ : ∃ s, s = pSort x := ⟨_, rfl⟩
  obtain ⟨m, hm⟩ : ∃ m, m = pMod x := ⟨_, rfl⟩
  obtain ⟨b, hb⟩ : ∃ b, b = pBack x := ⟨_, rfl⟩
  obtain ⟨r, hr⟩ : ∃ r, r = pReg x := ⟨_, rfl⟩
  have G1 := Lib.hid (fun wx => get_as x 26 2 s 26 2 rfl rfl hx (by decide) (by decide) (by rw [hs]; rfl) wx)
  have G2 := Lib.hid (fun wx => get_as x 20 6 m 20 6 rfl rfl hx (by decide) (by decide) (by rw [hm]; rfl) wx)
  have G3 := Lib.hid (fun wx => get_as x 0 14 b 0 14 rfl rfl hx (by decide) (by decide) (by rw [hb]; simp [pBack]) wx)
  have R := Lib.hid (show (x : Int) / 268435456 = (r : Int) by rw [hr]; simp [pReg])
  have bs : (s : Int) < 4 := by rw [hs]; unfold pSort; omega
  have bm : (m : Int) < 64 := by rw [hm]; unfold pMod; omega
  have bb : (b : Int) < 16384 := by rw [hb]; unfold pBack; omega
  have br : (x : Int) / 268435456 < 16 := by omega
  rw [← hs, ← hm, ← hb, ← hr]
  clear hx hz hs hm hb hr
  go_enter Try.func24, Try.ntmps24
  go_wp2_with (go_at_call 41; (first | (with_reducible refine (G0.out _).mono ?_) | (with_reducible refine (G1.out _).mono ?_) | (with_reducible refine (G2.out _).mono ?_) | (with_reducible refine (G3.out _).mono ?_)); rintro e w1 ⟨rfl, k1, rfl⟩)
  refine bodyPost_ret (results_five rfl _ _ _) rfl ⟨?_, ?_⟩
  · exact ret5 (by have := R.out; omega) rfl rfl rfl
  · exact ⟨_, rfl⟩
theorem parts_calls (x : Nat) (hx : x < 4294967296) (w : World) : Calls Try.prog 24 #[.int .u32 x] w (PartsV w x) := by
  by_cases h : x / 16384 % 64 = 0
  · have e : pOk x = true := by simp [pOk, h]
    refine Calls.mono (parts_yes x hx h w) ?_
    rintro e' w' ⟨rfl, hw⟩
    exact ⟨by rw [e]; rfl, hw⟩
  · have e : pOk x = false := by simp [pOk, h]
    refine Calls.mono (parts_no x _ hx rfl (by simp; omega) w) ?_
    rintro e' w' ⟨rfl, hw⟩
    exact ⟨by rw [e]; rfl, hw⟩
end Go.Proofs.Ytbhdejoljappfaa
