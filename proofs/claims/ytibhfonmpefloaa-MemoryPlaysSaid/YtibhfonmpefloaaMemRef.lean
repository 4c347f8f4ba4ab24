/- The reference's memory, call by call. -/
import Derived.Test.YtibhfonmpefloaaMemVal
import Derived.Deep.QuietTactic
import Derived.BigQuiet
namespace Go.Proofs.Ytibhfonmpefloaa
open Go.RowKit
theorem rsize_some (b d n cap : Nat) (w : World) (hp : w.cell? ⟨b, 0, none⟩ = some (.slice (some ⟨d, 0, none⟩) n cap)) :
    Calls Try.prog 43 #[.pointer (some ⟨b, 0, none⟩)] w fun e w' => e = .returned (.int .i64 n) ∧ w = w' := by
  go_enter Try.func43, Try.ntmps43
  go_wp2
  go_ret
  exact ⟨rfl, rfl⟩
theorem rsize_nil (w : World) :
    Calls Try.prog 43 #[.pointer none] w fun e w' => e = .returned (.int .i64 0) ∧ w = w' := by
  go_enter Try.func43, Try.ntmps43
  go_wp2
  go_ret
  exact ⟨rfl, rfl⟩
section
variable {w : World} {r : Option (Nat × Nat)} {xs : List Nat}
theorem r_size (h : MV 70 w r xs) : Calls Try.prog 43 #[pv r] w fun e w' => e = .returned (.int .i64 xs.length) ∧ w = w' := by
  rcases r with _ | x
  · have : xs = [] := h.2
    subst this
    exact rsize_nil w
  · obtain ⟨cap, hp⟩ := MT.ptr h.2
    exact rsize_some _ _ _ cap w hp
end
def RSizeAt (w : World) (p : Value) (n : Nat) : Prop := ∀ w1 : World, w1 = w → Calls Try.prog 43 #[p] w1 fun e w' => e = .returned (.int .i64 n) ∧ w1 = w'
theorem there_yes (p : Value) (N k at_ : Nat) (w : World) (hS : RSizeAt w p N) (hk : (at_ : Int) / 4 = (k : Int)) (hb : (k : Int) < 1073741824) (hn : (k : Int) < (N : Int)) :
    Calls Try.prog 58 #[p, .int .u32 at_] w fun e w' => e = .returned (.bool true) ∧ w = w' := by
  have S := Lib.hid hS
  have wk := wrap_nat k hb
  have UW : IntKind.u32.wrap (k : Int) = (k : Int) := by rw [IntKind.wrap_u32]; omega
  clear hS hb
  go_enter Try.func58, Try.ntmps58
  go_wp2_with (go_at_call 43; refine (S.out _ rfl).mono ?_; rintro e w' ⟨rfl, rfl⟩)
  go_ret
  exact ⟨rfl, rfl⟩
theorem there_no (p : Value) (N k at_ : Nat) (w : World) (hS : RSizeAt w p N) (hk : (at_ : Int) / 4 = (k : Int)) (hb : (k : Int) < 1073741824) (hn : (N : Int) ≤ (k : Int)) :
    Calls Try.prog 58 #[p, .int .u32 at_] w fun e w' => e = .returned (.bool false) ∧ w = w' := by
  have S := Lib.hid hS
  have wk := wrap_nat k hb
  have hd : decide (k < N) = false := decide_eq_false (by omega)
  have UW : IntKind.u32.wrap (k : Int) = (k : Int) := by rw [IntKind.wrap_u32]; omega
  clear hS hb
  go_enter Try.func58, Try.ntmps58
  go_wp2_with (go_at_call 43; refine (S.out _ rfl).mono ?_; rintro e w' ⟨rfl, rfl⟩)
  go_ret
  exact ⟨rfl, rfl⟩
def ThereAt (w : World) (p : Value) (at_ : Nat) (f : Bool) : Prop := ∀ w1 : World, w1 = w → Calls Try.prog 58 #[p, .int .u32 at_] w1 fun e w' => e = .returned (.bool f) ∧ w1 = w'
theorem r_there {w : World} {r : Option (Nat × Nat)} {xs : List Nat} (h : MV 70 w r xs) (at_ : Nat) (ha : at_ < 4294967296) : ThereAt w (pv r) at_ (here xs at_) := by
  intro w1 hw
  subst hw
  have hS : RSizeAt w1 (pv r) xs.length := fun w2 hw => by subst hw; exact r_size h
  by_cases hh : at_ / 4 < xs.length
  · rw [show here xs at_ = true by simp [here, hh]]
    exact there_yes _ xs.length (at_ / 4) at_ w1 hS (by omega) (by omega) (by omega)
  · rw [show here xs at_ = false by simp [here, hh]]
    exact there_no _ xs.length (at_ / 4) at_ w1 hS (by omega) (by omega) (by omega)
theorem rload_odd (p : Value) (at_ j : Nat) (w : World) (hj : (at_ : Int) % 4 = (j : Int)) (h0 : ((j : Int) != 0) = true) :
    Calls Try.prog 45 #[p, .int .u32 at_] w fun e w' => e = .returned (.tuple #[.int .u32 0, .bool false]) ∧ w = w' := by
  go_enter Try.func45, Try.ntmps45
  go_wp2
  go_ret2
  exact ⟨rfl, rfl⟩
theorem rload_none (p : Value) (at_ : Nat) (w : World) (h : ThereAt w p at_ false) (hj : (at_ : Int) % 4 = 0) :
    Calls Try.prog 45 #[p, .int .u32 at_] w fun e w' => e = .returned (.tuple #[.int .u32 0, .bool false]) ∧ w = w' := by
  have H := Lib.hid (h w rfl)
  clear h
  go_enter Try.func45, Try.ntmps45
  go_wp2_with (go_at_call 58; refine H.out.mono ?_; rintro e w' ⟨rfl, rfl⟩)
  go_ret2
  exact ⟨rfl, rfl⟩
theorem rload_some (b d k n cap : Nat) (x : Int) (at_ : Nat) (w : World) (h : ThereAt w (.pointer (some ⟨b, 0, none⟩)) at_ true) (hp : w.cell? ⟨b, 0, none⟩ = some (.slice (some ⟨d, 0, none⟩) n cap)) (hj : (at_ : Int) % 4 = 0)
    (hk : (at_ : Int) / 4 = (k : Int)) (hb : (k : Int) < 1073741824) (hn : (k : Int) < (n : Int)) (hx : w.cell? ⟨d, k, none⟩ = some (.int .u32 x)) :
    Calls Try.prog 45 #[.pointer (some ⟨b, 0, none⟩), .int .u32 at_] w fun e w' => e = .returned (.tuple #[.int .u32 x, .bool true]) ∧ w = w' := by
  have H := Lib.hid (h w rfl)
  have h0 : (0 : Int) ≤ (k : Int) := Int.natCast_nonneg k
  have UW : IntKind.u32.wrap (k : Int) = (k : Int) := by rw [IntKind.wrap_u32]; omega
  clear h hb
  go_enter Try.func45, Try.ntmps45
  go_wp2_with (go_at_call 58; refine H.out.mono ?_; rintro e w' ⟨rfl, rfl⟩)
  go_ret2
  exact ⟨rfl, rfl⟩
theorem r_load {w : World} {r : Option (Nat × Nat)} {xs : List Nat} (h : MV 70 w r xs) (at_ : Nat) (ha : at_ < 4294967296) : Calls Try.prog 45 #[pv r, .int .u32 at_] w fun e w' => e = .returned (.tuple #[.int .u32 (ldI xs at_), .bool (full xs at_)]) ∧ w = w' := by
  have hT := r_there h at_ ha
  by_cases hf : at_ % 4 = 0
  · by_cases hh : at_ / 4 < xs.length
    · rcases r with _ | x
      · have hx : xs = [] := h.2
        subst hx
        simp at hh
      · have hm : MT 70 w x.1 x.2 xs := h.2
        obtain ⟨cap, hp⟩ := hm.ptr
        have e : full xs at_ = true := by simp [full, hh, hf]
        rw [ldI, e, if_pos rfl]
        rw [show here xs at_ = true by simp [here, hh]] at hT
        refine rload_some x.1 x.2 (at_ / 4) xs.length cap _ at_ w hT hp (by omega) (by omega) (by omega) (by omega) ?_
        rw [hm.cell hh]
        simp [wordOf, hh]
    · have e : full xs at_ = false := by simp [full, hh]
      rw [ldI, e]
      rw [show here xs at_ = false by simp [here, hh]] at hT
      exact rload_none _ at_ w hT (by omega)
  · have e : full xs at_ = false := by simp [full, hf]
    rw [ldI, e]
    exact rload_odd _ at_ (at_ % 4) w (by omega) (by simp; omega)
theorem rstore_odd (p : Value) (at_ j : Nat) (v : Int) (w : World) (hj : (at_ : Int) % 4 = (j : Int)) (h0 : ((j : Int) != 0) = true) :
    Calls Try.prog 46 #[p, .int .u32 at_, .int .u32 v] w fun e w' => e = .returned (.bool false) ∧ w = w' := by
  go_enter Try.func46, Try.ntmps46
  go_wp2
  go_ret
  exact ⟨rfl, rfl⟩
theorem rstore_none (p : Value) (at_ : Nat) (v : Int) (w : World) (h : ThereAt w p at_ false) (hj : (at_ : Int) % 4 = 0) :
    Calls Try.prog 46 #[p, .int .u32 at_, .int .u32 v] w fun e w' => e = .returned (.bool false) ∧ w = w' := by
  have H := Lib.hid (h w rfl)
  clear h
  go_enter Try.func46, Try.ntmps46
  go_wp2_with (go_at_call 58; refine H.out.mono ?_; rintro e w' ⟨rfl, rfl⟩)
  go_ret
  exact ⟨rfl, rfl⟩
theorem rstore_some (b d k n cap : Nat) (x v : Int) (at_ : Nat) (w : World) (h : ThereAt w (.pointer (some ⟨b, 0, none⟩)) at_ true) (hp : w.cell? ⟨b, 0, none⟩ = some (.slice (some ⟨d, 0, none⟩) n cap)) (hj : (at_ : Int) % 4 = 0)
    (hk : (at_ : Int) / 4 = (k : Int)) (hb : (k : Int) < 1073741824) (hn : (k : Int) < (n : Int)) (hx : w.cell? ⟨d, k, none⟩ = some (.int .u32 x)) (hf : w.frozen? ⟨d, k, none⟩ = false) :
    Calls Try.prog 46 #[.pointer (some ⟨b, 0, none⟩), .int .u32 at_, .int .u32 v] w fun e w' => e = .returned (.bool true) ∧ w' = w.setCell ⟨d, k, none⟩ (.int .u32 v) := by
  have H := Lib.hid (h w rfl)
  have h0 : (0 : Int) ≤ (k : Int) := Int.natCast_nonneg k
  have UW : IntKind.u32.wrap (k : Int) = (k : Int) := by rw [IntKind.wrap_u32]; omega
  clear h hb
  go_enter Try.func46, Try.ntmps46
  go_wp2_with (go_at_call 58; refine H.out.mono ?_; rintro e w' ⟨rfl, rfl⟩)
  go_ret
  exact ⟨rfl, rfl⟩
theorem r_store {w : World} {r : Option (Nat × Nat)} {xs : List Nat} (h : MV 70 w r xs) (at_ v : Nat) (ha : at_ < 4294967296) (hv : v < 4294967296) : Calls Try.prog 46 #[pv r, .int .u32 at_, .int .u32 v] w (StoredV 70 w r (full xs at_) (stL xs at_ v)) := by
  have hT := r_there h at_ ha
  by_cases hf : at_ % 4 = 0
  · by_cases hh : at_ / 4 < xs.length
    · rcases r with _ | x
      · have hx : xs = [] := h.2
        subst hx
        simp at hh
      · have hm : MT 70 w x.1 x.2 xs := h.2
        obtain ⟨cap, hp⟩ := hm.ptr
        have e : full xs at_ = true := by simp [full, hh, hf]
        rw [stL, e, if_pos rfl]
        rw [show here xs at_ = true by simp [here, hh]] at hT
        refine Calls.mono (rstore_some x.1 x.2 (at_ / 4) xs.length cap _ v at_ w hT hp (by omega) (by omega) (by omega) (by omega) (hm.cell hh) (hm.free _)) ?_
        rintro e w' ⟨rfl, rfl⟩
        exact ⟨rfl, ⟨by simpa using h.1, hm.set _ v hv⟩, grown_set _ _ _ _, by simp⟩
    · have e : full xs at_ = false := by simp [full, hh]
      rw [stL, e]
      rw [show here xs at_ = false by simp [here, hh]] at hT
      refine Calls.mono (rstore_none _ at_ v w hT (by omega)) ?_
      rintro e w' ⟨rfl, rfl⟩
      exact ⟨rfl, h, grown_self _ _, rfl⟩
  · have e : full xs at_ = false := by simp [full, hf]
    rw [stL, e]
    refine Calls.mono (rstore_odd _ at_ (at_ % 4) v w (by omega) (by simp; omega)) ?_
    rintro e w' ⟨rfl, rfl⟩
    exact ⟨rfl, h, grown_self _ _, rfl⟩
theorem p256 (k : Nat) (h : k < 3) : (256 : Int) ^ k * 256 % 4294967296 = 256 ^ (k + 1) := by
  have : k = 0 ∨ k = 1 ∨ k = 2 := by omega
  rcases this with rfl | rfl | rfl <;> decide
theorem scale_calls (at_ j : Nat) (hj : (at_ : Int) % 4 = (j : Int)) (_hj4 : (j : Int) < 4) (w : World) :
    Calls Try.prog 59 #[.int .u32 at_] w fun e w' => e = .returned (.int .u32 (256 ^ j)) ∧ w = w' := by
  go_enter Try.func59, Try.ntmps59
  go_wp2
  go_loop [3, 4] (fun s i => ∃ k : Nat, k ≤ j ∧ i = .int .u32 k ∧ s = .int .u32 (256 ^ k)) (fun _ i => j - (intOf i).toNat)
  case atStart => exact ⟨0, Nat.zero_le _, rfl, rfl⟩
  case round =>
    obtain ⟨k, hk, rfl, rfl⟩ := hrel
    by_cases hlt : k < j
    · have H := Lib.hid (p256 k (by omega))
      go_wp2
      go_round
      case rel => exact ⟨k + 1, by omega, by go_num, by rw [H.out]⟩
      case measure => simp [intOf]; omega
    · go_wp2
      go_ret
      exact ⟨ret_i (by rw [show k = j by omega]), rfl⟩
end Go.Proofs.Ytibhfonmpefloaa
