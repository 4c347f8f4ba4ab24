/- fixup.Fill. -/
import Derived.Test.YtbhdejoljappfaaFixFill
import Derived.Outline
namespace Go.Proofs.Ytbhdejoljappfaa
open Go.RowKit
theorem chain_calls (A : Option Addr) (c : Nat) (code : List Nat) (head : Int) (w : World) (hm : (code.length : Int) ≤ 70000) (hs : ∀ x ∈ code, x < 4294967296) (hA : SlK .u32 w A code) (hb : -9223372036854775808 ≤ head) (hb2 : head ≤ 9223372036854775807) :
    Calls Try.prog 27 #[.slice A code.length c, .int .i64 head] w (ChainV w (chainF code head)) := by
  by_cases h : head = -1
  · subst h
    exact chain_none A _ c w
  · exact chain_some A _ c code head w rfl hm hs hA h hb hb2
/-- What Fill tells. -/
def FillV (w : World) (R : Option (List Nat)) (e : Ending) (w' : World) : Prop :=
  (R = none → e = .returned (.tuple #[.slice none 0 0, .int .i64 220])) ∧ (∀ ys, R = some ys → ∃ g c, e = .returned (.tuple #[.slice (some ⟨g, 0, none⟩) ys.length c, .int .i64 0]) ∧ Row w' 24 .u32 g c ys ∧ w.heap.size ≤ g) ∧ Below w.heap.size w w'
theorem fillV_none {w w' : World} (hB : Below w.heap.size w w') : FillV w none (.returned (.tuple #[.slice none 0 0, .int .i64 220])) w' := ⟨fun _ => rfl, (fun _ h => by cases h), hB⟩
theorem fillV_some {w w' : World} {ys : List Nat} {g c : Nat} (hR : Row w' 24 .u32 g c ys) (hg : w.heap.size ≤ g) (hB : Below w.heap.size w w') : FillV w (some ys) (.returned (.tuple #[.slice (some ⟨g, 0, none⟩) ys.length c, .int .i64 0])) w' :=
  ⟨(fun h => by cases h), (fun l' h => by cases h; exact ⟨g, c, rfl, hR, hg⟩), hB⟩
theorem fill_chain_no (A : Option Addr) (c : Nat) (code : List Nat) (head at_ : Int) (m : Value) (w : World) (V : Int → Int → Int → Option Int) (hm : (code.length : Int) ≤ 70000) (hs : ∀ x ∈ code, x < 4294967296) (hA : SlK .u32 w A code) (hb : -9223372036854775808 ≤ head) (hb2 : head ≤ 9223372036854775807) (hn : chainF code head = none) :
    Calls Try.prog 31 #[.slice A code.length c, .int .i64 head, .int .i64 at_, m] w (FillV w (fillF code head at_ V)) := by
  have CH := Lib.hid (chain_calls A c code head w hm hs hA hb hb2)
  have HF := Lib.hid (show fillF code head at_ V = none by unfold fillF; rw [hn])
  have HN := Lib.hid hn
  clear hs hA hn
  go_enter Try.func31, Try.ntmps31
  go_wp2_with (go_at_call 27; (with_reducible refine Calls.mono CH.out ?_); rintro e w1 ⟨h1, _, hB⟩; obtain rfl := h1 HN.out; have HB := Lib.hid hB; clear h1 hB)
  go_ret2
  rw [HF.out]
  exact fillV_none HB.out
theorem fill_at_no (A : Option Addr) (c : Nat) (code l : List Nat) (head at_ : Int) (m : Value) (w : World) (V : Int → Int → Int → Option Int) (hm : (code.length : Int) ≤ 70000) (hs : ∀ x ∈ code, x < 4294967296) (hA : SlK .u32 w A code) (hb : -9223372036854775808 ≤ head) (hb2 : head ≤ 9223372036854775807) (hl : chainF code head = some l) (hn : at_ < 0 ∨ 65536 < at_ ∨ 65536 - at_ < code.length) :
    Calls Try.prog 31 #[.slice A code.length c, .int .i64 head, .int .i64 at_, m] w (FillV w (fillF code head at_ V)) := by
  have CH := Lib.hid (chain_calls A c code head w hm hs hA hb hb2)
  have HF := Lib.hid (show fillF code head at_ V = none by unfold fillF; rw [hl]; simp only []; rw [if_pos hn])
  have HN := Lib.hid hl
  clear hs hA hl
  rcases hn with h | h | h
  · have b1 : decide (at_ < 0) = true := decide_eq_true h
    go_enter Try.func31, Try.ntmps31
    go_wp2_with (go_at_call 27; (with_reducible refine Calls.mono CH.out ?_); rintro e w1 ⟨_, h1, hB⟩; obtain ⟨A1, c1, rfl, _⟩ := h1 _ HN.out; have HB := Lib.hid hB; clear h1 hB)
    go_ret2
    rw [HF.out]
    exact fillV_none HB.out
  · have b1 : decide (at_ < 0) = false := decide_eq_false (by omega)
    have b2 : decide (65536 < at_) = true := decide_eq_true h
    go_enter Try.func31, Try.ntmps31
    go_wp2_with (go_at_call 27; (with_reducible refine Calls.mono CH.out ?_); rintro e w1 ⟨_, h1, hB⟩; obtain ⟨A1, c1, rfl, _⟩ := h1 _ HN.out; have HB := Lib.hid hB; clear h1 hB)
    go_ret2
    rw [HF.out]
    exact fillV_none HB.out
  · by_cases h0 : at_ < 0
    · have b1 : decide (at_ < 0) = true := decide_eq_true h0
      go_enter Try.func31, Try.ntmps31
      go_wp2_with (go_at_call 27; (with_reducible refine Calls.mono CH.out ?_); rintro e w1 ⟨_, h1, hB⟩; obtain ⟨A1, c1, rfl, _⟩ := h1 _ HN.out; have HB := Lib.hid hB; clear h1 hB)
      go_ret2
      rw [HF.out]
      exact fillV_none HB.out
    · have b1 : decide (at_ < 0) = false := decide_eq_false h0
      by_cases h2 : 65536 < at_
      · have b2 : decide (65536 < at_) = true := decide_eq_true h2
        go_enter Try.func31, Try.ntmps31
        go_wp2_with (go_at_call 27; (with_reducible refine Calls.mono CH.out ?_); rintro e w1 ⟨_, h1, hB⟩; obtain ⟨A1, c1, rfl, _⟩ := h1 _ HN.out; have HB := Lib.hid hB; clear h1 hB)
        go_ret2
        rw [HF.out]
        exact fillV_none HB.out
      · have b2 : decide (65536 < at_) = false := decide_eq_false h2
        have h3 : 0 ≤ at_ := by omega
        have h4 : at_ ≤ 65536 := by omega
        have b3 : decide (65536 - at_ < (code.length : Int)) = true := decide_eq_true h
        go_enter Try.func31, Try.ntmps31
        go_wp2_with (go_at_call 27; (with_reducible refine Calls.mono CH.out ?_); rintro e w1 ⟨_, h1, hB⟩; obtain ⟨A1, c1, rfl, _⟩ := h1 _ HN.out; have HB := Lib.hid hB; clear h1 hB)
        go_ret2
        rw [HF.out]
        exact fillV_none HB.out
theorem w64_of (x : Int) (h0 : -9223372036854775808 ≤ x) (h1 : x ≤ 9223372036854775807) : w64 x = true := by
  unfold w64
  simp [Lit.wf, IntKind.min, IntKind.max, IntKind.bits, IntKind.signed]
  omega
end Go.Proofs.Ytbhdejoljappfaa
