/- cpu.New: a machine of words. -/
import Derived.Test.YtjlngglkljjgmaaRunLoop
namespace Go.Proofs.Ytjlngglkljjgmaa
open Go.RowKit
theorem mem_of_new {w : World} {b d m : Nat} {xs : List Nat} (h : MemB w b d m (W32 xs)) (hl : xs.length = m) (hs : ∀ x ∈ xs, x < 4294967296) : Mem w b d xs := by
  subst hl
  exact ⟨W32 xs, h, List.take_of_length_le (by simp [W32]), hs⟩
/-- A memory in new blocks. -/
def NewM (w : World) (xs : List Nat) (e : Ending) (w' : World) : Prop :=
  ∃ b d, e = .returned (.tuple #[.pointer (some ⟨b, 0, none⟩), .int .i64 0]) ∧ Mem w' b d xs ∧ w.heap.size ≤ b ∧ w.heap.size ≤ d ∧ Below w.heap.size w w'
theorem new_mem (ad : Option Addr) (m c : Nat) (xs : List Nat) (w : World) (hl : xs.length = m) (hm : (m : Int) ≤ 65536) (hs : ∀ x ∈ xs, x < 4294967296)
    (hpos : 0 < m → ∃ a, ad = some a ∧ ∀ j u, (W32 xs)[j]? = some u → w.cell? (a.add j) = some u) :
    Calls Try.prog 12 #[.slice ad m c] w (NewM w xs) := by
  refine (new_calls ad m c (W32 xs) w hm (by simp [W32, hl]) hpos (one_W32 xs)).mono ?_
  rintro e w' ⟨b, d, rfl, hM, hb, hd, hB⟩
  exact ⟨b, d, rfl, mem_of_new hM hl hs, hb, hd, hB⟩
/-- A machine that stands at its first word. -/
def St.new (xs : List Nat) : St := ⟨List.replicate 16 0, 0, ⟨false, false, false, false⟩, 0, xs, 0, [], 0, 0, fun _ => none⟩
set_option maxHeartbeats 4000000 in
set_option maxRecDepth 100000 in
theorem cpu_new (ad : Option Addr) (m c : Nat) (xs : List Nat) (inp : ByteArray) (w : World) (hl : xs.length = m) (hm : (m : Int) ≤ 65536) (hs : ∀ x ∈ xs, x < 4294967296) (hin : inp.size ≤ 4096)
    (hpos : 0 < m → ∃ a, ad = some a ∧ ∀ j u, (W32 xs)[j]? = some u → w.cell? (a.add j) = some u) :
    Calls Try.prog 5 #[.slice ad m c, .int .i64 0, .string inp] w fun e w' => ∃ p b d, e = .returned (.tuple #[.pointer (some ⟨p, 0, none⟩), .int .i64 0]) ∧ Mach w' p b d inp (.slice none 0 0) (St.new xs) ∧ w.heap.size ≤ b ∧ w.heap.size ≤ d ∧ w.heap.size ≤ p ∧ Below w.heap.size w w' := by
  have HN := Lib.hid (new_mem ad m c xs w hl hm hs hpos)
  have hin1 : decide (4096 < (inp.size : Int)) = false := by simp; omega
  have hin2 : decide (4096 < inp.size) = false := by simp; omega
  have m0 : (0 : Int) ≤ (m : Int) := by omega
  have HL := Lib.hid hl
  have HMm := Lib.hid hm
  clear hl hm hs hpos hin
  go_enter Try.func5, Try.ntmps5
  go_wp2_with (go_at_call 12; (with_reducible refine HN.out.mono ?_); rintro e w1 ⟨b, d, rfl, hM, hb, hd, hB⟩; have HM := Lib.hid hM; have HB := Lib.hid hB; have Hb := Lib.hid hb; have Hd := Lib.hid hd; clear hM hb hd hB)
  go_ret2
  have hlt := HM.out.lt
  refine ⟨w1.heap.size, b, d, rfl, ⟨⟨by simp [St.new], ?_, by simp [St.new], by simp [St.new], by simp [St.new], by simp [St.new], ?_⟩, ?_, ?_, ?_, hlt.1, hlt.2, fun k cs hk => ?_⟩, Hb.out, Hd.out, HB.out.size, HB.out.alloc HB.out.size _⟩
  · intro x hx
    rw [show (St.new xs).r = List.replicate 16 0 from rfl] at hx
    rw [(List.mem_replicate.1 hx).2]
    decide
  · show xs.length ≤ 65536
    have := HL.out
    have := HMm.out
    omega
  · rw [heap_alloc_new]
    rfl
  · exact HM.out.below_all ((Below.refl _ _).alloc (Nat.le_refl _) _)
  · exact ⟨rfl, .inl ⟨rfl, rfl⟩⟩
  · exact absurd hk (by simp [St.new])
end Go.Proofs.Ytjlngglkljjgmaa
