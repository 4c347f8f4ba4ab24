/- TopWords: the words that came in, and what its two runs leave. -/
import Derived.Test.YtjlngglkljjgmaaStepAll
import Derived.Test.YtjlngglkljjgmaaRun
import Derived.Test.YtjlngglkljjgmaaCpuNew
import Derived.ChangeSlices
namespace Go.Proofs.Ytjlngglkljjgmaa
open Go.RowKit Go.ChangeShapes
/-- A slice of these words. -/
def Words (w : World) (a : Option Addr) (len : Nat) (xs : List Nat) : Prop :=
  xs.length = len ∧ len ≤ maxLen ∧ (∀ x ∈ xs, x < 4294967296) ∧ (0 < len → ∃ b off, a = some ⟨b, off, none⟩ ∧ ∀ j (h : j < xs.length), w.cell? ⟨b, off + j, none⟩ = some (.int .u32 (xs[j] : Nat)))
theorem add_at (b off j : Nat) : (⟨b, off, none⟩ : Addr).add j = ⟨b, off + j, none⟩ := by
  unfold Addr.add
  split <;> simp_all
theorem words_row {w : World} {x : Addr} {len cap : Nat} {zs : List Int} (hl : len ≤ cap) (hm : cap ≤ maxLen) (hz : zs.length = cap) (hcell : ∀ i, i < zs.length → w.cell? (x.add i) = some (.int .u32 (zs.getD i 0))) (hwz : ∀ n ∈ zs, (Lit.int .u32 n).wf = true) :
    ∃ xs, Words w (some x) len xs := by
  have hlen : ((zs.take len).map Int.toNat).length = len := by simp; omega
  refine ⟨(zs.take len).map Int.toNat, hlen, Nat.le_trans hl hm, ?_, ?_⟩
  · intro n hn
    obtain ⟨z, hz', rfl⟩ := List.mem_map.1 hn
    have := bounds_u32 (hwz z (List.mem_of_mem_take hz'))
    omega
  · intro h0
    obtain ⟨b, off, spot⟩ := x
    have hspot : spot = none := by simpa [Addr.add] using World.cell?_spot (hcell 0 (by omega))
    subst hspot
    refine ⟨b, off, rfl, fun j hj => ?_⟩
    have hj' : j < zs.length := by rw [hlen] at hj; omega
    have h := hcell j hj'
    rw [add_at] at h
    rw [h]
    have hw := bounds_u32 (hwz zs[j] (List.getElem_mem hj'))
    have e : zs.getD j 0 = zs[j] := by simp [hj']
    rw [e]
    simp
    omega
theorem W32_cells {w : World} {b off : Nat} {xs : List Nat} (h : ∀ j (_ : j < xs.length), w.cell? ⟨b, off + j, none⟩ = some (.int .u32 (xs[j] : Nat))) : ∀ j u, (W32 xs)[j]? = some u → w.cell? ((⟨b, off, none⟩ : Addr).add j) = some u := by
  intro j u hu
  have hj : j < xs.length := by
    rcases Nat.lt_or_ge j xs.length with h' | h'
    · exact h'
    · rw [List.getElem?_eq_none (by simp [W32]; omega)] at hu; cases hu
  rw [add_at, h j hj]
  simpa [W32, hj] using hu
/-- An outcome's end. -/
def St.endI (s : St) : Int := if s.e = 0 then 3 else s.e
/-- It stands at a word that is no instruction. -/
def Bad (s : St) : Prop := s.pc < s.ws.length ∧ decE (s.ws.getD s.pc 0) ≠ 0
theorem top_run {w : World} {B p b d : Nat} {inp : ByteArray} {ov : Value} {s0 : St} (M : Mach w p b d inp ov s0) (he0 : s0.e = 0) (hin : inp.size ≤ 4096) (hB : B ≤ p) (hd : B ≤ d) (fuel : Nat) (h1 : 1 ≤ fuel) (hf : fuel ≤ 4194304) :
    Calls Try.prog 6 #[.pointer (some ⟨p, 0, none⟩), .int .i64 fuel] w fun e w' => ∃ (k : Nat) (s : St) (ov' : Value) (t : Int) (o : ByteArray) (rd : Nat), e = .returned (.tuple #[.agg #[.int .i64 s.endI, .int .i64 t, .string o, .int .i64 k, .int .i64 rd], .int .i64 0]) ∧ 1 ≤ k ∧ k ≤ fuel ∧ s.e ≠ 3 ∧ (s.e = 4 → Bad s) ∧ Mach w' p b d inp ov' s ∧ Below B w w' := by
  refine (run_calls M hB fuel hf (fun k s => s.e ≠ 3 ∧ (s.e = 4 → Bad s) ∧ (k = 0 → s.e = 0)) ⟨by rw [he0]; decide, fun h => by rw [he0] at h; exact absurd h (by decide), fun _ => he0⟩ (fun k s g h => h) (fun k s wx ov hk h he m => ?_)).mono ?_
  · obtain ⟨s', hS, hg, hC⟩ := step_any m hin hB hd he
    refine ⟨s', ?_, hg, hC⟩
    by_cases hl : s.pc < s.ws.length
    · by_cases hE : decE (s.ws.getD s.pc 0) = 0
      · obtain ⟨h3, h4⟩ := hS.good hl hE
        exact ⟨h3, fun h => absurd h h4, fun h => by omega⟩
      · obtain ⟨h4, hp, hw⟩ := hS.bad hl hE
        exact ⟨by rw [h4]; decide, fun _ => by unfold Bad; rw [hp, hw]; exact ⟨hl, hE⟩, fun h => by omega⟩
    · have h5 := hS.none (by omega)
      exact ⟨by rw [h5]; decide, fun h => by rw [h5] at h; exact absurd h (by decide), fun h => by omega⟩
  · rintro e w' ⟨k, s, ov', rfl, ⟨h3, h4, h0⟩, hk, hk0, _, hM, hb⟩
    refine ⟨k, s, ov', s.t, strOf s.out, s.rd, rfl, ?_, hk, h3, h4, hM, hb⟩
    rcases Nat.eq_zero_or_pos k with h | h
    · have := hk0 (h0 h)
      omega
    · exact h
theorem top_run1 {w : World} {B p b d : Nat} {inp : ByteArray} {ov : Value} {s : St} (M : Mach w p b d inp ov s) (he0 : s.e = 0) (hin : inp.size ≤ 4096) (hB : B ≤ p) (hd : B ≤ d) :
    Calls Try.prog 6 #[.pointer (some ⟨p, 0, none⟩), .int .i64 1] w fun e w' => ∃ (k : Nat) (s' : St) (t : Int) (o : ByteArray) (rd : Nat), e = .returned (.tuple #[.agg #[.int .i64 s'.endI, .int .i64 t, .string o, .int .i64 k, .int .i64 rd], .int .i64 0]) ∧ Steps s s' ∧ Below B w w' := by
  refine (run_calls M hB 1 (by decide) (fun k s1 => (k = 0 ∧ s1 = { s with g := s1.g }) ∨ (k = 1 ∧ Steps s s1)) (.inl ⟨rfl, rfl⟩) (fun k s1 g h => ?_) (fun k s1 wx ov hk h he m => ?_)).mono ?_
  · rcases h with ⟨h, h2⟩ | ⟨h, h2⟩
    · exact .inl ⟨h, by rw [h2]⟩
    · exact .inr ⟨h, h2.none, h2.bad, h2.good⟩
  · rcases h with ⟨rfl, h2⟩ | ⟨rfl, _⟩
    · obtain ⟨s', hS, hg, hC⟩ := step_any m hin hB hd he
      refine ⟨s', .inr ⟨rfl, ?_⟩, hg, hC⟩
      obtain ⟨γ, hγ⟩ : ∃ γ, γ = s1.g := ⟨_, rfl⟩
      rw [← hγ] at h2
      subst h2
      exact ⟨hS.none, hS.bad, hS.good⟩
    · omega
  · rintro e w' ⟨k, s1, ov', rfl, h, hk, hk0, _, _, hb⟩
    refine ⟨k, s1, s1.t, strOf s1.out, s1.rd, rfl, ?_, hb⟩
    rcases h with ⟨h, h2⟩ | ⟨_, h2⟩
    · have : s1.e = 0 := by rw [h2]; exact he0
      have := hk0 this
      omega
    · exact h2
theorem memory_calls {w : World} {p b d : Nat} {inp : ByteArray} {ov : Value} {s : St} (M : Mach w p b d inp ov s) : Calls Try.prog 7 #[.pointer (some ⟨p, 0, none⟩)] w fun e w' => e = .returned (.pointer (some ⟨b, 0, none⟩)) ∧ w = w' := by
  have z1 := M.c22
  clear M
  go_enter Try.func7, Try.ntmps7
  go_wp2
  go_ret
  exact ⟨rfl, rfl⟩
theorem pc_calls {w : World} {p b d : Nat} {inp : ByteArray} {ov : Value} {s : St} (M : Mach w p b d inp ov s) : Calls Try.prog 9 #[.pointer (some ⟨p, 0, none⟩)] w fun e w' => e = .returned (.int .i64 s.pc) ∧ w = w' := by
  have z1 := M.c21
  clear M
  go_enter Try.func9, Try.ntmps9
  go_wp2
  go_ret
  exact ⟨rfl, rfl⟩
end Go.Proofs.Ytjlngglkljjgmaa
