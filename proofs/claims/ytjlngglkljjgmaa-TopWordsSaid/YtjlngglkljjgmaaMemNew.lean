/- memory.New: a memory of words, copied. -/
import Derived.Test.YtjlngglkljjgmaaMem
import Derived.OwnWalk
import Derived.Laws.CopyOwn
import Derived.Laws.OwnMore
import Derived.Laws.MakeOwn
namespace Go.Proofs.Ytjlngglkljjgmaa
open Go.RowKit
/-- A memory in two blocks: the struct, and its words (the first n of a row). -/
def MemB (w : World) (b d n : Nat) (cur : List Value) : Prop :=
  n ≤ cur.length ∧ w.heap[b]? = some (.cells #[.slice (some ⟨d, 0, none⟩) n cur.length] 64 (0, 0)) ∧ w.heap[d]? = some (.cells cur.toArray 32 (0, 0)) ∧ b ≠ d
theorem info22 : (Try.prog.info? 32).map (fun i => (i.zero, i.size, i.bytes)) = some (some (.int .u32 0), 1, 4) := by kernel_rfl
/-- What New leaves: a memory in new blocks, all else as it was. -/
def NewMem (w : World) (n : Nat) (cs : List Value) (e : Ending) (w' : World) : Prop :=
  ∃ b d, e = .returned (.tuple #[.pointer (some ⟨b, 0, none⟩), .int .i64 0]) ∧ MemB w' b d n cs ∧ w.heap.size ≤ b ∧ w.heap.size ≤ d ∧ Below w.heap.size w w'
theorem made_block {w : World} {base g n cap : Nat} {e : TypeId} {xs : List Value} (h : w.ownsRow base e 1 (.slice (some ⟨g, 0, none⟩) n cap) n xs) :
    ∃ cur : List Value, Hid (w.heap[g]? = some (.cells cur.toArray e (0, 0))) ∧ Hid (cur.length = cap) ∧ Hid (cur.take n = xs) ∧ Hid (base ≤ g) ∧ Hid (n ≤ cap) := by
  rcases h.2 with ⟨h', _⟩ | ⟨g', cap', cur, h', hb, hg, hn, _, hc, ht⟩
  · simp at h'
  · simp only [Value.slice.injEq, Option.some.injEq, Addr.mk.injEq, and_true, true_and] at h'
    obtain ⟨rfl, rfl⟩ := h'
    refine ⟨cur.toList, ?_, ?_, ?_, hb, hn⟩
    · show w.heap[g]? = _
      simpa using hg
    · show cur.toList.length = _
      simpa using hc
    · show List.take n cur.toList = xs
      simpa using ht
theorem cell_kept {w w1 : World} {o : Obj} {a : Addr} {u : Value} (hg : w.grownBy w1 none) (h : w.cell? a = some u) : (w1.alloc o).cell? a = some u := by
  have h1 := hg.cell h (by simp)
  rw [World.cell?_alloc_lt _ _ _ (World.block_lt_of_cell? w1 a h1)]
  exact h1
theorem below_grown {w w1 : World} (hg : w.grownBy w1 none) : Below w.heap.size w w1 := ⟨hg.os, hg.tape, hg.output, hg.size, fun k hk => hg.block k hk (by simp)⟩
theorem splice_all {α : Type} (cur cs : List α) (h : cs.length = cur.length) : splice cur 0 cs = cs := by simp [splice, h]
/-- A copy into a row of the call's own: that row is known, every other block is as it was. -/
theorem copy_keep {P : Program} {w : World} {ops : Array Oper} {rest : List Oper} {o : Oper} {a : Act} {Q : Exit → Act → World → Prop} (hgd : o.guard = none) (d s : Operand) (dT sT : TypeId)
    (ho : o.op = .call { callee := .builtin .copy, args := #[d, s], argTypes := #[dT, sT] }) (elem : TypeId) (hu : P.underlying dT = some (.slice elem)) (hsz : (P.info? elem).map (·.size) = some 1)
    (dp sp : Option Addr) (dLen dCap sLen sCap : Nat) (hd : a.eval d = .slice dp dLen dCap) (hs : a.eval s = .slice sp sLen sCap)
    (g off : Nat) (cur : List Value) (t : TypeId) (hg : w.heap[g]? = some (.cells cur.toArray t (0, 0))) (cs : List Value) (hn : cs.length = Nat.min sLen dLen)
    (hpos : 0 < cs.length → dp = some ⟨g, off, none⟩ ∧ ∃ ad, sp = some ad ∧ ∀ j v, cs[j]? = some v → w.cell? (ad.add j) = some v)
    (hfit : off + cs.length ≤ cur.length) (h1 : ∀ v ∈ cs, v.oneCell' = true)
    (h : ∀ w', Hid (w'.heap[g]? = some (.cells (splice cur off cs).toArray t (0, 0))) → Hid (w.grownBy w' (some g)) → wpList P ops Q rest (a.put o.dst (goInt cs.length)) w') :
    wpList P ops Q (o :: rest) a w := by
  by_cases h0 : cs.length = 0
  · obtain rfl : cs = [] := List.eq_nil_of_length_eq_zero h0
    refine wpList_copy_nothing hgd d s dT sT ho elem hu hsz dp sp dLen dCap sLen sCap hd hs (by simpa using hn.symm) ?_
    exact h w (show _ = _ by simpa [splice] using hg) ⟨rfl, rfl, rfl, Nat.le_refl _, fun _ _ _ => rfl⟩
  · obtain ⟨rfl, ad, rfl, hsrc⟩ := hpos (by omega)
    refine wpList_copy_own hgd d s dT sT ho elem hu hsz g off dLen dCap ad sLen sCap hd hs cur.toArray t hg cs hn hsrc (by simpa using hfit) h1 ?_
    exact h _ (show _ = _ by simpa [splice] using setRow_heap w g _ _ t _ hg) ⟨rfl, rfl, rfl, by simp [World.setRow], fun k _ hk => setRow_other w g k _ (fun e => hk (by rw [e]))⟩
set_option maxHeartbeats 1000000 in
theorem new_calls (ad : Option Addr) (m c : Nat) (news : List Value) (w : World) (hm : (m : Int) ≤ 65536) (hl : news.length = m)
    (hpos : 0 < m → ∃ a, ad = some a ∧ ∀ j u, news[j]? = some u → w.cell? (a.add j) = some u) (h1 : ∀ u ∈ news, u.oneCell' = true) :
    Calls Try.prog 12 #[.slice ad m c] w (NewMem w m news) := by
  obtain ⟨i0, hi, hz0, hz1, hz2⟩ := info_parts info22
  have HL := Lib.hid hl
  have HP := Lib.hid hpos
  have H1 := Lib.hid h1
  clear hl hpos h1
  have B2 := Lib.hid (show i0.bytes * m ≤ 281474976710656 by rw [hz2]; omega)
  have B3 := Lib.hid (show m ≤ maxLen by unfold maxLen; omega)
  go_enter Try.func12, Try.ntmps12
  go_wp2_with (first | (at_make; refine wpList_make_full _ rfl _ _ 22 rfl w.heap.size 32 i0 (.int .u32 0) 1 Try.underlying22 hi hz0 hz1 .i64 .i64 _ _ m rfl rfl rfl rfl B2.out B3.out (Nat.le_refl _) ?_; intro w1 hown hgrow; obtain ⟨cur, C1, C2, C3, C4, C5⟩ := made_block hown; have GR := Lib.hid hgrow; have hs1 : w.heap.size < w1.heap.size := (hown.lt _ rfl).2; clear hown hgrow) | (with_reducible refine copy_keep rfl (.tmp 16) (.tmp 17) 22 22 rfl 32 Try.underlying22 (by kernel_rfl) (some ⟨w.heap.size, 0, none⟩) ad m m m c ?e1 ?e2 w.heap.size 0 cur 32 ?e3 news ?e4 ?e5 ?e6 H1.out ?e8))
  case e1 => rfl
  case e2 => rfl
  case e3 => rw [(World.grownBy_alloc w1 _ none).block _ hs1 (by simp)]; exact C1.out
  case e4 => rw [HL.out]; simp
  case e5 => intro h; obtain ⟨a, rfl, h2⟩ := HP.out (by have := HL.out; omega); exact ⟨a, rfl, fun j u hu => cell_kept GR.out (h2 j u hu)⟩
  case e6 => rw [HL.out, C2.out]; omega
  case e8 =>
    intro w2 hg2 hk2
    go_wp2
    go_ret2
    have hb : w2.heap[w1.heap.size]? = some (.cells #[.slice (some ⟨w.heap.size, 0, none⟩) m m] 64 (0, 0)) := by
      rw [hk2.out.block _ (by simp) (by simp; omega)]
      exact heap_alloc_new w1 _
    have hl := HL.out
    refine ⟨w1.heap.size, w.heap.size, rfl, ⟨by omega, ?_, ?_, by omega⟩, by omega, Nat.le_refl _, ?_⟩
    · rw [hl]; exact hb
    · rw [splice_all cur news (by rw [hl, C2.out])] at hg2
      exact hg2.out
    · exact (((below_grown GR.out).alloc (by omega) _).trans ⟨hk2.out.os, hk2.out.tape, hk2.out.output, hk2.out.size, fun k hk => hk2.out.block k (by simp; omega) (by simp; omega)⟩)
end Go.Proofs.Ytjlngglkljjgmaa
