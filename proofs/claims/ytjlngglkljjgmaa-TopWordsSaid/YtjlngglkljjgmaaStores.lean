/- stores: what a store leaves. -/
import Derived.Test.YtjlngglkljjgmaaJumps
import Derived.Laws.AppendOwn
import Derived.WalkSpells
import Derived.WalkLawsBesides
namespace Go.Proofs.Ytjlngglkljjgmaa
open Go.RowKit
section
variable {w w' : World} {B p b d : Nat} {inp : ByteArray} {ov : Value} {s : St}
theorem Mach.eset (M : Mach w p b d inp ov s) (e : Int) : Mach (w.setCell ⟨p, 26, none⟩ (.int .i64 e)) p b d inp ov { s with e := e } := by
  refine M.wrote (grown_set _ _ _ _) ⟨M.ok.len, M.ok.small, M.ok.h, M.ok.pc, M.ok.rd, M.ok.out, M.ok.ws⟩ ?_ rfl rfl
  have h := row_set M.row 26 (.int .i64 e)
  exact h.trans (congrArg (fun c : List Value => some (Obj.cells c.toArray 51 (0, 0))) (set_tail M.ok.len 10 _))
theorem Mach.tset (M : Mach w p b d inp ov s) (e : Int) : Mach (w.setCell ⟨p, 27, none⟩ (.int .i64 e)) p b d inp ov { s with t := e } := by
  refine M.wrote (grown_set _ _ _ _) ⟨M.ok.len, M.ok.small, M.ok.h, M.ok.pc, M.ok.rd, M.ok.out, M.ok.ws⟩ ?_ rfl rfl
  have h := row_set M.row 27 (.int .i64 e)
  exact h.trans (congrArg (fun c : List Value => some (Obj.cells c.toArray 51 (0, 0))) (set_tail M.ok.len 11 _))
theorem Mach.rdset (M : Mach w p b d inp ov s) (k : Nat) (hk : k ≤ inp.size) : Mach (w.setCell ⟨p, 24, none⟩ (.int .i64 k)) p b d inp ov { s with rd := k } := by
  refine M.wrote (grown_set _ _ _ _) ⟨M.ok.len, M.ok.small, M.ok.h, M.ok.pc, hk, M.ok.out, M.ok.ws⟩ ?_ rfl rfl
  have h := row_set M.row 24 (.int .i64 k)
  exact h.trans (congrArg (fun c : List Value => some (Obj.cells c.toArray 51 (0, 0))) (set_tail M.ok.len 8 _))
/-- Behind a write into the words. -/
theorem Mach.stored (M : Mach w p b d inp ov s) {xs : List Nat} (hm : Mem w' b d xs) (hg : w.grownBy w' (some d)) (hl : xs.length = s.ws.length) : Mach w' p b d inp ov { s with ws := xs } := by
  have hp := M.lt
  have hd := M.dp
  refine ⟨⟨M.ok.len, M.ok.small, M.ok.h, M.ok.pc, M.ok.rd, M.ok.out, by have := M.ok.ws; simp; omega⟩, ?_, hm, ?_, M.bp, M.dp, fun k cs hk => ?_⟩
  · rw [hg.block p hp (by simp; omega)]
    exact M.row
  · refine M.out.kept hg ?_
    rcases h : ov.ownBlock with _ | k
    · exact .inl rfl
    · have := (M.out.lt k h).1
      exact .inr (by simp; omega)
  · have h := M.keep k cs hk
    rw [hg.block k (Array.getElem?_eq_some_iff.1 h).1 (by
      intro e
      rw [Option.some.injEq] at e
      rw [e, M.mem.choose_spec.1.2.2.1] at h
      simp at h)]
    exact h
end
def St.store (s : St) (at_ v : Nat) (small : Bool) : St :=
  if at_ = 4294967240 then (if s.out.length = 4096 then { s with e := 6 } else { s with out := s.out ++ [v % 256] })
  else if at_ = 4294967236 then { s with e := 2, t := wrap32 v }
  else if at_ = 4294967232 then { s with e := 1 }
  else if small then { s with ws := if here s.ws at_ then s.ws.set (at_ / 4) (putN (wordOf s.ws at_) (8 * (at_ % 4)) 8 v) else s.ws, e := if here s.ws at_ then s.e else 5 }
  else { s with ws := if full s.ws at_ then s.ws.set (at_ / 4) v else s.ws, e := if full s.ws at_ then s.e else 5 }
theorem infoB : (Try.prog.info? 5).map (fun i => (i.zero, i.size, i.bytes)) = some (some (.int .u8 0), 1, 1) := by kernel_rfl
theorem Mach.shape {w : World} {p b d : Nat} {inp : ByteArray} {ov : Value} {s : St} (M : Mach w p b d inp ov s) : ∃ A c, ov = .slice A s.out.length c := by
  rcases M.out.2 with ⟨h, h0⟩ | ⟨g, cap, cur, h, _⟩
  · exact ⟨none, 0, by rw [h, h0]⟩
  · exact ⟨_, _, h⟩
theorem lit_cell (w : World) (x : Value) (t : TypeId) : ∀ j u, ([x] : List Value)[j]? = some u → (w.alloc (.cells #[x] t)).cell? ((⟨w.heap.size, 0, none⟩ : Addr).add j) = some u := by
  intro j u hu
  rw [add_at0]
  unfold World.cell?
  dsimp only
  rw [heap_alloc_new]
  rcases j with _ | j
  · simpa using hu
  · simp at hu
theorem one_lit (x : Value) (hx : x.oneCell' = true) : ∀ u ∈ [x], u.oneCell' = true := by
  intro u hu
  obtain rfl := List.mem_singleton.1 hu
  exact hx
theorem own_shape {w : World} {base n : Nat} {e : TypeId} {v : Value} {xs : List Value} (h : w.ownsRow base e 1 v n xs) : ∃ A c, v = .slice A n c := by
  rcases h.2 with ⟨h, h0⟩ | ⟨g, cap, cur, h, _⟩
  · exact ⟨none, 0, by rw [h, h0]⟩
  · exact ⟨_, _, h⟩
/-- Behind an append to what was put out. -/
theorem Mach.grew {w w1 : World} {p b d : Nat} {inp : ByteArray} {ov v' : Value} {s : St} (M : Mach w p b d inp ov s) {o : Obj} {x : Nat} (hg : (w.alloc o).grownBy w1 ov.ownBlock) (hn : s.out.length < 4096) (ho : w1.ownsRow (p + 1) 5 1 v' (s.out.length + 1) (u8s s.out ++ [.int .u8 (x : Int)])) :
    w1.heap[p]? = some (.cells (s.cells b inp ov).toArray 51 (0, 0)) ∧ Mach (w1.setCell ⟨p, 25, none⟩ v') p b d inp v' { s with out := s.out ++ [x] } ∧ ∀ B, B ≤ p → Below B w (w1.setCell ⟨p, 25, none⟩ v') := by
  have hp := M.lt
  have own : ∀ k, ov.ownBlock = some k → p + 1 ≤ k := fun k hk => (M.out.lt k hk).1
  have keep : ∀ k, k ≤ p → w1.heap[k]? = w.heap[k]? := fun k hk => by
    rw [hg.block k (by simp; omega) (by
      intro h
      have := own k h.symm
      omega)]
    exact ((Below.refl w.heap.size w).alloc (Nat.le_refl _) o).block k (by omega)
  have hrow := (keep p (Nat.le_refl _)).trans M.row
  refine ⟨hrow, ⟨⟨M.ok.len, M.ok.small, M.ok.h, M.ok.pc, M.ok.rd, by simp; omega, M.ok.ws⟩, ?_, ?_, ?_, M.bp, M.dp, ?_⟩, ?_⟩
  · have h := row_set hrow 25 v'
    exact h.trans (congrArg (fun c : List Value => some (Obj.cells c.toArray 51 (0, 0))) (set_tail M.ok.len 9 _))
  · have h1 := M.bp
    have h2 := M.dp
    refine M.mem.kept ?_ ?_
    · rw [Below.heap_setCell _ _ _ _ (show b ≠ p by omega), keep b (by omega)]
    · rw [Below.heap_setCell _ _ _ _ (show d ≠ p by omega), keep d (by omega)]
  · have e : u8s (s.out ++ [x]) = u8s s.out ++ [.int .u8 (x : Int)] := by simp [u8s]
    show World.ownsRow _ (p + 1) 5 1 v' (s.out ++ [x]).length (u8s (s.out ++ [x]))
    rw [e, List.length_append]
    refine World.ownsRow.kept ho (grown_set w1 p 25 v') ?_
    rcases h : v'.ownBlock with _ | k
    · exact .inl rfl
    · have := (ho.lt k h).1
      exact .inr (by simp; omega)
  · intro k cs hk
    have h := M.keep k cs hk
    have hlt := (Array.getElem?_eq_some_iff.1 h).1
    have h1 : k ≠ p := by
      intro e
      rw [e, M.row] at h
      simp at h
    rw [Below.heap_setCell _ _ _ _ h1, hg.block k (by simp; omega) (by
      intro e
      rcases M.out.2 with ⟨h2, _⟩ | ⟨g, cap, cur, h2, _, h3, _⟩
      · rw [h2] at e
        simp [Value.ownBlock] at e
      · rw [h2] at e
        simp [Value.ownBlock] at e
        rw [e, h3] at h
        simp at h)]
    exact (((Below.refl w.heap.size w).alloc (Nat.le_refl _) o).block k hlt).trans h
  · intro B hB
    refine Below.setCell (p := ⟨p, 25, none⟩) ?_ hB _
    refine (((Below.refl B w).alloc (by omega) o).grown hg (by simp; omega) (fun k hk => ?_))
    have := own k hk
    omega
theorem stores_full {w : World} {B p b d : Nat} {inp : ByteArray} {ov : Value} {s : St} (M : Mach w p b d inp ov s) (hB : B ≤ p) (v : Nat) (small : Bool) (hn : s.out.length = 4096) :
    Calls Try.prog 31 #[.pointer (some ⟨p, 0, none⟩), .int .u32 4294967240, .int .u32 v, .bool small] w fun e w' => e = .returned (.tuple #[]) ∧ After w B p b d inp { s with e := 6 } w' := by
  obtain ⟨A, c, rfl⟩ := M.shape
  have HM := Lib.hid M
  have z0 := M.c26
  have z1 := M.c25
  rw [hn] at z1
  have f0 := M.free 26
  clear M
  go_enter Try.func31, Try.ntmps31
  go_wp2
  refine bodyPost_ret (results_none rfl _ _ _) rfl ?_
  exact ⟨rfl, _, HM.out.eset 6, (Below.refl _ _).setCell (p := ⟨p, 26, none⟩) hB _⟩
set_option maxHeartbeats 4000000 in
theorem stores_out {w : World} {B p b d : Nat} {inp : ByteArray} {ov : Value} {s : St} (M : Mach w p b d inp ov s) (hB : B ≤ p) (v : Nat) (small : Bool) (hn : s.out.length < 4096) :
    Calls Try.prog 31 #[.pointer (some ⟨p, 0, none⟩), .int .u32 4294967240, .int .u32 v, .bool small] w fun e w' => e = .returned (.tuple #[]) ∧ After w B p b d inp { s with out := s.out ++ [v % 256] } w' := by
  obtain ⟨A, c, rfl⟩ := M.shape
  obtain ⟨i0, hi, hz0, hz1, hz2⟩ := info_parts infoB
  have HM := Lib.hid M
  have z1 := M.c25
  obtain ⟨n, hnn⟩ : ∃ n, n = s.out.length := ⟨_, rfl⟩
  have HN := Lib.hid hnn
  have OW := M.out
  rw [← hnn] at z1 hn OW
  have f0 := M.free 25
  have hp := M.lt
  have HO := Lib.hid (fun o => OW.alloc o)
  have HV := Lib.hid (show ((v : Int) % 256) = ((v % 256 : Nat) : Int) by omega)
  have MM := Lib.hid (fun (w1 : World) (o : Obj) (v' : Value) (hg : (w.alloc o).grownBy w1 (Value.slice A n c).ownBlock) (ho : w1.ownsRow (p + 1) 5 1 v' (n + 1) (u8s s.out ++ [.int .u8 ((v % 256 : Nat) : Int)])) => M.grew (v' := v') (by rw [← hnn]; exact hg) (by omega) (by rw [← hnn]; exact ho))
  have MC := Lib.hid (fun (w1 : World) (h : w1.heap[p]? = some (.cells (s.cells b inp (Value.slice A s.out.length c)).toArray 51 (0, 0))) => show w1.cell? ⟨p, 25, none⟩ = some (.slice A n c) ∧ w1.frozen? ⟨p, 25, none⟩ = false from ⟨by rw [hnn]; simp [World.cell?, h, show (s.cells b inp (Value.slice A s.out.length c))[25]? = some (Value.slice A s.out.length c) from St.cells_tail M.ok.len 9], by simp [World.frozen?, h]⟩)
  have n0 : ((n : Int) == 4096) = false := by simp; omega
  have B2 := Lib.hid (show n + 1 ≤ maxLen by unfold maxLen; omega)
  have B3 := Lib.hid (show (n + 1) * 1 ≤ 140737488355328 by omega)
  clear M OW hnn hn
  go_enter Try.func31, Try.ntmps31
  go_wp2_with (at_builtin; refine wpList_append_own _ rfl _ _ 49 rfl (p + 1) 5 i0 (.int .u8 0) 1 1 Try.underlying49 hi hz0 hz1 hz2 rfl (by decide) _ n _ rfl (HO.out _) ⟨w.heap.size, 0, none⟩ 1 1 [.int .u8 ((v : Int) % 256)] rfl rfl (lit_cell w _ 5) (one_lit _ rfl) B2.out B3.out (by simp; omega) ?_; intro v' w1 hown hgrow hnil; obtain ⟨A', c', rfl⟩ := own_shape hown; rw [HV.out] at hown; have MG := Lib.hid (MM.out w1 _ _ hgrow hown); have z2 : w1.cell? ⟨p, 25, none⟩ = some (.slice A n c) := (MC.out w1 MG.out.1).1; have f2 : w1.frozen? ⟨p, 25, none⟩ = false := (MC.out w1 MG.out.1).2; clear hown hgrow hnil)
  go_end0
  exact ⟨rfl, _, MG.out.2.1, MG.out.2.2 B hB⟩
theorem stores_trap {w : World} {B p b d : Nat} {inp : ByteArray} {ov : Value} {s : St} (M : Mach w p b d inp ov s) (hB : B ≤ p) (v : Nat) (small : Bool) :
    Calls Try.prog 31 #[.pointer (some ⟨p, 0, none⟩), .int .u32 4294967236, .int .u32 v, .bool small] w fun e w' => e = .returned (.tuple #[]) ∧ After w B p b d inp { s with e := 2, t := wrap32 v } w' := by
  have HM := Lib.hid M
  have z0 := M.c26
  have z1 := M.c27
  have f0 := M.free 26
  have f1 := M.free 27
  clear M
  go_enter Try.func31, Try.ntmps31
  go_wp2_with (go_at_call 44; (with_reducible refine (signed_calls _ _).mono ?_); rintro e w' ⟨rfl, rfl⟩)
  go_end0
  exact ⟨rfl, ov, (HM.out.eset 2).tset _, ((Below.refl _ _).setCell (p := ⟨p, 26, none⟩) hB _).setCell (p := ⟨p, 27, none⟩) hB _⟩
theorem stores_halt {w : World} {B p b d : Nat} {inp : ByteArray} {ov : Value} {s : St} (M : Mach w p b d inp ov s) (hB : B ≤ p) (v : Nat) (small : Bool) :
    Calls Try.prog 31 #[.pointer (some ⟨p, 0, none⟩), .int .u32 4294967232, .int .u32 v, .bool small] w fun e w' => e = .returned (.tuple #[]) ∧ After w B p b d inp { s with e := 1 } w' := by
  have HM := Lib.hid M
  have z0 := M.c26
  have f0 := M.free 26
  clear M
  go_enter Try.func31, Try.ntmps31
  go_wp2
  go_end0
  exact ⟨rfl, ov, HM.out.eset 1, (Below.refl _ _).setCell (p := ⟨p, 26, none⟩) hB _⟩
theorem stores_word_t {w : World} {B p b d : Nat} {inp : ByteArray} {ov : Value} {s : St} (M : Mach w p b d inp ov s) (hB : B ≤ p) (hd : B ≤ d) (at_ v : Nat) (xs : List Nat) (hl : xs.length = s.ws.length) (hS : Calls Try.prog 46 #[.pointer (some ⟨b, 0, none⟩), .int .u32 at_, .int .u32 v] w (Stored w b d true xs)) (h0 : ((at_ : Int) == 4294967240) = false) (h1 : ((at_ : Int) == 4294967236) = false) (h2 : ((at_ : Int) == 4294967232) = false) :
    Calls Try.prog 31 #[.pointer (some ⟨p, 0, none⟩), .int .u32 at_, .int .u32 v, .bool false] w fun e w' => e = .returned (.tuple #[]) ∧ After w B p b d inp { s with ws := xs } w' := by
  have HM := Lib.hid M
  have z0 := M.c22
  have HS := Lib.hid hS
  have HL := Lib.hid hl
  have HBw := Lib.hid (show B ≤ w.heap.size by have := M.lt; omega)
  have HD := Lib.hid hd
  clear M hS hl hd
  go_enter Try.func31, Try.ntmps31
  go_wp2_with (go_at_call 46; (with_reducible refine HS.out.mono ?_); rintro e w1 ⟨rfl, hm, hg, hsz⟩; have HM1 := Lib.hid (HM.out.stored hm hg HL.out); have z1 := HM1.out.c26; have f1 := HM1.out.free 26; have HG := Lib.hid hg; clear hm hg hsz)
  go_end0
  exact ⟨rfl, ov, HM1.out, (Below.refl _ w).grown HG.out HBw.out (fun k hk => by have := HD.out; simp at hk; omega)⟩
theorem stores_word_f {w : World} {B p b d : Nat} {inp : ByteArray} {ov : Value} {s : St} (M : Mach w p b d inp ov s) (hB : B ≤ p) (hd : B ≤ d) (at_ v : Nat) (xs : List Nat) (hl : xs.length = s.ws.length) (hS : Calls Try.prog 46 #[.pointer (some ⟨b, 0, none⟩), .int .u32 at_, .int .u32 v] w (Stored w b d false xs)) (h0 : ((at_ : Int) == 4294967240) = false) (h1 : ((at_ : Int) == 4294967236) = false) (h2 : ((at_ : Int) == 4294967232) = false) :
    Calls Try.prog 31 #[.pointer (some ⟨p, 0, none⟩), .int .u32 at_, .int .u32 v, .bool false] w fun e w' => e = .returned (.tuple #[]) ∧ After w B p b d inp { s with ws := xs, e := 5 } w' := by
  have HM := Lib.hid M
  have z0 := M.c22
  have HS := Lib.hid hS
  have HL := Lib.hid hl
  have HBw := Lib.hid (show B ≤ w.heap.size by have := M.lt; omega)
  have HD := Lib.hid hd
  clear M hS hl hd
  go_enter Try.func31, Try.ntmps31
  go_wp2_with (go_at_call 46; (with_reducible refine HS.out.mono ?_); rintro e w1 ⟨rfl, hm, hg, hsz⟩; have HM1 := Lib.hid (HM.out.stored hm hg HL.out); have z1 := HM1.out.c26; have f1 := HM1.out.free 26; have HG := Lib.hid hg; clear hm hg hsz)
  go_end0
  exact ⟨rfl, ov, HM1.out.eset 5, ((Below.refl _ w).grown HG.out HBw.out (fun k hk => by have := HD.out; simp at hk; omega)).setCell (p := ⟨p, 26, none⟩) hB _⟩
theorem stores_byte_t {w : World} {B p b d : Nat} {inp : ByteArray} {ov : Value} {s : St} (M : Mach w p b d inp ov s) (hB : B ≤ p) (hd : B ≤ d) (at_ v : Nat) (xs : List Nat) (hl : xs.length = s.ws.length) (hS : Calls Try.prog 45 #[.pointer (some ⟨b, 0, none⟩), .int .u32 at_, .int .u32 v] w (Stored w b d true xs)) (h0 : ((at_ : Int) == 4294967240) = false) (h1 : ((at_ : Int) == 4294967236) = false) (h2 : ((at_ : Int) == 4294967232) = false) :
    Calls Try.prog 31 #[.pointer (some ⟨p, 0, none⟩), .int .u32 at_, .int .u32 v, .bool true] w fun e w' => e = .returned (.tuple #[]) ∧ After w B p b d inp { s with ws := xs } w' := by
  have HM := Lib.hid M
  have z0 := M.c22
  have HS := Lib.hid hS
  have HL := Lib.hid hl
  have HBw := Lib.hid (show B ≤ w.heap.size by have := M.lt; omega)
  have HD := Lib.hid hd
  clear M hS hl hd
  go_enter Try.func31, Try.ntmps31
  go_wp2_with (go_at_call 45; (with_reducible refine HS.out.mono ?_); rintro e w1 ⟨rfl, hm, hg, hsz⟩; have HM1 := Lib.hid (HM.out.stored hm hg HL.out); have z1 := HM1.out.c26; have f1 := HM1.out.free 26; have HG := Lib.hid hg; clear hm hg hsz)
  go_end0
  exact ⟨rfl, ov, HM1.out, (Below.refl _ w).grown HG.out HBw.out (fun k hk => by have := HD.out; simp at hk; omega)⟩
theorem stores_byte_f {w : World} {B p b d : Nat} {inp : ByteArray} {ov : Value} {s : St} (M : Mach w p b d inp ov s) (hB : B ≤ p) (hd : B ≤ d) (at_ v : Nat) (xs : List Nat) (hl : xs.length = s.ws.length) (hS : Calls Try.prog 45 #[.pointer (some ⟨b, 0, none⟩), .int .u32 at_, .int .u32 v] w (Stored w b d false xs)) (h0 : ((at_ : Int) == 4294967240) = false) (h1 : ((at_ : Int) == 4294967236) = false) (h2 : ((at_ : Int) == 4294967232) = false) :
    Calls Try.prog 31 #[.pointer (some ⟨p, 0, none⟩), .int .u32 at_, .int .u32 v, .bool true] w fun e w' => e = .returned (.tuple #[]) ∧ After w B p b d inp { s with ws := xs, e := 5 } w' := by
  have HM := Lib.hid M
  have z0 := M.c22
  have HS := Lib.hid hS
  have HL := Lib.hid hl
  have HBw := Lib.hid (show B ≤ w.heap.size by have := M.lt; omega)
  have HD := Lib.hid hd
  clear M hS hl hd
  go_enter Try.func31, Try.ntmps31
  go_wp2_with (go_at_call 45; (with_reducible refine HS.out.mono ?_); rintro e w1 ⟨rfl, hm, hg, hsz⟩; have HM1 := Lib.hid (HM.out.stored hm hg HL.out); have z1 := HM1.out.c26; have f1 := HM1.out.free 26; have HG := Lib.hid hg; clear hm hg hsz)
  go_end0
  exact ⟨rfl, ov, HM1.out.eset 5, ((Below.refl _ w).grown HG.out HBw.out (fun k hk => by have := HD.out; simp at hk; omega)).setCell (p := ⟨p, 26, none⟩) hB _⟩
theorem stores_calls {w : World} {B p b d : Nat} {inp : ByteArray} {ov : Value} {s : St} (M : Mach w p b d inp ov s) (hB : B ≤ p) (hd : B ≤ d) (at_ v : Nat) (ha : at_ < 4294967296) (hv : v < 4294967296) (small : Bool) :
    Calls Try.prog 31 #[.pointer (some ⟨p, 0, none⟩), .int .u32 at_, .int .u32 v, .bool small] w fun e w' => e = .returned (.tuple #[]) ∧ After w B p b d inp (s.store at_ v small) w' := by
  unfold St.store
  by_cases h0 : at_ = 4294967240
  · subst h0
    rw [if_pos rfl]
    by_cases hn : s.out.length = 4096
    · rw [if_pos hn]
      exact stores_full M hB v small hn
    · rw [if_neg hn]
      have := M.ok.out
      exact stores_out M hB v small (by omega)
  · rw [if_neg h0]
    by_cases h1 : at_ = 4294967236
    · subst h1
      rw [if_pos rfl]
      exact stores_trap M hB v small
    · rw [if_neg h1]
      by_cases h2 : at_ = 4294967232
      · subst h2
        rw [if_pos rfl]
        exact stores_halt M hB v small
      · rw [if_neg h2]
        have e0 : ((at_ : Int) == 4294967240) = false := by simp; omega
        have e1 : ((at_ : Int) == 4294967236) = false := by simp; omega
        have e2 : ((at_ : Int) == 4294967232) = false := by simp; omega
        cases small
        · rw [if_neg (by decide)]
          have h := mem_store M.mem at_ v ha hv
          cases hf : full s.ws at_
          · simp only [hf] at h
            exact stores_word_f M hB hd at_ v s.ws rfl h e0 e1 e2
          · simp only [hf] at h
            exact stores_word_t M hB hd at_ v _ (by simp) h e0 e1 e2
        · rw [if_pos rfl]
          have h := mem_putb M.mem at_ v ha
          cases hf : here s.ws at_
          · simp only [hf] at h
            exact stores_byte_f M hB hd at_ v s.ws rfl h e0 e1 e2
          · simp only [hf] at h
            exact stores_byte_t M hB hd at_ v _ (by simp) h e0 e1 e2
end Go.Proofs.Ytjlngglkljjgmaa
