/- A machine in memory, and what each of its calls leaves. -/
import Derived.Test.YtjlngglkljjgmaaAlu
import Derived.Test.YtjlngglkljjgmaaMemLaw
import Derived.OwnWalk
import Derived.Maps.AppendAt
import Derived.Deep.AppendLies
namespace Go.Proofs.Ytjlngglkljjgmaa
open Go.RowKit
/-- What a machine holds. -/
structure St where
  r : List Nat
  h : Nat
  f : Fl
  pc : Nat
  ws : List Nat
  rd : Nat
  out : List Nat
  e : Int
  t : Int
  /-- blocks besides, that hold an outcome each: a frame, no part of the machine -/
  g : Nat → Option (List Value)
def u8s (xs : List Nat) : List Value := xs.map fun (x : Nat) => Value.int .u8 (x : Int)
def St.tail (s : St) (b : Nat) (inp : ByteArray) (ov : Value) : List Value := [.int .u32 s.h, .bool s.f.n, .bool s.f.z, .bool s.f.c, .bool s.f.v, .int .i64 s.pc, .pointer (some ⟨b, 0, none⟩), .string inp, .int .i64 s.rd, ov, .int .i64 s.e, .int .i64 s.t]
def St.cells (s : St) (b : Nat) (inp : ByteArray) (ov : Value) : List Value := W32 s.r ++ s.tail b inp ov
structure St.Ok (s : St) (inp : ByteArray) : Prop where
  len : s.r.length = 16
  small : ∀ x ∈ s.r, x < 4294967296
  h : s.h < 4294967296
  pc : s.pc < 1073741824
  rd : s.rd ≤ inp.size
  out : s.out.length ≤ 4096
  ws : s.ws.length ≤ 65536
structure Mach (w : World) (p b d : Nat) (inp : ByteArray) (ov : Value) (s : St) : Prop where
  ok : s.Ok inp
  row : w.heap[p]? = some (.cells (s.cells b inp ov).toArray 51 (0, 0))
  mem : Mem w b d s.ws
  out : w.ownsRow (p + 1) 5 1 ov s.out.length (u8s s.out)
  bp : b < p
  dp : d < p
  keep : ∀ k cs, s.g k = some cs → w.heap[k]? = some (.cells cs.toArray 29 (0, 0))
section
variable {w w' : World} {p b d : Nat} {inp : ByteArray} {ov : Value} {s s' : St}
theorem St.cells_tail (h : s.r.length = 16) (j : Nat) : (s.cells b inp ov)[16 + j]? = (s.tail b inp ov)[j]? := by
  unfold St.cells
  rw [List.getElem?_append_right (by simp [W32, h])]
  simp [W32, h]
theorem St.cells_reg (h : s.r.length = 16) (c : Nat) (hc : c < 16) : (s.cells b inp ov)[c]? = some (.int .u32 (s.r.getD c 0 : Nat)) := by
  unfold St.cells
  rw [List.getElem?_append_left (by simp [W32, h, hc])]
  simp [W32, h, hc]
theorem Mach.lt (M : Mach w p b d inp ov s) : p < w.heap.size := (Array.getElem?_eq_some_iff.1 M.row).1
theorem Mach.at_ (M : Mach w p b d inp ov s) (k : Nat) (v : Value) (h : (s.cells b inp ov)[k]? = some v) : w.cell? ⟨p, k, none⟩ = some v := by
  simp [World.cell?, M.row, h]
theorem Mach.free (M : Mach w p b d inp ov s) (k : Nat) : w.frozen? ⟨p, k, none⟩ = false := by simp [World.frozen?, M.row]
theorem Mach.reg (M : Mach w p b d inp ov s) (c : Nat) (hc : c < 16) : w.cell? ⟨p, c, none⟩ = some (.int .u32 (s.r.getD c 0 : Nat)) := M.at_ c _ (St.cells_reg M.ok.len c hc)
theorem Mach.c16 (M : Mach w p b d inp ov s) : w.cell? ⟨p, 16, none⟩ = some (.int .u32 s.h) := M.at_ 16 _ (St.cells_tail M.ok.len 0)
theorem Mach.c17 (M : Mach w p b d inp ov s) : w.cell? ⟨p, 17, none⟩ = some (.bool s.f.n) := M.at_ 17 _ (St.cells_tail M.ok.len 1)
theorem Mach.c18 (M : Mach w p b d inp ov s) : w.cell? ⟨p, 18, none⟩ = some (.bool s.f.z) := M.at_ 18 _ (St.cells_tail M.ok.len 2)
theorem Mach.c19 (M : Mach w p b d inp ov s) : w.cell? ⟨p, 19, none⟩ = some (.bool s.f.c) := M.at_ 19 _ (St.cells_tail M.ok.len 3)
theorem Mach.c20 (M : Mach w p b d inp ov s) : w.cell? ⟨p, 20, none⟩ = some (.bool s.f.v) := M.at_ 20 _ (St.cells_tail M.ok.len 4)
theorem Mach.c21 (M : Mach w p b d inp ov s) : w.cell? ⟨p, 21, none⟩ = some (.int .i64 s.pc) := M.at_ 21 _ (St.cells_tail M.ok.len 5)
theorem Mach.c22 (M : Mach w p b d inp ov s) : w.cell? ⟨p, 22, none⟩ = some (.pointer (some ⟨b, 0, none⟩)) := M.at_ 22 _ (St.cells_tail M.ok.len 6)
theorem Mach.c23 (M : Mach w p b d inp ov s) : w.cell? ⟨p, 23, none⟩ = some (.string inp) := M.at_ 23 _ (St.cells_tail M.ok.len 7)
theorem Mach.c24 (M : Mach w p b d inp ov s) : w.cell? ⟨p, 24, none⟩ = some (.int .i64 s.rd) := M.at_ 24 _ (St.cells_tail M.ok.len 8)
theorem Mach.c25 (M : Mach w p b d inp ov s) : w.cell? ⟨p, 25, none⟩ = some ov := M.at_ 25 _ (St.cells_tail M.ok.len 9)
theorem Mach.c26 (M : Mach w p b d inp ov s) : w.cell? ⟨p, 26, none⟩ = some (.int .i64 s.e) := M.at_ 26 _ (St.cells_tail M.ok.len 10)
theorem Mach.c27 (M : Mach w p b d inp ov s) : w.cell? ⟨p, 27, none⟩ = some (.int .i64 s.t) := M.at_ 27 _ (St.cells_tail M.ok.len 11)
theorem row_set {cs : List Value} {t : TypeId} (h : w.heap[p]? = some (.cells cs.toArray t (0, 0))) (k : Nat) (v : Value) : (w.setCell ⟨p, k, none⟩ v).heap[p]? = some (.cells (cs.set k v).toArray t (0, 0)) := by
  simp only [World.setCell, Array.getElem?_modify, if_pos]
  rw [h]
  simp
theorem set_reg (h : s.r.length = 16) (a v : Nat) (ha : a < 16) : (s.cells b inp ov).set a (.int .u32 (v : Nat)) = ({ s with r := s.r.set a v } : St).cells b inp ov := by
  unfold St.cells
  rw [List.set_append_left _ _ (by simp [W32, h, ha])]
  simp [W32, List.map_set, St.tail]
theorem set_tail (h : s.r.length = 16) (j : Nat) (v : Value) : (s.cells b inp ov).set (16 + j) v = W32 s.r ++ (s.tail b inp ov).set j v := by
  unfold St.cells
  rw [List.set_append_right _ _ (by simp [W32, h])]
  simp [W32, h]
/-- Behind a write into its own block. -/
theorem Mach.wrote (M : Mach w p b d inp ov s) (hg : w.grownBy w' (some p)) (ok : s'.Ok inp) (row : w'.heap[p]? = some (.cells (s'.cells b inp ov).toArray 51 (0, 0))) (hw : s'.ws = s.ws) (ho : s'.out = s.out) (hgh : s'.g = s.g := by rfl) : Mach w' p b d inp ov s' := by
  refine ⟨ok, row, ?_, ?_, M.bp, M.dp, ?_⟩
  · rw [hw]
    have h1 := M.mem.lt
    have h2 := M.bp
    have h3 := M.dp
    exact M.mem.kept (hg.block b h1.1 (by simp; omega)) (hg.block d h1.2 (by simp; omega))
  · rw [ho]
    refine M.out.kept hg ?_
    rcases h : ov.ownBlock with _ | k
    · exact .inl rfl
    · have := (M.out.lt k h).1
      exact .inr (by simp; omega)
  · intro k cs hk
    rw [hgh] at hk
    have h := M.keep k cs hk
    rw [hg.block k (Array.getElem?_eq_some_iff.1 h).1 (by
      intro e
      rw [Option.some.injEq] at e
      rw [e, M.row] at h
      simp at h)]
    exact h
theorem Mach.drewN (M : Mach w p b d inp ov s) (n : Nat) : Mach (w.drewN n) p b d inp ov s := ⟨M.ok, M.row, M.mem.drewN n, M.out, M.bp, M.dp, M.keep⟩
theorem Mach.grown (M : Mach w p b d inp ov s) (hB : Below w.heap.size w w') : Mach w' p b d inp ov s := by
  have h := M.lt
  refine ⟨M.ok, by rw [hB.block p h]; exact M.row, M.mem.below_all hB, ?_, M.bp, M.dp, fun k cs hk => ?_⟩
  · refine M.out.kept (row := none) ⟨hB.os, hB.tape, hB.output, hB.size, fun k hk _ => hB.block k hk⟩ ?_
    rcases h : ov.ownBlock with _ | k
    · exact .inl rfl
    · exact .inr (by simp)
  · have h := M.keep k cs hk
    rw [hB.block k (Array.getElem?_eq_some_iff.1 h).1]
    exact h
/-- Another frame. -/
theorem Mach.frame (M : Mach w p b d inp ov s) (g : Nat → Option (List Value)) (hk : ∀ k cs, g k = some cs → w.heap[k]? = some (.cells cs.toArray 29 (0, 0))) : Mach w p b d inp ov { s with g := g } := ⟨⟨M.ok.len, M.ok.small, M.ok.h, M.ok.pc, M.ok.rd, M.ok.out, M.ok.ws⟩, M.row, M.mem, M.out, M.bp, M.dp, hk⟩
end
def St.sets (s : St) (a r : Nat) : St := { s with r := s.r.set a r, f := { s.f with n := (r : Int) / 2147483648 == 1, z := (r : Int) == 0 } }
theorem set_two {L T : List Value} (h : L.length = 16) (i j : Nat) (u v : Value) : ((L ++ T).set (16 + i) u).set (16 + j) v = L ++ (T.set i u).set j v := by
  rw [List.set_append_right _ _ (by omega), List.set_append_right _ _ (by omega), h, Nat.add_sub_cancel_left, Nat.add_sub_cancel_left]
theorem St.Ok.sets {s : St} {inp : ByteArray} (h : s.Ok inp) (a r : Nat) (hr : r < 4294967296) : (s.sets a r).Ok inp := by
  refine ⟨by simp [St.sets, h.len], ?_, h.h, h.pc, h.rd, h.out, h.ws⟩
  intro x hx
  rcases List.mem_or_eq_of_mem_set hx with hx | rfl
  · exact h.small x hx
  · exact hr
theorem sets_calls {w : World} {p b d : Nat} {inp : ByteArray} {ov : Value} {s : St} (M : Mach w p b d inp ov s) (a r : Nat) (ha : a < 16) (hr : r < 4294967296) :
    Calls Try.prog 33 #[.pointer (some ⟨p, 0, none⟩), .int .i64 a, .int .u32 r] w fun e w' => e = .returned (.tuple #[]) ∧ Mach w' p b d inp ov (s.sets a r) ∧ w.grownBy w' (some p) ∧ w'.heap.size = w.heap.size := by
  have HM := Lib.hid M
  have z0 := M.reg a ha
  have z1 := M.c17
  have z2 := M.c18
  have f0 := M.free a
  have f1 := M.free 17
  have f2 := M.free 18
  have a0 : (0 : Int) ≤ (a : Int) := by omega
  have a1 : (a : Int) < 16 := by omega
  clear M
  go_enter Try.func33, Try.ntmps33
  go_wp2
  go_end0
  have hg := ((grown_set w p a (.int .u32 (r : Nat))).trans (grown_set _ p 17 (.bool ((r : Int) / 2147483648 == 1)))).trans (grown_set _ p 18 (.bool ((r : Int) == 0)))
  refine ⟨rfl, HM.out.wrote hg (HM.out.ok.sets a r hr) ?_ rfl rfl, hg, by simp⟩
  have hr2 := row_set (row_set (row_set HM.out.row a (.int .u32 (r : Nat))) 17 (.bool ((r : Int) / 2147483648 == 1))) 18 (.bool ((r : Int) == 0))
  rw [set_reg HM.out.ok.len a r ha] at hr2
  have e := set_two (T := (({ s with r := s.r.set a r } : St).tail b inp ov)) (L := W32 (s.r.set a r)) (by simp [W32, HM.out.ok.len]) 1 2 (.bool ((r : Int) / 2147483648 == 1)) (.bool ((r : Int) == 0))
  exact hr2.trans (congrArg (fun c : List Value => some (Obj.cells c.toArray 51 (0, 0))) e)
end Go.Proofs.Ytjlngglkljjgmaa
