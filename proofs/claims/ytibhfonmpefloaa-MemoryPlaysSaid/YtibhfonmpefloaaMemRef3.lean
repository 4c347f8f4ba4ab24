/- The reference's memory: New, Fork, Words; two slices of words held against each other. -/
import Derived.Test.YtibhfonmpefloaaMemRef2
namespace Go.Proofs.Ytibhfonmpefloaa
open Go.RowKit
/-- append of words that lie somewhere (or are none) onto a row of the call's own. -/
theorem wpList_append_src {P : Program} {w : World} {ops : Array Oper} {rest : List Oper} {o : Oper} {a : Act} {Q : Exit → Act → World → Prop} (hgd : o.guard = none) (s x : Operand) (t : TypeId)
    (ho : o.op = .call { callee := .builtin .append, args := #[s, x], argTypes := #[t, t] })
    (base : Nat) (e : TypeId) (i : TypeInfo) (z : Value) (size bytes : Nat) (ht : P.underlying t = some (.slice e)) (hi : P.info? e = some i) (hz : i.zero = some z)
    (hsize : i.size = size) (hby : i.bytes = bytes) (hzs : z.cells.size = size) (hsz : 0 < size)
    (v : Value) (n : Nat) (xs : List Value) (hs : a.eval s = v) (hown : w.ownsRow base e size v n xs)
    (A : Option Addr) (m c : Nat) (news : List Value) (hx : a.eval x = .slice A m c) (hl : news.length = m * size) (hnews : ∀ ad, A = some ad → ∀ j u, news[j]? = some u → w.cell? (ad.add j) = some u) (h1 : ∀ u ∈ news, u.oneCell' = true)
    (h0 : A = none → m = 0 ∧ c = 0) (h63 : n + m ≤ maxLen) (hbytes : (n + m) * bytes ≤ 140737488355328) (hbase : base ≤ w.heap.size)
    (h : ∀ v' w', Hid (w'.ownsRow base e size v' (n + m) (xs ++ news)) → Hid (w.grownBy w' v.ownBlock) → Hid (v' = .slice none 0 0 ↔ v = .slice none 0 0 ∧ m = 0) → wpList P ops Q rest (a.put o.dst v') w') : wpList P ops Q (o :: rest) a w := by
  rcases A with _ | ad
  · obtain ⟨rfl, rfl⟩ := h0 rfl
    have hn : news = [] := List.eq_nil_of_length_eq_zero (by simpa using hl)
    subst hn
    refine wpList_append_own_none hgd s x t ho base e i size ht hi v n xs hs hown hx ?_
    exact h v w (Lib.hid (by simpa using hown)) (Lib.hid (World.grownBy.refl w _)) (Lib.hid (by simp))
  · exact wpList_append_own w hgd s x t ho base e i z size bytes ht hi hz hsize hby hzs hsz v n xs hs hown ad m c news hx hl (hnews ad rfl) h1 h63 hbytes hbase (fun v' w' h2 h3 h4 => h v' w' (Lib.hid h2) (Lib.hid h3) (Lib.hid h4))
theorem W32_len (xs : List Nat) : (W32 xs).length = xs.length := by simp [W32]
theorem slr_cells {w : World} {A : Option Addr} {zs : List Nat} (h : SlR w A zs) : ∀ ad, A = some ad → ∀ j u, (W32 zs)[j]? = some u → w.cell? (ad.add j) = some u := by
  rintro ad rfl j u hu
  have hj : j < zs.length := by
    rcases Nat.lt_or_ge j zs.length with h' | h'
    · exact h'
    · rw [List.getElem?_eq_none (by rw [W32_len]; omega)] at hu; cases hu
  obtain ⟨b, off, hA, hc⟩ := h (by omega)
  cases hA
  exact W32_cells hc j u hu
theorem own_slr {w : World} {base n : Nat} {v : Value} {zs : List Nat} (h : w.ownsRow base 22 1 v n (W32 zs)) (hn : zs.length = n) : ∃ A c, v = .slice A n c ∧ SlR w A zs := by
  rcases h.2 with ⟨rfl, h0⟩ | ⟨g, cap, cur, rfl, hb, hg, hn', _, hc, ht⟩
  · subst h0
    have : zs = [] := List.eq_nil_of_length_eq_zero hn
    subst this
    exact ⟨none, 0, rfl, slr_nil _ _⟩
  · refine ⟨some ⟨g, 0, none⟩, cap, rfl, fun _ => ⟨g, 0, rfl, fun j hj => ?_⟩⟩
    have h1 : (W32 zs)[j]? = some (.int .u32 (zs[j] : Nat)) := by simp [W32, hj]
    rw [← ht, List.getElem?_take_of_lt (by omega)] at h1
    unfold World.cell?
    dsimp only
    rw [hg, Nat.zero_add]
    simpa using h1
/-- A struct of one slice, in a new block. -/
theorem mt_new {t : TypeId} {w : World} {base n : Nat} {g c : Nat} {xs : List Nat} (h : w.ownsRow base 22 1 (.slice (some ⟨g, 0, none⟩) n c) n (W32 xs)) (hn : xs.length = n) (hs : ∀ x ∈ xs, x < 4294967296) :
    MT t (w.alloc (.cells #[.slice (some ⟨g, 0, none⟩) n c] t)) w.heap.size g xs ∧ base ≤ g := by
  rcases h.2 with ⟨h', _⟩ | ⟨g', cap, cur, h', hb, hg, hn', _, hc, ht⟩
  · simp at h'
  · simp only [Value.slice.injEq, Option.some.injEq, Addr.mk.injEq, and_true, true_and] at h'
    obtain ⟨rfl, rfl⟩ := h'
    subst hn
    have hlt : g < w.heap.size := (Array.getElem?_eq_some_iff.1 hg).1
    have hc' : cur.toList.length = c := by simpa using hc
    refine ⟨⟨cur.toList, by omega, ?_, ?_, by omega, by simpa using ht, hs⟩, hb⟩
    · rw [hc']; exact heap_alloc_new w _
    · rw [Below.heap_alloc _ _ _ hlt]; simpa using hg
theorem row_lit {w : World} {base n k c m : Nat} {e : TypeId} {v : Value} {ad : Addr} {xs : List Value} (hown : w.ownsRow base e 1 v n xs) (hnil : v = .slice none 0 0 ↔ (.slice (some ad) k c : Value) = .slice none 0 0 ∧ m = 0) : ∃ g c', v = .slice (some ⟨g, 0, none⟩) n c' := by
  rcases hown.2 with ⟨h', _⟩ | ⟨g, cap, cur, h', _⟩
  · have h := (hnil.1 h').1
    simp at h
  · exact ⟨g, cap, h'⟩
theorem rnew_many (A : Option Addr) (m c : Nat) (w : World) (hm : (65536 : Int) < (m : Int)) (_hm2 : (m : Int) ≤ 70000) :
    Calls Try.prog 41 #[.slice A m c] w fun e w' => e = .returned (.tuple #[.pointer none, .int .i64 3]) ∧ w = w' := by
  go_enter Try.func41, Try.ntmps41
  go_wp2
  go_ret2
  exact ⟨rfl, rfl⟩
theorem rnew_some (A : Option Addr) (m c : Nat) (xs : List Nat) (w : World) (hm : (m : Int) ≤ 65536) (hl : xs.length = m) (hs : ∀ x ∈ xs, x < 4294967296) (hA : SlR w A xs) (h0 : A = none → m = 0 ∧ c = 0) :
    Calls Try.prog 41 #[.slice A m c] w fun e w' => ∃ b d, e = .returned (.tuple #[.pointer (some ⟨b, 0, none⟩), .int .i64 0]) ∧ MT 70 w' b d xs ∧ w.heap.size ≤ b ∧ w.heap.size ≤ d ∧ Below w.heap.size w w' := by
  obtain ⟨i0, hi, hz0, hz1, hz2⟩ := info_parts info22
  have HL := Lib.hid hl
  have HS := Lib.hid hs
  have HN := Lib.hid h0
  have HA := Lib.hid (slr_cells hA)
  have B2 := Lib.hid (show 0 + m ≤ maxLen by unfold maxLen; omega)
  have B3 := Lib.hid (show (0 + m) * 4 ≤ 140737488355328 by omega)
  clear hl hs h0 hA
  go_enter Try.func41, Try.ntmps41
  go_wp2_with (at_builtin; refine wpList_append_src rfl (.tmp 7) (.tmp 8) 38 rfl w.heap.size 22 i0 (.int .u32 0) 1 4 Try.underlying38 hi hz0 hz1 hz2 rfl (by decide) _ 0 [] rfl (World.ownsRow_lit w #[] 0 (Nat.le_refl _) (by decide) rfl) A m c (W32 xs) rfl (by rw [W32_len, HL.out]; simp) (fun ad ha j u hu => cell_kept ⟨rfl, rfl, rfl, Nat.le_refl _, fun _ _ _ => rfl⟩ (HA.out ad ha j u hu)) (one_W32 xs) HN.out B2.out B3.out (by simp) ?_; intro v' w1 hown hgrow hnil; obtain ⟨g, c', rfl⟩ := row_lit hown.out hnil.out; clear hnil)
  have hgrow : (w.alloc (.cells #[] 22)).grownBy w1 (some w.heap.size) := hgrow.out
  have hown := hown.out
  rw [Nat.zero_add, List.nil_append] at hown
  have hB : Below w.heap.size w w1 := ((Below.refl w.heap.size w).alloc (Nat.le_refl _) _).grown hgrow (by simp) (fun k hk => by simp at hk; omega)
  obtain ⟨hM, hb⟩ := mt_new (t := 70) hown HL.out HS.out
  go_ret2
  exact ⟨w1.heap.size, g, by simp, hM, hB.size, hb, hB.alloc hB.size _⟩
theorem r_new (A : Option Addr) (c : Nat) (xs : List Nat) (w : World) (hm2 : (xs.length : Int) ≤ 70000) (hs : ∀ x ∈ xs, x < 4294967296) (h : SlR w A xs) (h0 : A = none → xs.length = 0 ∧ c = 0) : Calls Try.prog 41 #[.slice A xs.length c] w (NewV 70 w xs) := by
  by_cases hm : xs.length ≤ 65536
  · refine (rnew_some A xs.length c xs w (by omega) rfl hs h h0).mono ?_
    rintro e w' ⟨b, d, rfl, hM, hb, hd, hB⟩
    refine ⟨some (b, d), by simp [errOf, hm, pv], ⟨?_, ?_⟩, (fun x hx => by cases hx; exact ⟨hb, hd⟩), hB⟩
    · simp [oldOf, hm]
    · simpa [oldOf, hm] using hM
  · refine (rnew_many A xs.length c w (by omega) hm2).mono ?_
    rintro e w' ⟨rfl, rfl⟩
    exact ⟨none, by simp [errOf, hm, pv], ⟨by simp [oldOf, hm], by simp [oldOf, hm]⟩, (fun _ h => by cases h), Below.refl _ _⟩
theorem rfork_nil (w : World) : Calls Try.prog 50 #[.pointer none] w fun e w' => e = .returned (.pointer none) ∧ w = w' := by
  go_enter Try.func50, Try.ntmps50
  go_wp2
  go_ret
  exact ⟨rfl, rfl⟩
theorem rfork_some (b d n cap : Nat) (xs : List Nat) (w : World) (hM : MT 70 w b d xs) (hl : xs.length = n) (hm : (n : Int) ≤ 65536) (hp : w.cell? ⟨b, 0, none⟩ = some (.slice (some ⟨d, 0, none⟩) n cap)) :
    Calls Try.prog 50 #[.pointer (some ⟨b, 0, none⟩)] w fun e w' => ∃ b' d', e = .returned (.pointer (some ⟨b', 0, none⟩)) ∧ MT 70 w' b' d' xs ∧ w.heap.size ≤ b' ∧ w.heap.size ≤ d' ∧ Below w.heap.size w w' := by
  obtain ⟨i0, hi, hz0, hz1, hz2⟩ := info_parts info22
  have HL := Lib.hid hl
  have HS := Lib.hid hM.small
  have HC := Lib.hid (fun j (h : j < xs.length) => hM.cell h)
  have HA := Lib.hid (W32_cells (b := d) (off := 0) (xs := xs) (w := w) (fun j hj => by rw [Nat.zero_add]; exact HC.out j hj))
  have B2 := Lib.hid (show 0 + n ≤ maxLen by unfold maxLen; omega)
  have B3 := Lib.hid (show (0 + n) * 4 ≤ 140737488355328 by omega)
  have hp2 := fun o => (World.cell?_alloc_lt w o ⟨b, 0, none⟩ hM.lt.1).trans hp
  clear hl hM HC
  go_enter Try.func50, Try.ntmps50
  go_wp2_with (at_builtin; refine wpList_append_own _ rfl _ _ 38 rfl w.heap.size 22 i0 (.int .u32 0) 1 4 Try.underlying38 hi hz0 hz1 hz2 rfl (by decide) _ 0 [] rfl (World.ownsRow_lit w #[] 0 (Nat.le_refl _) (by decide) rfl) ⟨d, 0, none⟩ n cap (W32 xs) rfl (by rw [W32_len, HL.out]; simp) (fun j u hu => cell_kept ⟨rfl, rfl, rfl, Nat.le_refl _, fun _ _ _ => rfl⟩ (HA.out j u hu)) (one_W32 xs) B2.out B3.out (by simp) ?_; intro v' w1 hown0 hgrow0 hnil; obtain ⟨g, c', rfl⟩ := row_lit hown0 hnil; have hown := Lib.hid hown0; have hgrow := Lib.hid hgrow0; clear hnil hown0 hgrow0)
  have hgrow : (w.alloc (.cells #[] 22)).grownBy w1 (some w.heap.size) := hgrow.out
  have hown := hown.out
  rw [Nat.zero_add, List.nil_append] at hown
  have hB : Below w.heap.size w w1 := ((Below.refl w.heap.size w).alloc (Nat.le_refl _) _).grown hgrow (by simp) (fun k hk => by simp at hk; omega)
  obtain ⟨hM, hb⟩ := mt_new (t := 70) hown HL.out HS.out
  go_ret
  exact ⟨w1.heap.size, g, by simp, hM, hB.size, hb, hB.alloc hB.size _⟩
theorem r_fork {w : World} {r : Option (Nat × Nat)} {xs : List Nat} (h : MV 70 w r xs) : Calls Try.prog 50 #[pv r] w fun e w' => ∃ r', e = .returned (pv r') ∧ MV 70 w' r' xs ∧ Above w.heap.size r' ∧ Below w.heap.size w w' := by
  rcases r with _ | x
  · have : xs = [] := h.2
    subst this
    refine (rfork_nil w).mono ?_
    rintro e w' ⟨rfl, rfl⟩
    exact ⟨none, rfl, ⟨by simp, rfl⟩, (fun _ h => by cases h), Below.refl _ _⟩
  · have hm : MT 70 w x.1 x.2 xs := h.2
    obtain ⟨cap, hp⟩ := hm.ptr
    refine (rfork_some x.1 x.2 xs.length cap xs w hm rfl (by have := h.1; omega) hp).mono ?_
    rintro e w' ⟨b', d', rfl, hM, hb, hd, hB⟩
    exact ⟨some (b', d'), rfl, ⟨h.1, hM⟩, (fun x hx => by cases hx; exact ⟨hb, hd⟩), hB⟩
def RWordsBad (N : Nat) (a n : Int) : Prop := ¬ (0 ≤ a ∧ 0 ≤ n ∧ a ≤ N ∧ n ≤ N - a)
theorem rwords_bad (p : Value) (N : Nat) (a n : Int) (w : World) (hp : RSizeAt w p N) (hN : (N : Int) ≤ 65536) (h : RWordsBad N a n) :
    Calls Try.prog 49 #[p, .int .i64 a, .int .i64 n] w fun e w' => e = .returned (.tuple #[.slice none 0 0, .bool false]) ∧ w = w' := by
  have S := Lib.hid hp
  unfold RWordsBad at h
  clear hp
  by_cases c1 : a < 0
  · have b1 : decide (a < 0) = true := decide_eq_true c1
    clear h
    go_enter Try.func49, Try.ntmps49
    go_wp2_with (go_at_call 43; refine (S.out _ rfl).mono ?_; rintro e w' ⟨rfl, rfl⟩)
    go_ret2
    exact ⟨rfl, rfl⟩
  · have b1 : decide (a < 0) = false := decide_eq_false c1
    by_cases c2 : n < 0
    · have b2 : decide (n < 0) = true := decide_eq_true c2
      clear h
      go_enter Try.func49, Try.ntmps49
      go_wp2_with (go_at_call 43; refine (S.out _ rfl).mono ?_; rintro e w' ⟨rfl, rfl⟩)
      go_ret2
      exact ⟨rfl, rfl⟩
    · have b2 : decide (n < 0) = false := decide_eq_false c2
      by_cases c3 : (N : Int) < a
      · have b3 : decide ((N : Int) < a) = true := decide_eq_true c3
        clear h
        go_enter Try.func49, Try.ntmps49
        go_wp2_with (go_at_call 43; refine (S.out _ rfl).mono ?_; rintro e w' ⟨rfl, rfl⟩)
        go_ret2
        exact ⟨rfl, rfl⟩
      · have b3 : decide ((N : Int) < a) = false := decide_eq_false c3
        have b4 : decide ((N : Int) - a < n) = true := decide_eq_true (by omega)
        have c1' : 0 ≤ a := by omega
        have c3' : a ≤ (N : Int) := by omega
        clear h
        go_enter Try.func49, Try.ntmps49
        go_wp2_with (go_at_call 43; refine (S.out _ rfl).mono ?_; rintro e w' ⟨rfl, rfl⟩)
        go_ret2
        exact ⟨rfl, rfl⟩
theorem W32_snoc (xs : List Nat) (k : Nat) (h : k < xs.length) : W32 (xs.take (k + 1)) = W32 (xs.take k) ++ [.int .u32 (xs[k] : Nat)] := by
  unfold W32
  rw [List.take_succ_eq_append_getElem h, List.map_append]
  rfl
set_option maxHeartbeats 1000000 in
theorem rwords_some (p : Value) (N a n : Nat) (xs zs : List Nat) (w : World) (hp : RSizeAt w p N) (hN : (N : Int) ≤ 65536) (hl : xs.length = N) (ha : (a : Int) ≤ (N : Int)) (hn : (n : Int) ≤ (N : Int) - (a : Int)) (hz : zs = (xs.drop a).take n)
    (hM : 0 < n → ∃ b d cap, p = .pointer (some ⟨b, 0, none⟩) ∧ b < w.heap.size ∧ d < w.heap.size ∧ w.cell? ⟨b, 0, none⟩ = some (.slice (some ⟨d, 0, none⟩) N cap) ∧ ∀ j (h : j < xs.length), w.cell? ⟨d, j, none⟩ = some (.int .u32 (xs[j] : Nat))) :
    Calls Try.prog 49 #[p, .int .i64 a, .int .i64 n] w (WordsV w zs true) := by
  obtain ⟨i0, hi, hz0, hz1, hz2⟩ := info_parts info22
  have S := Lib.hid hp
  have b1 : decide ((a : Int) < 0) = false := decide_eq_false (by omega)
  have b2 : decide ((n : Int) < 0) = false := decide_eq_false (by omega)
  have b3 : decide ((N : Int) < (a : Int)) = false := decide_eq_false (by omega)
  have b4 : decide ((N : Int) - (a : Int) < (n : Int)) = false := decide_eq_false (by omega)
  have b5 : decide (N < a) = false := decide_eq_false (by omega)
  have HZ := Lib.hid hz
  have HL := Lib.hid hl
  have HZL := Lib.hid (show zs.length = n by rw [hz]; simp; omega)
  have HM := Lib.hid hM
  have HAN := Lib.hid (show a + n ≤ N by omega)
  clear hp hz hl hM
  go_enter Try.func49, Try.ntmps49
  go_wp2_with (go_at_call 43; refine (S.out _ rfl).mono ?_; rintro e w' ⟨rfl, rfl⟩)
  go_loopw [8, 9] (fun v i wr => ∃ k : Nat, k ≤ n ∧ i = .int .i64 k ∧ wr.ownsRow w.heap.size 22 1 v k (W32 (zs.take k)) ∧ Below w.heap.size w wr) (fun _ i _ => n - (intOf i).toNat)
  case atStart => exact ⟨0, Nat.zero_le _, rfl, ⟨by simp [W32], .inl ⟨rfl, rfl⟩⟩, Below.refl _ _⟩
  case round =>
    obtain ⟨k, hk, rfl, hown, hB⟩ := hrel
    have HO := Lib.hid hown
    have HB := Lib.hid hB
    clear hown hB
    by_cases hlt : k < n
    · obtain ⟨b, d, cap, rfl, hb, hd, hpc, hc⟩ := HM.out (by omega)
      have hak : a + k < xs.length := by have := HL.out; have := HAN.out; omega
      have hp1 : wr.cell? ⟨b, 0, none⟩ = some (.slice (some ⟨d, 0, none⟩) N cap) := by rw [HB.out.cell (p := ⟨b, 0, none⟩) hb]; exact hpc
      have hx1 : wr.cell? ⟨d, a + k, none⟩ = some (.int .u32 (xs[a + k] : Nat)) := by rw [HB.out.cell (p := ⟨d, a + k, none⟩) hd]; exact hc _ hak
      have hi1 : (a : Int) + (k : Int) < (N : Int) := by have := HL.out; omega
      have hkz : k < zs.length := by have := HZL.out; omega
      have HE := Lib.hid (show xs[a + k] = zs[k] by simp [HZ.out])
      have C3 := Lib.hid (show k + 1 ≤ maxLen by unfold maxLen; omega)
      have C4 := Lib.hid (show (k + 1) * 4 ≤ 140737488355328 by omega)
      have C5 := Lib.hid (show w.heap.size ≤ (wr.alloc (.cells #[.int .u32 (xs[a + k] : Nat)] 22)).heap.size by have := HB.out.size; simp; omega)
      obtain ⟨x, hxe⟩ : ∃ x : Nat, x = xs[a + k] := ⟨_, rfl⟩
      rw [← hxe] at hx1 HE C5
      clear hpc hc hxe
      go_wp2_with (at_builtin; refine wpList_append_own _ rfl _ _ 38 rfl w.heap.size 22 i0 (.int .u32 0) 1 4 Try.underlying38 hi hz0 hz1 hz2 rfl (by decide) _ k (W32 (zs.take k)) rfl (HO.out.alloc _) ⟨wr.heap.size, 0, none⟩ 1 1 [.int .u32 (x : Nat)] rfl rfl (lit_cells wr [.int .u32 (x : Nat)] 22) (one_W32 [x]) C3.out C4.out C5.out ?_; intro v' w1 hown1 hgrow1 _)
      go_wp2
      go_roundw
      case rel =>
        refine ⟨k + 1, by omega, by go_num, ?_, ?_⟩
        · rw [W32_snoc zs k hkz, ← HE.out]; exact hown1
        · exact (HB.out.alloc HB.out.size _).grown hgrow1 (by have := HB.out.size; simp; omega) (fun g hg => (HO.out.lt g hg).1)
      case measure => simp [intOf]; omega
    · go_wp2
      go_ret2
      obtain rfl : k = n := by omega
      have hown := HO.out
      rw [List.take_of_length_le (by rw [HZL.out]; exact Nat.le_refl _)] at hown
      obtain ⟨A, c, rfl, hS⟩ := own_slr hown HZL.out
      exact ⟨A, c, by rw [HZL.out]; rfl, hS, HB.out⟩
theorem r_words {w : World} {r : Option (Nat × Nat)} {xs : List Nat} (h : MV 70 w r xs) (a n : Int) : Calls Try.prog 49 #[pv r, .int .i64 a, .int .i64 n] w (WordsV w (wL xs a n) (wOk xs a n)) := by
  have hS : RSizeAt w (pv r) xs.length := fun w1 hw => by subst hw; exact r_size h
  by_cases hg : 0 ≤ a ∧ 0 ≤ n ∧ a ≤ xs.length ∧ n ≤ xs.length - a
  · have e1 : wOk xs a n = true := decide_eq_true hg
    obtain ⟨ha, hn, h1, h2⟩ := hg
    obtain ⟨a', rfl⟩ := Int.eq_ofNat_of_zero_le ha
    obtain ⟨n', rfl⟩ := Int.eq_ofNat_of_zero_le hn
    have e2 : wL xs a' n' = (xs.drop a').take n' := by simp [wL, e1]
    rw [e1, e2]
    refine rwords_some (pv r) xs.length a' n' xs _ w hS (by have := h.1; omega) rfl h1 h2 rfl (fun h0 => ?_)
    rcases r with _ | x
    · have hx : xs = [] := h.2
      subst hx
      simp at h2
      omega
    · have hm : MT 70 w x.1 x.2 xs := h.2
      obtain ⟨cap, hp⟩ := hm.ptr
      exact ⟨x.1, x.2, cap, rfl, hm.lt.1, hm.lt.2, hp, fun j hj => hm.cell hj⟩
  · have e1 : wOk xs a n = false := decide_eq_false hg
    have e2 : wL xs a n = [] := by simp [wL, e1]
    rw [e1, e2]
    refine (rwords_bad (pv r) xs.length a n w hS (by have := h.1; omega) hg).mono ?_
    rintro e w' ⟨rfl, rfl⟩
    exact ⟨none, 0, rfl, slr_nil _ _, Below.refl _ _⟩
theorem keep_words (A B : Option Addr) (n c d : Nat) (zs : List Nat) (w : World) (hl : zs.length = n) (hm : (n : Int) ≤ 70000) (hA : SlR w A zs) (hB : SlR w B zs) :
    Calls Try.prog 44 #[.slice A n c, .slice B n d] w fun e w' => e = .returned (.bool true) ∧ ∃ k, w' = w.drewN k := by
  have HL := Lib.hid hl
  have HA := Lib.hid hA
  have HB := Lib.hid hB
  clear hl hA hB
  go_enter Try.func44, Try.ntmps44
  go_wp2
  go_loopw [5] (fun i wr => ∃ k q : Nat, k ≤ n ∧ i = .int .i64 k ∧ wr = w.drewN q) (fun i _ => n - (intOf i).toNat)
  case atStart => exact ⟨0, 0, Nat.zero_le _, rfl, rfl⟩
  case round =>
    obtain ⟨k, q, hk, rfl, rfl⟩ := hrel
    by_cases hlt : k < n
    · obtain ⟨b, o, rfl, ha⟩ := HA.out (by have := HL.out; omega)
      obtain ⟨b', o', rfl, hb⟩ := HB.out (by have := HL.out; omega)
      have hx := ha k (by have := HL.out; omega)
      have hy := hb k (by have := HL.out; omega)
      obtain ⟨x, hxe⟩ : ∃ x : Nat, x = zs[k]'(by have := HL.out; omega) := ⟨_, rfl⟩
      rw [← hxe] at hx hy
      clear ha hb hxe
      have i0 : (0 : Int) ≤ (k : Int) := by omega
      have i1 : (k : Int) < (n : Int) := by omega
      go_wp2
      go_quiet (fail)
      go_wp2
      go_roundw
      case rel => exact ⟨k + 1, _, by omega, by go_num, rfl⟩
      case measure => simp [intOf]; omega
    · go_wp2
      go_ret
      exact ⟨rfl, q, rfl⟩
end Go.Proofs.Ytibhfonmpefloaa
