/- step: whatever the word, the machine goes on. -/
import Derived.Test.YtjlngglkljjgmaaStep
import Derived.Test.YtjlngglkljjgmaaReckReg
import Derived.Test.YtjlngglkljjgmaaReckIm
import Derived.Test.YtjlngglkljjgmaaReckIm0
import Derived.Test.YtjlngglkljjgmaaReckMovs
import Derived.Test.YtjlngglkljjgmaaDoAll
namespace Go.Proofs.Ytjlngglkljjgmaa
open Go.RowKit
/-- A call of a machine's method brings it from one state to another. -/
def Does (fn : FuncId) (p b d B : Nat) (inp : ByteArray) (s : St) (arg : Value) (s' : St) : Prop :=
  ∀ (wx : World) (ov : Value), Mach wx p b d inp ov s → Calls Try.prog fn #[.pointer (some ⟨p, 0, none⟩), arg] wx fun e w' => e = .returned (.tuple #[]) ∧ After wx B p b d inp s' w'
theorem St.Ok.reg {s : St} {inp : ByteArray} (h : s.Ok inp) (c : Nat) (hc : c < 16) : s.r.getD c 0 < 4294967296 := by
  have h1 : c < s.r.length := by rw [h.len]; exact hc
  simp only [List.getD_eq_getElem?_getD, List.getElem?_eq_getElem h1, Option.getD_some]
  exact h.small _ (List.getElem_mem h1)
theorem u32_nat (z : Int) : ∃ n : Nat, IntKind.u32.wrap z = (n : Int) ∧ n < 4294967296 := by
  rw [IntKind.wrap_u32]
  refine ⟨(z % 4294967296).toNat, by omega, by omega⟩
theorem u16_nat (z : Int) : ∃ n : Nat, IntKind.u32.wrap (IntKind.u16.wrap z) = (n : Int) ∧ n < 4294967296 := u32_nat _
theorem St.store_e (s : St) (at_ v : Nat) (small : Bool) (he : s.e = 0) : (s.store at_ v small).e ≠ 3 ∧ (s.store at_ v small).e ≠ 4 := by
  unfold St.store
  split
  · split <;> simp [he]
  · split
    · simp
    · split
      · simp
      · split
        · dsimp only; split <;> simp [he]
        · dsimp only; split <;> simp [he]
theorem St.store_g (s : St) (at_ v : Nat) (small : Bool) : (s.store at_ v small).g = s.g := by
  unfold St.store
  split
  · split <;> rfl
  · split
    · rfl
    · split
      · rfl
      · split <;> rfl
theorem moves_any {s : St} {p b d B : Nat} {inp : ByteArray} (hin : inp.size ≤ 4096) (hB : B ≤ p) (hd : B ≤ d) (he : s.e = 0) (u v : Bool) (a x : Nat) (im : Int) (ha : a < 16) (hx : x < 16) :
    ∃ s' : St, s'.e ≠ 3 ∧ s'.e ≠ 4 ∧ Does 20 p b d B inp s (insV 2 u v a x 0 0 im) s' ∧ s'.g = s.g := by
  obtain ⟨at_, hat, hat2⟩ := u32_nat ((s.r.getD x 0 : Nat) + IntKind.u32.wrap im)
  cases u
  · by_cases h0 : at_ = 4294967240
    · subst h0
      by_cases hk : s.rd < inp.size
      · have hb : (inp[s.rd]'hk).toNat < 256 := UInt8.toNat_lt _
        refine ⟨_, ?_, ?_, fun wx ov M => moves_data_t M hB v a x 0 0 s.rd (inp[s.rd]'hk).toNat im ha hx hat rfl hk rfl (by omega) hb (by omega), by rfl⟩
        · show s.e ≠ 3; rw [he]; decide
        · show s.e ≠ 4; rw [he]; decide
      · refine ⟨_, ?_, ?_, fun wx ov M => moves_data_f M hB v a x 0 0 s.rd im ha hx hat rfl (by simpa using hk), by rfl⟩
        · show s.e ≠ 3; rw [he]; decide
        · show s.e ≠ 4; rw [he]; decide
    · by_cases h1 : at_ = 4294967244
      · subst h1
        by_cases hk : s.rd < inp.size
        · refine ⟨_, ?_, ?_, fun wx ov M => moves_state_t M hB v a x 0 0 s.rd im ha hx hat rfl (by simpa using hk), by rfl⟩
          · show s.e ≠ 3; rw [he]; decide
          · show s.e ≠ 4; rw [he]; decide
        · refine ⟨_, ?_, ?_, fun wx ov M => moves_state_f M hB v a x 0 0 s.rd im ha hx hat rfl (by simpa using hk), by rfl⟩
          · show s.e ≠ 3; rw [he]; decide
          · show s.e ≠ 4; rw [he]; decide
      · have e0 : ((at_ : Int) == 4294967240) = false := by simp; omega
        have e1 : ((at_ : Int) == 4294967244) = false := by simp; omega
        cases v
        · by_cases hf : full s.ws at_ = true
          · refine ⟨_, ?_, ?_, fun wx ov M => moves_word_t M hB a x 0 0 at_ (wordOf s.ws at_) im ha ?_ hx hat e0 e1 (fun wy hm => ?_), by rfl⟩
            · show s.e ≠ 3; rw [he]; decide
            · show s.e ≠ 4; rw [he]; decide
            · have hl : at_ / 4 < s.ws.length := by simp [full] at hf; exact hf.1
              unfold wordOf
              rw [List.getD_eq_getElem?_getD, List.getElem?_eq_getElem hl, Option.getD_some]
              exact M.mem.small _ (List.getElem_mem hl)
            · have h := mem_load hm at_ hat2
              rw [hf] at h
              exact h
          · have hf : full s.ws at_ = false := by simpa using hf
            refine ⟨{ s with e := 5 }, by simp, by simp, fun wx ov M => moves_word_f M hB a x 0 0 at_ im hx hat e0 e1 (fun wy hm => ?_), by rfl⟩
            have h := mem_load hm at_ hat2
            rw [hf] at h
            exact h
        · by_cases hf : here s.ws at_ = true
          · refine ⟨_, ?_, ?_, fun wx ov M => moves_byte_t M hB a x 0 0 at_ (wordOf s.ws at_ / 2 ^ (8 * (at_ % 4)) % 256) im ha ?_ hx hat e0 e1 (fun wy hm => ?_), by rfl⟩
            · show s.e ≠ 3; rw [he]; decide
            · show s.e ≠ 4; rw [he]; decide
            · generalize wordOf s.ws at_ / 2 ^ (8 * (at_ % 4)) = q
              omega
            · have h := mem_byte hm at_ hat2
              rw [hf] at h
              exact h
          · have hf : here s.ws at_ = false := by simpa using hf
            refine ⟨{ s with e := 5 }, by simp, by simp, fun wx ov M => moves_byte_f M hB a x 0 0 at_ im hx hat e0 e1 (fun wy hm => ?_), by rfl⟩
            have h := mem_byte hm at_ hat2
            rw [hf] at h
            exact h
  · have h := s.store_e at_ (s.r.getD a 0) v he
    exact ⟨_, h.1, h.2, fun wx ov M => moves_store M hB hd v a x 0 0 at_ im ha hx hat hat2, s.store_g _ _ _⟩
theorem and_pc (z : Int) : ∃ q : Nat, Go.bits .and .i64 (wrap64 z) 1073741823 = (q : Int) ∧ q < 1073741824 := by
  have e : Go.bits .and .i64 (wrap64 z) 1073741823 = IntKind.i64.wrap (((BitVec.ofInt 64 (wrap64 z) &&& BitVec.ofInt 64 1073741823).toNat : Nat) : Int) := rfl
  have hq : (BitVec.ofInt 64 (wrap64 z) &&& BitVec.ofInt 64 1073741823).toNat ≤ 1073741823 := by
    rw [BitVec.toNat_and]
    exact Nat.and_le_right
  generalize (BitVec.ofInt 64 (wrap64 z) &&& BitVec.ofInt 64 1073741823).toNat = q at e hq
  refine ⟨q, ?_, by omega⟩
  rw [e]
  simp [IntKind.wrap, IntKind.bits, IntKind.signed]
  omega
theorem jumps_any {s : St} {p b d B : Nat} {inp : ByteArray} (hB : B ≤ p) (he : s.e = 0) (u v : Bool) (a c : Nat) (im : Int) (ha : a < 16) (hc : c < 16) :
    ∃ s' : St, s'.e ≠ 3 ∧ s'.e ≠ 4 ∧ Does 21 p b d B inp s (insV 3 u v a 0 c 0 im) s' ∧ s'.g = s.g := by
  have hj (u v : Bool) (a c q : Nat) : (s.jump u v a c q).e = 0 := by unfold St.jump; split <;> exact he
  have hg (u v : Bool) (a c q : Nat) : (s.jump u v a c q).g = s.g := by unfold St.jump; split <;> rfl
  cases u
  · exact ⟨_, by rw [hj]; decide, by rw [hj]; decide, fun wx ov M => jumps_r M hB v a 0 c 0 0 im ha hc, hg _ _ _ _ _⟩
  · obtain ⟨q, h1, h2⟩ := and_pc (s.pc + im)
    exact ⟨_, by rw [hj]; decide, by rw [hj]; decide, fun wx ov M => jumps_u M hB v a 0 c 0 q im ha h1 h2, hg _ _ _ _ _⟩
theorem reckons_any0 {s : St} {p b d B : Nat} {inp : ByteArray} (ok : s.Ok inp) (hB : B ≤ p) (he : s.e = 0) (u v : Bool) (a x c op : Nat) (im : Int) (ha : a < 16) (hx : x < 16) (hc : c < 16) (ho : op ≤ 11) (hu : u = false ∨ op = 0 ∨ 8 ≤ op ∧ op ≤ 10) :
    ∃ s' : St, s'.e ≠ 3 ∧ s'.e ≠ 4 ∧ Does 22 p b d B inp s (insV 0 u v a x c op im) s' ∧ s'.g = s.g := by
  obtain ⟨r, h, f, hr, hh, hD⟩ := tells_all op u (s.r.getD x 0) (s.r.getD c 0) s.h s.f ho hu (ok.reg x hx) (ok.reg c hc) ok.h
  have h3 (a r h : Nat) (f : Fl) : (s.reck a r h f).e ≠ 3 := by show s.e ≠ 3; rw [he]; decide
  have h4 (a r h : Nat) (f : Fl) : (s.reck a r h f).e ≠ 4 := by show s.e ≠ 4; rw [he]; decide
  by_cases h0 : op = 0
  · subst h0
    cases u
    · exact ⟨_, h3 _ _ _ _, h4 _ _ _ _, fun wx ov M => reckons_reg0 M hB v a x c im ha hx hc r h f hr hh hD, by rfl⟩
    · cases v
      · exact ⟨_, h3 _ _ _ _, h4 _ _ _ _, fun wx ov M => reckons_reg0u M hB a x c im ha hx hc r h f hr hh hD, by rfl⟩
      · refine ⟨_, ?_, ?_, fun wx ov M => reckons_flags M hB a x c im ha hc, by rfl⟩
        · show s.e ≠ 3; rw [he]; decide
        · show s.e ≠ 4; rw [he]; decide
  · exact ⟨_, h3 _ _ _ _, h4 _ _ _ _, fun wx ov M => reckons_reg M hB u v a x c op im ha hx hc (by simp; omega) r h f hr hh hD, by rfl⟩
theorem high_nat (m : Nat) (hm : m < 4294967296) : ∃ n : Nat, Go.bits .or .u32 m 4294901760 = (n : Int) ∧ n < 4294967296 :=
  ⟨m ||| 4294901760, or_u32 m 4294901760 hm (by decide), lt_or hm (by decide)⟩
theorem reckons_any1 {s : St} {p b d B : Nat} {inp : ByteArray} (ok : s.Ok inp) (hB : B ≤ p) (he : s.e = 0) (u v : Bool) (a x op : Nat) (im : Int) (ha : a < 16) (hx : x < 16) (ho : op ≤ 11) (hu : u = false ∨ op = 0 ∨ 8 ≤ op ∧ op ≤ 10) :
    ∃ s' : St, s'.e ≠ 3 ∧ s'.e ≠ 4 ∧ Does 22 p b d B inp s (insV 1 u v a x 0 op im) s' ∧ s'.g = s.g := by
  obtain ⟨m, hm, hm2⟩ := u16_nat im
  obtain ⟨n, hn, hn2⟩ := high_nat m hm2
  have h3 (a r h : Nat) (f : Fl) : (s.reck a r h f).e ≠ 3 := by show s.e ≠ 3; rw [he]; decide
  have h4 (a r h : Nat) (f : Fl) : (s.reck a r h f).e ≠ 4 := by show s.e ≠ 4; rw [he]; decide
  obtain ⟨r, h, f, hr, hh, hD⟩ := tells_all op u (s.r.getD x 0) m s.h s.f ho hu (ok.reg x hx) hm2 ok.h
  obtain ⟨r', h', f', hr', hh', hD'⟩ := tells_all op u (s.r.getD x 0) n s.h s.f ho hu (ok.reg x hx) hn2 ok.h
  by_cases h0 : op = 0
  · subst h0
    cases u
    · cases v
      · exact ⟨_, h3 _ _ _ _, h4 _ _ _ _, fun wx ov M => reckons_im0 M hB a x im ha hx m hm r h f hr hh hD, by rfl⟩
      · exact ⟨_, h3 _ _ _ _, h4 _ _ _ _, fun wx ov M => reckons_im0v M hB a x im ha hx n m hm hn r' h' f' hr' hh' hD', by rfl⟩
    · obtain ⟨q, hq, hq2⟩ : ∃ q : Nat, im % 4294967296 * 65536 % 4294967296 = (q : Int) ∧ q < 4294967296 := ⟨(im % 4294967296 * 65536 % 4294967296).toNat, by omega, by omega⟩
      cases v
      · refine ⟨_, ?_, ?_, fun wx ov M => reckons_up M hB a x q im ha hq hq2, by rfl⟩
        · show s.e ≠ 3; rw [he]; decide
        · show s.e ≠ 4; rw [he]; decide
      · refine ⟨_, ?_, ?_, fun wx ov M => reckons_upv M hB a x q im ha hq hq2, by rfl⟩
        · show s.e ≠ 3; rw [he]; decide
        · show s.e ≠ 4; rw [he]; decide
  · cases v
    · exact ⟨_, h3 _ _ _ _, h4 _ _ _ _, fun wx ov M => reckons_im M hB u a x op im ha hx m (by simp; omega) hm r h f hr hh hD, by rfl⟩
    · exact ⟨_, h3 _ _ _ _, h4 _ _ _ _, fun wx ov M => reckons_imv M hB u a x op im ha hx n (by simp; omega) m hm hn r' h' f' hr' hh' hD', by rfl⟩
end Go.Proofs.Ytjlngglkljjgmaa
