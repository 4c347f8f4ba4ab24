/- step: what any step leaves, as far as a run's end asks. -/
import Derived.Test.YtjlngglkljjgmaaStepAny
namespace Go.Proofs.Ytjlngglkljjgmaa
open Go.RowKit
/-- What a step of a machine that stands at no end does. -/
structure Steps (s s' : St) : Prop where
  none : s.ws.length ≤ s.pc → s'.e = 5
  bad : s.pc < s.ws.length → decE (s.ws.getD s.pc 0) ≠ 0 → s'.e = 4 ∧ s'.pc = s.pc ∧ s'.ws = s.ws
  good : s.pc < s.ws.length → decE (s.ws.getD s.pc 0) = 0 → s'.e ≠ 3 ∧ s'.e ≠ 4
theorem St.Ok.on {s : St} {inp : ByteArray} (h : s.Ok inp) (hl : s.pc < s.ws.length) : ({ s with pc := s.pc + 1 } : St).Ok inp := by
  have := h.ws
  exact ⟨h.len, h.small, h.h, by show s.pc + 1 < 1073741824; omega, h.rd, h.out, h.ws⟩
theorem step_any {w : World} {B p b d : Nat} {inp : ByteArray} {ov : Value} {s : St} (M : Mach w p b d inp ov s) (hin : inp.size ≤ 4096) (hB : B ≤ p) (hd : B ≤ d) (he : s.e = 0) :
    ∃ s', Steps s s' ∧ s'.g = s.g ∧ Calls Try.prog 13 #[.pointer (some ⟨p, 0, none⟩)] w fun e w' => e = .returned (.tuple #[]) ∧ After w B p b d inp s' w' := by
  by_cases hl : s.pc < s.ws.length
  · obtain ⟨wd, hw⟩ : ∃ wd, s.ws.getD s.pc 0 = wd := ⟨_, rfl⟩
    have hwd : wd < 4294967296 := by
      rw [← hw, List.getD_eq_getElem?_getD, List.getElem?_eq_getElem hl, Option.getD_some]
      exact M.mem.small _ (List.getElem_mem hl)
    have hdc := dec_calls wd hwd
    by_cases hk : isWord wd = true
    · have hE : decE wd = 0 := by unfold decE; rw [hk]; rfl
      have hI : decI wd = cand wd := by unfold decI; rw [hk]; rfl
      have hg : Good (cand wd) := by
        unfold isWord at hk
        rw [Bool.and_eq_true] at hk
        exact of_decide_eq_true hk.1
      rw [hE, hI] at hdc
      have hS (s' : St) (h3 : s'.e ≠ 3) (h4 : s'.e ≠ 4) : Steps s s' := ⟨fun h => by omega, fun _ h => by rw [hw, hE] at h; exact absurd rfl h, fun _ _ => ⟨h3, h4⟩⟩
      have ok := M.ok.on hl
      have hf : wd / 1073741824 = 0 ∨ wd / 1073741824 = 1 ∨ wd / 1073741824 = 2 ∨ wd / 1073741824 = 3 := by omega
      rcases hf with hf | hf | hf | hf
      · have hc : cand wd = _ := if_pos hf
        rw [hc] at hg hdc
        obtain ⟨_, _, _, ⟨_, ho⟩, hr⟩ := hg
        dsimp only at ho hr
        obtain ⟨s', h3, h4, hD, hgg⟩ := reckons_any0 (p := p) (b := b) (d := d) (B := B) ok hB he (wd / 536870912 % 2 == 1) (wd / 268435456 % 2 == 1) (wd / 16777216 % 16) (wd / 1048576 % 16) (wd % 16) (wd / 65536 % 16) 0 (by omega) (by omega) (by omega) (by omega) (by
          rcases hr with h | h | h | h
          · rcases h.2.2.2 with h | h | h
            · exact .inl h
            · exact .inr (.inl (by omega))
            · exact .inr (.inr (by omega))
          · exact absurd h.1 (by decide)
          · exact absurd h.1 (by decide)
          · exact absurd h.1 (by decide))
        exact ⟨s', hS s' h3 h4, hgg, step_reg M hB wd hl hw _ _ _ _ _ _ _ hdc s' (fun wx m => hD wx ov m)⟩
      · have hc : cand wd = _ := (if_neg (by omega)).trans (if_pos hf)
        rw [hc] at hg hdc
        obtain ⟨_, _, _, ⟨_, ho⟩, hr⟩ := hg
        dsimp only at ho hr
        obtain ⟨s', h3, h4, hD, hgg⟩ := reckons_any1 (p := p) (b := b) (d := d) (B := B) ok hB he (wd / 536870912 % 2 == 1) (wd / 268435456 % 2 == 1) (wd / 16777216 % 16) (wd / 1048576 % 16) (wd / 65536 % 16) (wd % 65536 : Nat) (by omega) (by omega) (by omega) (by
          rcases hr with h | h | h | h
          · exact absurd h.1 (by decide)
          · rcases h.2.2.2 with h | h | h
            · exact .inl h
            · exact .inr (.inl (by omega))
            · exact .inr (.inr (by omega))
          · exact absurd h.1 (by decide)
          · exact absurd h.1 (by decide))
        exact ⟨s', hS s' h3 h4, hgg, step_im M hB wd hl hw _ _ _ _ 0 _ _ hdc s' (fun wx m => hD wx ov m)⟩
      · have hc : cand wd = _ := (if_neg (by omega)).trans ((if_neg (by omega)).trans (if_pos hf))
        rw [hc] at hdc
        obtain ⟨s', h3, h4, hD, hgg⟩ := moves_any (s := { s with pc := s.pc + 1 }) (p := p) (b := b) (d := d) (B := B) hin hB hd he (wd / 536870912 % 2 == 1) (wd / 268435456 % 2 == 1) (wd / 16777216 % 16) (wd / 1048576 % 16) (ext wd 20) (by omega) (by omega)
        exact ⟨s', hS s' h3 h4, hgg, step_mem M hB wd hl hw _ _ _ _ 0 0 _ hdc s' (fun wx m => hD wx ov m)⟩
      · by_cases hu : wd / 536870912 % 2 = 1
        · have hc : cand wd = _ := (if_neg (by omega)).trans ((if_neg (by omega)).trans ((if_neg (by omega)).trans (if_pos hu)))
          rw [hc] at hdc
          obtain ⟨s', h3, h4, hD, hgg⟩ := jumps_any (s := { s with pc := s.pc + 1 }) (inp := inp) (p := p) (b := b) (d := d) (B := B) hB he true (wd / 268435456 % 2 == 1) (wd / 16777216 % 16) 0 (ext wd 24) (by omega) (by omega)
          exact ⟨s', hS s' h3 h4, hgg, step_jump M hB wd hl hw _ _ _ 0 0 0 _ hdc s' (fun wx m => hD wx ov m)⟩
        · have hc : cand wd = _ := (if_neg (by omega)).trans ((if_neg (by omega)).trans ((if_neg (by omega)).trans (if_neg hu)))
          rw [hc] at hdc
          obtain ⟨s', h3, h4, hD, hgg⟩ := jumps_any (s := { s with pc := s.pc + 1 }) (inp := inp) (p := p) (b := b) (d := d) (B := B) hB he false (wd / 268435456 % 2 == 1) (wd / 16777216 % 16) (wd % 16) 0 (by omega) (by omega)
          exact ⟨s', hS s' h3 h4, hgg, step_jump M hB wd hl hw _ _ _ 0 _ 0 _ hdc s' (fun wx m => hD wx ov m)⟩
    · have hk : isWord wd = false := by simpa using hk
      have hE : decE wd = 20 := by unfold decE; rw [hk]; rfl
      have hI : decI wd = zeroIns := by unfold decI; rw [hk]; rfl
      rw [hE, hI] at hdc
      refine ⟨{ s with e := 4 }, ⟨fun h => by omega, fun _ _ => ⟨rfl, rfl, rfl⟩, fun _ h => ?_⟩, rfl, step_bad M hB wd hl hw hdc⟩
      rw [hw, hE] at h
      exact absurd h (by decide)
  · exact ⟨{ s with e := 5 }, ⟨fun _ => rfl, fun h => absurd h hl, fun h => absurd h hl⟩, rfl, step_none M hB (by omega)⟩
end Go.Proofs.Ytjlngglkljjgmaa
