/- A machine of Halt's words, step by step. -/
import Derived.Test.YtjlngglkljjgmaaStep
import Derived.Test.YtjlngglkljjgmaaReckIm
import Derived.Test.YtjlngglkljjgmaaReckIm0
import Derived.Test.YtjlngglkljjgmaaReckMovs
import Derived.Test.YtjlngglkljjgmaaCpuNew
import Derived.KernelRfl
namespace Go.Proofs.Ytjlngglkljjgmaa
open Go.RowKit
def WS : List Nat := [1627455487, 1092157376, 1073741891, 2685403144, 2685403136]
def S0 : St := St.new WS
def S1 : St := ({ S0 with pc := 1 } : St).sets 1 4294901760
def S2 (f : Fl) : St := ({ S1 with pc := 2 } : St).reck 1 4294967232 0 f
def S3 (f j : Fl) : St := ({ S2 f with pc := 3 } : St).reck 0 67 0 j
def S4 (f j : Fl) : St := { S3 f j with pc := 4, out := [67] }
def S5 (f j : Fl) : St := { S4 f j with pc := 5, e := 1 }
theorem dw (x : Nat) (V : Value) (hx : x < 4294967296) (hE : decE x = 0) (hI : (decI x).val = V) : ∀ wx : World, Calls Try.prog 10 #[.int .u32 x] wx fun e w' => e = .returned (.tuple #[V, .int .i64 0]) ∧ Below wx.heap.size wx w' := by
  intro wx
  have h := dec_calls x hx wx
  rw [hE, hI] at h
  exact h
theorem dw0 : ∀ wx : World, Calls Try.prog 10 #[.int .u32 (1627455487 : Nat)] wx fun e w' => e = .returned (.tuple #[insV 1 true false 1 0 0 0 65535, .int .i64 0]) ∧ Below wx.heap.size wx w' := dw 1627455487 (insV 1 true false 1 0 0 0 65535) (by decide) (by kernel_rfl) (by kernel_rfl)
theorem dw1 : ∀ wx : World, Calls Try.prog 10 #[.int .u32 (1092157376 : Nat)] wx fun e w' => e = .returned (.tuple #[insV 1 false false 1 1 0 8 65472, .int .i64 0]) ∧ Below wx.heap.size wx w' := dw 1092157376 (insV 1 false false 1 1 0 8 65472) (by decide) (by kernel_rfl) (by kernel_rfl)
theorem dw2 : ∀ wx : World, Calls Try.prog 10 #[.int .u32 (1073741891 : Nat)] wx fun e w' => e = .returned (.tuple #[insV 1 false false 0 0 0 0 67, .int .i64 0]) ∧ Below wx.heap.size wx w' := dw 1073741891 (insV 1 false false 0 0 0 0 67) (by decide) (by kernel_rfl) (by kernel_rfl)
theorem dw3 : ∀ wx : World, Calls Try.prog 10 #[.int .u32 (2685403144 : Nat)] wx fun e w' => e = .returned (.tuple #[insV 2 true false 0 1 0 0 8, .int .i64 0]) ∧ Below wx.heap.size wx w' := dw 2685403144 (insV 2 true false 0 1 0 0 8) (by decide) (by kernel_rfl) (by kernel_rfl)
theorem dw4 : ∀ wx : World, Calls Try.prog 10 #[.int .u32 (2685403136 : Nat)] wx fun e w' => e = .returned (.tuple #[insV 2 true false 0 1 0 0 0, .int .i64 0]) ∧ Below wx.heap.size wx w' := dw 2685403136 (insV 2 true false 0 1 0 0 0) (by decide) (by kernel_rfl) (by kernel_rfl)
section
variable {w : World} {B p b d : Nat} {inp : ByteArray} {ov : Value} {γ : Nat → Option (List Value)}
theorem wake1 (M : Mach w p b d inp ov { S0 with g := γ }) (hB : B ≤ p) : Calls Try.prog 13 #[.pointer (some ⟨p, 0, none⟩)] w fun e w' => e = .returned (.tuple #[]) ∧ After w B p b d inp { S1 with g := γ } w' :=
  step_im M hB 1627455487 (show 0 < 5 by decide) rfl true false 1 0 0 0 65535 dw0 _ (fun _ m => reckons_up m hB 1 0 4294901760 65535 (by decide) (by decide) (by decide))
theorem add8 : ∃ f : Fl, ∀ wx : World, Calls Try.prog 36 #[.int .i64 (8 : Nat), .bool false, .int .u32 (4294901760 : Nat), .int .u32 (65472 : Nat), .int .u32 (0 : Nat), S1.f.val] wx fun e w' => e = .returned (.tuple #[.int .u32 (4294967232 : Nat), .int .u32 (0 : Nat), f.val, .bool true]) ∧ Below wx.heap.size wx w' := by
  have h := do8 4294901760 65472 0 S1.f.n S1.f.z S1.f.c S1.f.v
  rw [show (((4294901760 : Nat) : Int) + ((65472 : Nat) : Int)) % 4294967296 = ((4294967232 : Nat) : Int) by decide] at h
  exact ⟨⟨_, _, _, _⟩, h⟩
theorem wake2 (f : Fl) (hf : ∀ wx : World, Calls Try.prog 36 #[.int .i64 (8 : Nat), .bool false, .int .u32 (4294901760 : Nat), .int .u32 (65472 : Nat), .int .u32 (0 : Nat), S1.f.val] wx fun e w' => e = .returned (.tuple #[.int .u32 (4294967232 : Nat), .int .u32 (0 : Nat), f.val, .bool true]) ∧ Below wx.heap.size wx w')
    (M : Mach w p b d inp ov { S1 with g := γ }) (hB : B ≤ p) : Calls Try.prog 13 #[.pointer (some ⟨p, 0, none⟩)] w fun e w' => e = .returned (.tuple #[]) ∧ After w B p b d inp { S2 f with g := γ } w' :=
  step_im M hB 1092157376 (show 1 < 5 by decide) rfl false false 1 1 0 8 65472 dw1 _ (fun _ m => reckons_im m hB false 1 1 8 65472 (by decide) (by decide) 65472 (by decide) (by decide) 4294967232 0 f (by decide) (by decide) hf)
theorem mov0 (f : Fl) : ∃ j : Fl, ∀ wx : World, Calls Try.prog 36 #[.int .i64 0, .bool false, .int .u32 (0 : Nat), .int .u32 (67 : Nat), .int .u32 (0 : Nat), f.val] wx fun e w' => e = .returned (.tuple #[.int .u32 (67 : Nat), .int .u32 (0 : Nat), j.val, .bool true]) ∧ Below wx.heap.size wx w' :=
  ⟨⟨_, _, _, _⟩, do0 0 67 0 f.n f.z f.c f.v⟩
theorem wake3 (f j : Fl) (hj : ∀ wx : World, Calls Try.prog 36 #[.int .i64 0, .bool false, .int .u32 (0 : Nat), .int .u32 (67 : Nat), .int .u32 (0 : Nat), f.val] wx fun e w' => e = .returned (.tuple #[.int .u32 (67 : Nat), .int .u32 (0 : Nat), j.val, .bool true]) ∧ Below wx.heap.size wx w')
    (M : Mach w p b d inp ov { S2 f with g := γ }) (hB : B ≤ p) : Calls Try.prog 13 #[.pointer (some ⟨p, 0, none⟩)] w fun e w' => e = .returned (.tuple #[]) ∧ After w B p b d inp { S3 f j with g := γ } w' :=
  step_im M hB 1073741891 (show 2 < 5 by decide) rfl false false 0 0 0 0 67 dw2 _ (fun _ m => reckons_im0 m hB 0 0 67 (by decide) (by decide) 67 (by decide) 67 0 j (by decide) (by decide) hj)
theorem wake4 (f j : Fl) (M : Mach w p b d inp ov { S3 f j with g := γ }) (hB : B ≤ p) (hd : B ≤ d) : Calls Try.prog 13 #[.pointer (some ⟨p, 0, none⟩)] w fun e w' => e = .returned (.tuple #[]) ∧ After w B p b d inp { S4 f j with g := γ } w' :=
  step_mem M hB 2685403144 (show 3 < 5 by decide) rfl true false 0 1 0 0 8 dw3 _ (fun _ m => moves_store m hB hd false 0 1 0 0 4294967240 8 (by decide) (by decide) (show IntKind.u32.wrap (((4294967232 : Nat) : Int) + IntKind.u32.wrap 8) = ((4294967240 : Nat) : Int) by decide) (by decide))
theorem wake5 (f j : Fl) (M : Mach w p b d inp ov { S4 f j with g := γ }) (hB : B ≤ p) (hd : B ≤ d) : Calls Try.prog 13 #[.pointer (some ⟨p, 0, none⟩)] w fun e w' => e = .returned (.tuple #[]) ∧ After w B p b d inp { S5 f j with g := γ } w' :=
  step_mem M hB 2685403136 (show 4 < 5 by decide) rfl true false 0 1 0 0 0 dw4 _ (fun _ m => moves_store m hB hd false 0 1 0 0 4294967232 0 (by decide) (by decide) (show IntKind.u32.wrap (((4294967232 : Nat) : Int) + IntKind.u32.wrap 0) = ((4294967232 : Nat) : Int) by decide) (by decide))
end
end Go.Proofs.Ytjlngglkljjgmaa
