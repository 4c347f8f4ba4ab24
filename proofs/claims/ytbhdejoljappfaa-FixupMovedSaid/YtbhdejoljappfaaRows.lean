/-
  No cell of these rows narrows 'for every input' (looked for: loops, veiled, ifaces, maps, wideKeys, modest, calm, conditions, laid).
  DERIVED. THE GIVEN ROWS OF THIS SEAT. 11 by the template 'for every input the law returns true; each argument reads behind the call as it read before'; 0 by the template 'total and deterministic' (their statements: YtbhdejoljappfaaTotals.lean).
  GIVEN WITH THE SEED: the statements are not yours to turn. If you find one false, say at which input.
  Laid BY PROGRAM, IN A SANDBOX (cutbox-rows.mjs): the forced cells as the released guide's own fill.sh prints them over the translation bbfbbd3596098c81… (all of the seat's roots in one cut). By AI agents, Wed Nov 11 2026. No macro, syntax, notation, axiom, sorry.
-/
import Derived.Test.YtbhdejoljappfaaChecked
import GoSem.Claim
import GoSem.ClaimJoined
import GoSem.ClaimMapViews
import Derived.JoinedTies
import Derived.KernelRfl
namespace Go.Proofs.Ytbhdejoljappfaa
/- THE CELL 'sum', in the pinned program and in every row, IS THE sha256 OF THE DUMP (.gsa) THAT YtbhdejoljappfaaProg.lean LOADS. Nothing in Lean hashes anything: it is a label: what it is worth is what the hold of that sum in a sandbox is worth. -/
noncomputable def Try.pinned : Pinned := { name := "ytbhdejoljappfaa", sum := "bbfbbd3596098c81333a3bc2449f1cdb3d28e3991b673579a879c29b07df555d", checked := Try.checked }
namespace Rows
def none {H : Type} : Left H := { results := [], args := [] }

/-- 'spinetlaw02.RiscEncodes': WHATEVER THE INPUT: true; the input reads as it did. -/
def riscEncodesSpec : ChangeSpec := { name := "riscEncodes", fn := fun _ => fun
  | [d] => { results := [.lit (.bool true)], args := [d] }
  | _ => none }
def riscEncodesRow : OpenClaim := { program := "ytbhdejoljappfaa", sum := "bbfbbd3596098c81333a3bc2449f1cdb3d28e3991b673579a879c29b07df555d", func := "spinet/spinetlaw02.RiscEncodes", spec := "riscEncodes", plainKeys := false, apart := false }
def RiscEncodesSaid : Prop := riscEncodesRow.holds Try.pinned (OpenSpec.ofChange riscEncodesSpec)

/-- ITS FALSE NEIGHBOUR: 'it returns false'. Refute it at one input. -/
def riscEncodesWrong : ChangeSpec := { name := "riscEncodes", fn := fun _ => fun
  | [d] => { results := [.lit (.bool false)], args := [d] }
  | _ => none }
def RiscEncodesWrongFalsely : Prop := riscEncodesRow.holds Try.pinned (OpenSpec.ofChange riscEncodesWrong)

/-- 'spinetlaw02.RiscDecodes': WHATEVER THE INPUT: true; the input reads as it did. -/
def riscDecodesSpec : ChangeSpec := { name := "riscDecodes", fn := fun _ => fun
  | [d] => { results := [.lit (.bool true)], args := [d] }
  | _ => none }
def riscDecodesRow : OpenClaim := { program := "ytbhdejoljappfaa", sum := "bbfbbd3596098c81333a3bc2449f1cdb3d28e3991b673579a879c29b07df555d", func := "spinet/spinetlaw02.RiscDecodes", spec := "riscDecodes", plainKeys := false, apart := false }
def RiscDecodesSaid : Prop := riscDecodesRow.holds Try.pinned (OpenSpec.ofChange riscDecodesSpec)

/-- ITS FALSE NEIGHBOUR: 'it returns false'. Refute it at one input. -/
def riscDecodesWrong : ChangeSpec := { name := "riscDecodes", fn := fun _ => fun
  | [d] => { results := [.lit (.bool false)], args := [d] }
  | _ => none }
def RiscDecodesWrongFalsely : Prop := riscDecodesRow.holds Try.pinned (OpenSpec.ofChange riscDecodesWrong)

/-- 'spinetlaw02.RiscBack': WHATEVER THE INPUT: true; the input reads as it did. -/
def riscBackSpec : ChangeSpec := { name := "riscBack", fn := fun _ => fun
  | [d1, d2] => { results := [.lit (.bool true)], args := [d1, d2] }
  | _ => none }
def riscBackRow : OpenClaim := { program := "ytbhdejoljappfaa", sum := "bbfbbd3596098c81333a3bc2449f1cdb3d28e3991b673579a879c29b07df555d", func := "spinet/spinetlaw02.RiscBack", spec := "riscBack", plainKeys := false, apart := false }
def RiscBackSaid : Prop := riscBackRow.holds Try.pinned (OpenSpec.ofChange riscBackSpec)

/-- ITS FALSE NEIGHBOUR: 'it returns false'. Refute it at one input. -/
def riscBackWrong : ChangeSpec := { name := "riscBack", fn := fun _ => fun
  | [d1, d2] => { results := [.lit (.bool false)], args := [d1, d2] }
  | _ => none }
def RiscBackWrongFalsely : Prop := riscBackRow.holds Try.pinned (OpenSpec.ofChange riscBackWrong)

/-- 'spinetlaw02.RiscJumps': WHATEVER THE INPUT: true; the input reads as it did. -/
def riscJumpsSpec : ChangeSpec := { name := "riscJumps", fn := fun _ => fun
  | [d1, d2, d3] => { results := [.lit (.bool true)], args := [d1, d2, d3] }
  | _ => none }
def riscJumpsRow : OpenClaim := { program := "ytbhdejoljappfaa", sum := "bbfbbd3596098c81333a3bc2449f1cdb3d28e3991b673579a879c29b07df555d", func := "spinet/spinetlaw02.RiscJumps", spec := "riscJumps", plainKeys := false, apart := false }
def RiscJumpsSaid : Prop := riscJumpsRow.holds Try.pinned (OpenSpec.ofChange riscJumpsSpec)

/-- ITS FALSE NEIGHBOUR: 'it returns false'. Refute it at one input. -/
def riscJumpsWrong : ChangeSpec := { name := "riscJumps", fn := fun _ => fun
  | [d1, d2, d3] => { results := [.lit (.bool false)], args := [d1, d2, d3] }
  | _ => none }
def RiscJumpsWrongFalsely : Prop := riscJumpsRow.holds Try.pinned (OpenSpec.ofChange riscJumpsWrong)

/-- 'spinetlaw02.RiscFields': WHATEVER THE INPUT: true; the input reads as it did. -/
def riscFieldsSpec : ChangeSpec := { name := "riscFields", fn := fun _ => fun
  | [d1, d2] => { results := [.lit (.bool true)], args := [d1, d2] }
  | _ => none }
def riscFieldsRow : OpenClaim := { program := "ytbhdejoljappfaa", sum := "bbfbbd3596098c81333a3bc2449f1cdb3d28e3991b673579a879c29b07df555d", func := "spinet/spinetlaw02.RiscFields", spec := "riscFields", plainKeys := false, apart := false }
def RiscFieldsSaid : Prop := riscFieldsRow.holds Try.pinned (OpenSpec.ofChange riscFieldsSpec)

/-- ITS FALSE NEIGHBOUR: 'it returns false'. Refute it at one input. -/
def riscFieldsWrong : ChangeSpec := { name := "riscFields", fn := fun _ => fun
  | [d1, d2] => { results := [.lit (.bool false)], args := [d1, d2] }
  | _ => none }
def RiscFieldsWrongFalsely : Prop := riscFieldsRow.holds Try.pinned (OpenSpec.ofChange riscFieldsWrong)

/-- 'spinetlaw02.RiscForms': WHATEVER THE INPUT: true; the input reads as it did. -/
def riscFormsSpec : ChangeSpec := { name := "riscForms", fn := fun _ => fun
  | [d] => { results := [.lit (.bool true)], args := [d] }
  | _ => none }
def riscFormsRow : OpenClaim := { program := "ytbhdejoljappfaa", sum := "bbfbbd3596098c81333a3bc2449f1cdb3d28e3991b673579a879c29b07df555d", func := "spinet/spinetlaw02.RiscForms", spec := "riscForms", plainKeys := false, apart := false }
def RiscFormsSaid : Prop := riscFormsRow.holds Try.pinned (OpenSpec.ofChange riscFormsSpec)

/-- ITS FALSE NEIGHBOUR: 'it returns false'. Refute it at one input. -/
def riscFormsWrong : ChangeSpec := { name := "riscForms", fn := fun _ => fun
  | [d] => { results := [.lit (.bool false)], args := [d] }
  | _ => none }
def RiscFormsWrongFalsely : Prop := riscFormsRow.holds Try.pinned (OpenSpec.ofChange riscFormsWrong)

/-- 'spinetlaw22.FixupLinks': WHATEVER THE INPUT: true; the input reads as it did. -/
def fixupLinksSpec : ChangeSpec := { name := "fixupLinks", fn := fun _ => fun
  | [d1, d2] => { results := [.lit (.bool true)], args := [d1, d2] }
  | _ => none }
def fixupLinksRow : OpenClaim := { program := "ytbhdejoljappfaa", sum := "bbfbbd3596098c81333a3bc2449f1cdb3d28e3991b673579a879c29b07df555d", func := "spinet/spinetlaw22.FixupLinks", spec := "fixupLinks", plainKeys := false, apart := false }
def FixupLinksSaid : Prop := fixupLinksRow.holds Try.pinned (OpenSpec.ofChange fixupLinksSpec)

/-- ITS FALSE NEIGHBOUR: 'it returns false'. Refute it at one input. -/
def fixupLinksWrong : ChangeSpec := { name := "fixupLinks", fn := fun _ => fun
  | [d1, d2] => { results := [.lit (.bool false)], args := [d1, d2] }
  | _ => none }
def FixupLinksWrongFalsely : Prop := fixupLinksRow.holds Try.pinned (OpenSpec.ofChange fixupLinksWrong)

/-- 'spinetlaw22.FixupChains': WHATEVER THE INPUT: true; the input reads as it did. -/
def fixupChainsSpec : ChangeSpec := { name := "fixupChains", fn := fun _ => fun
  | [d1, d2] => { results := [.lit (.bool true)], args := [d1, d2] }
  | _ => none }
def fixupChainsRow : OpenClaim := { program := "ytbhdejoljappfaa", sum := "bbfbbd3596098c81333a3bc2449f1cdb3d28e3991b673579a879c29b07df555d", func := "spinet/spinetlaw22.FixupChains", spec := "fixupChains", plainKeys := false, apart := false }
def FixupChainsSaid : Prop := fixupChainsRow.holds Try.pinned (OpenSpec.ofChange fixupChainsSpec)

/-- ITS FALSE NEIGHBOUR: 'it returns false'. Refute it at one input. -/
def fixupChainsWrong : ChangeSpec := { name := "fixupChains", fn := fun _ => fun
  | [d1, d2] => { results := [.lit (.bool false)], args := [d1, d2] }
  | _ => none }
def FixupChainsWrongFalsely : Prop := fixupChainsRow.holds Try.pinned (OpenSpec.ofChange fixupChainsWrong)

/-- 'spinetlaw22.FixupKeeps': WHATEVER THE INPUT: true; the input reads as it did. -/
def fixupKeepsSpec : ChangeSpec := { name := "fixupKeeps", fn := fun _ => fun
  | [d1, d2, d3] => { results := [.lit (.bool true)], args := [d1, d2, d3] }
  | _ => none }
def fixupKeepsRow : OpenClaim := { program := "ytbhdejoljappfaa", sum := "bbfbbd3596098c81333a3bc2449f1cdb3d28e3991b673579a879c29b07df555d", func := "spinet/spinetlaw22.FixupKeeps", spec := "fixupKeeps", plainKeys := false, apart := false }
def FixupKeepsSaid : Prop := fixupKeepsRow.holds Try.pinned (OpenSpec.ofChange fixupKeepsSpec)

/-- ITS FALSE NEIGHBOUR: 'it returns false'. Refute it at one input. -/
def fixupKeepsWrong : ChangeSpec := { name := "fixupKeeps", fn := fun _ => fun
  | [d1, d2, d3] => { results := [.lit (.bool false)], args := [d1, d2, d3] }
  | _ => none }
def FixupKeepsWrongFalsely : Prop := fixupKeepsRow.holds Try.pinned (OpenSpec.ofChange fixupKeepsWrong)

/-- 'spinetlaw22.FixupBack': WHATEVER THE INPUT: true; the input reads as it did. -/
def fixupBackSpec : ChangeSpec := { name := "fixupBack", fn := fun _ => fun
  | [d] => { results := [.lit (.bool true)], args := [d] }
  | _ => none }
def fixupBackRow : OpenClaim := { program := "ytbhdejoljappfaa", sum := "bbfbbd3596098c81333a3bc2449f1cdb3d28e3991b673579a879c29b07df555d", func := "spinet/spinetlaw22.FixupBack", spec := "fixupBack", plainKeys := false, apart := false }
def FixupBackSaid : Prop := fixupBackRow.holds Try.pinned (OpenSpec.ofChange fixupBackSpec)

/-- ITS FALSE NEIGHBOUR: 'it returns false'. Refute it at one input. -/
def fixupBackWrong : ChangeSpec := { name := "fixupBack", fn := fun _ => fun
  | [d] => { results := [.lit (.bool false)], args := [d] }
  | _ => none }
def FixupBackWrongFalsely : Prop := fixupBackRow.holds Try.pinned (OpenSpec.ofChange fixupBackWrong)

/-- 'spinetlaw22.FixupMoved': WHATEVER THE INPUT: true; the input reads as it did. -/
def fixupMovedSpec : ChangeSpec := { name := "fixupMoved", fn := fun _ => fun
  | [d1, d2, d3] => { results := [.lit (.bool true)], args := [d1, d2, d3] }
  | _ => none }
def fixupMovedRow : OpenClaim := { program := "ytbhdejoljappfaa", sum := "bbfbbd3596098c81333a3bc2449f1cdb3d28e3991b673579a879c29b07df555d", func := "spinet/spinetlaw22.FixupMoved", spec := "fixupMoved", plainKeys := false, apart := false }
def FixupMovedSaid : Prop := fixupMovedRow.holds Try.pinned (OpenSpec.ofChange fixupMovedSpec)

/-- ITS FALSE NEIGHBOUR: 'it returns false'. Refute it at one input. -/
def fixupMovedWrong : ChangeSpec := { name := "fixupMoved", fn := fun _ => fun
  | [d1, d2, d3] => { results := [.lit (.bool false)], args := [d1, d2, d3] }
  | _ => none }
def FixupMovedWrongFalsely : Prop := fixupMovedRow.holds Try.pinned (OpenSpec.ofChange fixupMovedWrong)

/- THE SECOND FORM. 'bulk': how many values and letters a reading holds, each counted each time it is reached (what is shared counts as often as it is met; a slice's spare places count too). A statement '..UptoSaid' is the law's where the arguments, and the package variables that the reading takes, are together of bulk at most 1048576: NARROWER than '..Said'. Prove '..Said' where nothing that the law and all that it calls make is longer than what came in: it says more and counts as full. Else prove '..UptoSaid'. A law counts once. -/
mutual
def uptoBulk {H : Type} : DataW H → Nat
  | .lit (.string bytes) => bytes.length + 1
  | .lit _ => 1
  | .nil => 1
  | .ptr d => uptoBulk d + 1
  | .slice elems spare => uptoBulkAll elems + uptoBulkAll spare + 1
  | .agg parts => uptoBulkAll parts + 1
  | .iface _ d => uptoBulk d + 1
  | .map entries => uptoBulkEntries entries + 1
  | .held _ => 1
def uptoBulkAll {H : Type} : List (DataW H) → Nat
  | [] => 0
  | d :: r => uptoBulk d + uptoBulkAll r
def uptoBulkEntries {H : Type} : List (Lit × DataW H) → Nat
  | [] => 0
  | x :: r => uptoBulkEntry x + uptoBulkEntries r
def uptoBulkEntry {H : Type} : Lit × DataW H → Nat
  | (.string bytes, d) => bytes.length + uptoBulk d + 1
  | (_, d) => uptoBulk d + 1
 end
def uptoSmall : (H : Type) → List (DataW H) → Bool := fun _ ds => decide (uptoBulkAll ds ≤ 1048576)
def OpenSpec.upto (s : _root_.Go.ChangeSpec) : _root_.Go.OpenSpec := { _root_.Go.OpenSpec.ofChange s with cond := some uptoSmall }

/-- 'spinetlaw02.RiscEncodes', WHERE WHAT IT READS IS OF BULK AT MOST 1048576: true; the input reads as it did. -/
def riscEncodesUptoRow : OpenClaim := { program := "ytbhdejoljappfaa", sum := "bbfbbd3596098c81333a3bc2449f1cdb3d28e3991b673579a879c29b07df555d", func := "spinet/spinetlaw02.RiscEncodes", spec := "riscEncodes", plainKeys := false, apart := false, narrowed := true }
def RiscEncodesUptoSaid : Prop := riscEncodesUptoRow.holds Try.pinned (OpenSpec.upto riscEncodesSpec)

/-- 'spinetlaw02.RiscDecodes', WHERE WHAT IT READS IS OF BULK AT MOST 1048576: true; the input reads as it did. -/
def riscDecodesUptoRow : OpenClaim := { program := "ytbhdejoljappfaa", sum := "bbfbbd3596098c81333a3bc2449f1cdb3d28e3991b673579a879c29b07df555d", func := "spinet/spinetlaw02.RiscDecodes", spec := "riscDecodes", plainKeys := false, apart := false, narrowed := true }
def RiscDecodesUptoSaid : Prop := riscDecodesUptoRow.holds Try.pinned (OpenSpec.upto riscDecodesSpec)

/-- 'spinetlaw02.RiscBack', WHERE WHAT IT READS IS OF BULK AT MOST 1048576: true; the input reads as it did. -/
def riscBackUptoRow : OpenClaim := { program := "ytbhdejoljappfaa", sum := "bbfbbd3596098c81333a3bc2449f1cdb3d28e3991b673579a879c29b07df555d", func := "spinet/spinetlaw02.RiscBack", spec := "riscBack", plainKeys := false, apart := false, narrowed := true }
def RiscBackUptoSaid : Prop := riscBackUptoRow.holds Try.pinned (OpenSpec.upto riscBackSpec)

/-- 'spinetlaw02.RiscJumps', WHERE WHAT IT READS IS OF BULK AT MOST 1048576: true; the input reads as it did. -/
def riscJumpsUptoRow : OpenClaim := { program := "ytbhdejoljappfaa", sum := "bbfbbd3596098c81333a3bc2449f1cdb3d28e3991b673579a879c29b07df555d", func := "spinet/spinetlaw02.RiscJumps", spec := "riscJumps", plainKeys := false, apart := false, narrowed := true }
def RiscJumpsUptoSaid : Prop := riscJumpsUptoRow.holds Try.pinned (OpenSpec.upto riscJumpsSpec)

/-- 'spinetlaw02.RiscFields', WHERE WHAT IT READS IS OF BULK AT MOST 1048576: true; the input reads as it did. -/
def riscFieldsUptoRow : OpenClaim := { program := "ytbhdejoljappfaa", sum := "bbfbbd3596098c81333a3bc2449f1cdb3d28e3991b673579a879c29b07df555d", func := "spinet/spinetlaw02.RiscFields", spec := "riscFields", plainKeys := false, apart := false, narrowed := true }
def RiscFieldsUptoSaid : Prop := riscFieldsUptoRow.holds Try.pinned (OpenSpec.upto riscFieldsSpec)

/-- 'spinetlaw02.RiscForms', WHERE WHAT IT READS IS OF BULK AT MOST 1048576: true; the input reads as it did. -/
def riscFormsUptoRow : OpenClaim := { program := "ytbhdejoljappfaa", sum := "bbfbbd3596098c81333a3bc2449f1cdb3d28e3991b673579a879c29b07df555d", func := "spinet/spinetlaw02.RiscForms", spec := "riscForms", plainKeys := false, apart := false, narrowed := true }
def RiscFormsUptoSaid : Prop := riscFormsUptoRow.holds Try.pinned (OpenSpec.upto riscFormsSpec)

/-- 'spinetlaw22.FixupLinks', WHERE WHAT IT READS IS OF BULK AT MOST 1048576: true; the input reads as it did. -/
def fixupLinksUptoRow : OpenClaim := { program := "ytbhdejoljappfaa", sum := "bbfbbd3596098c81333a3bc2449f1cdb3d28e3991b673579a879c29b07df555d", func := "spinet/spinetlaw22.FixupLinks", spec := "fixupLinks", plainKeys := false, apart := false, narrowed := true }
def FixupLinksUptoSaid : Prop := fixupLinksUptoRow.holds Try.pinned (OpenSpec.upto fixupLinksSpec)

/-- 'spinetlaw22.FixupChains', WHERE WHAT IT READS IS OF BULK AT MOST 1048576: true; the input reads as it did. -/
def fixupChainsUptoRow : OpenClaim := { program := "ytbhdejoljappfaa", sum := "bbfbbd3596098c81333a3bc2449f1cdb3d28e3991b673579a879c29b07df555d", func := "spinet/spinetlaw22.FixupChains", spec := "fixupChains", plainKeys := false, apart := false, narrowed := true }
def FixupChainsUptoSaid : Prop := fixupChainsUptoRow.holds Try.pinned (OpenSpec.upto fixupChainsSpec)

/-- 'spinetlaw22.FixupKeeps', WHERE WHAT IT READS IS OF BULK AT MOST 1048576: true; the input reads as it did. -/
def fixupKeepsUptoRow : OpenClaim := { program := "ytbhdejoljappfaa", sum := "bbfbbd3596098c81333a3bc2449f1cdb3d28e3991b673579a879c29b07df555d", func := "spinet/spinetlaw22.FixupKeeps", spec := "fixupKeeps", plainKeys := false, apart := false, narrowed := true }
def FixupKeepsUptoSaid : Prop := fixupKeepsUptoRow.holds Try.pinned (OpenSpec.upto fixupKeepsSpec)

/-- 'spinetlaw22.FixupBack', WHERE WHAT IT READS IS OF BULK AT MOST 1048576: true; the input reads as it did. -/
def fixupBackUptoRow : OpenClaim := { program := "ytbhdejoljappfaa", sum := "bbfbbd3596098c81333a3bc2449f1cdb3d28e3991b673579a879c29b07df555d", func := "spinet/spinetlaw22.FixupBack", spec := "fixupBack", plainKeys := false, apart := false, narrowed := true }
def FixupBackUptoSaid : Prop := fixupBackUptoRow.holds Try.pinned (OpenSpec.upto fixupBackSpec)

/-- 'spinetlaw22.FixupMoved', WHERE WHAT IT READS IS OF BULK AT MOST 1048576: true; the input reads as it did. -/
def fixupMovedUptoRow : OpenClaim := { program := "ytbhdejoljappfaa", sum := "bbfbbd3596098c81333a3bc2449f1cdb3d28e3991b673579a879c29b07df555d", func := "spinet/spinetlaw22.FixupMoved", spec := "fixupMoved", plainKeys := false, apart := false, narrowed := true }
def FixupMovedUptoSaid : Prop := fixupMovedUptoRow.holds Try.pinned (OpenSpec.upto fixupMovedSpec)

end Rows
end Go.Proofs.Ytbhdejoljappfaa
