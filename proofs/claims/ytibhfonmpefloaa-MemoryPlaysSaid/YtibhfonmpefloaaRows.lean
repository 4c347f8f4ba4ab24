/-
  No cell of these rows narrows 'for every input' (looked for: loops, veiled, ifaces, maps, wideKeys, modest, calm, conditions, laid).
  DERIVED. THE GIVEN ROWS OF THIS SEAT. 11 by the template 'for every input the law returns true; each argument reads behind the call as it read before'; 0 by the template 'total and deterministic' (their statements: YtibhfonmpefloaaTotals.lean).
  GIVEN WITH THE SEED: the statements are not yours to turn. If you find one false, say at which input.
  Laid BY PROGRAM, IN A SANDBOX (cutbox-rows.mjs): the forced cells as the released guide's own fill.sh prints them over the translation 17623858209749fe… (all of the seat's roots in one cut). By AI agents, Wed Nov 11 2026. No macro, syntax, notation, axiom, sorry.
-/
import Derived.Test.YtibhfonmpefloaaChecked
import GoSem.Claim
import GoSem.ClaimJoined
import GoSem.ClaimMapViews
import Derived.JoinedTies
import Derived.KernelRfl
namespace Go.Proofs.Ytibhfonmpefloaa
/- THE CELL 'sum', in the pinned program and in every row, IS THE sha256 OF THE DUMP (.gsa) THAT YtibhfonmpefloaaProg.lean LOADS. Nothing in Lean hashes anything: it is a label: what it is worth is what the hold of that sum in a sandbox is worth. -/
noncomputable def Try.pinned : Pinned := { name := "ytibhfonmpefloaa", sum := "17623858209749fe58cd55adb28f16abfadc0a98facfdcd446d85095f8e517df", checked := Try.checked }
namespace Rows
def none {H : Type} : Left H := { results := [], args := [] }

/-- 'spinetlaw01.BitsExtends': WHATEVER THE INPUT: true; the input reads as it did. -/
def bitsExtendsSpec : ChangeSpec := { name := "bitsExtends", fn := fun _ => fun
  | [d1, d2, d3] => { results := [.lit (.bool true)], args := [d1, d2, d3] }
  | _ => none }
def bitsExtendsRow : OpenClaim := { program := "ytibhfonmpefloaa", sum := "17623858209749fe58cd55adb28f16abfadc0a98facfdcd446d85095f8e517df", func := "spinet/spinetlaw01.BitsExtends", spec := "bitsExtends", apart := false }
def BitsExtendsSaid : Prop := bitsExtendsRow.holds Try.pinned (OpenSpec.ofChange bitsExtendsSpec)

/-- ITS FALSE NEIGHBOUR: 'it returns false'. Refute it at one input. -/
def bitsExtendsWrong : ChangeSpec := { name := "bitsExtends", fn := fun _ => fun
  | [d1, d2, d3] => { results := [.lit (.bool false)], args := [d1, d2, d3] }
  | _ => none }
def BitsExtendsWrongFalsely : Prop := bitsExtendsRow.holds Try.pinned (OpenSpec.ofChange bitsExtendsWrong)

/-- 'spinetlaw01.BitsMoves': WHATEVER THE INPUT: true; the input reads as it did. -/
def bitsMovesSpec : ChangeSpec := { name := "bitsMoves", fn := fun _ => fun
  | [d1, d2] => { results := [.lit (.bool true)], args := [d1, d2] }
  | _ => none }
def bitsMovesRow : OpenClaim := { program := "ytibhfonmpefloaa", sum := "17623858209749fe58cd55adb28f16abfadc0a98facfdcd446d85095f8e517df", func := "spinet/spinetlaw01.BitsMoves", spec := "bitsMoves", apart := false }
def BitsMovesSaid : Prop := bitsMovesRow.holds Try.pinned (OpenSpec.ofChange bitsMovesSpec)

/-- ITS FALSE NEIGHBOUR: 'it returns false'. Refute it at one input. -/
def bitsMovesWrong : ChangeSpec := { name := "bitsMoves", fn := fun _ => fun
  | [d1, d2] => { results := [.lit (.bool false)], args := [d1, d2] }
  | _ => none }
def BitsMovesWrongFalsely : Prop := bitsMovesRow.holds Try.pinned (OpenSpec.ofChange bitsMovesWrong)

/-- 'spinetlaw01.BitsTurns': WHATEVER THE INPUT: true; the input reads as it did. -/
def bitsTurnsSpec : ChangeSpec := { name := "bitsTurns", fn := fun _ => fun
  | [d1, d2] => { results := [.lit (.bool true)], args := [d1, d2] }
  | _ => none }
def bitsTurnsRow : OpenClaim := { program := "ytibhfonmpefloaa", sum := "17623858209749fe58cd55adb28f16abfadc0a98facfdcd446d85095f8e517df", func := "spinet/spinetlaw01.BitsTurns", spec := "bitsTurns", apart := false }
def BitsTurnsSaid : Prop := bitsTurnsRow.holds Try.pinned (OpenSpec.ofChange bitsTurnsSpec)

/-- ITS FALSE NEIGHBOUR: 'it returns false'. Refute it at one input. -/
def bitsTurnsWrong : ChangeSpec := { name := "bitsTurns", fn := fun _ => fun
  | [d1, d2] => { results := [.lit (.bool false)], args := [d1, d2] }
  | _ => none }
def BitsTurnsWrongFalsely : Prop := bitsTurnsRow.holds Try.pinned (OpenSpec.ofChange bitsTurnsWrong)

/-- 'spinetlaw01.BitsSigns': WHATEVER THE INPUT: true; the input reads as it did. -/
def bitsSignsSpec : ChangeSpec := { name := "bitsSigns", fn := fun _ => fun
  | [d1, d2] => { results := [.lit (.bool true)], args := [d1, d2] }
  | _ => none }
def bitsSignsRow : OpenClaim := { program := "ytibhfonmpefloaa", sum := "17623858209749fe58cd55adb28f16abfadc0a98facfdcd446d85095f8e517df", func := "spinet/spinetlaw01.BitsSigns", spec := "bitsSigns", apart := false }
def BitsSignsSaid : Prop := bitsSignsRow.holds Try.pinned (OpenSpec.ofChange bitsSignsSpec)

/-- ITS FALSE NEIGHBOUR: 'it returns false'. Refute it at one input. -/
def bitsSignsWrong : ChangeSpec := { name := "bitsSigns", fn := fun _ => fun
  | [d1, d2] => { results := [.lit (.bool false)], args := [d1, d2] }
  | _ => none }
def BitsSignsWrongFalsely : Prop := bitsSignsRow.holds Try.pinned (OpenSpec.ofChange bitsSignsWrong)

/-- 'spinetlaw01.BitsFits': WHATEVER THE INPUT: true; the input reads as it did. -/
def bitsFitsSpec : ChangeSpec := { name := "bitsFits", fn := fun _ => fun
  | [d1, d2] => { results := [.lit (.bool true)], args := [d1, d2] }
  | _ => none }
def bitsFitsRow : OpenClaim := { program := "ytibhfonmpefloaa", sum := "17623858209749fe58cd55adb28f16abfadc0a98facfdcd446d85095f8e517df", func := "spinet/spinetlaw01.BitsFits", spec := "bitsFits", apart := false }
def BitsFitsSaid : Prop := bitsFitsRow.holds Try.pinned (OpenSpec.ofChange bitsFitsSpec)

/-- ITS FALSE NEIGHBOUR: 'it returns false'. Refute it at one input. -/
def bitsFitsWrong : ChangeSpec := { name := "bitsFits", fn := fun _ => fun
  | [d1, d2] => { results := [.lit (.bool false)], args := [d1, d2] }
  | _ => none }
def BitsFitsWrongFalsely : Prop := bitsFitsRow.holds Try.pinned (OpenSpec.ofChange bitsFitsWrong)

/-- 'spinetlaw01.BitsCuts': WHATEVER THE INPUT: true; the input reads as it did. -/
def bitsCutsSpec : ChangeSpec := { name := "bitsCuts", fn := fun _ => fun
  | [d] => { results := [.lit (.bool true)], args := [d] }
  | _ => none }
def bitsCutsRow : OpenClaim := { program := "ytibhfonmpefloaa", sum := "17623858209749fe58cd55adb28f16abfadc0a98facfdcd446d85095f8e517df", func := "spinet/spinetlaw01.BitsCuts", spec := "bitsCuts", apart := false }
def BitsCutsSaid : Prop := bitsCutsRow.holds Try.pinned (OpenSpec.ofChange bitsCutsSpec)

/-- ITS FALSE NEIGHBOUR: 'it returns false'. Refute it at one input. -/
def bitsCutsWrong : ChangeSpec := { name := "bitsCuts", fn := fun _ => fun
  | [d] => { results := [.lit (.bool false)], args := [d] }
  | _ => none }
def BitsCutsWrongFalsely : Prop := bitsCutsRow.holds Try.pinned (OpenSpec.ofChange bitsCutsWrong)

/-- 'spinetlaw01.BitsKeeps': WHATEVER THE INPUT: true; the input reads as it did. -/
def bitsKeepsSpec : ChangeSpec := { name := "bitsKeeps", fn := fun _ => fun
  | [d] => { results := [.lit (.bool true)], args := [d] }
  | _ => none }
def bitsKeepsRow : OpenClaim := { program := "ytibhfonmpefloaa", sum := "17623858209749fe58cd55adb28f16abfadc0a98facfdcd446d85095f8e517df", func := "spinet/spinetlaw01.BitsKeeps", spec := "bitsKeeps", apart := false }
def BitsKeepsSaid : Prop := bitsKeepsRow.holds Try.pinned (OpenSpec.ofChange bitsKeepsSpec)

/-- ITS FALSE NEIGHBOUR: 'it returns false'. Refute it at one input. -/
def bitsKeepsWrong : ChangeSpec := { name := "bitsKeeps", fn := fun _ => fun
  | [d] => { results := [.lit (.bool false)], args := [d] }
  | _ => none }
def BitsKeepsWrongFalsely : Prop := bitsKeepsRow.holds Try.pinned (OpenSpec.ofChange bitsKeepsWrong)

/-- 'spinetlaw04.MemoryBytes': WHATEVER THE INPUT: true; the input reads as it did. -/
def memoryBytesSpec : ChangeSpec := { name := "memoryBytes", fn := fun _ => fun
  | [d1, d2, d3] => { results := [.lit (.bool true)], args := [d1, d2, d3] }
  | _ => none }
def memoryBytesRow : OpenClaim := { program := "ytibhfonmpefloaa", sum := "17623858209749fe58cd55adb28f16abfadc0a98facfdcd446d85095f8e517df", func := "spinet/spinetlaw04.MemoryBytes", spec := "memoryBytes", apart := false }
def MemoryBytesSaid : Prop := memoryBytesRow.holds Try.pinned (OpenSpec.ofChange memoryBytesSpec)

/-- ITS FALSE NEIGHBOUR: 'it returns false'. Refute it at one input. -/
def memoryBytesWrong : ChangeSpec := { name := "memoryBytes", fn := fun _ => fun
  | [d1, d2, d3] => { results := [.lit (.bool false)], args := [d1, d2, d3] }
  | _ => none }
def MemoryBytesWrongFalsely : Prop := memoryBytesRow.holds Try.pinned (OpenSpec.ofChange memoryBytesWrong)

/-- 'spinetlaw04.MemoryForks': WHATEVER THE INPUT: true; the input reads as it did. -/
def memoryForksSpec : ChangeSpec := { name := "memoryForks", fn := fun _ => fun
  | [d1, d2, d3] => { results := [.lit (.bool true)], args := [d1, d2, d3] }
  | _ => none }
def memoryForksRow : OpenClaim := { program := "ytibhfonmpefloaa", sum := "17623858209749fe58cd55adb28f16abfadc0a98facfdcd446d85095f8e517df", func := "spinet/spinetlaw04.MemoryForks", spec := "memoryForks", apart := false }
def MemoryForksSaid : Prop := memoryForksRow.holds Try.pinned (OpenSpec.ofChange memoryForksSpec)

/-- ITS FALSE NEIGHBOUR: 'it returns false'. Refute it at one input. -/
def memoryForksWrong : ChangeSpec := { name := "memoryForks", fn := fun _ => fun
  | [d1, d2, d3] => { results := [.lit (.bool false)], args := [d1, d2, d3] }
  | _ => none }
def MemoryForksWrongFalsely : Prop := memoryForksRow.holds Try.pinned (OpenSpec.ofChange memoryForksWrong)

/-- 'spinetlaw04.MemoryPlays': WHATEVER THE INPUT: true; the input reads as it did. -/
def memoryPlaysSpec : ChangeSpec := { name := "memoryPlays", fn := fun _ => fun
  | [d1, d2] => { results := [.lit (.bool true)], args := [d1, d2] }
  | _ => none }
def memoryPlaysRow : OpenClaim := { program := "ytibhfonmpefloaa", sum := "17623858209749fe58cd55adb28f16abfadc0a98facfdcd446d85095f8e517df", func := "spinet/spinetlaw04.MemoryPlays", spec := "memoryPlays", apart := false }
def MemoryPlaysSaid : Prop := memoryPlaysRow.holds Try.pinned (OpenSpec.ofChange memoryPlaysSpec)

/-- ITS FALSE NEIGHBOUR: 'it returns false'. Refute it at one input. -/
def memoryPlaysWrong : ChangeSpec := { name := "memoryPlays", fn := fun _ => fun
  | [d1, d2] => { results := [.lit (.bool false)], args := [d1, d2] }
  | _ => none }
def MemoryPlaysWrongFalsely : Prop := memoryPlaysRow.holds Try.pinned (OpenSpec.ofChange memoryPlaysWrong)

/-- 'spinetlaw04.MemoryEnds': WHATEVER THE INPUT: true; the input reads as it did. -/
def memoryEndsSpec : ChangeSpec := { name := "memoryEnds", fn := fun _ => fun
  | [d1, d2] => { results := [.lit (.bool true)], args := [d1, d2] }
  | _ => none }
def memoryEndsRow : OpenClaim := { program := "ytibhfonmpefloaa", sum := "17623858209749fe58cd55adb28f16abfadc0a98facfdcd446d85095f8e517df", func := "spinet/spinetlaw04.MemoryEnds", spec := "memoryEnds", apart := false }
def MemoryEndsSaid : Prop := memoryEndsRow.holds Try.pinned (OpenSpec.ofChange memoryEndsSpec)

/-- ITS FALSE NEIGHBOUR: 'it returns false'. Refute it at one input. -/
def memoryEndsWrong : ChangeSpec := { name := "memoryEnds", fn := fun _ => fun
  | [d1, d2] => { results := [.lit (.bool false)], args := [d1, d2] }
  | _ => none }
def MemoryEndsWrongFalsely : Prop := memoryEndsRow.holds Try.pinned (OpenSpec.ofChange memoryEndsWrong)

/- THE SECOND FORM. 'bulk': how many values and letters a reading holds, each counted each time it is reached (what is shared counts as often as it is met; a slice's spare places count too). A statement '..UptoSaid' is the law's where the arguments, and the package variables that the reading takes, are together of bulk at most 1048576: NARROWER than '..Said'. Prove '..Said' where nothing that the law and all that it calls make is longer than what came in: it says more and counts as full. Else prove '..UptoSaid'. A law counts once. -/
mutual
def uptoBulk {H : Type} : DataW H → Nat
  | .lit (.string bytes) => bytes.length + 1
  | .lit _ => 1
  | .nil => 1
  | .ptr d => uptoBulk d + 1
  | .slice elems spare => uptoBulkAll elems + uptoBulkAll spare + 1
  | .agg parts => uptoBulkAll parts + 1
  | .iface _ d => uptoBulk d + 1
  | .map entries => uptoBulkEntries entries + 1
  | .held _ => 1
def uptoBulkAll {H : Type} : List (DataW H) → Nat
  | [] => 0
  | d :: r => uptoBulk d + uptoBulkAll r
def uptoBulkEntries {H : Type} : List (Lit × DataW H) → Nat
  | [] => 0
  | x :: r => uptoBulkEntry x + uptoBulkEntries r
def uptoBulkEntry {H : Type} : Lit × DataW H → Nat
  | (.string bytes, d) => bytes.length + uptoBulk d + 1
  | (_, d) => uptoBulk d + 1
 end
def uptoSmall : (H : Type) → List (DataW H) → Bool := fun _ ds => decide (uptoBulkAll ds ≤ 1048576)
def OpenSpec.upto (s : _root_.Go.ChangeSpec) : _root_.Go.OpenSpec := { _root_.Go.OpenSpec.ofChange s with cond := some uptoSmall }

/-- 'spinetlaw01.BitsExtends', WHERE WHAT IT READS IS OF BULK AT MOST 1048576: true; the input reads as it did. -/
def bitsExtendsUptoRow : OpenClaim := { program := "ytibhfonmpefloaa", sum := "17623858209749fe58cd55adb28f16abfadc0a98facfdcd446d85095f8e517df", func := "spinet/spinetlaw01.BitsExtends", spec := "bitsExtends", apart := false, narrowed := true }
def BitsExtendsUptoSaid : Prop := bitsExtendsUptoRow.holds Try.pinned (OpenSpec.upto bitsExtendsSpec)

/-- 'spinetlaw01.BitsMoves', WHERE WHAT IT READS IS OF BULK AT MOST 1048576: true; the input reads as it did. -/
def bitsMovesUptoRow : OpenClaim := { program := "ytibhfonmpefloaa", sum := "17623858209749fe58cd55adb28f16abfadc0a98facfdcd446d85095f8e517df", func := "spinet/spinetlaw01.BitsMoves", spec := "bitsMoves", apart := false, narrowed := true }
def BitsMovesUptoSaid : Prop := bitsMovesUptoRow.holds Try.pinned (OpenSpec.upto bitsMovesSpec)

/-- 'spinetlaw01.BitsTurns', WHERE WHAT IT READS IS OF BULK AT MOST 1048576: true; the input reads as it did. -/
def bitsTurnsUptoRow : OpenClaim := { program := "ytibhfonmpefloaa", sum := "17623858209749fe58cd55adb28f16abfadc0a98facfdcd446d85095f8e517df", func := "spinet/spinetlaw01.BitsTurns", spec := "bitsTurns", apart := false, narrowed := true }
def BitsTurnsUptoSaid : Prop := bitsTurnsUptoRow.holds Try.pinned (OpenSpec.upto bitsTurnsSpec)

/-- 'spinetlaw01.BitsSigns', WHERE WHAT IT READS IS OF BULK AT MOST 1048576: true; the input reads as it did. -/
def bitsSignsUptoRow : OpenClaim := { program := "ytibhfonmpefloaa", sum := "17623858209749fe58cd55adb28f16abfadc0a98facfdcd446d85095f8e517df", func := "spinet/spinetlaw01.BitsSigns", spec := "bitsSigns", apart := false, narrowed := true }
def BitsSignsUptoSaid : Prop := bitsSignsUptoRow.holds Try.pinned (OpenSpec.upto bitsSignsSpec)

/-- 'spinetlaw01.BitsFits', WHERE WHAT IT READS IS OF BULK AT MOST 1048576: true; the input reads as it did. -/
def bitsFitsUptoRow : OpenClaim := { program := "ytibhfonmpefloaa", sum := "17623858209749fe58cd55adb28f16abfadc0a98facfdcd446d85095f8e517df", func := "spinet/spinetlaw01.BitsFits", spec := "bitsFits", apart := false, narrowed := true }
def BitsFitsUptoSaid : Prop := bitsFitsUptoRow.holds Try.pinned (OpenSpec.upto bitsFitsSpec)

/-- 'spinetlaw01.BitsCuts', WHERE WHAT IT READS IS OF BULK AT MOST 1048576: true; the input reads as it did. -/
def bitsCutsUptoRow : OpenClaim := { program := "ytibhfonmpefloaa", sum := "17623858209749fe58cd55adb28f16abfadc0a98facfdcd446d85095f8e517df", func := "spinet/spinetlaw01.BitsCuts", spec := "bitsCuts", apart := false, narrowed := true }
def BitsCutsUptoSaid : Prop := bitsCutsUptoRow.holds Try.pinned (OpenSpec.upto bitsCutsSpec)

/-- 'spinetlaw01.BitsKeeps', WHERE WHAT IT READS IS OF BULK AT MOST 1048576: true; the input reads as it did. -/
def bitsKeepsUptoRow : OpenClaim := { program := "ytibhfonmpefloaa", sum := "17623858209749fe58cd55adb28f16abfadc0a98facfdcd446d85095f8e517df", func := "spinet/spinetlaw01.BitsKeeps", spec := "bitsKeeps", apart := false, narrowed := true }
def BitsKeepsUptoSaid : Prop := bitsKeepsUptoRow.holds Try.pinned (OpenSpec.upto bitsKeepsSpec)

/-- 'spinetlaw04.MemoryBytes', WHERE WHAT IT READS IS OF BULK AT MOST 1048576: true; the input reads as it did. -/
def memoryBytesUptoRow : OpenClaim := { program := "ytibhfonmpefloaa", sum := "17623858209749fe58cd55adb28f16abfadc0a98facfdcd446d85095f8e517df", func := "spinet/spinetlaw04.MemoryBytes", spec := "memoryBytes", apart := false, narrowed := true }
def MemoryBytesUptoSaid : Prop := memoryBytesUptoRow.holds Try.pinned (OpenSpec.upto memoryBytesSpec)

/-- 'spinetlaw04.MemoryForks', WHERE WHAT IT READS IS OF BULK AT MOST 1048576: true; the input reads as it did. -/
def memoryForksUptoRow : OpenClaim := { program := "ytibhfonmpefloaa", sum := "17623858209749fe58cd55adb28f16abfadc0a98facfdcd446d85095f8e517df", func := "spinet/spinetlaw04.MemoryForks", spec := "memoryForks", apart := false, narrowed := true }
def MemoryForksUptoSaid : Prop := memoryForksUptoRow.holds Try.pinned (OpenSpec.upto memoryForksSpec)

/-- 'spinetlaw04.MemoryPlays', WHERE WHAT IT READS IS OF BULK AT MOST 1048576: true; the input reads as it did. -/
def memoryPlaysUptoRow : OpenClaim := { program := "ytibhfonmpefloaa", sum := "17623858209749fe58cd55adb28f16abfadc0a98facfdcd446d85095f8e517df", func := "spinet/spinetlaw04.MemoryPlays", spec := "memoryPlays", apart := false, narrowed := true }
def MemoryPlaysUptoSaid : Prop := memoryPlaysUptoRow.holds Try.pinned (OpenSpec.upto memoryPlaysSpec)

/-- 'spinetlaw04.MemoryEnds', WHERE WHAT IT READS IS OF BULK AT MOST 1048576: true; the input reads as it did. -/
def memoryEndsUptoRow : OpenClaim := { program := "ytibhfonmpefloaa", sum := "17623858209749fe58cd55adb28f16abfadc0a98facfdcd446d85095f8e517df", func := "spinet/spinetlaw04.MemoryEnds", spec := "memoryEnds", apart := false, narrowed := true }
def MemoryEndsUptoSaid : Prop := memoryEndsUptoRow.holds Try.pinned (OpenSpec.upto memoryEndsSpec)

end Rows
end Go.Proofs.Ytibhfonmpefloaa
