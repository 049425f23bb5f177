/-
  No cell of these rows narrows 'for every input' (looked for: loops, veiled, ifaces, maps, wideKeys, modest, calm, conditions, laid).
  DERIVED. THE GIVEN ROWS OF THIS SEAT. 5 by the template 'for every input the law returns true; each argument reads behind the call as it read before'; 0 by the template 'total and deterministic' (their statements: YtolplbfonlhbhaaTotals.lean).
  GIVEN WITH THE SEED: the statements are not yours to turn. If you find one false, say at which input.
  Laid BY PROGRAM, IN A SANDBOX (cutbox-rows.mjs): the forced cells as the released guide's own fill.sh prints them over the translation f67e2d5b5fdbecc7… (all of the seat's roots in one cut). By AI agents, Wed Nov 11 2026. No macro, syntax, notation, axiom, sorry.
-/
import Derived.Test.YtolplbfonlhbhaaChecked
import GoSem.Claim
import GoSem.ClaimJoined
import GoSem.ClaimMapViews
import Derived.JoinedTies
import Derived.KernelRfl
namespace Go.Proofs.Ytolplbfonlhbhaa
/- THE CELL 'sum', in the pinned program and in every row, IS THE sha256 OF THE DUMP (.gsa) THAT YtolplbfonlhbhaaProg.lean LOADS. Nothing in Lean hashes anything: it is a label: what it is worth is what the hold of that sum in a sandbox is worth. -/
noncomputable def Try.pinned : Pinned := { name := "ytolplbfonlhbhaa", sum := "f67e2d5b5fdbecc741cf9de68315b1c2b73b904f01014fcb8a6f40f64fd824f5", checked := Try.checked }
namespace Rows
def none {H : Type} : Left H := { results := [], args := [] }

/-- 'chartularylaw23.ListKeys': WHATEVER THE INPUT: true; the input reads as it did. -/
def listKeysSpec : ChangeSpec := { name := "listKeys", fn := fun _ => fun
  | [d1, d2, d3, d4, d5] => { results := [.lit (.bool true)], args := [d1, d2, d3, d4, d5] }
  | _ => none }
def listKeysRow : OpenClaim := { program := "ytolplbfonlhbhaa", sum := "f67e2d5b5fdbecc741cf9de68315b1c2b73b904f01014fcb8a6f40f64fd824f5", func := "chartulary/chartularylaw23.ListKeys", spec := "listKeys", inPlace := ["internal/bytealg.IndexByteString", "internal/bytealg.IndexString"], named := ["internal/bytealg.MaxLen"], apart := false }
def ListKeysSaid : Prop := listKeysRow.holds Try.pinned (OpenSpec.ofChange listKeysSpec)

/-- ITS FALSE NEIGHBOUR: 'it returns false'. Refute it at one input. -/
def listKeysWrong : ChangeSpec := { name := "listKeys", fn := fun _ => fun
  | [d1, d2, d3, d4, d5] => { results := [.lit (.bool false)], args := [d1, d2, d3, d4, d5] }
  | _ => none }
def ListKeysWrongFalsely : Prop := listKeysRow.holds Try.pinned (OpenSpec.ofChange listKeysWrong)

/-- 'chartularylaw23.ListVersions': WHATEVER THE INPUT: true; the input reads as it did. -/
def listVersionsSpec : ChangeSpec := { name := "listVersions", fn := fun _ => fun
  | [d1, d2, d3, d4] => { results := [.lit (.bool true)], args := [d1, d2, d3, d4] }
  | _ => none }
def listVersionsRow : OpenClaim := { program := "ytolplbfonlhbhaa", sum := "f67e2d5b5fdbecc741cf9de68315b1c2b73b904f01014fcb8a6f40f64fd824f5", func := "chartulary/chartularylaw23.ListVersions", spec := "listVersions", inPlace := ["internal/bytealg.IndexByteString", "internal/bytealg.IndexString"], named := ["internal/bytealg.MaxLen"], apart := false }
def ListVersionsSaid : Prop := listVersionsRow.holds Try.pinned (OpenSpec.ofChange listVersionsSpec)

/-- ITS FALSE NEIGHBOUR: 'it returns false'. Refute it at one input. -/
def listVersionsWrong : ChangeSpec := { name := "listVersions", fn := fun _ => fun
  | [d1, d2, d3, d4] => { results := [.lit (.bool false)], args := [d1, d2, d3, d4] }
  | _ => none }
def ListVersionsWrongFalsely : Prop := listVersionsRow.holds Try.pinned (OpenSpec.ofChange listVersionsWrong)

/-- 'chartularylaw23.ListPages': WHATEVER THE INPUT: true; the input reads as it did. -/
def listPagesSpec : ChangeSpec := { name := "listPages", fn := fun _ => fun
  | [d1, d2, d3, d4] => { results := [.lit (.bool true)], args := [d1, d2, d3, d4] }
  | _ => none }
def listPagesRow : OpenClaim := { program := "ytolplbfonlhbhaa", sum := "f67e2d5b5fdbecc741cf9de68315b1c2b73b904f01014fcb8a6f40f64fd824f5", func := "chartulary/chartularylaw23.ListPages", spec := "listPages", inPlace := ["internal/bytealg.IndexByteString", "internal/bytealg.IndexString"], named := ["internal/bytealg.MaxLen"], apart := false }
def ListPagesSaid : Prop := listPagesRow.holds Try.pinned (OpenSpec.ofChange listPagesSpec)

/-- ITS FALSE NEIGHBOUR: 'it returns false'. Refute it at one input. -/
def listPagesWrong : ChangeSpec := { name := "listPages", fn := fun _ => fun
  | [d1, d2, d3, d4] => { results := [.lit (.bool false)], args := [d1, d2, d3, d4] }
  | _ => none }
def ListPagesWrongFalsely : Prop := listPagesRow.holds Try.pinned (OpenSpec.ofChange listPagesWrong)

/-- 'chartularylaw23.ListWalks': WHATEVER THE INPUT: true; the input reads as it did. -/
def listWalksSpec : ChangeSpec := { name := "listWalks", fn := fun _ => fun
  | [d1, d2, d3] => { results := [.lit (.bool true)], args := [d1, d2, d3] }
  | _ => none }
def listWalksRow : OpenClaim := { program := "ytolplbfonlhbhaa", sum := "f67e2d5b5fdbecc741cf9de68315b1c2b73b904f01014fcb8a6f40f64fd824f5", func := "chartulary/chartularylaw23.ListWalks", spec := "listWalks", inPlace := ["internal/bytealg.IndexByteString", "internal/bytealg.IndexString"], named := ["internal/bytealg.MaxLen"], apart := false }
def ListWalksSaid : Prop := listWalksRow.holds Try.pinned (OpenSpec.ofChange listWalksSpec)

/-- ITS FALSE NEIGHBOUR: 'it returns false'. Refute it at one input. -/
def listWalksWrong : ChangeSpec := { name := "listWalks", fn := fun _ => fun
  | [d1, d2, d3] => { results := [.lit (.bool false)], args := [d1, d2, d3] }
  | _ => none }
def ListWalksWrongFalsely : Prop := listWalksRow.holds Try.pinned (OpenSpec.ofChange listWalksWrong)

/-- 'chartularylaw23.ListFinds': WHATEVER THE INPUT: true; the input reads as it did. -/
def listFindsSpec : ChangeSpec := { name := "listFinds", fn := fun _ => fun
  | [d1, d2, d3, d4] => { results := [.lit (.bool true)], args := [d1, d2, d3, d4] }
  | _ => none }
def listFindsRow : OpenClaim := { program := "ytolplbfonlhbhaa", sum := "f67e2d5b5fdbecc741cf9de68315b1c2b73b904f01014fcb8a6f40f64fd824f5", func := "chartulary/chartularylaw23.ListFinds", spec := "listFinds", inPlace := ["internal/bytealg.IndexByteString", "internal/bytealg.IndexString"], named := ["internal/bytealg.MaxLen"], apart := false }
def ListFindsSaid : Prop := listFindsRow.holds Try.pinned (OpenSpec.ofChange listFindsSpec)

/-- ITS FALSE NEIGHBOUR: 'it returns false'. Refute it at one input. -/
def listFindsWrong : ChangeSpec := { name := "listFinds", fn := fun _ => fun
  | [d1, d2, d3, d4] => { results := [.lit (.bool false)], args := [d1, d2, d3, d4] }
  | _ => none }
def ListFindsWrongFalsely : Prop := listFindsRow.holds Try.pinned (OpenSpec.ofChange listFindsWrong)

/- THE SECOND FORM. 'bulk': how many values and letters a reading holds, each counted each time it is reached (what is shared counts as often as it is met; a slice's spare places count too). A statement '..UptoSaid' is the law's where the arguments, and the package variables that the reading takes, are together of bulk at most 1048576: NARROWER than '..Said'. Prove '..Said' where nothing that the law and all that it calls make is longer than what came in: it says more and counts as full. Else prove '..UptoSaid'. A law counts once. -/
mutual
def uptoBulk {H : Type} : DataW H → Nat
  | .lit (.string bytes) => bytes.length + 1
  | .lit _ => 1
  | .nil => 1
  | .ptr d => uptoBulk d + 1
  | .slice elems spare => uptoBulkAll elems + uptoBulkAll spare + 1
  | .agg parts => uptoBulkAll parts + 1
  | .iface _ d => uptoBulk d + 1
  | .map entries => uptoBulkEntries entries + 1
  | .held _ => 1
def uptoBulkAll {H : Type} : List (DataW H) → Nat
  | [] => 0
  | d :: r => uptoBulk d + uptoBulkAll r
def uptoBulkEntries {H : Type} : List (Lit × DataW H) → Nat
  | [] => 0
  | x :: r => uptoBulkEntry x + uptoBulkEntries r
def uptoBulkEntry {H : Type} : Lit × DataW H → Nat
  | (.string bytes, d) => bytes.length + uptoBulk d + 1
  | (_, d) => uptoBulk d + 1
 end
def uptoSmall : (H : Type) → List (DataW H) → Bool := fun _ ds => decide (uptoBulkAll ds ≤ 1048576)
def OpenSpec.upto (s : _root_.Go.ChangeSpec) : _root_.Go.OpenSpec := { _root_.Go.OpenSpec.ofChange s with cond := some uptoSmall }

/-- 'chartularylaw23.ListKeys', WHERE WHAT IT READS IS OF BULK AT MOST 1048576: true; the input reads as it did. -/
def listKeysUptoRow : OpenClaim := { program := "ytolplbfonlhbhaa", sum := "f67e2d5b5fdbecc741cf9de68315b1c2b73b904f01014fcb8a6f40f64fd824f5", func := "chartulary/chartularylaw23.ListKeys", spec := "listKeys", inPlace := ["internal/bytealg.IndexByteString", "internal/bytealg.IndexString"], named := ["internal/bytealg.MaxLen"], apart := false, narrowed := true }
def ListKeysUptoSaid : Prop := listKeysUptoRow.holds Try.pinned (OpenSpec.upto listKeysSpec)

/-- 'chartularylaw23.ListVersions', WHERE WHAT IT READS IS OF BULK AT MOST 1048576: true; the input reads as it did. -/
def listVersionsUptoRow : OpenClaim := { program := "ytolplbfonlhbhaa", sum := "f67e2d5b5fdbecc741cf9de68315b1c2b73b904f01014fcb8a6f40f64fd824f5", func := "chartulary/chartularylaw23.ListVersions", spec := "listVersions", inPlace := ["internal/bytealg.IndexByteString", "internal/bytealg.IndexString"], named := ["internal/bytealg.MaxLen"], apart := false, narrowed := true }
def ListVersionsUptoSaid : Prop := listVersionsUptoRow.holds Try.pinned (OpenSpec.upto listVersionsSpec)

/-- 'chartularylaw23.ListPages', WHERE WHAT IT READS IS OF BULK AT MOST 1048576: true; the input reads as it did. -/
def listPagesUptoRow : OpenClaim := { program := "ytolplbfonlhbhaa", sum := "f67e2d5b5fdbecc741cf9de68315b1c2b73b904f01014fcb8a6f40f64fd824f5", func := "chartulary/chartularylaw23.ListPages", spec := "listPages", inPlace := ["internal/bytealg.IndexByteString", "internal/bytealg.IndexString"], named := ["internal/bytealg.MaxLen"], apart := false, narrowed := true }
def ListPagesUptoSaid : Prop := listPagesUptoRow.holds Try.pinned (OpenSpec.upto listPagesSpec)

/-- 'chartularylaw23.ListWalks', WHERE WHAT IT READS IS OF BULK AT MOST 1048576: true; the input reads as it did. -/
def listWalksUptoRow : OpenClaim := { program := "ytolplbfonlhbhaa", sum := "f67e2d5b5fdbecc741cf9de68315b1c2b73b904f01014fcb8a6f40f64fd824f5", func := "chartulary/chartularylaw23.ListWalks", spec := "listWalks", inPlace := ["internal/bytealg.IndexByteString", "internal/bytealg.IndexString"], named := ["internal/bytealg.MaxLen"], apart := false, narrowed := true }
def ListWalksUptoSaid : Prop := listWalksUptoRow.holds Try.pinned (OpenSpec.upto listWalksSpec)

/-- 'chartularylaw23.ListFinds', WHERE WHAT IT READS IS OF BULK AT MOST 1048576: true; the input reads as it did. -/
def listFindsUptoRow : OpenClaim := { program := "ytolplbfonlhbhaa", sum := "f67e2d5b5fdbecc741cf9de68315b1c2b73b904f01014fcb8a6f40f64fd824f5", func := "chartulary/chartularylaw23.ListFinds", spec := "listFinds", inPlace := ["internal/bytealg.IndexByteString", "internal/bytealg.IndexString"], named := ["internal/bytealg.MaxLen"], apart := false, narrowed := true }
def ListFindsUptoSaid : Prop := listFindsUptoRow.holds Try.pinned (OpenSpec.upto listFindsSpec)

end Rows
end Go.Proofs.Ytolplbfonlhbhaa
