/-
  No cell of these rows narrows 'for every input' (looked for: loops, veiled, ifaces, maps, wideKeys, modest, calm, conditions, laid).
  DERIVED. THE GIVEN ROWS OF THIS SEAT. 5 by the template 'for every input the law returns true; each argument reads behind the call as it read before'; 0 by the template 'total and deterministic' (their statements: YtcgdghnmcahfeaaTotals.lean).
  GIVEN WITH THE SEED: the statements are not yours to turn. If you find one false, say at which input.
  Laid BY PROGRAM, IN A SANDBOX (cutbox-rows.mjs): the forced cells as the released guide's own fill.sh prints them over the translation 0e52c7380d390817… (all of the seat's roots in one cut). By AI agents, Wed Nov 11 2026. No macro, syntax, notation, axiom, sorry.
-/
import Derived.Test.YtcgdghnmcahfeaaChecked
import GoSem.Claim
import GoSem.ClaimJoined
import GoSem.ClaimMapViews
import Derived.JoinedTies
import Derived.KernelRfl
namespace Go.Proofs.Ytcgdghnmcahfeaa
/- THE CELL 'sum', in the pinned program and in every row, IS THE sha256 OF THE DUMP (.gsa) THAT YtcgdghnmcahfeaaProg.lean LOADS. Nothing in Lean hashes anything: it is a label: what it is worth is what the hold of that sum in a sandbox is worth. -/
noncomputable def Try.pinned : Pinned := { name := "ytcgdghnmcahfeaa", sum := "0e52c7380d39081794f2f30b57f929c6b0a00babfe6237ee6c14fd51bcb3e425", checked := Try.checked }
namespace Rows
def none {H : Type} : Left H := { results := [], args := [] }

/-- 'troupelaw02.AreaPlays': WHATEVER THE INPUT: true; the input reads as it did. -/
def areaPlaysSpec : ChangeSpec := { name := "areaPlays", fn := fun _ => fun
  | [d1, d2] => { results := [.lit (.bool true)], args := [d1, d2] }
  | _ => none }
def areaPlaysRow : OpenClaim := { program := "ytcgdghnmcahfeaa", sum := "0e52c7380d39081794f2f30b57f929c6b0a00babfe6237ee6c14fd51bcb3e425", func := "troupe/troupelaw02.AreaPlays", spec := "areaPlays", inPlace := ["slices.overlaps[troupe/api.Region]"], unfollowed := true, recurses := true, apart := false }
def AreaPlaysSaid : Prop := areaPlaysRow.holds Try.pinned (OpenSpec.ofChange areaPlaysSpec)

/-- ITS FALSE NEIGHBOUR: 'it returns false'. Refute it at one input. -/
def areaPlaysWrong : ChangeSpec := { name := "areaPlays", fn := fun _ => fun
  | [d1, d2] => { results := [.lit (.bool false)], args := [d1, d2] }
  | _ => none }
def AreaPlaysWrongFalsely : Prop := areaPlaysRow.holds Try.pinned (OpenSpec.ofChange areaPlaysWrong)

/-- 'troupelaw02.AreaApart': WHATEVER THE INPUT: true; the input reads as it did. -/
def areaApartSpec : ChangeSpec := { name := "areaApart", fn := fun _ => fun
  | [d1, d2] => { results := [.lit (.bool true)], args := [d1, d2] }
  | _ => none }
def areaApartRow : OpenClaim := { program := "ytcgdghnmcahfeaa", sum := "0e52c7380d39081794f2f30b57f929c6b0a00babfe6237ee6c14fd51bcb3e425", func := "troupe/troupelaw02.AreaApart", spec := "areaApart", inPlace := ["slices.overlaps[troupe/api.Region]"], unfollowed := true, recurses := true, apart := false }
def AreaApartSaid : Prop := areaApartRow.holds Try.pinned (OpenSpec.ofChange areaApartSpec)

/-- ITS FALSE NEIGHBOUR: 'it returns false'. Refute it at one input. -/
def areaApartWrong : ChangeSpec := { name := "areaApart", fn := fun _ => fun
  | [d1, d2] => { results := [.lit (.bool false)], args := [d1, d2] }
  | _ => none }
def AreaApartWrongFalsely : Prop := areaApartRow.holds Try.pinned (OpenSpec.ofChange areaApartWrong)

/-- 'troupelaw02.AreaFirst': WHATEVER THE INPUT: true; the input reads as it did. -/
def areaFirstSpec : ChangeSpec := { name := "areaFirst", fn := fun _ => fun
  | [d1, d2, d3] => { results := [.lit (.bool true)], args := [d1, d2, d3] }
  | _ => none }
def areaFirstRow : OpenClaim := { program := "ytcgdghnmcahfeaa", sum := "0e52c7380d39081794f2f30b57f929c6b0a00babfe6237ee6c14fd51bcb3e425", func := "troupe/troupelaw02.AreaFirst", spec := "areaFirst", inPlace := ["slices.overlaps[troupe/api.Region]"], unfollowed := true, recurses := true, apart := false }
def AreaFirstSaid : Prop := areaFirstRow.holds Try.pinned (OpenSpec.ofChange areaFirstSpec)

/-- ITS FALSE NEIGHBOUR: 'it returns false'. Refute it at one input. -/
def areaFirstWrong : ChangeSpec := { name := "areaFirst", fn := fun _ => fun
  | [d1, d2, d3] => { results := [.lit (.bool false)], args := [d1, d2, d3] }
  | _ => none }
def AreaFirstWrongFalsely : Prop := areaFirstRow.holds Try.pinned (OpenSpec.ofChange areaFirstWrong)

/-- 'troupelaw02.AreaBack': WHATEVER THE INPUT: true; the input reads as it did. -/
def areaBackSpec : ChangeSpec := { name := "areaBack", fn := fun _ => fun
  | [d1, d2, d3] => { results := [.lit (.bool true)], args := [d1, d2, d3] }
  | _ => none }
def areaBackRow : OpenClaim := { program := "ytcgdghnmcahfeaa", sum := "0e52c7380d39081794f2f30b57f929c6b0a00babfe6237ee6c14fd51bcb3e425", func := "troupe/troupelaw02.AreaBack", spec := "areaBack", inPlace := ["slices.overlaps[troupe/api.Region]"], unfollowed := true, recurses := true, apart := false }
def AreaBackSaid : Prop := areaBackRow.holds Try.pinned (OpenSpec.ofChange areaBackSpec)

/-- ITS FALSE NEIGHBOUR: 'it returns false'. Refute it at one input. -/
def areaBackWrong : ChangeSpec := { name := "areaBack", fn := fun _ => fun
  | [d1, d2, d3] => { results := [.lit (.bool false)], args := [d1, d2, d3] }
  | _ => none }
def AreaBackWrongFalsely : Prop := areaBackRow.holds Try.pinned (OpenSpec.ofChange areaBackWrong)

/-- 'troupelaw02.AreaKept': WHATEVER THE INPUT: true; the input reads as it did. -/
def areaKeptSpec : ChangeSpec := { name := "areaKept", fn := fun _ => fun
  | [d1, d2] => { results := [.lit (.bool true)], args := [d1, d2] }
  | _ => none }
def areaKeptRow : OpenClaim := { program := "ytcgdghnmcahfeaa", sum := "0e52c7380d39081794f2f30b57f929c6b0a00babfe6237ee6c14fd51bcb3e425", func := "troupe/troupelaw02.AreaKept", spec := "areaKept", inPlace := ["slices.overlaps[troupe/api.Region]"], unfollowed := true, recurses := true, apart := false }
def AreaKeptSaid : Prop := areaKeptRow.holds Try.pinned (OpenSpec.ofChange areaKeptSpec)

/-- ITS FALSE NEIGHBOUR: 'it returns false'. Refute it at one input. -/
def areaKeptWrong : ChangeSpec := { name := "areaKept", fn := fun _ => fun
  | [d1, d2] => { results := [.lit (.bool false)], args := [d1, d2] }
  | _ => none }
def AreaKeptWrongFalsely : Prop := areaKeptRow.holds Try.pinned (OpenSpec.ofChange areaKeptWrong)

/- THE SECOND FORM. 'bulk': how many values and letters a reading holds, each counted each time it is reached (what is shared counts as often as it is met; a slice's spare places count too). A statement '..UptoSaid' is the law's where the arguments, and the package variables that the reading takes, are together of bulk at most 1048576: NARROWER than '..Said'. Prove '..Said' where nothing that the law and all that it calls make is longer than what came in: it says more and counts as full. Else prove '..UptoSaid'. A law counts once. -/
mutual
def uptoBulk {H : Type} : DataW H → Nat
  | .lit (.string bytes) => bytes.length + 1
  | .lit _ => 1
  | .nil => 1
  | .ptr d => uptoBulk d + 1
  | .slice elems spare => uptoBulkAll elems + uptoBulkAll spare + 1
  | .agg parts => uptoBulkAll parts + 1
  | .iface _ d => uptoBulk d + 1
  | .map entries => uptoBulkEntries entries + 1
  | .held _ => 1
def uptoBulkAll {H : Type} : List (DataW H) → Nat
  | [] => 0
  | d :: r => uptoBulk d + uptoBulkAll r
def uptoBulkEntries {H : Type} : List (Lit × DataW H) → Nat
  | [] => 0
  | x :: r => uptoBulkEntry x + uptoBulkEntries r
def uptoBulkEntry {H : Type} : Lit × DataW H → Nat
  | (.string bytes, d) => bytes.length + uptoBulk d + 1
  | (_, d) => uptoBulk d + 1
 end
def uptoSmall : (H : Type) → List (DataW H) → Bool := fun _ ds => decide (uptoBulkAll ds ≤ 1048576)
def OpenSpec.upto (s : _root_.Go.ChangeSpec) : _root_.Go.OpenSpec := { _root_.Go.OpenSpec.ofChange s with cond := some uptoSmall }

/-- 'troupelaw02.AreaPlays', WHERE WHAT IT READS IS OF BULK AT MOST 1048576: true; the input reads as it did. -/
def areaPlaysUptoRow : OpenClaim := { program := "ytcgdghnmcahfeaa", sum := "0e52c7380d39081794f2f30b57f929c6b0a00babfe6237ee6c14fd51bcb3e425", func := "troupe/troupelaw02.AreaPlays", spec := "areaPlays", inPlace := ["slices.overlaps[troupe/api.Region]"], unfollowed := true, recurses := true, apart := false, narrowed := true }
def AreaPlaysUptoSaid : Prop := areaPlaysUptoRow.holds Try.pinned (OpenSpec.upto areaPlaysSpec)

/-- 'troupelaw02.AreaApart', WHERE WHAT IT READS IS OF BULK AT MOST 1048576: true; the input reads as it did. -/
def areaApartUptoRow : OpenClaim := { program := "ytcgdghnmcahfeaa", sum := "0e52c7380d39081794f2f30b57f929c6b0a00babfe6237ee6c14fd51bcb3e425", func := "troupe/troupelaw02.AreaApart", spec := "areaApart", inPlace := ["slices.overlaps[troupe/api.Region]"], unfollowed := true, recurses := true, apart := false, narrowed := true }
def AreaApartUptoSaid : Prop := areaApartUptoRow.holds Try.pinned (OpenSpec.upto areaApartSpec)

/-- 'troupelaw02.AreaFirst', WHERE WHAT IT READS IS OF BULK AT MOST 1048576: true; the input reads as it did. -/
def areaFirstUptoRow : OpenClaim := { program := "ytcgdghnmcahfeaa", sum := "0e52c7380d39081794f2f30b57f929c6b0a00babfe6237ee6c14fd51bcb3e425", func := "troupe/troupelaw02.AreaFirst", spec := "areaFirst", inPlace := ["slices.overlaps[troupe/api.Region]"], unfollowed := true, recurses := true, apart := false, narrowed := true }
def AreaFirstUptoSaid : Prop := areaFirstUptoRow.holds Try.pinned (OpenSpec.upto areaFirstSpec)

/-- 'troupelaw02.AreaBack', WHERE WHAT IT READS IS OF BULK AT MOST 1048576: true; the input reads as it did. -/
def areaBackUptoRow : OpenClaim := { program := "ytcgdghnmcahfeaa", sum := "0e52c7380d39081794f2f30b57f929c6b0a00babfe6237ee6c14fd51bcb3e425", func := "troupe/troupelaw02.AreaBack", spec := "areaBack", inPlace := ["slices.overlaps[troupe/api.Region]"], unfollowed := true, recurses := true, apart := false, narrowed := true }
def AreaBackUptoSaid : Prop := areaBackUptoRow.holds Try.pinned (OpenSpec.upto areaBackSpec)

/-- 'troupelaw02.AreaKept', WHERE WHAT IT READS IS OF BULK AT MOST 1048576: true; the input reads as it did. -/
def areaKeptUptoRow : OpenClaim := { program := "ytcgdghnmcahfeaa", sum := "0e52c7380d39081794f2f30b57f929c6b0a00babfe6237ee6c14fd51bcb3e425", func := "troupe/troupelaw02.AreaKept", spec := "areaKept", inPlace := ["slices.overlaps[troupe/api.Region]"], unfollowed := true, recurses := true, apart := false, narrowed := true }
def AreaKeptUptoSaid : Prop := areaKeptUptoRow.holds Try.pinned (OpenSpec.upto areaKeptSpec)

end Rows
end Go.Proofs.Ytcgdghnmcahfeaa
