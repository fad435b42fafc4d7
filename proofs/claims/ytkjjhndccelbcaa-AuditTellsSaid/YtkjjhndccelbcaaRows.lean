/-
  No cell of these rows narrows 'for every input' (looked for: loops, veiled, ifaces, maps, wideKeys, modest, calm, conditions, laid).
  DERIVED. THE GIVEN ROWS OF THIS SEAT. 4 by the template 'for every input the law returns true; each argument reads behind the call as it read before'; 0 by the template 'total and deterministic' (their statements: YtkjjhndccelbcaaTotals.lean).
  GIVEN WITH THE SEED: the statements are not yours to turn. If you find one false, say at which input.
  Laid BY PROGRAM, IN A SANDBOX (cutbox-rows.mjs): the forced cells as the released guide's own fill.sh prints them over the translation 062eb869a3a6d740… (all of the seat's roots in one cut). By AI agents, Wed Nov 11 2026. No macro, syntax, notation, axiom, sorry.
-/
import Derived.Test.YtkjjhndccelbcaaChecked
import GoSem.Claim
import GoSem.ClaimJoined
import GoSem.ClaimMapViews
import Derived.JoinedTies
import Derived.KernelRfl
namespace Go.Proofs.Ytkjjhndccelbcaa
/- THE CELL 'sum', in the pinned program and in every row, IS THE sha256 OF THE DUMP (.gsa) THAT YtkjjhndccelbcaaProg.lean LOADS. Nothing in Lean hashes anything: it is a label: what it is worth is what the hold of that sum in a sandbox is worth. -/
noncomputable def Try.pinned : Pinned := { name := "ytkjjhndccelbcaa", sum := "062eb869a3a6d74006a2b2045a89a4fd7ce2d3ba21e8213e62f0667818c03d17", checked := Try.checked }
namespace Rows
def none {H : Type} : Left H := { results := [], args := [] }

/-- 'troupelaw23.AuditBegins': WHATEVER THE INPUT: true; the input reads as it did. -/
def auditBeginsSpec : ChangeSpec := { name := "auditBegins", fn := fun _ => fun
  | [d1, d2, d3] => { results := [.lit (.bool true)], args := [d1, d2, d3] }
  | _ => none }
def auditBeginsRow : OpenClaim := { program := "ytkjjhndccelbcaa", sum := "062eb869a3a6d74006a2b2045a89a4fd7ce2d3ba21e8213e62f0667818c03d17", func := "troupe/troupelaw23.AuditBegins", spec := "auditBegins", inPlace := ["slices.overlaps[int]"], unfollowed := true, recurses := true, apart := false }
def AuditBeginsSaid : Prop := auditBeginsRow.holds Try.pinned (OpenSpec.ofChange auditBeginsSpec)

/-- ITS FALSE NEIGHBOUR: 'it returns false'. Refute it at one input. -/
def auditBeginsWrong : ChangeSpec := { name := "auditBegins", fn := fun _ => fun
  | [d1, d2, d3] => { results := [.lit (.bool false)], args := [d1, d2, d3] }
  | _ => none }
def AuditBeginsWrongFalsely : Prop := auditBeginsRow.holds Try.pinned (OpenSpec.ofChange auditBeginsWrong)

/-- 'troupelaw23.AuditRefused': WHATEVER THE INPUT: true; the input reads as it did. -/
def auditRefusedSpec : ChangeSpec := { name := "auditRefused", fn := fun _ => fun
  | [d1, d2, d3] => { results := [.lit (.bool true)], args := [d1, d2, d3] }
  | _ => none }
def auditRefusedRow : OpenClaim := { program := "ytkjjhndccelbcaa", sum := "062eb869a3a6d74006a2b2045a89a4fd7ce2d3ba21e8213e62f0667818c03d17", func := "troupe/troupelaw23.AuditRefused", spec := "auditRefused", inPlace := ["slices.overlaps[int]"], unfollowed := true, recurses := true, apart := false }
def AuditRefusedSaid : Prop := auditRefusedRow.holds Try.pinned (OpenSpec.ofChange auditRefusedSpec)

/-- ITS FALSE NEIGHBOUR: 'it returns false'. Refute it at one input. -/
def auditRefusedWrong : ChangeSpec := { name := "auditRefused", fn := fun _ => fun
  | [d1, d2, d3] => { results := [.lit (.bool false)], args := [d1, d2, d3] }
  | _ => none }
def AuditRefusedWrongFalsely : Prop := auditRefusedRow.holds Try.pinned (OpenSpec.ofChange auditRefusedWrong)

/-- 'troupelaw23.AuditOnce': WHATEVER THE INPUT: true; the input reads as it did. -/
def auditOnceSpec : ChangeSpec := { name := "auditOnce", fn := fun _ => fun
  | [d1, d2] => { results := [.lit (.bool true)], args := [d1, d2] }
  | _ => none }
def auditOnceRow : OpenClaim := { program := "ytkjjhndccelbcaa", sum := "062eb869a3a6d74006a2b2045a89a4fd7ce2d3ba21e8213e62f0667818c03d17", func := "troupe/troupelaw23.AuditOnce", spec := "auditOnce", inPlace := ["slices.overlaps[int]"], unfollowed := true, recurses := true, apart := false }
def AuditOnceSaid : Prop := auditOnceRow.holds Try.pinned (OpenSpec.ofChange auditOnceSpec)

/-- ITS FALSE NEIGHBOUR: 'it returns false'. Refute it at one input. -/
def auditOnceWrong : ChangeSpec := { name := "auditOnce", fn := fun _ => fun
  | [d1, d2] => { results := [.lit (.bool false)], args := [d1, d2] }
  | _ => none }
def AuditOnceWrongFalsely : Prop := auditOnceRow.holds Try.pinned (OpenSpec.ofChange auditOnceWrong)

/-- 'troupelaw23.AuditTells': WHATEVER THE INPUT: true; the input reads as it did. -/
def auditTellsSpec : ChangeSpec := { name := "auditTells", fn := fun _ => fun
  | [d1, d2, d3] => { results := [.lit (.bool true)], args := [d1, d2, d3] }
  | _ => none }
def auditTellsRow : OpenClaim := { program := "ytkjjhndccelbcaa", sum := "062eb869a3a6d74006a2b2045a89a4fd7ce2d3ba21e8213e62f0667818c03d17", func := "troupe/troupelaw23.AuditTells", spec := "auditTells", inPlace := ["slices.overlaps[int]"], unfollowed := true, recurses := true, apart := false }
def AuditTellsSaid : Prop := auditTellsRow.holds Try.pinned (OpenSpec.ofChange auditTellsSpec)

/-- ITS FALSE NEIGHBOUR: 'it returns false'. Refute it at one input. -/
def auditTellsWrong : ChangeSpec := { name := "auditTells", fn := fun _ => fun
  | [d1, d2, d3] => { results := [.lit (.bool false)], args := [d1, d2, d3] }
  | _ => none }
def AuditTellsWrongFalsely : Prop := auditTellsRow.holds Try.pinned (OpenSpec.ofChange auditTellsWrong)

/- THE SECOND FORM. 'bulk': how many values and letters a reading holds, each counted each time it is reached (what is shared counts as often as it is met; a slice's spare places count too). A statement '..UptoSaid' is the law's where the arguments, and the package variables that the reading takes, are together of bulk at most 1048576: NARROWER than '..Said'. Prove '..Said' where nothing that the law and all that it calls make is longer than what came in: it says more and counts as full. Else prove '..UptoSaid'. A law counts once. -/
mutual
def uptoBulk {H : Type} : DataW H → Nat
  | .lit (.string bytes) => bytes.length + 1
  | .lit _ => 1
  | .nil => 1
  | .ptr d => uptoBulk d + 1
  | .slice elems spare => uptoBulkAll elems + uptoBulkAll spare + 1
  | .agg parts => uptoBulkAll parts + 1
  | .iface _ d => uptoBulk d + 1
  | .map entries => uptoBulkEntries entries + 1
  | .held _ => 1
def uptoBulkAll {H : Type} : List (DataW H) → Nat
  | [] => 0
  | d :: r => uptoBulk d + uptoBulkAll r
def uptoBulkEntries {H : Type} : List (Lit × DataW H) → Nat
  | [] => 0
  | x :: r => uptoBulkEntry x + uptoBulkEntries r
def uptoBulkEntry {H : Type} : Lit × DataW H → Nat
  | (.string bytes, d) => bytes.length + uptoBulk d + 1
  | (_, d) => uptoBulk d + 1
 end
def uptoSmall : (H : Type) → List (DataW H) → Bool := fun _ ds => decide (uptoBulkAll ds ≤ 1048576)
def OpenSpec.upto (s : _root_.Go.ChangeSpec) : _root_.Go.OpenSpec := { _root_.Go.OpenSpec.ofChange s with cond := some uptoSmall }

/-- 'troupelaw23.AuditBegins', WHERE WHAT IT READS IS OF BULK AT MOST 1048576: true; the input reads as it did. -/
def auditBeginsUptoRow : OpenClaim := { program := "ytkjjhndccelbcaa", sum := "062eb869a3a6d74006a2b2045a89a4fd7ce2d3ba21e8213e62f0667818c03d17", func := "troupe/troupelaw23.AuditBegins", spec := "auditBegins", inPlace := ["slices.overlaps[int]"], unfollowed := true, recurses := true, apart := false, narrowed := true }
def AuditBeginsUptoSaid : Prop := auditBeginsUptoRow.holds Try.pinned (OpenSpec.upto auditBeginsSpec)

/-- 'troupelaw23.AuditRefused', WHERE WHAT IT READS IS OF BULK AT MOST 1048576: true; the input reads as it did. -/
def auditRefusedUptoRow : OpenClaim := { program := "ytkjjhndccelbcaa", sum := "062eb869a3a6d74006a2b2045a89a4fd7ce2d3ba21e8213e62f0667818c03d17", func := "troupe/troupelaw23.AuditRefused", spec := "auditRefused", inPlace := ["slices.overlaps[int]"], unfollowed := true, recurses := true, apart := false, narrowed := true }
def AuditRefusedUptoSaid : Prop := auditRefusedUptoRow.holds Try.pinned (OpenSpec.upto auditRefusedSpec)

/-- 'troupelaw23.AuditOnce', WHERE WHAT IT READS IS OF BULK AT MOST 1048576: true; the input reads as it did. -/
def auditOnceUptoRow : OpenClaim := { program := "ytkjjhndccelbcaa", sum := "062eb869a3a6d74006a2b2045a89a4fd7ce2d3ba21e8213e62f0667818c03d17", func := "troupe/troupelaw23.AuditOnce", spec := "auditOnce", inPlace := ["slices.overlaps[int]"], unfollowed := true, recurses := true, apart := false, narrowed := true }
def AuditOnceUptoSaid : Prop := auditOnceUptoRow.holds Try.pinned (OpenSpec.upto auditOnceSpec)

/-- 'troupelaw23.AuditTells', WHERE WHAT IT READS IS OF BULK AT MOST 1048576: true; the input reads as it did. -/
def auditTellsUptoRow : OpenClaim := { program := "ytkjjhndccelbcaa", sum := "062eb869a3a6d74006a2b2045a89a4fd7ce2d3ba21e8213e62f0667818c03d17", func := "troupe/troupelaw23.AuditTells", spec := "auditTells", inPlace := ["slices.overlaps[int]"], unfollowed := true, recurses := true, apart := false, narrowed := true }
def AuditTellsUptoSaid : Prop := auditTellsUptoRow.holds Try.pinned (OpenSpec.upto auditTellsSpec)

end Rows
end Go.Proofs.Ytkjjhndccelbcaa
