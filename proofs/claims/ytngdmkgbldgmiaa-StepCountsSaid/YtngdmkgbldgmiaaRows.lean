/-
  No cell of these rows narrows 'for every input' (looked for: loops, veiled, ifaces, maps, wideKeys, modest, calm, conditions, laid).
  DERIVED. THE GIVEN ROWS OF THIS SEAT. 12 by the template 'for every input the law returns true; each argument reads behind the call as it read before'; 0 by the template 'total and deterministic' (their statements: YtngdmkgbldgmiaaTotals.lean).
  GIVEN WITH THE SEED: the statements are not yours to turn. If you find one false, say at which input.
  Laid BY PROGRAM, IN A SANDBOX (cutbox-rows.mjs): the forced cells as the released guide's own fill.sh prints them over the translation c8860467e0198a1e… (all of the seat's roots in one cut). By AI agents, Wed Nov 11 2026. No macro, syntax, notation, axiom, sorry.
-/
import Derived.Test.YtngdmkgbldgmiaaChecked
import GoSem.Claim
import GoSem.ClaimJoined
import GoSem.ClaimMapViews
import Derived.JoinedTies
import Derived.KernelRfl
namespace Go.Proofs.Ytngdmkgbldgmiaa
/- THE CELL 'sum', in the pinned program and in every row, IS THE sha256 OF THE DUMP (.gsa) THAT YtngdmkgbldgmiaaProg.lean LOADS. Nothing in Lean hashes anything: it is a label: what it is worth is what the hold of that sum in a sandbox is worth. -/
noncomputable def Try.pinned : Pinned := { name := "ytngdmkgbldgmiaa", sum := "c8860467e0198a1ee5e4805115e3ac203ad002bac98f453c30e966d7efb3da78", checked := Try.checked }
namespace Rows
def none {H : Type} : Left H := { results := [], args := [] }

/-- 'rundlelaw13.StepCounts': WHATEVER THE INPUT: true; the input reads as it did. -/
def stepCountsSpec : ChangeSpec := { name := "stepCounts", fn := fun _ => fun
  | [d1, d2] => { results := [.lit (.bool true)], args := [d1, d2] }
  | _ => none }
def stepCountsRow : OpenClaim := { program := "ytngdmkgbldgmiaa", sum := "c8860467e0198a1ee5e4805115e3ac203ad002bac98f453c30e966d7efb3da78", func := "rundle/rundlelaw13.StepCounts", spec := "stepCounts", unfollowed := true, recurses := true, apart := false }
def StepCountsSaid : Prop := stepCountsRow.holds Try.pinned (OpenSpec.ofChange stepCountsSpec)

/-- ITS FALSE NEIGHBOUR: 'it returns false'. Refute it at one input. -/
def stepCountsWrong : ChangeSpec := { name := "stepCounts", fn := fun _ => fun
  | [d1, d2] => { results := [.lit (.bool false)], args := [d1, d2] }
  | _ => none }
def StepCountsWrongFalsely : Prop := stepCountsRow.holds Try.pinned (OpenSpec.ofChange stepCountsWrong)

/-- 'rundlelaw13.StepTurns': WHATEVER THE INPUT: true; the input reads as it did. -/
def stepTurnsSpec : ChangeSpec := { name := "stepTurns", fn := fun _ => fun
  | [d1, d2, d3, d4, d5] => { results := [.lit (.bool true)], args := [d1, d2, d3, d4, d5] }
  | _ => none }
def stepTurnsRow : OpenClaim := { program := "ytngdmkgbldgmiaa", sum := "c8860467e0198a1ee5e4805115e3ac203ad002bac98f453c30e966d7efb3da78", func := "rundle/rundlelaw13.StepTurns", spec := "stepTurns", unfollowed := true, recurses := true, apart := false }
def StepTurnsSaid : Prop := stepTurnsRow.holds Try.pinned (OpenSpec.ofChange stepTurnsSpec)

/-- ITS FALSE NEIGHBOUR: 'it returns false'. Refute it at one input. -/
def stepTurnsWrong : ChangeSpec := { name := "stepTurns", fn := fun _ => fun
  | [d1, d2, d3, d4, d5] => { results := [.lit (.bool false)], args := [d1, d2, d3, d4, d5] }
  | _ => none }
def StepTurnsWrongFalsely : Prop := stepTurnsRow.holds Try.pinned (OpenSpec.ofChange stepTurnsWrong)

/-- 'rundlelaw13.StepAlone': WHATEVER THE INPUT: true; the input reads as it did. -/
def stepAloneSpec : ChangeSpec := { name := "stepAlone", fn := fun _ => fun
  | [d1, d2] => { results := [.lit (.bool true)], args := [d1, d2] }
  | _ => none }
def stepAloneRow : OpenClaim := { program := "ytngdmkgbldgmiaa", sum := "c8860467e0198a1ee5e4805115e3ac203ad002bac98f453c30e966d7efb3da78", func := "rundle/rundlelaw13.StepAlone", spec := "stepAlone", unfollowed := true, recurses := true, apart := false }
def StepAloneSaid : Prop := stepAloneRow.holds Try.pinned (OpenSpec.ofChange stepAloneSpec)

/-- ITS FALSE NEIGHBOUR: 'it returns false'. Refute it at one input. -/
def stepAloneWrong : ChangeSpec := { name := "stepAlone", fn := fun _ => fun
  | [d1, d2] => { results := [.lit (.bool false)], args := [d1, d2] }
  | _ => none }
def StepAloneWrongFalsely : Prop := stepAloneRow.holds Try.pinned (OpenSpec.ofChange stepAloneWrong)

/-- 'rundlelaw14.DescPlays': WHATEVER THE INPUT: true; the input reads as it did. -/
def descPlaysSpec : ChangeSpec := { name := "descPlays", fn := fun _ => fun
  | [d] => { results := [.lit (.bool true)], args := [d] }
  | _ => none }
def descPlaysRow : OpenClaim := { program := "ytngdmkgbldgmiaa", sum := "c8860467e0198a1ee5e4805115e3ac203ad002bac98f453c30e966d7efb3da78", func := "rundle/rundlelaw14.DescPlays", spec := "descPlays", unfollowed := true, recurses := true, apart := false }
def DescPlaysSaid : Prop := descPlaysRow.holds Try.pinned (OpenSpec.ofChange descPlaysSpec)

/-- ITS FALSE NEIGHBOUR: 'it returns false'. Refute it at one input. -/
def descPlaysWrong : ChangeSpec := { name := "descPlays", fn := fun _ => fun
  | [d] => { results := [.lit (.bool false)], args := [d] }
  | _ => none }
def DescPlaysWrongFalsely : Prop := descPlaysRow.holds Try.pinned (OpenSpec.ofChange descPlaysWrong)

/-- 'rundlelaw14.DescCounts': WHATEVER THE INPUT: true; the input reads as it did. -/
def descCountsSpec : ChangeSpec := { name := "descCounts", fn := fun _ => fun
  | [d1, d2, d3] => { results := [.lit (.bool true)], args := [d1, d2, d3] }
  | _ => none }
def descCountsRow : OpenClaim := { program := "ytngdmkgbldgmiaa", sum := "c8860467e0198a1ee5e4805115e3ac203ad002bac98f453c30e966d7efb3da78", func := "rundle/rundlelaw14.DescCounts", spec := "descCounts", unfollowed := true, recurses := true, apart := false }
def DescCountsSaid : Prop := descCountsRow.holds Try.pinned (OpenSpec.ofChange descCountsSpec)

/-- ITS FALSE NEIGHBOUR: 'it returns false'. Refute it at one input. -/
def descCountsWrong : ChangeSpec := { name := "descCounts", fn := fun _ => fun
  | [d1, d2, d3] => { results := [.lit (.bool false)], args := [d1, d2, d3] }
  | _ => none }
def DescCountsWrongFalsely : Prop := descCountsRow.holds Try.pinned (OpenSpec.ofChange descCountsWrong)

/-- 'rundlelaw14.DescHelped': WHATEVER THE INPUT: true; the input reads as it did. -/
def descHelpedSpec : ChangeSpec := { name := "descHelped", fn := fun _ => fun
  | [d1, d2, d3, d4] => { results := [.lit (.bool true)], args := [d1, d2, d3, d4] }
  | _ => none }
def descHelpedRow : OpenClaim := { program := "ytngdmkgbldgmiaa", sum := "c8860467e0198a1ee5e4805115e3ac203ad002bac98f453c30e966d7efb3da78", func := "rundle/rundlelaw14.DescHelped", spec := "descHelped", unfollowed := true, recurses := true, apart := false }
def DescHelpedSaid : Prop := descHelpedRow.holds Try.pinned (OpenSpec.ofChange descHelpedSpec)

/-- ITS FALSE NEIGHBOUR: 'it returns false'. Refute it at one input. -/
def descHelpedWrong : ChangeSpec := { name := "descHelped", fn := fun _ => fun
  | [d1, d2, d3, d4] => { results := [.lit (.bool false)], args := [d1, d2, d3, d4] }
  | _ => none }
def DescHelpedWrongFalsely : Prop := descHelpedRow.holds Try.pinned (OpenSpec.ofChange descHelpedWrong)

/-- 'rundlelaw16.NodeBack': WHATEVER THE INPUT: true; the input reads as it did. -/
def nodeBackSpec : ChangeSpec := { name := "nodeBack", fn := fun _ => fun
  | [d1, d2, d3, d4] => { results := [.lit (.bool true)], args := [d1, d2, d3, d4] }
  | _ => none }
def nodeBackRow : OpenClaim := { program := "ytngdmkgbldgmiaa", sum := "c8860467e0198a1ee5e4805115e3ac203ad002bac98f453c30e966d7efb3da78", func := "rundle/rundlelaw16.NodeBack", spec := "nodeBack", unfollowed := true, recurses := true, apart := false }
def NodeBackSaid : Prop := nodeBackRow.holds Try.pinned (OpenSpec.ofChange nodeBackSpec)

/-- ITS FALSE NEIGHBOUR: 'it returns false'. Refute it at one input. -/
def nodeBackWrong : ChangeSpec := { name := "nodeBack", fn := fun _ => fun
  | [d1, d2, d3, d4] => { results := [.lit (.bool false)], args := [d1, d2, d3, d4] }
  | _ => none }
def NodeBackWrongFalsely : Prop := nodeBackRow.holds Try.pinned (OpenSpec.ofChange nodeBackWrong)

/-- 'rundlelaw16.NodeKinds': WHATEVER THE INPUT: true; the input reads as it did. -/
def nodeKindsSpec : ChangeSpec := { name := "nodeKinds", fn := fun _ => fun
  | [d] => { results := [.lit (.bool true)], args := [d] }
  | _ => none }
def nodeKindsRow : OpenClaim := { program := "ytngdmkgbldgmiaa", sum := "c8860467e0198a1ee5e4805115e3ac203ad002bac98f453c30e966d7efb3da78", func := "rundle/rundlelaw16.NodeKinds", spec := "nodeKinds", unfollowed := true, recurses := true, apart := false }
def NodeKindsSaid : Prop := nodeKindsRow.holds Try.pinned (OpenSpec.ofChange nodeKindsSpec)

/-- ITS FALSE NEIGHBOUR: 'it returns false'. Refute it at one input. -/
def nodeKindsWrong : ChangeSpec := { name := "nodeKinds", fn := fun _ => fun
  | [d] => { results := [.lit (.bool false)], args := [d] }
  | _ => none }
def NodeKindsWrongFalsely : Prop := nodeKindsRow.holds Try.pinned (OpenSpec.ofChange nodeKindsWrong)

/-- 'rundlelaw16.NodeReads': WHATEVER THE INPUT: true; the input reads as it did. -/
def nodeReadsSpec : ChangeSpec := { name := "nodeReads", fn := fun _ => fun
  | [d1, d2, d3, d4] => { results := [.lit (.bool true)], args := [d1, d2, d3, d4] }
  | _ => none }
def nodeReadsRow : OpenClaim := { program := "ytngdmkgbldgmiaa", sum := "c8860467e0198a1ee5e4805115e3ac203ad002bac98f453c30e966d7efb3da78", func := "rundle/rundlelaw16.NodeReads", spec := "nodeReads", unfollowed := true, recurses := true, apart := false }
def NodeReadsSaid : Prop := nodeReadsRow.holds Try.pinned (OpenSpec.ofChange nodeReadsSpec)

/-- ITS FALSE NEIGHBOUR: 'it returns false'. Refute it at one input. -/
def nodeReadsWrong : ChangeSpec := { name := "nodeReads", fn := fun _ => fun
  | [d1, d2, d3, d4] => { results := [.lit (.bool false)], args := [d1, d2, d3, d4] }
  | _ => none }
def NodeReadsWrongFalsely : Prop := nodeReadsRow.holds Try.pinned (OpenSpec.ofChange nodeReadsWrong)

/-- 'rundlelaw16.NodeShares': WHATEVER THE INPUT: true; the input reads as it did. -/
def nodeSharesSpec : ChangeSpec := { name := "nodeShares", fn := fun _ => fun
  | [d1, d2, d3] => { results := [.lit (.bool true)], args := [d1, d2, d3] }
  | _ => none }
def nodeSharesRow : OpenClaim := { program := "ytngdmkgbldgmiaa", sum := "c8860467e0198a1ee5e4805115e3ac203ad002bac98f453c30e966d7efb3da78", func := "rundle/rundlelaw16.NodeShares", spec := "nodeShares", unfollowed := true, recurses := true, apart := false }
def NodeSharesSaid : Prop := nodeSharesRow.holds Try.pinned (OpenSpec.ofChange nodeSharesSpec)

/-- ITS FALSE NEIGHBOUR: 'it returns false'. Refute it at one input. -/
def nodeSharesWrong : ChangeSpec := { name := "nodeShares", fn := fun _ => fun
  | [d1, d2, d3] => { results := [.lit (.bool false)], args := [d1, d2, d3] }
  | _ => none }
def NodeSharesWrongFalsely : Prop := nodeSharesRow.holds Try.pinned (OpenSpec.ofChange nodeSharesWrong)

/-- 'rundlelaw15.RegPlays': WHATEVER THE INPUT: true; the input reads as it did. -/
def regPlaysSpec : ChangeSpec := { name := "regPlays", fn := fun _ => fun
  | [d1, d2, d3] => { results := [.lit (.bool true)], args := [d1, d2, d3] }
  | _ => none }
def regPlaysRow : OpenClaim := { program := "ytngdmkgbldgmiaa", sum := "c8860467e0198a1ee5e4805115e3ac203ad002bac98f453c30e966d7efb3da78", func := "rundle/rundlelaw15.RegPlays", spec := "regPlays", unfollowed := true, recurses := true, apart := false }
def RegPlaysSaid : Prop := regPlaysRow.holds Try.pinned (OpenSpec.ofChange regPlaysSpec)

/-- ITS FALSE NEIGHBOUR: 'it returns false'. Refute it at one input. -/
def regPlaysWrong : ChangeSpec := { name := "regPlays", fn := fun _ => fun
  | [d1, d2, d3] => { results := [.lit (.bool false)], args := [d1, d2, d3] }
  | _ => none }
def RegPlaysWrongFalsely : Prop := regPlaysRow.holds Try.pinned (OpenSpec.ofChange regPlaysWrong)

/-- 'rundlelaw15.RegKeeps': WHATEVER THE INPUT: true; the input reads as it did. -/
def regKeepsSpec : ChangeSpec := { name := "regKeeps", fn := fun _ => fun
  | [d1, d2] => { results := [.lit (.bool true)], args := [d1, d2] }
  | _ => none }
def regKeepsRow : OpenClaim := { program := "ytngdmkgbldgmiaa", sum := "c8860467e0198a1ee5e4805115e3ac203ad002bac98f453c30e966d7efb3da78", func := "rundle/rundlelaw15.RegKeeps", spec := "regKeeps", unfollowed := true, recurses := true, apart := false }
def RegKeepsSaid : Prop := regKeepsRow.holds Try.pinned (OpenSpec.ofChange regKeepsSpec)

/-- ITS FALSE NEIGHBOUR: 'it returns false'. Refute it at one input. -/
def regKeepsWrong : ChangeSpec := { name := "regKeeps", fn := fun _ => fun
  | [d1, d2] => { results := [.lit (.bool false)], args := [d1, d2] }
  | _ => none }
def RegKeepsWrongFalsely : Prop := regKeepsRow.holds Try.pinned (OpenSpec.ofChange regKeepsWrong)

/- THE SECOND FORM. 'bulk': how many values and letters a reading holds, each counted each time it is reached (what is shared counts as often as it is met; a slice's spare places count too). A statement '..UptoSaid' is the law's where the arguments, and the package variables that the reading takes, are together of bulk at most 1048576: NARROWER than '..Said'. Prove '..Said' where nothing that the law and all that it calls make is longer than what came in: it says more and counts as full. Else prove '..UptoSaid'. A law counts once. -/
mutual
def uptoBulk {H : Type} : DataW H → Nat
  | .lit (.string bytes) => bytes.length + 1
  | .lit _ => 1
  | .nil => 1
  | .ptr d => uptoBulk d + 1
  | .slice elems spare => uptoBulkAll elems + uptoBulkAll spare + 1
  | .agg parts => uptoBulkAll parts + 1
  | .iface _ d => uptoBulk d + 1
  | .map entries => uptoBulkEntries entries + 1
  | .held _ => 1
def uptoBulkAll {H : Type} : List (DataW H) → Nat
  | [] => 0
  | d :: r => uptoBulk d + uptoBulkAll r
def uptoBulkEntries {H : Type} : List (Lit × DataW H) → Nat
  | [] => 0
  | x :: r => uptoBulkEntry x + uptoBulkEntries r
def uptoBulkEntry {H : Type} : Lit × DataW H → Nat
  | (.string bytes, d) => bytes.length + uptoBulk d + 1
  | (_, d) => uptoBulk d + 1
 end
def uptoSmall : (H : Type) → List (DataW H) → Bool := fun _ ds => decide (uptoBulkAll ds ≤ 1048576)
def OpenSpec.upto (s : _root_.Go.ChangeSpec) : _root_.Go.OpenSpec := { _root_.Go.OpenSpec.ofChange s with cond := some uptoSmall }

/-- 'rundlelaw13.StepCounts', WHERE WHAT IT READS IS OF BULK AT MOST 1048576: true; the input reads as it did. -/
def stepCountsUptoRow : OpenClaim := { program := "ytngdmkgbldgmiaa", sum := "c8860467e0198a1ee5e4805115e3ac203ad002bac98f453c30e966d7efb3da78", func := "rundle/rundlelaw13.StepCounts", spec := "stepCounts", unfollowed := true, recurses := true, apart := false, narrowed := true }
def StepCountsUptoSaid : Prop := stepCountsUptoRow.holds Try.pinned (OpenSpec.upto stepCountsSpec)

/-- 'rundlelaw13.StepTurns', WHERE WHAT IT READS IS OF BULK AT MOST 1048576: true; the input reads as it did. -/
def stepTurnsUptoRow : OpenClaim := { program := "ytngdmkgbldgmiaa", sum := "c8860467e0198a1ee5e4805115e3ac203ad002bac98f453c30e966d7efb3da78", func := "rundle/rundlelaw13.StepTurns", spec := "stepTurns", unfollowed := true, recurses := true, apart := false, narrowed := true }
def StepTurnsUptoSaid : Prop := stepTurnsUptoRow.holds Try.pinned (OpenSpec.upto stepTurnsSpec)

/-- 'rundlelaw13.StepAlone', WHERE WHAT IT READS IS OF BULK AT MOST 1048576: true; the input reads as it did. -/
def stepAloneUptoRow : OpenClaim := { program := "ytngdmkgbldgmiaa", sum := "c8860467e0198a1ee5e4805115e3ac203ad002bac98f453c30e966d7efb3da78", func := "rundle/rundlelaw13.StepAlone", spec := "stepAlone", unfollowed := true, recurses := true, apart := false, narrowed := true }
def StepAloneUptoSaid : Prop := stepAloneUptoRow.holds Try.pinned (OpenSpec.upto stepAloneSpec)

/-- 'rundlelaw14.DescPlays', WHERE WHAT IT READS IS OF BULK AT MOST 1048576: true; the input reads as it did. -/
def descPlaysUptoRow : OpenClaim := { program := "ytngdmkgbldgmiaa", sum := "c8860467e0198a1ee5e4805115e3ac203ad002bac98f453c30e966d7efb3da78", func := "rundle/rundlelaw14.DescPlays", spec := "descPlays", unfollowed := true, recurses := true, apart := false, narrowed := true }
def DescPlaysUptoSaid : Prop := descPlaysUptoRow.holds Try.pinned (OpenSpec.upto descPlaysSpec)

/-- 'rundlelaw14.DescCounts', WHERE WHAT IT READS IS OF BULK AT MOST 1048576: true; the input reads as it did. -/
def descCountsUptoRow : OpenClaim := { program := "ytngdmkgbldgmiaa", sum := "c8860467e0198a1ee5e4805115e3ac203ad002bac98f453c30e966d7efb3da78", func := "rundle/rundlelaw14.DescCounts", spec := "descCounts", unfollowed := true, recurses := true, apart := false, narrowed := true }
def DescCountsUptoSaid : Prop := descCountsUptoRow.holds Try.pinned (OpenSpec.upto descCountsSpec)

/-- 'rundlelaw14.DescHelped', WHERE WHAT IT READS IS OF BULK AT MOST 1048576: true; the input reads as it did. -/
def descHelpedUptoRow : OpenClaim := { program := "ytngdmkgbldgmiaa", sum := "c8860467e0198a1ee5e4805115e3ac203ad002bac98f453c30e966d7efb3da78", func := "rundle/rundlelaw14.DescHelped", spec := "descHelped", unfollowed := true, recurses := true, apart := false, narrowed := true }
def DescHelpedUptoSaid : Prop := descHelpedUptoRow.holds Try.pinned (OpenSpec.upto descHelpedSpec)

/-- 'rundlelaw16.NodeBack', WHERE WHAT IT READS IS OF BULK AT MOST 1048576: true; the input reads as it did. -/
def nodeBackUptoRow : OpenClaim := { program := "ytngdmkgbldgmiaa", sum := "c8860467e0198a1ee5e4805115e3ac203ad002bac98f453c30e966d7efb3da78", func := "rundle/rundlelaw16.NodeBack", spec := "nodeBack", unfollowed := true, recurses := true, apart := false, narrowed := true }
def NodeBackUptoSaid : Prop := nodeBackUptoRow.holds Try.pinned (OpenSpec.upto nodeBackSpec)

/-- 'rundlelaw16.NodeKinds', WHERE WHAT IT READS IS OF BULK AT MOST 1048576: true; the input reads as it did. -/
def nodeKindsUptoRow : OpenClaim := { program := "ytngdmkgbldgmiaa", sum := "c8860467e0198a1ee5e4805115e3ac203ad002bac98f453c30e966d7efb3da78", func := "rundle/rundlelaw16.NodeKinds", spec := "nodeKinds", unfollowed := true, recurses := true, apart := false, narrowed := true }
def NodeKindsUptoSaid : Prop := nodeKindsUptoRow.holds Try.pinned (OpenSpec.upto nodeKindsSpec)

/-- 'rundlelaw16.NodeReads', WHERE WHAT IT READS IS OF BULK AT MOST 1048576: true; the input reads as it did. -/
def nodeReadsUptoRow : OpenClaim := { program := "ytngdmkgbldgmiaa", sum := "c8860467e0198a1ee5e4805115e3ac203ad002bac98f453c30e966d7efb3da78", func := "rundle/rundlelaw16.NodeReads", spec := "nodeReads", unfollowed := true, recurses := true, apart := false, narrowed := true }
def NodeReadsUptoSaid : Prop := nodeReadsUptoRow.holds Try.pinned (OpenSpec.upto nodeReadsSpec)

/-- 'rundlelaw16.NodeShares', WHERE WHAT IT READS IS OF BULK AT MOST 1048576: true; the input reads as it did. -/
def nodeSharesUptoRow : OpenClaim := { program := "ytngdmkgbldgmiaa", sum := "c8860467e0198a1ee5e4805115e3ac203ad002bac98f453c30e966d7efb3da78", func := "rundle/rundlelaw16.NodeShares", spec := "nodeShares", unfollowed := true, recurses := true, apart := false, narrowed := true }
def NodeSharesUptoSaid : Prop := nodeSharesUptoRow.holds Try.pinned (OpenSpec.upto nodeSharesSpec)

/-- 'rundlelaw15.RegPlays', WHERE WHAT IT READS IS OF BULK AT MOST 1048576: true; the input reads as it did. -/
def regPlaysUptoRow : OpenClaim := { program := "ytngdmkgbldgmiaa", sum := "c8860467e0198a1ee5e4805115e3ac203ad002bac98f453c30e966d7efb3da78", func := "rundle/rundlelaw15.RegPlays", spec := "regPlays", unfollowed := true, recurses := true, apart := false, narrowed := true }
def RegPlaysUptoSaid : Prop := regPlaysUptoRow.holds Try.pinned (OpenSpec.upto regPlaysSpec)

/-- 'rundlelaw15.RegKeeps', WHERE WHAT IT READS IS OF BULK AT MOST 1048576: true; the input reads as it did. -/
def regKeepsUptoRow : OpenClaim := { program := "ytngdmkgbldgmiaa", sum := "c8860467e0198a1ee5e4805115e3ac203ad002bac98f453c30e966d7efb3da78", func := "rundle/rundlelaw15.RegKeeps", spec := "regKeeps", unfollowed := true, recurses := true, apart := false, narrowed := true }
def RegKeepsUptoSaid : Prop := regKeepsUptoRow.holds Try.pinned (OpenSpec.upto regKeepsSpec)

end Rows
end Go.Proofs.Ytngdmkgbldgmiaa
