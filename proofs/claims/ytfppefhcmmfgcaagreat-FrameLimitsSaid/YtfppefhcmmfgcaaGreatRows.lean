/-
  NARROWER THAN 'FOR EVERY INPUT', by the rows' own cells (each row's printed sentence says how): KernelLits: loops · KernelFull: loops.
  DERIVED. THE GIVEN ROWS OF THIS SEAT. 17 by the template 'for every input the law returns true; each argument reads behind the call as it read before'; 0 by the template 'total and deterministic' (their statements: YtfppefhcmmfgcaaGreatTotals.lean).
  GIVEN WITH THE SEED: the statements are not yours to turn. If you find one false, say at which input.
  Laid BY PROGRAM, IN A SANDBOX (cutbox-rows.mjs): the forced cells as the released guide's own fill.sh prints them over the translation 4e8d20fa00f9a07e… (all of the seat's roots in one cut). By AI agents, Wed Nov 11 2026. No macro, syntax, notation, axiom, sorry.
-/
import Derived.Test.YtfppefhcmmfgcaaGreatChecked
import GoSem.Claim
import GoSem.ClaimJoined
import GoSem.ClaimMapViews
import Derived.JoinedTies
import Derived.KernelRfl
namespace Go.Proofs.YtfppefhcmmfgcaaGreat
/- THE CELL 'sum', in the pinned program and in every row, IS THE sha256 OF THE DUMP (.gsa) THAT YtfppefhcmmfgcaaGreatProg.lean LOADS. Nothing in Lean hashes anything: it is a label: what it is worth is what the hold of that sum in a sandbox is worth. -/
noncomputable def Tryz.pinned : Pinned := { name := "ytfppefhcmmfgcaagreat", sum := "4e8d20fa00f9a07eb4e6fed971ed6b39e2e74af4c7eff427af8b7d7677334272", checked := Tryz.checked }
namespace Rows
def none {H : Type} : Left H := { results := [], args := [] }

/-- 'vivariumlaw13.FindHits': WHATEVER THE INPUT: true; the input reads as it did. -/
def findHitsSpec : ChangeSpec := { name := "findHits", fn := fun _ => fun
  | [d1, d2, d3, d4] => { results := [.lit (.bool true)], args := [d1, d2, d3, d4] }
  | _ => none }
def findHitsRow : OpenClaim := { program := "ytfppefhcmmfgcaagreat", sum := "4e8d20fa00f9a07eb4e6fed971ed6b39e2e74af4c7eff427af8b7d7677334272", func := "vivarium/vivariumlaw13.FindHits", spec := "findHits", inPlace := ["internal/bytealg.IndexByteString"], unfollowed := true, recurses := true, apart := false }
def FindHitsSaid : Prop := findHitsRow.holds Tryz.pinned (OpenSpec.ofChange findHitsSpec)

/-- ITS FALSE NEIGHBOUR: 'it returns false'. Refute it at one input. -/
def findHitsWrong : ChangeSpec := { name := "findHits", fn := fun _ => fun
  | [d1, d2, d3, d4] => { results := [.lit (.bool false)], args := [d1, d2, d3, d4] }
  | _ => none }
def FindHitsWrongFalsely : Prop := findHitsRow.holds Tryz.pinned (OpenSpec.ofChange findHitsWrong)

/-- 'vivariumlaw16.FrameLimits': WHATEVER THE INPUT: true; the input reads as it did. -/
def frameLimitsSpec : ChangeSpec := { name := "frameLimits", fn := fun _ => fun
  | [d1, d2] => { results := [.lit (.bool true)], args := [d1, d2] }
  | _ => none }
def frameLimitsRow : OpenClaim := { program := "ytfppefhcmmfgcaagreat", sum := "4e8d20fa00f9a07eb4e6fed971ed6b39e2e74af4c7eff427af8b7d7677334272", func := "vivarium/vivariumlaw16.FrameLimits", spec := "frameLimits", inPlace := ["internal/bytealg.IndexByteString"], unfollowed := true, recurses := true, apart := false }
def FrameLimitsSaid : Prop := frameLimitsRow.holds Tryz.pinned (OpenSpec.ofChange frameLimitsSpec)

/-- ITS FALSE NEIGHBOUR: 'it returns false'. Refute it at one input. -/
def frameLimitsWrong : ChangeSpec := { name := "frameLimits", fn := fun _ => fun
  | [d1, d2] => { results := [.lit (.bool false)], args := [d1, d2] }
  | _ => none }
def FrameLimitsWrongFalsely : Prop := frameLimitsRow.holds Tryz.pinned (OpenSpec.ofChange frameLimitsWrong)

/-- 'vivariumlaw12.KernelTexts': WHATEVER THE INPUT: true; the input reads as it did. -/
def kernelTextsSpec : ChangeSpec := { name := "kernelTexts", fn := fun _ => fun
  | [d1, d2] => { results := [.lit (.bool true)], args := [d1, d2] }
  | _ => none }
def kernelTextsRow : OpenClaim := { program := "ytfppefhcmmfgcaagreat", sum := "4e8d20fa00f9a07eb4e6fed971ed6b39e2e74af4c7eff427af8b7d7677334272", func := "vivarium/vivariumlaw12.KernelTexts", spec := "kernelTexts", inPlace := ["internal/bytealg.IndexByteString"], unfollowed := true, recurses := true, apart := false }
def KernelTextsSaid : Prop := kernelTextsRow.holds Tryz.pinned (OpenSpec.ofChange kernelTextsSpec)

/-- ITS FALSE NEIGHBOUR: 'it returns false'. Refute it at one input. -/
def kernelTextsWrong : ChangeSpec := { name := "kernelTexts", fn := fun _ => fun
  | [d1, d2] => { results := [.lit (.bool false)], args := [d1, d2] }
  | _ => none }
def KernelTextsWrongFalsely : Prop := kernelTextsRow.holds Tryz.pinned (OpenSpec.ofChange kernelTextsWrong)

/-- 'vivariumlaw12.KernelNumbers': WHATEVER THE INPUT: true; the input reads as it did. -/
def kernelNumbersSpec : ChangeSpec := { name := "kernelNumbers", fn := fun _ => fun
  | [d1, d2] => { results := [.lit (.bool true)], args := [d1, d2] }
  | _ => none }
def kernelNumbersRow : OpenClaim := { program := "ytfppefhcmmfgcaagreat", sum := "4e8d20fa00f9a07eb4e6fed971ed6b39e2e74af4c7eff427af8b7d7677334272", func := "vivarium/vivariumlaw12.KernelNumbers", spec := "kernelNumbers", inPlace := ["internal/bytealg.IndexByteString"], unfollowed := true, recurses := true, apart := false }
def KernelNumbersSaid : Prop := kernelNumbersRow.holds Tryz.pinned (OpenSpec.ofChange kernelNumbersSpec)

/-- ITS FALSE NEIGHBOUR: 'it returns false'. Refute it at one input. -/
def kernelNumbersWrong : ChangeSpec := { name := "kernelNumbers", fn := fun _ => fun
  | [d1, d2] => { results := [.lit (.bool false)], args := [d1, d2] }
  | _ => none }
def KernelNumbersWrongFalsely : Prop := kernelNumbersRow.holds Tryz.pinned (OpenSpec.ofChange kernelNumbersWrong)

/-- 'vivariumlaw13.FindAbove': WHATEVER THE INPUT: true; the input reads as it did. -/
def findAboveSpec : ChangeSpec := { name := "findAbove", fn := fun _ => fun
  | [d] => { results := [.lit (.bool true)], args := [d] }
  | _ => none }
def findAboveRow : OpenClaim := { program := "ytfppefhcmmfgcaagreat", sum := "4e8d20fa00f9a07eb4e6fed971ed6b39e2e74af4c7eff427af8b7d7677334272", func := "vivarium/vivariumlaw13.FindAbove", spec := "findAbove", inPlace := ["internal/bytealg.IndexByteString"], unfollowed := true, recurses := true, apart := false }
def FindAboveSaid : Prop := findAboveRow.holds Tryz.pinned (OpenSpec.ofChange findAboveSpec)

/-- ITS FALSE NEIGHBOUR: 'it returns false'. Refute it at one input. -/
def findAboveWrong : ChangeSpec := { name := "findAbove", fn := fun _ => fun
  | [d] => { results := [.lit (.bool false)], args := [d] }
  | _ => none }
def FindAboveWrongFalsely : Prop := findAboveRow.holds Tryz.pinned (OpenSpec.ofChange findAboveWrong)

/-- 'vivariumlaw12.KernelRoom': WHATEVER THE INPUT: true; the input reads as it did. -/
def kernelRoomSpec : ChangeSpec := { name := "kernelRoom", fn := fun _ => fun
  | [d] => { results := [.lit (.bool true)], args := [d] }
  | _ => none }
def kernelRoomRow : OpenClaim := { program := "ytfppefhcmmfgcaagreat", sum := "4e8d20fa00f9a07eb4e6fed971ed6b39e2e74af4c7eff427af8b7d7677334272", func := "vivarium/vivariumlaw12.KernelRoom", spec := "kernelRoom", inPlace := ["internal/bytealg.IndexByteString"], unfollowed := true, recurses := true, apart := false }
def KernelRoomSaid : Prop := kernelRoomRow.holds Tryz.pinned (OpenSpec.ofChange kernelRoomSpec)

/-- ITS FALSE NEIGHBOUR: 'it returns false'. Refute it at one input. -/
def kernelRoomWrong : ChangeSpec := { name := "kernelRoom", fn := fun _ => fun
  | [d] => { results := [.lit (.bool false)], args := [d] }
  | _ => none }
def KernelRoomWrongFalsely : Prop := kernelRoomRow.holds Tryz.pinned (OpenSpec.ofChange kernelRoomWrong)

/-- 'vivariumlaw12.KernelForeign': WHATEVER THE INPUT: true; the input reads as it did. -/
def kernelForeignSpec : ChangeSpec := { name := "kernelForeign", fn := fun _ => fun
  | [d1, d2] => { results := [.lit (.bool true)], args := [d1, d2] }
  | _ => none }
def kernelForeignRow : OpenClaim := { program := "ytfppefhcmmfgcaagreat", sum := "4e8d20fa00f9a07eb4e6fed971ed6b39e2e74af4c7eff427af8b7d7677334272", func := "vivarium/vivariumlaw12.KernelForeign", spec := "kernelForeign", inPlace := ["internal/bytealg.IndexByteString"], unfollowed := true, recurses := true, apart := false }
def KernelForeignSaid : Prop := kernelForeignRow.holds Tryz.pinned (OpenSpec.ofChange kernelForeignSpec)

/-- ITS FALSE NEIGHBOUR: 'it returns false'. Refute it at one input. -/
def kernelForeignWrong : ChangeSpec := { name := "kernelForeign", fn := fun _ => fun
  | [d1, d2] => { results := [.lit (.bool false)], args := [d1, d2] }
  | _ => none }
def KernelForeignWrongFalsely : Prop := kernelForeignRow.holds Tryz.pinned (OpenSpec.ofChange kernelForeignWrong)

/-- 'vivariumlaw12.KernelLits': WHATEVER THE INPUT: true; the input reads as it did. -/
def kernelLitsSpec : ChangeSpec := { name := "kernelLits", fn := fun _ => fun
  | [d] => { results := [.lit (.bool true)], args := [d] }
  | _ => none }
def kernelLitsRow : OpenClaim := { program := "ytfppefhcmmfgcaagreat", sum := "4e8d20fa00f9a07eb4e6fed971ed6b39e2e74af4c7eff427af8b7d7677334272", func := "vivarium/vivariumlaw12.KernelLits", spec := "kernelLits", inPlace := ["internal/bytealg.IndexByteString"], unfollowed := true, recurses := true, loops := true, apart := false }
def KernelLitsSaid : Prop := kernelLitsRow.holds Tryz.pinned (OpenSpec.ofChange kernelLitsSpec)

/-- ITS FALSE NEIGHBOUR: 'it returns false'. Refute it at one input. -/
def kernelLitsWrong : ChangeSpec := { name := "kernelLits", fn := fun _ => fun
  | [d] => { results := [.lit (.bool false)], args := [d] }
  | _ => none }
def KernelLitsWrongFalsely : Prop := kernelLitsRow.holds Tryz.pinned (OpenSpec.ofChange kernelLitsWrong)

/-- 'vivariumlaw12.KernelFull': WHATEVER THE INPUT: true; the input reads as it did. -/
def kernelFullSpec : ChangeSpec := { name := "kernelFull", fn := fun _ => fun
  | [d1, d2] => { results := [.lit (.bool true)], args := [d1, d2] }
  | _ => none }
def kernelFullRow : OpenClaim := { program := "ytfppefhcmmfgcaagreat", sum := "4e8d20fa00f9a07eb4e6fed971ed6b39e2e74af4c7eff427af8b7d7677334272", func := "vivarium/vivariumlaw12.KernelFull", spec := "kernelFull", inPlace := ["internal/bytealg.IndexByteString"], unfollowed := true, recurses := true, loops := true, apart := false }
def KernelFullSaid : Prop := kernelFullRow.holds Tryz.pinned (OpenSpec.ofChange kernelFullSpec)

/-- ITS FALSE NEIGHBOUR: 'it returns false'. Refute it at one input. -/
def kernelFullWrong : ChangeSpec := { name := "kernelFull", fn := fun _ => fun
  | [d1, d2] => { results := [.lit (.bool false)], args := [d1, d2] }
  | _ => none }
def KernelFullWrongFalsely : Prop := kernelFullRow.holds Tryz.pinned (OpenSpec.ofChange kernelFullWrong)

/-- 'vivariumlaw12.KernelTable': WHATEVER THE INPUT: true; the input reads as it did. -/
def kernelTableSpec : ChangeSpec := { name := "kernelTable", fn := fun _ => fun
  | [d] => { results := [.lit (.bool true)], args := [d] }
  | _ => none }
def kernelTableRow : OpenClaim := { program := "ytfppefhcmmfgcaagreat", sum := "4e8d20fa00f9a07eb4e6fed971ed6b39e2e74af4c7eff427af8b7d7677334272", func := "vivarium/vivariumlaw12.KernelTable", spec := "kernelTable", inPlace := ["internal/bytealg.IndexByteString"], unfollowed := true, recurses := true, apart := false }
def KernelTableSaid : Prop := kernelTableRow.holds Tryz.pinned (OpenSpec.ofChange kernelTableSpec)

/-- ITS FALSE NEIGHBOUR: 'it returns false'. Refute it at one input. -/
def kernelTableWrong : ChangeSpec := { name := "kernelTable", fn := fun _ => fun
  | [d] => { results := [.lit (.bool false)], args := [d] }
  | _ => none }
def KernelTableWrongFalsely : Prop := kernelTableRow.holds Tryz.pinned (OpenSpec.ofChange kernelTableWrong)

/-- 'vivariumlaw13.FindLooks': WHATEVER THE INPUT: true; the input reads as it did. -/
def findLooksSpec : ChangeSpec := { name := "findLooks", fn := fun _ => fun
  | [d] => { results := [.lit (.bool true)], args := [d] }
  | _ => none }
def findLooksRow : OpenClaim := { program := "ytfppefhcmmfgcaagreat", sum := "4e8d20fa00f9a07eb4e6fed971ed6b39e2e74af4c7eff427af8b7d7677334272", func := "vivarium/vivariumlaw13.FindLooks", spec := "findLooks", inPlace := ["internal/bytealg.IndexByteString"], unfollowed := true, recurses := true, apart := false }
def FindLooksSaid : Prop := findLooksRow.holds Tryz.pinned (OpenSpec.ofChange findLooksSpec)

/-- ITS FALSE NEIGHBOUR: 'it returns false'. Refute it at one input. -/
def findLooksWrong : ChangeSpec := { name := "findLooks", fn := fun _ => fun
  | [d] => { results := [.lit (.bool false)], args := [d] }
  | _ => none }
def FindLooksWrongFalsely : Prop := findLooksRow.holds Tryz.pinned (OpenSpec.ofChange findLooksWrong)

/-- 'vivariumlaw13.FindSuper': WHATEVER THE INPUT: true; the input reads as it did. -/
def findSuperSpec : ChangeSpec := { name := "findSuper", fn := fun _ => fun
  | [d] => { results := [.lit (.bool true)], args := [d] }
  | _ => none }
def findSuperRow : OpenClaim := { program := "ytfppefhcmmfgcaagreat", sum := "4e8d20fa00f9a07eb4e6fed971ed6b39e2e74af4c7eff427af8b7d7677334272", func := "vivarium/vivariumlaw13.FindSuper", spec := "findSuper", inPlace := ["internal/bytealg.IndexByteString"], unfollowed := true, recurses := true, apart := false }
def FindSuperSaid : Prop := findSuperRow.holds Tryz.pinned (OpenSpec.ofChange findSuperSpec)

/-- ITS FALSE NEIGHBOUR: 'it returns false'. Refute it at one input. -/
def findSuperWrong : ChangeSpec := { name := "findSuper", fn := fun _ => fun
  | [d] => { results := [.lit (.bool false)], args := [d] }
  | _ => none }
def FindSuperWrongFalsely : Prop := findSuperRow.holds Tryz.pinned (OpenSpec.ofChange findSuperWrong)

/-- 'vivariumlaw13.FindSame': WHATEVER THE INPUT: true; the input reads as it did. -/
def findSameSpec : ChangeSpec := { name := "findSame", fn := fun _ => fun
  | [d] => { results := [.lit (.bool true)], args := [d] }
  | _ => none }
def findSameRow : OpenClaim := { program := "ytfppefhcmmfgcaagreat", sum := "4e8d20fa00f9a07eb4e6fed971ed6b39e2e74af4c7eff427af8b7d7677334272", func := "vivarium/vivariumlaw13.FindSame", spec := "findSame", inPlace := ["internal/bytealg.IndexByteString"], unfollowed := true, recurses := true, apart := false }
def FindSameSaid : Prop := findSameRow.holds Tryz.pinned (OpenSpec.ofChange findSameSpec)

/-- ITS FALSE NEIGHBOUR: 'it returns false'. Refute it at one input. -/
def findSameWrong : ChangeSpec := { name := "findSame", fn := fun _ => fun
  | [d] => { results := [.lit (.bool false)], args := [d] }
  | _ => none }
def FindSameWrongFalsely : Prop := findSameRow.holds Tryz.pinned (OpenSpec.ofChange findSameWrong)

/-- 'vivariumlaw16.FrameHidden': WHATEVER THE INPUT: true; the input reads as it did. -/
def frameHiddenSpec : ChangeSpec := { name := "frameHidden", fn := fun _ => fun
  | [d] => { results := [.lit (.bool true)], args := [d] }
  | _ => none }
def frameHiddenRow : OpenClaim := { program := "ytfppefhcmmfgcaagreat", sum := "4e8d20fa00f9a07eb4e6fed971ed6b39e2e74af4c7eff427af8b7d7677334272", func := "vivarium/vivariumlaw16.FrameHidden", spec := "frameHidden", inPlace := ["internal/bytealg.IndexByteString"], unfollowed := true, recurses := true, apart := false }
def FrameHiddenSaid : Prop := frameHiddenRow.holds Tryz.pinned (OpenSpec.ofChange frameHiddenSpec)

/-- ITS FALSE NEIGHBOUR: 'it returns false'. Refute it at one input. -/
def frameHiddenWrong : ChangeSpec := { name := "frameHidden", fn := fun _ => fun
  | [d] => { results := [.lit (.bool false)], args := [d] }
  | _ => none }
def FrameHiddenWrongFalsely : Prop := frameHiddenRow.holds Tryz.pinned (OpenSpec.ofChange frameHiddenWrong)

/-- 'vivariumlaw16.FramePlays': WHATEVER THE INPUT: true; the input reads as it did. -/
def framePlaysSpec : ChangeSpec := { name := "framePlays", fn := fun _ => fun
  | [d] => { results := [.lit (.bool true)], args := [d] }
  | _ => none }
def framePlaysRow : OpenClaim := { program := "ytfppefhcmmfgcaagreat", sum := "4e8d20fa00f9a07eb4e6fed971ed6b39e2e74af4c7eff427af8b7d7677334272", func := "vivarium/vivariumlaw16.FramePlays", spec := "framePlays", inPlace := ["internal/bytealg.IndexByteString"], unfollowed := true, recurses := true, apart := false }
def FramePlaysSaid : Prop := framePlaysRow.holds Tryz.pinned (OpenSpec.ofChange framePlaysSpec)

/-- ITS FALSE NEIGHBOUR: 'it returns false'. Refute it at one input. -/
def framePlaysWrong : ChangeSpec := { name := "framePlays", fn := fun _ => fun
  | [d] => { results := [.lit (.bool false)], args := [d] }
  | _ => none }
def FramePlaysWrongFalsely : Prop := framePlaysRow.holds Tryz.pinned (OpenSpec.ofChange framePlaysWrong)

/-- 'vivariumlaw16.FrameOwns': WHATEVER THE INPUT: true; the input reads as it did. -/
def frameOwnsSpec : ChangeSpec := { name := "frameOwns", fn := fun _ => fun
  | [d] => { results := [.lit (.bool true)], args := [d] }
  | _ => none }
def frameOwnsRow : OpenClaim := { program := "ytfppefhcmmfgcaagreat", sum := "4e8d20fa00f9a07eb4e6fed971ed6b39e2e74af4c7eff427af8b7d7677334272", func := "vivarium/vivariumlaw16.FrameOwns", spec := "frameOwns", inPlace := ["internal/bytealg.IndexByteString"], unfollowed := true, recurses := true, apart := false }
def FrameOwnsSaid : Prop := frameOwnsRow.holds Tryz.pinned (OpenSpec.ofChange frameOwnsSpec)

/-- ITS FALSE NEIGHBOUR: 'it returns false'. Refute it at one input. -/
def frameOwnsWrong : ChangeSpec := { name := "frameOwns", fn := fun _ => fun
  | [d] => { results := [.lit (.bool false)], args := [d] }
  | _ => none }
def FrameOwnsWrongFalsely : Prop := frameOwnsRow.holds Tryz.pinned (OpenSpec.ofChange frameOwnsWrong)

/-- 'vivariumlaw16.FrameSenders': WHATEVER THE INPUT: true; the input reads as it did. -/
def frameSendersSpec : ChangeSpec := { name := "frameSenders", fn := fun _ => fun
  | [d] => { results := [.lit (.bool true)], args := [d] }
  | _ => none }
def frameSendersRow : OpenClaim := { program := "ytfppefhcmmfgcaagreat", sum := "4e8d20fa00f9a07eb4e6fed971ed6b39e2e74af4c7eff427af8b7d7677334272", func := "vivarium/vivariumlaw16.FrameSenders", spec := "frameSenders", inPlace := ["internal/bytealg.IndexByteString"], unfollowed := true, recurses := true, apart := false }
def FrameSendersSaid : Prop := frameSendersRow.holds Tryz.pinned (OpenSpec.ofChange frameSendersSpec)

/-- ITS FALSE NEIGHBOUR: 'it returns false'. Refute it at one input. -/
def frameSendersWrong : ChangeSpec := { name := "frameSenders", fn := fun _ => fun
  | [d] => { results := [.lit (.bool false)], args := [d] }
  | _ => none }
def FrameSendersWrongFalsely : Prop := frameSendersRow.holds Tryz.pinned (OpenSpec.ofChange frameSendersWrong)

/- THE SECOND FORM. 'bulk': how many values and letters a reading holds, each counted each time it is reached (what is shared counts as often as it is met; a slice's spare places count too). A statement '..UptoSaid' is the law's where the arguments, and the package variables that the reading takes, are together of bulk at most 1048576: NARROWER than '..Said'. Prove '..Said' where nothing that the law and all that it calls make is longer than what came in: it says more and counts as full. Else prove '..UptoSaid'. A law counts once. -/
mutual
def uptoBulk {H : Type} : DataW H → Nat
  | .lit (.string bytes) => bytes.length + 1
  | .lit _ => 1
  | .nil => 1
  | .ptr d => uptoBulk d + 1
  | .slice elems spare => uptoBulkAll elems + uptoBulkAll spare + 1
  | .agg parts => uptoBulkAll parts + 1
  | .iface _ d => uptoBulk d + 1
  | .map entries => uptoBulkEntries entries + 1
  | .held _ => 1
def uptoBulkAll {H : Type} : List (DataW H) → Nat
  | [] => 0
  | d :: r => uptoBulk d + uptoBulkAll r
def uptoBulkEntries {H : Type} : List (Lit × DataW H) → Nat
  | [] => 0
  | x :: r => uptoBulkEntry x + uptoBulkEntries r
def uptoBulkEntry {H : Type} : Lit × DataW H → Nat
  | (.string bytes, d) => bytes.length + uptoBulk d + 1
  | (_, d) => uptoBulk d + 1
 end
def uptoSmall : (H : Type) → List (DataW H) → Bool := fun _ ds => decide (uptoBulkAll ds ≤ 1048576)
def OpenSpec.upto (s : _root_.Go.ChangeSpec) : _root_.Go.OpenSpec := { _root_.Go.OpenSpec.ofChange s with cond := some uptoSmall }

/-- 'vivariumlaw13.FindHits', WHERE WHAT IT READS IS OF BULK AT MOST 1048576: true; the input reads as it did. -/
def findHitsUptoRow : OpenClaim := { program := "ytfppefhcmmfgcaagreat", sum := "4e8d20fa00f9a07eb4e6fed971ed6b39e2e74af4c7eff427af8b7d7677334272", func := "vivarium/vivariumlaw13.FindHits", spec := "findHits", inPlace := ["internal/bytealg.IndexByteString"], unfollowed := true, recurses := true, apart := false, narrowed := true }
def FindHitsUptoSaid : Prop := findHitsUptoRow.holds Tryz.pinned (OpenSpec.upto findHitsSpec)

/-- 'vivariumlaw16.FrameLimits', WHERE WHAT IT READS IS OF BULK AT MOST 1048576: true; the input reads as it did. -/
def frameLimitsUptoRow : OpenClaim := { program := "ytfppefhcmmfgcaagreat", sum := "4e8d20fa00f9a07eb4e6fed971ed6b39e2e74af4c7eff427af8b7d7677334272", func := "vivarium/vivariumlaw16.FrameLimits", spec := "frameLimits", inPlace := ["internal/bytealg.IndexByteString"], unfollowed := true, recurses := true, apart := false, narrowed := true }
def FrameLimitsUptoSaid : Prop := frameLimitsUptoRow.holds Tryz.pinned (OpenSpec.upto frameLimitsSpec)

/-- 'vivariumlaw12.KernelTexts', WHERE WHAT IT READS IS OF BULK AT MOST 1048576: true; the input reads as it did. -/
def kernelTextsUptoRow : OpenClaim := { program := "ytfppefhcmmfgcaagreat", sum := "4e8d20fa00f9a07eb4e6fed971ed6b39e2e74af4c7eff427af8b7d7677334272", func := "vivarium/vivariumlaw12.KernelTexts", spec := "kernelTexts", inPlace := ["internal/bytealg.IndexByteString"], unfollowed := true, recurses := true, apart := false, narrowed := true }
def KernelTextsUptoSaid : Prop := kernelTextsUptoRow.holds Tryz.pinned (OpenSpec.upto kernelTextsSpec)

/-- 'vivariumlaw12.KernelNumbers', WHERE WHAT IT READS IS OF BULK AT MOST 1048576: true; the input reads as it did. -/
def kernelNumbersUptoRow : OpenClaim := { program := "ytfppefhcmmfgcaagreat", sum := "4e8d20fa00f9a07eb4e6fed971ed6b39e2e74af4c7eff427af8b7d7677334272", func := "vivarium/vivariumlaw12.KernelNumbers", spec := "kernelNumbers", inPlace := ["internal/bytealg.IndexByteString"], unfollowed := true, recurses := true, apart := false, narrowed := true }
def KernelNumbersUptoSaid : Prop := kernelNumbersUptoRow.holds Tryz.pinned (OpenSpec.upto kernelNumbersSpec)

/-- 'vivariumlaw13.FindAbove', WHERE WHAT IT READS IS OF BULK AT MOST 1048576: true; the input reads as it did. -/
def findAboveUptoRow : OpenClaim := { program := "ytfppefhcmmfgcaagreat", sum := "4e8d20fa00f9a07eb4e6fed971ed6b39e2e74af4c7eff427af8b7d7677334272", func := "vivarium/vivariumlaw13.FindAbove", spec := "findAbove", inPlace := ["internal/bytealg.IndexByteString"], unfollowed := true, recurses := true, apart := false, narrowed := true }
def FindAboveUptoSaid : Prop := findAboveUptoRow.holds Tryz.pinned (OpenSpec.upto findAboveSpec)

/-- 'vivariumlaw12.KernelRoom', WHERE WHAT IT READS IS OF BULK AT MOST 1048576: true; the input reads as it did. -/
def kernelRoomUptoRow : OpenClaim := { program := "ytfppefhcmmfgcaagreat", sum := "4e8d20fa00f9a07eb4e6fed971ed6b39e2e74af4c7eff427af8b7d7677334272", func := "vivarium/vivariumlaw12.KernelRoom", spec := "kernelRoom", inPlace := ["internal/bytealg.IndexByteString"], unfollowed := true, recurses := true, apart := false, narrowed := true }
def KernelRoomUptoSaid : Prop := kernelRoomUptoRow.holds Tryz.pinned (OpenSpec.upto kernelRoomSpec)

/-- 'vivariumlaw12.KernelForeign', WHERE WHAT IT READS IS OF BULK AT MOST 1048576: true; the input reads as it did. -/
def kernelForeignUptoRow : OpenClaim := { program := "ytfppefhcmmfgcaagreat", sum := "4e8d20fa00f9a07eb4e6fed971ed6b39e2e74af4c7eff427af8b7d7677334272", func := "vivarium/vivariumlaw12.KernelForeign", spec := "kernelForeign", inPlace := ["internal/bytealg.IndexByteString"], unfollowed := true, recurses := true, apart := false, narrowed := true }
def KernelForeignUptoSaid : Prop := kernelForeignUptoRow.holds Tryz.pinned (OpenSpec.upto kernelForeignSpec)

/-- 'vivariumlaw12.KernelLits', WHERE WHAT IT READS IS OF BULK AT MOST 1048576: true; the input reads as it did. -/
def kernelLitsUptoRow : OpenClaim := { program := "ytfppefhcmmfgcaagreat", sum := "4e8d20fa00f9a07eb4e6fed971ed6b39e2e74af4c7eff427af8b7d7677334272", func := "vivarium/vivariumlaw12.KernelLits", spec := "kernelLits", inPlace := ["internal/bytealg.IndexByteString"], unfollowed := true, recurses := true, loops := true, apart := false, narrowed := true }
def KernelLitsUptoSaid : Prop := kernelLitsUptoRow.holds Tryz.pinned (OpenSpec.upto kernelLitsSpec)

/-- 'vivariumlaw12.KernelFull', WHERE WHAT IT READS IS OF BULK AT MOST 1048576: true; the input reads as it did. -/
def kernelFullUptoRow : OpenClaim := { program := "ytfppefhcmmfgcaagreat", sum := "4e8d20fa00f9a07eb4e6fed971ed6b39e2e74af4c7eff427af8b7d7677334272", func := "vivarium/vivariumlaw12.KernelFull", spec := "kernelFull", inPlace := ["internal/bytealg.IndexByteString"], unfollowed := true, recurses := true, loops := true, apart := false, narrowed := true }
def KernelFullUptoSaid : Prop := kernelFullUptoRow.holds Tryz.pinned (OpenSpec.upto kernelFullSpec)

/-- 'vivariumlaw12.KernelTable', WHERE WHAT IT READS IS OF BULK AT MOST 1048576: true; the input reads as it did. -/
def kernelTableUptoRow : OpenClaim := { program := "ytfppefhcmmfgcaagreat", sum := "4e8d20fa00f9a07eb4e6fed971ed6b39e2e74af4c7eff427af8b7d7677334272", func := "vivarium/vivariumlaw12.KernelTable", spec := "kernelTable", inPlace := ["internal/bytealg.IndexByteString"], unfollowed := true, recurses := true, apart := false, narrowed := true }
def KernelTableUptoSaid : Prop := kernelTableUptoRow.holds Tryz.pinned (OpenSpec.upto kernelTableSpec)

/-- 'vivariumlaw13.FindLooks', WHERE WHAT IT READS IS OF BULK AT MOST 1048576: true; the input reads as it did. -/
def findLooksUptoRow : OpenClaim := { program := "ytfppefhcmmfgcaagreat", sum := "4e8d20fa00f9a07eb4e6fed971ed6b39e2e74af4c7eff427af8b7d7677334272", func := "vivarium/vivariumlaw13.FindLooks", spec := "findLooks", inPlace := ["internal/bytealg.IndexByteString"], unfollowed := true, recurses := true, apart := false, narrowed := true }
def FindLooksUptoSaid : Prop := findLooksUptoRow.holds Tryz.pinned (OpenSpec.upto findLooksSpec)

/-- 'vivariumlaw13.FindSuper', WHERE WHAT IT READS IS OF BULK AT MOST 1048576: true; the input reads as it did. -/
def findSuperUptoRow : OpenClaim := { program := "ytfppefhcmmfgcaagreat", sum := "4e8d20fa00f9a07eb4e6fed971ed6b39e2e74af4c7eff427af8b7d7677334272", func := "vivarium/vivariumlaw13.FindSuper", spec := "findSuper", inPlace := ["internal/bytealg.IndexByteString"], unfollowed := true, recurses := true, apart := false, narrowed := true }
def FindSuperUptoSaid : Prop := findSuperUptoRow.holds Tryz.pinned (OpenSpec.upto findSuperSpec)

/-- 'vivariumlaw13.FindSame', WHERE WHAT IT READS IS OF BULK AT MOST 1048576: true; the input reads as it did. -/
def findSameUptoRow : OpenClaim := { program := "ytfppefhcmmfgcaagreat", sum := "4e8d20fa00f9a07eb4e6fed971ed6b39e2e74af4c7eff427af8b7d7677334272", func := "vivarium/vivariumlaw13.FindSame", spec := "findSame", inPlace := ["internal/bytealg.IndexByteString"], unfollowed := true, recurses := true, apart := false, narrowed := true }
def FindSameUptoSaid : Prop := findSameUptoRow.holds Tryz.pinned (OpenSpec.upto findSameSpec)

/-- 'vivariumlaw16.FrameHidden', WHERE WHAT IT READS IS OF BULK AT MOST 1048576: true; the input reads as it did. -/
def frameHiddenUptoRow : OpenClaim := { program := "ytfppefhcmmfgcaagreat", sum := "4e8d20fa00f9a07eb4e6fed971ed6b39e2e74af4c7eff427af8b7d7677334272", func := "vivarium/vivariumlaw16.FrameHidden", spec := "frameHidden", inPlace := ["internal/bytealg.IndexByteString"], unfollowed := true, recurses := true, apart := false, narrowed := true }
def FrameHiddenUptoSaid : Prop := frameHiddenUptoRow.holds Tryz.pinned (OpenSpec.upto frameHiddenSpec)

/-- 'vivariumlaw16.FramePlays', WHERE WHAT IT READS IS OF BULK AT MOST 1048576: true; the input reads as it did. -/
def framePlaysUptoRow : OpenClaim := { program := "ytfppefhcmmfgcaagreat", sum := "4e8d20fa00f9a07eb4e6fed971ed6b39e2e74af4c7eff427af8b7d7677334272", func := "vivarium/vivariumlaw16.FramePlays", spec := "framePlays", inPlace := ["internal/bytealg.IndexByteString"], unfollowed := true, recurses := true, apart := false, narrowed := true }
def FramePlaysUptoSaid : Prop := framePlaysUptoRow.holds Tryz.pinned (OpenSpec.upto framePlaysSpec)

/-- 'vivariumlaw16.FrameOwns', WHERE WHAT IT READS IS OF BULK AT MOST 1048576: true; the input reads as it did. -/
def frameOwnsUptoRow : OpenClaim := { program := "ytfppefhcmmfgcaagreat", sum := "4e8d20fa00f9a07eb4e6fed971ed6b39e2e74af4c7eff427af8b7d7677334272", func := "vivarium/vivariumlaw16.FrameOwns", spec := "frameOwns", inPlace := ["internal/bytealg.IndexByteString"], unfollowed := true, recurses := true, apart := false, narrowed := true }
def FrameOwnsUptoSaid : Prop := frameOwnsUptoRow.holds Tryz.pinned (OpenSpec.upto frameOwnsSpec)

/-- 'vivariumlaw16.FrameSenders', WHERE WHAT IT READS IS OF BULK AT MOST 1048576: true; the input reads as it did. -/
def frameSendersUptoRow : OpenClaim := { program := "ytfppefhcmmfgcaagreat", sum := "4e8d20fa00f9a07eb4e6fed971ed6b39e2e74af4c7eff427af8b7d7677334272", func := "vivarium/vivariumlaw16.FrameSenders", spec := "frameSenders", inPlace := ["internal/bytealg.IndexByteString"], unfollowed := true, recurses := true, apart := false, narrowed := true }
def FrameSendersUptoSaid : Prop := frameSendersUptoRow.holds Tryz.pinned (OpenSpec.upto frameSendersSpec)

end Rows
end Go.Proofs.YtfppefhcmmfgcaaGreat
