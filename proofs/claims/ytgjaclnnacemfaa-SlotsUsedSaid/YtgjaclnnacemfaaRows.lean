/-
  No cell of these rows narrows 'for every input' (looked for: loops, veiled, ifaces, maps, wideKeys, modest, calm, conditions, laid).
  DERIVED. THE GIVEN ROWS OF THIS SEAT. 8 by the template 'for every input the law returns true; each argument reads behind the call as it read before'; 0 by the template 'total and deterministic' (their statements: YtgjaclnnacemfaaTotals.lean).
  GIVEN WITH THE SEED: the statements are not yours to turn. If you find one false, say at which input.
  Laid BY PROGRAM, IN A SANDBOX (cutbox-rows.mjs): the forced cells as the released guide's own fill.sh prints them over the translation cdb8ee648f506cc7… (all of the seat's roots in one cut). By AI agents, Wed Nov 11 2026. No macro, syntax, notation, axiom, sorry.
-/
import Derived.Test.YtgjaclnnacemfaaChecked
import GoSem.Claim
import GoSem.ClaimJoined
import GoSem.ClaimMapViews
import Derived.JoinedTies
import Derived.KernelRfl
namespace Go.Proofs.Ytgjaclnnacemfaa
/- THE CELL 'sum', in the pinned program and in every row, IS THE sha256 OF THE DUMP (.gsa) THAT YtgjaclnnacemfaaProg.lean LOADS. Nothing in Lean hashes anything: it is a label: what it is worth is what the hold of that sum in a sandbox is worth. -/
noncomputable def Try.pinned : Pinned := { name := "ytgjaclnnacemfaa", sum := "cdb8ee648f506cc7911db3c564b276e47c69201e0c9e80426bc0a4e835ac024a", checked := Try.checked }
namespace Rows
def none {H : Type} : Left H := { results := [], args := [] }

/-- 'waysidelaw23.WaitOrder': WHATEVER THE INPUT: true; the input reads as it did. -/
def waitOrderSpec : ChangeSpec := { name := "waitOrder", fn := fun _ => fun
  | [d1, d2] => { results := [.lit (.bool true)], args := [d1, d2] }
  | _ => none }
def waitOrderRow : OpenClaim := { program := "ytgjaclnnacemfaa", sum := "cdb8ee648f506cc7911db3c564b276e47c69201e0c9e80426bc0a4e835ac024a", func := "wayside/waysidelaw23.WaitOrder", spec := "waitOrder", unfollowed := true, recurses := true, apart := false }
def WaitOrderSaid : Prop := waitOrderRow.holds Try.pinned (OpenSpec.ofChange waitOrderSpec)

/-- ITS FALSE NEIGHBOUR: 'it returns false'. Refute it at one input. -/
def waitOrderWrong : ChangeSpec := { name := "waitOrder", fn := fun _ => fun
  | [d1, d2] => { results := [.lit (.bool false)], args := [d1, d2] }
  | _ => none }
def WaitOrderWrongFalsely : Prop := waitOrderRow.holds Try.pinned (OpenSpec.ofChange waitOrderWrong)

/-- 'waysidelaw23.WaitDoes': WHATEVER THE INPUT: true; the input reads as it did. -/
def waitDoesSpec : ChangeSpec := { name := "waitDoes", fn := fun _ => fun
  | [d1, d2, d3, d4] => { results := [.lit (.bool true)], args := [d1, d2, d3, d4] }
  | _ => none }
def waitDoesRow : OpenClaim := { program := "ytgjaclnnacemfaa", sum := "cdb8ee648f506cc7911db3c564b276e47c69201e0c9e80426bc0a4e835ac024a", func := "wayside/waysidelaw23.WaitDoes", spec := "waitDoes", unfollowed := true, recurses := true, apart := false }
def WaitDoesSaid : Prop := waitDoesRow.holds Try.pinned (OpenSpec.ofChange waitDoesSpec)

/-- ITS FALSE NEIGHBOUR: 'it returns false'. Refute it at one input. -/
def waitDoesWrong : ChangeSpec := { name := "waitDoes", fn := fun _ => fun
  | [d1, d2, d3, d4] => { results := [.lit (.bool false)], args := [d1, d2, d3, d4] }
  | _ => none }
def WaitDoesWrongFalsely : Prop := waitDoesRow.holds Try.pinned (OpenSpec.ofChange waitDoesWrong)

/-- 'waysidelaw23.WaitBack': WHATEVER THE INPUT: true; the input reads as it did. -/
def waitBackSpec : ChangeSpec := { name := "waitBack", fn := fun _ => fun
  | [d1, d2] => { results := [.lit (.bool true)], args := [d1, d2] }
  | _ => none }
def waitBackRow : OpenClaim := { program := "ytgjaclnnacemfaa", sum := "cdb8ee648f506cc7911db3c564b276e47c69201e0c9e80426bc0a4e835ac024a", func := "wayside/waysidelaw23.WaitBack", spec := "waitBack", unfollowed := true, recurses := true, apart := false }
def WaitBackSaid : Prop := waitBackRow.holds Try.pinned (OpenSpec.ofChange waitBackSpec)

/-- ITS FALSE NEIGHBOUR: 'it returns false'. Refute it at one input. -/
def waitBackWrong : ChangeSpec := { name := "waitBack", fn := fun _ => fun
  | [d1, d2] => { results := [.lit (.bool false)], args := [d1, d2] }
  | _ => none }
def WaitBackWrongFalsely : Prop := waitBackRow.holds Try.pinned (OpenSpec.ofChange waitBackWrong)

/-- 'waysidelaw23.WaitFirst': WHATEVER THE INPUT: true; the input reads as it did. -/
def waitFirstSpec : ChangeSpec := { name := "waitFirst", fn := fun _ => fun
  | [d] => { results := [.lit (.bool true)], args := [d] }
  | _ => none }
def waitFirstRow : OpenClaim := { program := "ytgjaclnnacemfaa", sum := "cdb8ee648f506cc7911db3c564b276e47c69201e0c9e80426bc0a4e835ac024a", func := "wayside/waysidelaw23.WaitFirst", spec := "waitFirst", unfollowed := true, recurses := true, apart := false }
def WaitFirstSaid : Prop := waitFirstRow.holds Try.pinned (OpenSpec.ofChange waitFirstSpec)

/-- ITS FALSE NEIGHBOUR: 'it returns false'. Refute it at one input. -/
def waitFirstWrong : ChangeSpec := { name := "waitFirst", fn := fun _ => fun
  | [d] => { results := [.lit (.bool false)], args := [d] }
  | _ => none }
def WaitFirstWrongFalsely : Prop := waitFirstRow.holds Try.pinned (OpenSpec.ofChange waitFirstWrong)

/-- 'waysidelaw24.SlotsDo': WHATEVER THE INPUT: true; the input reads as it did. -/
def slotsDoSpec : ChangeSpec := { name := "slotsDo", fn := fun _ => fun
  | [d1, d2, d3, d4, d5] => { results := [.lit (.bool true)], args := [d1, d2, d3, d4, d5] }
  | _ => none }
def slotsDoRow : OpenClaim := { program := "ytgjaclnnacemfaa", sum := "cdb8ee648f506cc7911db3c564b276e47c69201e0c9e80426bc0a4e835ac024a", func := "wayside/waysidelaw24.SlotsDo", spec := "slotsDo", unfollowed := true, recurses := true, apart := false }
def SlotsDoSaid : Prop := slotsDoRow.holds Try.pinned (OpenSpec.ofChange slotsDoSpec)

/-- ITS FALSE NEIGHBOUR: 'it returns false'. Refute it at one input. -/
def slotsDoWrong : ChangeSpec := { name := "slotsDo", fn := fun _ => fun
  | [d1, d2, d3, d4, d5] => { results := [.lit (.bool false)], args := [d1, d2, d3, d4, d5] }
  | _ => none }
def SlotsDoWrongFalsely : Prop := slotsDoRow.holds Try.pinned (OpenSpec.ofChange slotsDoWrong)

/-- 'waysidelaw24.SlotsKeep': WHATEVER THE INPUT: true; the input reads as it did. -/
def slotsKeepSpec : ChangeSpec := { name := "slotsKeep", fn := fun _ => fun
  | [d1, d2] => { results := [.lit (.bool true)], args := [d1, d2] }
  | _ => none }
def slotsKeepRow : OpenClaim := { program := "ytgjaclnnacemfaa", sum := "cdb8ee648f506cc7911db3c564b276e47c69201e0c9e80426bc0a4e835ac024a", func := "wayside/waysidelaw24.SlotsKeep", spec := "slotsKeep", unfollowed := true, recurses := true, apart := false }
def SlotsKeepSaid : Prop := slotsKeepRow.holds Try.pinned (OpenSpec.ofChange slotsKeepSpec)

/-- ITS FALSE NEIGHBOUR: 'it returns false'. Refute it at one input. -/
def slotsKeepWrong : ChangeSpec := { name := "slotsKeep", fn := fun _ => fun
  | [d1, d2] => { results := [.lit (.bool false)], args := [d1, d2] }
  | _ => none }
def SlotsKeepWrongFalsely : Prop := slotsKeepRow.holds Try.pinned (OpenSpec.ofChange slotsKeepWrong)

/-- 'waysidelaw24.SlotsFull': WHATEVER THE INPUT: true; the input reads as it did. -/
def slotsFullSpec : ChangeSpec := { name := "slotsFull", fn := fun _ => fun
  | [d1, d2, d3] => { results := [.lit (.bool true)], args := [d1, d2, d3] }
  | _ => none }
def slotsFullRow : OpenClaim := { program := "ytgjaclnnacemfaa", sum := "cdb8ee648f506cc7911db3c564b276e47c69201e0c9e80426bc0a4e835ac024a", func := "wayside/waysidelaw24.SlotsFull", spec := "slotsFull", unfollowed := true, recurses := true, apart := false }
def SlotsFullSaid : Prop := slotsFullRow.holds Try.pinned (OpenSpec.ofChange slotsFullSpec)

/-- ITS FALSE NEIGHBOUR: 'it returns false'. Refute it at one input. -/
def slotsFullWrong : ChangeSpec := { name := "slotsFull", fn := fun _ => fun
  | [d1, d2, d3] => { results := [.lit (.bool false)], args := [d1, d2, d3] }
  | _ => none }
def SlotsFullWrongFalsely : Prop := slotsFullRow.holds Try.pinned (OpenSpec.ofChange slotsFullWrong)

/-- 'waysidelaw24.SlotsUsed': WHATEVER THE INPUT: true; the input reads as it did. -/
def slotsUsedSpec : ChangeSpec := { name := "slotsUsed", fn := fun _ => fun
  | [d1, d2] => { results := [.lit (.bool true)], args := [d1, d2] }
  | _ => none }
def slotsUsedRow : OpenClaim := { program := "ytgjaclnnacemfaa", sum := "cdb8ee648f506cc7911db3c564b276e47c69201e0c9e80426bc0a4e835ac024a", func := "wayside/waysidelaw24.SlotsUsed", spec := "slotsUsed", unfollowed := true, recurses := true, apart := false }
def SlotsUsedSaid : Prop := slotsUsedRow.holds Try.pinned (OpenSpec.ofChange slotsUsedSpec)

/-- ITS FALSE NEIGHBOUR: 'it returns false'. Refute it at one input. -/
def slotsUsedWrong : ChangeSpec := { name := "slotsUsed", fn := fun _ => fun
  | [d1, d2] => { results := [.lit (.bool false)], args := [d1, d2] }
  | _ => none }
def SlotsUsedWrongFalsely : Prop := slotsUsedRow.holds Try.pinned (OpenSpec.ofChange slotsUsedWrong)

/- THE SECOND FORM. 'bulk': how many values and letters a reading holds, each counted each time it is reached (what is shared counts as often as it is met; a slice's spare places count too). A statement '..UptoSaid' is the law's where the arguments, and the package variables that the reading takes, are together of bulk at most 1048576: NARROWER than '..Said'. Prove '..Said' where nothing that the law and all that it calls make is longer than what came in: it says more and counts as full. Else prove '..UptoSaid'. A law counts once. -/
mutual
def uptoBulk {H : Type} : DataW H → Nat
  | .lit (.string bytes) => bytes.length + 1
  | .lit _ => 1
  | .nil => 1
  | .ptr d => uptoBulk d + 1
  | .slice elems spare => uptoBulkAll elems + uptoBulkAll spare + 1
  | .agg parts => uptoBulkAll parts + 1
  | .iface _ d => uptoBulk d + 1
  | .map entries => uptoBulkEntries entries + 1
  | .held _ => 1
def uptoBulkAll {H : Type} : List (DataW H) → Nat
  | [] => 0
  | d :: r => uptoBulk d + uptoBulkAll r
def uptoBulkEntries {H : Type} : List (Lit × DataW H) → Nat
  | [] => 0
  | x :: r => uptoBulkEntry x + uptoBulkEntries r
def uptoBulkEntry {H : Type} : Lit × DataW H → Nat
  | (.string bytes, d) => bytes.length + uptoBulk d + 1
  | (_, d) => uptoBulk d + 1
 end
def uptoSmall : (H : Type) → List (DataW H) → Bool := fun _ ds => decide (uptoBulkAll ds ≤ 1048576)
def OpenSpec.upto (s : _root_.Go.ChangeSpec) : _root_.Go.OpenSpec := { _root_.Go.OpenSpec.ofChange s with cond := some uptoSmall }

/-- 'waysidelaw23.WaitOrder', WHERE WHAT IT READS IS OF BULK AT MOST 1048576: true; the input reads as it did. -/
def waitOrderUptoRow : OpenClaim := { program := "ytgjaclnnacemfaa", sum := "cdb8ee648f506cc7911db3c564b276e47c69201e0c9e80426bc0a4e835ac024a", func := "wayside/waysidelaw23.WaitOrder", spec := "waitOrder", unfollowed := true, recurses := true, apart := false, narrowed := true }
def WaitOrderUptoSaid : Prop := waitOrderUptoRow.holds Try.pinned (OpenSpec.upto waitOrderSpec)

/-- 'waysidelaw23.WaitDoes', WHERE WHAT IT READS IS OF BULK AT MOST 1048576: true; the input reads as it did. -/
def waitDoesUptoRow : OpenClaim := { program := "ytgjaclnnacemfaa", sum := "cdb8ee648f506cc7911db3c564b276e47c69201e0c9e80426bc0a4e835ac024a", func := "wayside/waysidelaw23.WaitDoes", spec := "waitDoes", unfollowed := true, recurses := true, apart := false, narrowed := true }
def WaitDoesUptoSaid : Prop := waitDoesUptoRow.holds Try.pinned (OpenSpec.upto waitDoesSpec)

/-- 'waysidelaw23.WaitBack', WHERE WHAT IT READS IS OF BULK AT MOST 1048576: true; the input reads as it did. -/
def waitBackUptoRow : OpenClaim := { program := "ytgjaclnnacemfaa", sum := "cdb8ee648f506cc7911db3c564b276e47c69201e0c9e80426bc0a4e835ac024a", func := "wayside/waysidelaw23.WaitBack", spec := "waitBack", unfollowed := true, recurses := true, apart := false, narrowed := true }
def WaitBackUptoSaid : Prop := waitBackUptoRow.holds Try.pinned (OpenSpec.upto waitBackSpec)

/-- 'waysidelaw23.WaitFirst', WHERE WHAT IT READS IS OF BULK AT MOST 1048576: true; the input reads as it did. -/
def waitFirstUptoRow : OpenClaim := { program := "ytgjaclnnacemfaa", sum := "cdb8ee648f506cc7911db3c564b276e47c69201e0c9e80426bc0a4e835ac024a", func := "wayside/waysidelaw23.WaitFirst", spec := "waitFirst", unfollowed := true, recurses := true, apart := false, narrowed := true }
def WaitFirstUptoSaid : Prop := waitFirstUptoRow.holds Try.pinned (OpenSpec.upto waitFirstSpec)

/-- 'waysidelaw24.SlotsDo', WHERE WHAT IT READS IS OF BULK AT MOST 1048576: true; the input reads as it did. -/
def slotsDoUptoRow : OpenClaim := { program := "ytgjaclnnacemfaa", sum := "cdb8ee648f506cc7911db3c564b276e47c69201e0c9e80426bc0a4e835ac024a", func := "wayside/waysidelaw24.SlotsDo", spec := "slotsDo", unfollowed := true, recurses := true, apart := false, narrowed := true }
def SlotsDoUptoSaid : Prop := slotsDoUptoRow.holds Try.pinned (OpenSpec.upto slotsDoSpec)

/-- 'waysidelaw24.SlotsKeep', WHERE WHAT IT READS IS OF BULK AT MOST 1048576: true; the input reads as it did. -/
def slotsKeepUptoRow : OpenClaim := { program := "ytgjaclnnacemfaa", sum := "cdb8ee648f506cc7911db3c564b276e47c69201e0c9e80426bc0a4e835ac024a", func := "wayside/waysidelaw24.SlotsKeep", spec := "slotsKeep", unfollowed := true, recurses := true, apart := false, narrowed := true }
def SlotsKeepUptoSaid : Prop := slotsKeepUptoRow.holds Try.pinned (OpenSpec.upto slotsKeepSpec)

/-- 'waysidelaw24.SlotsFull', WHERE WHAT IT READS IS OF BULK AT MOST 1048576: true; the input reads as it did. -/
def slotsFullUptoRow : OpenClaim := { program := "ytgjaclnnacemfaa", sum := "cdb8ee648f506cc7911db3c564b276e47c69201e0c9e80426bc0a4e835ac024a", func := "wayside/waysidelaw24.SlotsFull", spec := "slotsFull", unfollowed := true, recurses := true, apart := false, narrowed := true }
def SlotsFullUptoSaid : Prop := slotsFullUptoRow.holds Try.pinned (OpenSpec.upto slotsFullSpec)

/-- 'waysidelaw24.SlotsUsed', WHERE WHAT IT READS IS OF BULK AT MOST 1048576: true; the input reads as it did. -/
def slotsUsedUptoRow : OpenClaim := { program := "ytgjaclnnacemfaa", sum := "cdb8ee648f506cc7911db3c564b276e47c69201e0c9e80426bc0a4e835ac024a", func := "wayside/waysidelaw24.SlotsUsed", spec := "slotsUsed", unfollowed := true, recurses := true, apart := false, narrowed := true }
def SlotsUsedUptoSaid : Prop := slotsUsedUptoRow.holds Try.pinned (OpenSpec.upto slotsUsedSpec)

end Rows
end Go.Proofs.Ytgjaclnnacemfaa
