/-
  No cell of these rows narrows 'for every input' (looked for: loops, veiled, ifaces, maps, wideKeys, modest, calm, conditions, laid).
  DERIVED. THE GIVEN ROWS OF THIS SEAT. 14 by the template 'for every input the law returns true; each argument reads behind the call as it read before'; 0 by the template 'total and deterministic' (their statements: YtpljfhomnbcpdaaTotals.lean).
  GIVEN WITH THE SEED: the statements are not yours to turn. If you find one false, say at which input.
  Laid BY PROGRAM, IN A SANDBOX (cutbox-rows.mjs): the forced cells as the released guide's own fill.sh prints them over the translation d236bcec8c1b0905… (all of the seat's roots in one cut). By AI agents, Wed Nov 11 2026. No macro, syntax, notation, axiom, sorry.
-/
import Derived.Test.YtpljfhomnbcpdaaChecked
import GoSem.Claim
import GoSem.ClaimJoined
import GoSem.ClaimMapViews
import Derived.JoinedTies
import Derived.KernelRfl
namespace Go.Proofs.Ytpljfhomnbcpdaa
/- THE CELL 'sum', in the pinned program and in every row, IS THE sha256 OF THE DUMP (.gsa) THAT YtpljfhomnbcpdaaProg.lean LOADS. Nothing in Lean hashes anything: it is a label: what it is worth is what the hold of that sum in a sandbox is worth. -/
noncomputable def Try.pinned : Pinned := { name := "ytpljfhomnbcpdaa", sum := "d236bcec8c1b0905a7b1adb6da2ae207c6706556e00e1dc8f9059f7f13118646", checked := Try.checked }
namespace Rows
def none {H : Type} : Left H := { results := [], args := [] }

/-- 'waysidelaw14.TableKeeps': WHATEVER THE INPUT: true; the input reads as it did. -/
def tableKeepsSpec : ChangeSpec := { name := "tableKeeps", fn := fun _ => fun
  | [d1, d2, d3, d4, d5] => { results := [.lit (.bool true)], args := [d1, d2, d3, d4, d5] }
  | _ => none }
def tableKeepsRow : OpenClaim := { program := "ytpljfhomnbcpdaa", sum := "d236bcec8c1b0905a7b1adb6da2ae207c6706556e00e1dc8f9059f7f13118646", func := "wayside/waysidelaw14.TableKeeps", spec := "tableKeeps", apart := false }
def TableKeepsSaid : Prop := tableKeepsRow.holds Try.pinned (OpenSpec.ofChange tableKeepsSpec)

/-- ITS FALSE NEIGHBOUR: 'it returns false'. Refute it at one input. -/
def tableKeepsWrong : ChangeSpec := { name := "tableKeeps", fn := fun _ => fun
  | [d1, d2, d3, d4, d5] => { results := [.lit (.bool false)], args := [d1, d2, d3, d4, d5] }
  | _ => none }
def TableKeepsWrongFalsely : Prop := tableKeepsRow.holds Try.pinned (OpenSpec.ofChange tableKeepsWrong)

/-- 'waysidelaw13.PoolDoes': WHATEVER THE INPUT: true; the input reads as it did. -/
def poolDoesSpec : ChangeSpec := { name := "poolDoes", fn := fun _ => fun
  | [d1, d2, d3, d4] => { results := [.lit (.bool true)], args := [d1, d2, d3, d4] }
  | _ => none }
def poolDoesRow : OpenClaim := { program := "ytpljfhomnbcpdaa", sum := "d236bcec8c1b0905a7b1adb6da2ae207c6706556e00e1dc8f9059f7f13118646", func := "wayside/waysidelaw13.PoolDoes", spec := "poolDoes", unfollowed := true, recurses := true, apart := false }
def PoolDoesSaid : Prop := poolDoesRow.holds Try.pinned (OpenSpec.ofChange poolDoesSpec)

/-- ITS FALSE NEIGHBOUR: 'it returns false'. Refute it at one input. -/
def poolDoesWrong : ChangeSpec := { name := "poolDoes", fn := fun _ => fun
  | [d1, d2, d3, d4] => { results := [.lit (.bool false)], args := [d1, d2, d3, d4] }
  | _ => none }
def PoolDoesWrongFalsely : Prop := poolDoesRow.holds Try.pinned (OpenSpec.ofChange poolDoesWrong)

/-- 'waysidelaw13.PoolApart': WHATEVER THE INPUT: true; the input reads as it did. -/
def poolApartSpec : ChangeSpec := { name := "poolApart", fn := fun _ => fun
  | [d1, d2] => { results := [.lit (.bool true)], args := [d1, d2] }
  | _ => none }
def poolApartRow : OpenClaim := { program := "ytpljfhomnbcpdaa", sum := "d236bcec8c1b0905a7b1adb6da2ae207c6706556e00e1dc8f9059f7f13118646", func := "wayside/waysidelaw13.PoolApart", spec := "poolApart", unfollowed := true, recurses := true, apart := false }
def PoolApartSaid : Prop := poolApartRow.holds Try.pinned (OpenSpec.ofChange poolApartSpec)

/-- ITS FALSE NEIGHBOUR: 'it returns false'. Refute it at one input. -/
def poolApartWrong : ChangeSpec := { name := "poolApart", fn := fun _ => fun
  | [d1, d2] => { results := [.lit (.bool false)], args := [d1, d2] }
  | _ => none }
def PoolApartWrongFalsely : Prop := poolApartRow.holds Try.pinned (OpenSpec.ofChange poolApartWrong)

/-- 'waysidelaw13.PoolRuns': WHATEVER THE INPUT: true; the input reads as it did. -/
def poolRunsSpec : ChangeSpec := { name := "poolRuns", fn := fun _ => fun
  | [d1, d2] => { results := [.lit (.bool true)], args := [d1, d2] }
  | _ => none }
def poolRunsRow : OpenClaim := { program := "ytpljfhomnbcpdaa", sum := "d236bcec8c1b0905a7b1adb6da2ae207c6706556e00e1dc8f9059f7f13118646", func := "wayside/waysidelaw13.PoolRuns", spec := "poolRuns", unfollowed := true, recurses := true, apart := false }
def PoolRunsSaid : Prop := poolRunsRow.holds Try.pinned (OpenSpec.ofChange poolRunsSpec)

/-- ITS FALSE NEIGHBOUR: 'it returns false'. Refute it at one input. -/
def poolRunsWrong : ChangeSpec := { name := "poolRuns", fn := fun _ => fun
  | [d1, d2] => { results := [.lit (.bool false)], args := [d1, d2] }
  | _ => none }
def PoolRunsWrongFalsely : Prop := poolRunsRow.holds Try.pinned (OpenSpec.ofChange poolRunsWrong)

/-- 'waysidelaw13.PoolParts': WHATEVER THE INPUT: true; the input reads as it did. -/
def poolPartsSpec : ChangeSpec := { name := "poolParts", fn := fun _ => fun
  | [d1, d2, d3] => { results := [.lit (.bool true)], args := [d1, d2, d3] }
  | _ => none }
def poolPartsRow : OpenClaim := { program := "ytpljfhomnbcpdaa", sum := "d236bcec8c1b0905a7b1adb6da2ae207c6706556e00e1dc8f9059f7f13118646", func := "wayside/waysidelaw13.PoolParts", spec := "poolParts", unfollowed := true, recurses := true, apart := false }
def PoolPartsSaid : Prop := poolPartsRow.holds Try.pinned (OpenSpec.ofChange poolPartsSpec)

/-- ITS FALSE NEIGHBOUR: 'it returns false'. Refute it at one input. -/
def poolPartsWrong : ChangeSpec := { name := "poolParts", fn := fun _ => fun
  | [d1, d2, d3] => { results := [.lit (.bool false)], args := [d1, d2, d3] }
  | _ => none }
def PoolPartsWrongFalsely : Prop := poolPartsRow.holds Try.pinned (OpenSpec.ofChange poolPartsWrong)

/-- 'waysidelaw15.StoreEmpty': WHATEVER THE INPUT: true; the input reads as it did. -/
def storeEmptySpec : ChangeSpec := { name := "storeEmpty", fn := fun _ => fun
  | [d1, d2] => { results := [.lit (.bool true)], args := [d1, d2] }
  | _ => none }
def storeEmptyRow : OpenClaim := { program := "ytpljfhomnbcpdaa", sum := "d236bcec8c1b0905a7b1adb6da2ae207c6706556e00e1dc8f9059f7f13118646", func := "wayside/waysidelaw15.StoreEmpty", spec := "storeEmpty", unfollowed := true, recurses := true, apart := false }
def StoreEmptySaid : Prop := storeEmptyRow.holds Try.pinned (OpenSpec.ofChange storeEmptySpec)

/-- ITS FALSE NEIGHBOUR: 'it returns false'. Refute it at one input. -/
def storeEmptyWrong : ChangeSpec := { name := "storeEmpty", fn := fun _ => fun
  | [d1, d2] => { results := [.lit (.bool false)], args := [d1, d2] }
  | _ => none }
def StoreEmptyWrongFalsely : Prop := storeEmptyRow.holds Try.pinned (OpenSpec.ofChange storeEmptyWrong)

/-- 'waysidelaw14.TableRuns': WHATEVER THE INPUT: true; the input reads as it did. -/
def tableRunsSpec : ChangeSpec := { name := "tableRuns", fn := fun _ => fun
  | [d1, d2] => { results := [.lit (.bool true)], args := [d1, d2] }
  | _ => none }
def tableRunsRow : OpenClaim := { program := "ytpljfhomnbcpdaa", sum := "d236bcec8c1b0905a7b1adb6da2ae207c6706556e00e1dc8f9059f7f13118646", func := "wayside/waysidelaw14.TableRuns", spec := "tableRuns", unfollowed := true, recurses := true, apart := false }
def TableRunsSaid : Prop := tableRunsRow.holds Try.pinned (OpenSpec.ofChange tableRunsSpec)

/-- ITS FALSE NEIGHBOUR: 'it returns false'. Refute it at one input. -/
def tableRunsWrong : ChangeSpec := { name := "tableRuns", fn := fun _ => fun
  | [d1, d2] => { results := [.lit (.bool false)], args := [d1, d2] }
  | _ => none }
def TableRunsWrongFalsely : Prop := tableRunsRow.holds Try.pinned (OpenSpec.ofChange tableRunsWrong)

/-- 'waysidelaw14.TableKeys': WHATEVER THE INPUT: true; the input reads as it did. -/
def tableKeysSpec : ChangeSpec := { name := "tableKeys", fn := fun _ => fun
  | [d1, d2, d3] => { results := [.lit (.bool true)], args := [d1, d2, d3] }
  | _ => none }
def tableKeysRow : OpenClaim := { program := "ytpljfhomnbcpdaa", sum := "d236bcec8c1b0905a7b1adb6da2ae207c6706556e00e1dc8f9059f7f13118646", func := "wayside/waysidelaw14.TableKeys", spec := "tableKeys", unfollowed := true, recurses := true, apart := false }
def TableKeysSaid : Prop := tableKeysRow.holds Try.pinned (OpenSpec.ofChange tableKeysSpec)

/-- ITS FALSE NEIGHBOUR: 'it returns false'. Refute it at one input. -/
def tableKeysWrong : ChangeSpec := { name := "tableKeys", fn := fun _ => fun
  | [d1, d2, d3] => { results := [.lit (.bool false)], args := [d1, d2, d3] }
  | _ => none }
def TableKeysWrongFalsely : Prop := tableKeysRow.holds Try.pinned (OpenSpec.ofChange tableKeysWrong)

/-- 'waysidelaw14.TableNil': WHATEVER THE INPUT: true; the input reads as it did. -/
def tableNilSpec : ChangeSpec := { name := "tableNil", fn := fun _ => fun
  | [d1, d2] => { results := [.lit (.bool true)], args := [d1, d2] }
  | _ => none }
def tableNilRow : OpenClaim := { program := "ytpljfhomnbcpdaa", sum := "d236bcec8c1b0905a7b1adb6da2ae207c6706556e00e1dc8f9059f7f13118646", func := "wayside/waysidelaw14.TableNil", spec := "tableNil", unfollowed := true, recurses := true, apart := false }
def TableNilSaid : Prop := tableNilRow.holds Try.pinned (OpenSpec.ofChange tableNilSpec)

/-- ITS FALSE NEIGHBOUR: 'it returns false'. Refute it at one input. -/
def tableNilWrong : ChangeSpec := { name := "tableNil", fn := fun _ => fun
  | [d1, d2] => { results := [.lit (.bool false)], args := [d1, d2] }
  | _ => none }
def TableNilWrongFalsely : Prop := tableNilRow.holds Try.pinned (OpenSpec.ofChange tableNilWrong)

/-- 'waysidelaw14.TableOrder': WHATEVER THE INPUT: true; the input reads as it did. -/
def tableOrderSpec : ChangeSpec := { name := "tableOrder", fn := fun _ => fun
  | [d] => { results := [.lit (.bool true)], args := [d] }
  | _ => none }
def tableOrderRow : OpenClaim := { program := "ytpljfhomnbcpdaa", sum := "d236bcec8c1b0905a7b1adb6da2ae207c6706556e00e1dc8f9059f7f13118646", func := "wayside/waysidelaw14.TableOrder", spec := "tableOrder", unfollowed := true, recurses := true, apart := false }
def TableOrderSaid : Prop := tableOrderRow.holds Try.pinned (OpenSpec.ofChange tableOrderSpec)

/-- ITS FALSE NEIGHBOUR: 'it returns false'. Refute it at one input. -/
def tableOrderWrong : ChangeSpec := { name := "tableOrder", fn := fun _ => fun
  | [d] => { results := [.lit (.bool false)], args := [d] }
  | _ => none }
def TableOrderWrongFalsely : Prop := tableOrderRow.holds Try.pinned (OpenSpec.ofChange tableOrderWrong)

/-- 'waysidelaw15.StoreSlots': WHATEVER THE INPUT: true; the input reads as it did. -/
def storeSlotsSpec : ChangeSpec := { name := "storeSlots", fn := fun _ => fun
  | [d1, d2, d3, d4] => { results := [.lit (.bool true)], args := [d1, d2, d3, d4] }
  | _ => none }
def storeSlotsRow : OpenClaim := { program := "ytpljfhomnbcpdaa", sum := "d236bcec8c1b0905a7b1adb6da2ae207c6706556e00e1dc8f9059f7f13118646", func := "wayside/waysidelaw15.StoreSlots", spec := "storeSlots", unfollowed := true, recurses := true, apart := false }
def StoreSlotsSaid : Prop := storeSlotsRow.holds Try.pinned (OpenSpec.ofChange storeSlotsSpec)

/-- ITS FALSE NEIGHBOUR: 'it returns false'. Refute it at one input. -/
def storeSlotsWrong : ChangeSpec := { name := "storeSlots", fn := fun _ => fun
  | [d1, d2, d3, d4] => { results := [.lit (.bool false)], args := [d1, d2, d3, d4] }
  | _ => none }
def StoreSlotsWrongFalsely : Prop := storeSlotsRow.holds Try.pinned (OpenSpec.ofChange storeSlotsWrong)

/-- 'waysidelaw15.StoreRuns': WHATEVER THE INPUT: true; the input reads as it did. -/
def storeRunsSpec : ChangeSpec := { name := "storeRuns", fn := fun _ => fun
  | [d1, d2] => { results := [.lit (.bool true)], args := [d1, d2] }
  | _ => none }
def storeRunsRow : OpenClaim := { program := "ytpljfhomnbcpdaa", sum := "d236bcec8c1b0905a7b1adb6da2ae207c6706556e00e1dc8f9059f7f13118646", func := "wayside/waysidelaw15.StoreRuns", spec := "storeRuns", unfollowed := true, recurses := true, apart := false }
def StoreRunsSaid : Prop := storeRunsRow.holds Try.pinned (OpenSpec.ofChange storeRunsSpec)

/-- ITS FALSE NEIGHBOUR: 'it returns false'. Refute it at one input. -/
def storeRunsWrong : ChangeSpec := { name := "storeRuns", fn := fun _ => fun
  | [d1, d2] => { results := [.lit (.bool false)], args := [d1, d2] }
  | _ => none }
def StoreRunsWrongFalsely : Prop := storeRunsRow.holds Try.pinned (OpenSpec.ofChange storeRunsWrong)

/-- 'waysidelaw15.StoreNil': WHATEVER THE INPUT: true; the input reads as it did. -/
def storeNilSpec : ChangeSpec := { name := "storeNil", fn := fun _ => fun
  | [d1, d2] => { results := [.lit (.bool true)], args := [d1, d2] }
  | _ => none }
def storeNilRow : OpenClaim := { program := "ytpljfhomnbcpdaa", sum := "d236bcec8c1b0905a7b1adb6da2ae207c6706556e00e1dc8f9059f7f13118646", func := "wayside/waysidelaw15.StoreNil", spec := "storeNil", unfollowed := true, recurses := true, apart := false }
def StoreNilSaid : Prop := storeNilRow.holds Try.pinned (OpenSpec.ofChange storeNilSpec)

/-- ITS FALSE NEIGHBOUR: 'it returns false'. Refute it at one input. -/
def storeNilWrong : ChangeSpec := { name := "storeNil", fn := fun _ => fun
  | [d1, d2] => { results := [.lit (.bool false)], args := [d1, d2] }
  | _ => none }
def StoreNilWrongFalsely : Prop := storeNilRow.holds Try.pinned (OpenSpec.ofChange storeNilWrong)

/-- 'waysidelaw15.StoreGets': WHATEVER THE INPUT: true; the input reads as it did. -/
def storeGetsSpec : ChangeSpec := { name := "storeGets", fn := fun _ => fun
  | [d1, d2] => { results := [.lit (.bool true)], args := [d1, d2] }
  | _ => none }
def storeGetsRow : OpenClaim := { program := "ytpljfhomnbcpdaa", sum := "d236bcec8c1b0905a7b1adb6da2ae207c6706556e00e1dc8f9059f7f13118646", func := "wayside/waysidelaw15.StoreGets", spec := "storeGets", unfollowed := true, recurses := true, apart := false }
def StoreGetsSaid : Prop := storeGetsRow.holds Try.pinned (OpenSpec.ofChange storeGetsSpec)

/-- ITS FALSE NEIGHBOUR: 'it returns false'. Refute it at one input. -/
def storeGetsWrong : ChangeSpec := { name := "storeGets", fn := fun _ => fun
  | [d1, d2] => { results := [.lit (.bool false)], args := [d1, d2] }
  | _ => none }
def StoreGetsWrongFalsely : Prop := storeGetsRow.holds Try.pinned (OpenSpec.ofChange storeGetsWrong)

/- THE SECOND FORM. 'bulk': how many values and letters a reading holds, each counted each time it is reached (what is shared counts as often as it is met; a slice's spare places count too). A statement '..UptoSaid' is the law's where the arguments, and the package variables that the reading takes, are together of bulk at most 1048576: NARROWER than '..Said'. Prove '..Said' where nothing that the law and all that it calls make is longer than what came in: it says more and counts as full. Else prove '..UptoSaid'. A law counts once. -/
mutual
def uptoBulk {H : Type} : DataW H → Nat
  | .lit (.string bytes) => bytes.length + 1
  | .lit _ => 1
  | .nil => 1
  | .ptr d => uptoBulk d + 1
  | .slice elems spare => uptoBulkAll elems + uptoBulkAll spare + 1
  | .agg parts => uptoBulkAll parts + 1
  | .iface _ d => uptoBulk d + 1
  | .map entries => uptoBulkEntries entries + 1
  | .held _ => 1
def uptoBulkAll {H : Type} : List (DataW H) → Nat
  | [] => 0
  | d :: r => uptoBulk d + uptoBulkAll r
def uptoBulkEntries {H : Type} : List (Lit × DataW H) → Nat
  | [] => 0
  | x :: r => uptoBulkEntry x + uptoBulkEntries r
def uptoBulkEntry {H : Type} : Lit × DataW H → Nat
  | (.string bytes, d) => bytes.length + uptoBulk d + 1
  | (_, d) => uptoBulk d + 1
 end
def uptoSmall : (H : Type) → List (DataW H) → Bool := fun _ ds => decide (uptoBulkAll ds ≤ 1048576)
def OpenSpec.upto (s : _root_.Go.ChangeSpec) : _root_.Go.OpenSpec := { _root_.Go.OpenSpec.ofChange s with cond := some uptoSmall }

/-- 'waysidelaw14.TableKeeps', WHERE WHAT IT READS IS OF BULK AT MOST 1048576: true; the input reads as it did. -/
def tableKeepsUptoRow : OpenClaim := { program := "ytpljfhomnbcpdaa", sum := "d236bcec8c1b0905a7b1adb6da2ae207c6706556e00e1dc8f9059f7f13118646", func := "wayside/waysidelaw14.TableKeeps", spec := "tableKeeps", apart := false, narrowed := true }
def TableKeepsUptoSaid : Prop := tableKeepsUptoRow.holds Try.pinned (OpenSpec.upto tableKeepsSpec)

/-- 'waysidelaw13.PoolDoes', WHERE WHAT IT READS IS OF BULK AT MOST 1048576: true; the input reads as it did. -/
def poolDoesUptoRow : OpenClaim := { program := "ytpljfhomnbcpdaa", sum := "d236bcec8c1b0905a7b1adb6da2ae207c6706556e00e1dc8f9059f7f13118646", func := "wayside/waysidelaw13.PoolDoes", spec := "poolDoes", unfollowed := true, recurses := true, apart := false, narrowed := true }
def PoolDoesUptoSaid : Prop := poolDoesUptoRow.holds Try.pinned (OpenSpec.upto poolDoesSpec)

/-- 'waysidelaw13.PoolApart', WHERE WHAT IT READS IS OF BULK AT MOST 1048576: true; the input reads as it did. -/
def poolApartUptoRow : OpenClaim := { program := "ytpljfhomnbcpdaa", sum := "d236bcec8c1b0905a7b1adb6da2ae207c6706556e00e1dc8f9059f7f13118646", func := "wayside/waysidelaw13.PoolApart", spec := "poolApart", unfollowed := true, recurses := true, apart := false, narrowed := true }
def PoolApartUptoSaid : Prop := poolApartUptoRow.holds Try.pinned (OpenSpec.upto poolApartSpec)

/-- 'waysidelaw13.PoolRuns', WHERE WHAT IT READS IS OF BULK AT MOST 1048576: true; the input reads as it did. -/
def poolRunsUptoRow : OpenClaim := { program := "ytpljfhomnbcpdaa", sum := "d236bcec8c1b0905a7b1adb6da2ae207c6706556e00e1dc8f9059f7f13118646", func := "wayside/waysidelaw13.PoolRuns", spec := "poolRuns", unfollowed := true, recurses := true, apart := false, narrowed := true }
def PoolRunsUptoSaid : Prop := poolRunsUptoRow.holds Try.pinned (OpenSpec.upto poolRunsSpec)

/-- 'waysidelaw13.PoolParts', WHERE WHAT IT READS IS OF BULK AT MOST 1048576: true; the input reads as it did. -/
def poolPartsUptoRow : OpenClaim := { program := "ytpljfhomnbcpdaa", sum := "d236bcec8c1b0905a7b1adb6da2ae207c6706556e00e1dc8f9059f7f13118646", func := "wayside/waysidelaw13.PoolParts", spec := "poolParts", unfollowed := true, recurses := true, apart := false, narrowed := true }
def PoolPartsUptoSaid : Prop := poolPartsUptoRow.holds Try.pinned (OpenSpec.upto poolPartsSpec)

/-- 'waysidelaw15.StoreEmpty', WHERE WHAT IT READS IS OF BULK AT MOST 1048576: true; the input reads as it did. -/
def storeEmptyUptoRow : OpenClaim := { program := "ytpljfhomnbcpdaa", sum := "d236bcec8c1b0905a7b1adb6da2ae207c6706556e00e1dc8f9059f7f13118646", func := "wayside/waysidelaw15.StoreEmpty", spec := "storeEmpty", unfollowed := true, recurses := true, apart := false, narrowed := true }
def StoreEmptyUptoSaid : Prop := storeEmptyUptoRow.holds Try.pinned (OpenSpec.upto storeEmptySpec)

/-- 'waysidelaw14.TableRuns', WHERE WHAT IT READS IS OF BULK AT MOST 1048576: true; the input reads as it did. -/
def tableRunsUptoRow : OpenClaim := { program := "ytpljfhomnbcpdaa", sum := "d236bcec8c1b0905a7b1adb6da2ae207c6706556e00e1dc8f9059f7f13118646", func := "wayside/waysidelaw14.TableRuns", spec := "tableRuns", unfollowed := true, recurses := true, apart := false, narrowed := true }
def TableRunsUptoSaid : Prop := tableRunsUptoRow.holds Try.pinned (OpenSpec.upto tableRunsSpec)

/-- 'waysidelaw14.TableKeys', WHERE WHAT IT READS IS OF BULK AT MOST 1048576: true; the input reads as it did. -/
def tableKeysUptoRow : OpenClaim := { program := "ytpljfhomnbcpdaa", sum := "d236bcec8c1b0905a7b1adb6da2ae207c6706556e00e1dc8f9059f7f13118646", func := "wayside/waysidelaw14.TableKeys", spec := "tableKeys", unfollowed := true, recurses := true, apart := false, narrowed := true }
def TableKeysUptoSaid : Prop := tableKeysUptoRow.holds Try.pinned (OpenSpec.upto tableKeysSpec)

/-- 'waysidelaw14.TableNil', WHERE WHAT IT READS IS OF BULK AT MOST 1048576: true; the input reads as it did. -/
def tableNilUptoRow : OpenClaim := { program := "ytpljfhomnbcpdaa", sum := "d236bcec8c1b0905a7b1adb6da2ae207c6706556e00e1dc8f9059f7f13118646", func := "wayside/waysidelaw14.TableNil", spec := "tableNil", unfollowed := true, recurses := true, apart := false, narrowed := true }
def TableNilUptoSaid : Prop := tableNilUptoRow.holds Try.pinned (OpenSpec.upto tableNilSpec)

/-- 'waysidelaw14.TableOrder', WHERE WHAT IT READS IS OF BULK AT MOST 1048576: true; the input reads as it did. -/
def tableOrderUptoRow : OpenClaim := { program := "ytpljfhomnbcpdaa", sum := "d236bcec8c1b0905a7b1adb6da2ae207c6706556e00e1dc8f9059f7f13118646", func := "wayside/waysidelaw14.TableOrder", spec := "tableOrder", unfollowed := true, recurses := true, apart := false, narrowed := true }
def TableOrderUptoSaid : Prop := tableOrderUptoRow.holds Try.pinned (OpenSpec.upto tableOrderSpec)

/-- 'waysidelaw15.StoreSlots', WHERE WHAT IT READS IS OF BULK AT MOST 1048576: true; the input reads as it did. -/
def storeSlotsUptoRow : OpenClaim := { program := "ytpljfhomnbcpdaa", sum := "d236bcec8c1b0905a7b1adb6da2ae207c6706556e00e1dc8f9059f7f13118646", func := "wayside/waysidelaw15.StoreSlots", spec := "storeSlots", unfollowed := true, recurses := true, apart := false, narrowed := true }
def StoreSlotsUptoSaid : Prop := storeSlotsUptoRow.holds Try.pinned (OpenSpec.upto storeSlotsSpec)

/-- 'waysidelaw15.StoreRuns', WHERE WHAT IT READS IS OF BULK AT MOST 1048576: true; the input reads as it did. -/
def storeRunsUptoRow : OpenClaim := { program := "ytpljfhomnbcpdaa", sum := "d236bcec8c1b0905a7b1adb6da2ae207c6706556e00e1dc8f9059f7f13118646", func := "wayside/waysidelaw15.StoreRuns", spec := "storeRuns", unfollowed := true, recurses := true, apart := false, narrowed := true }
def StoreRunsUptoSaid : Prop := storeRunsUptoRow.holds Try.pinned (OpenSpec.upto storeRunsSpec)

/-- 'waysidelaw15.StoreNil', WHERE WHAT IT READS IS OF BULK AT MOST 1048576: true; the input reads as it did. -/
def storeNilUptoRow : OpenClaim := { program := "ytpljfhomnbcpdaa", sum := "d236bcec8c1b0905a7b1adb6da2ae207c6706556e00e1dc8f9059f7f13118646", func := "wayside/waysidelaw15.StoreNil", spec := "storeNil", unfollowed := true, recurses := true, apart := false, narrowed := true }
def StoreNilUptoSaid : Prop := storeNilUptoRow.holds Try.pinned (OpenSpec.upto storeNilSpec)

/-- 'waysidelaw15.StoreGets', WHERE WHAT IT READS IS OF BULK AT MOST 1048576: true; the input reads as it did. -/
def storeGetsUptoRow : OpenClaim := { program := "ytpljfhomnbcpdaa", sum := "d236bcec8c1b0905a7b1adb6da2ae207c6706556e00e1dc8f9059f7f13118646", func := "wayside/waysidelaw15.StoreGets", spec := "storeGets", unfollowed := true, recurses := true, apart := false, narrowed := true }
def StoreGetsUptoSaid : Prop := storeGetsUptoRow.holds Try.pinned (OpenSpec.upto storeGetsSpec)

end Rows
end Go.Proofs.Ytpljfhomnbcpdaa
