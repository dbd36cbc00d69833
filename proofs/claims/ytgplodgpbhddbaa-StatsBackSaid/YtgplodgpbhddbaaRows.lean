/-
  No cell of these rows narrows 'for every input' (looked for: loops, veiled, ifaces, maps, wideKeys, modest, calm, conditions, laid).
  DERIVED. THE GIVEN ROWS OF THIS SEAT. 14 by the template 'for every input the law returns true; each argument reads behind the call as it read before'; 0 by the template 'total and deterministic' (their statements: YtgplodgpbhddbaaTotals.lean).
  GIVEN WITH THE SEED: the statements are not yours to turn. If you find one false, say at which input.
  Laid BY PROGRAM, IN A SANDBOX (cutbox-rows.mjs): the forced cells as the released guide's own fill.sh prints them over the translation c06643e121246fbb… (all of the seat's roots in one cut). By AI agents, Wed Nov 11 2026. No macro, syntax, notation, axiom, sorry.
-/
import Derived.Test.YtgplodgpbhddbaaChecked
import GoSem.Claim
import GoSem.ClaimJoined
import GoSem.ClaimMapViews
import Derived.JoinedTies
import Derived.KernelRfl
namespace Go.Proofs.Ytgplodgpbhddbaa
/- THE CELL 'sum', in the pinned program and in every row, IS THE sha256 OF THE DUMP (.gsa) THAT YtgplodgpbhddbaaProg.lean LOADS. Nothing in Lean hashes anything: it is a label: what it is worth is what the hold of that sum in a sandbox is worth. -/
noncomputable def Try.pinned : Pinned := { name := "ytgplodgpbhddbaa", sum := "c06643e121246fbb991edd60f549f704de3d3378826cc3f2200d7ccd37b0c889", checked := Try.checked }
namespace Rows
def none {H : Type} : Left H := { results := [], args := [] }

/-- 'waysidelaw06.PartHomes': WHATEVER THE INPUT: true; the input reads as it did. -/
def partHomesSpec : ChangeSpec := { name := "partHomes", fn := fun _ => fun
  | [d1, d2, d3, d4] => { results := [.lit (.bool true)], args := [d1, d2, d3, d4] }
  | _ => none }
def partHomesRow : OpenClaim := { program := "ytgplodgpbhddbaa", sum := "c06643e121246fbb991edd60f549f704de3d3378826cc3f2200d7ccd37b0c889", func := "wayside/waysidelaw06.PartHomes", spec := "partHomes", unfollowed := true, recurses := true, apart := false }
def PartHomesSaid : Prop := partHomesRow.holds Try.pinned (OpenSpec.ofChange partHomesSpec)

/-- ITS FALSE NEIGHBOUR: 'it returns false'. Refute it at one input. -/
def partHomesWrong : ChangeSpec := { name := "partHomes", fn := fun _ => fun
  | [d1, d2, d3, d4] => { results := [.lit (.bool false)], args := [d1, d2, d3, d4] }
  | _ => none }
def PartHomesWrongFalsely : Prop := partHomesRow.holds Try.pinned (OpenSpec.ofChange partHomesWrong)

/-- 'waysidelaw06.PartMerges': WHATEVER THE INPUT: true; the input reads as it did. -/
def partMergesSpec : ChangeSpec := { name := "partMerges", fn := fun _ => fun
  | [d] => { results := [.lit (.bool true)], args := [d] }
  | _ => none }
def partMergesRow : OpenClaim := { program := "ytgplodgpbhddbaa", sum := "c06643e121246fbb991edd60f549f704de3d3378826cc3f2200d7ccd37b0c889", func := "wayside/waysidelaw06.PartMerges", spec := "partMerges", unfollowed := true, recurses := true, apart := false }
def PartMergesSaid : Prop := partMergesRow.holds Try.pinned (OpenSpec.ofChange partMergesSpec)

/-- ITS FALSE NEIGHBOUR: 'it returns false'. Refute it at one input. -/
def partMergesWrong : ChangeSpec := { name := "partMerges", fn := fun _ => fun
  | [d] => { results := [.lit (.bool false)], args := [d] }
  | _ => none }
def PartMergesWrongFalsely : Prop := partMergesRow.holds Try.pinned (OpenSpec.ofChange partMergesWrong)

/-- 'waysidelaw06.PartWhole': WHATEVER THE INPUT: true; the input reads as it did. -/
def partWholeSpec : ChangeSpec := { name := "partWhole", fn := fun _ => fun
  | [d1, d2] => { results := [.lit (.bool true)], args := [d1, d2] }
  | _ => none }
def partWholeRow : OpenClaim := { program := "ytgplodgpbhddbaa", sum := "c06643e121246fbb991edd60f549f704de3d3378826cc3f2200d7ccd37b0c889", func := "wayside/waysidelaw06.PartWhole", spec := "partWhole", unfollowed := true, recurses := true, apart := false }
def PartWholeSaid : Prop := partWholeRow.holds Try.pinned (OpenSpec.ofChange partWholeSpec)

/-- ITS FALSE NEIGHBOUR: 'it returns false'. Refute it at one input. -/
def partWholeWrong : ChangeSpec := { name := "partWhole", fn := fun _ => fun
  | [d1, d2] => { results := [.lit (.bool false)], args := [d1, d2] }
  | _ => none }
def PartWholeWrongFalsely : Prop := partWholeRow.holds Try.pinned (OpenSpec.ofChange partWholeWrong)

/-- 'waysidelaw06.PartBack': WHATEVER THE INPUT: true; the input reads as it did. -/
def partBackSpec : ChangeSpec := { name := "partBack", fn := fun _ => fun
  | [d1, d2] => { results := [.lit (.bool true)], args := [d1, d2] }
  | _ => none }
def partBackRow : OpenClaim := { program := "ytgplodgpbhddbaa", sum := "c06643e121246fbb991edd60f549f704de3d3378826cc3f2200d7ccd37b0c889", func := "wayside/waysidelaw06.PartBack", spec := "partBack", unfollowed := true, recurses := true, apart := false }
def PartBackSaid : Prop := partBackRow.holds Try.pinned (OpenSpec.ofChange partBackSpec)

/-- ITS FALSE NEIGHBOUR: 'it returns false'. Refute it at one input. -/
def partBackWrong : ChangeSpec := { name := "partBack", fn := fun _ => fun
  | [d1, d2] => { results := [.lit (.bool false)], args := [d1, d2] }
  | _ => none }
def PartBackWrongFalsely : Prop := partBackRow.holds Try.pinned (OpenSpec.ofChange partBackWrong)

/-- 'waysidelaw06.PartRows': WHATEVER THE INPUT: true; the input reads as it did. -/
def partRowsSpec : ChangeSpec := { name := "partRows", fn := fun _ => fun
  | [d] => { results := [.lit (.bool true)], args := [d] }
  | _ => none }
def partRowsRow : OpenClaim := { program := "ytgplodgpbhddbaa", sum := "c06643e121246fbb991edd60f549f704de3d3378826cc3f2200d7ccd37b0c889", func := "wayside/waysidelaw06.PartRows", spec := "partRows", unfollowed := true, recurses := true, apart := false }
def PartRowsSaid : Prop := partRowsRow.holds Try.pinned (OpenSpec.ofChange partRowsSpec)

/-- ITS FALSE NEIGHBOUR: 'it returns false'. Refute it at one input. -/
def partRowsWrong : ChangeSpec := { name := "partRows", fn := fun _ => fun
  | [d] => { results := [.lit (.bool false)], args := [d] }
  | _ => none }
def PartRowsWrongFalsely : Prop := partRowsRow.holds Try.pinned (OpenSpec.ofChange partRowsWrong)

/-- 'waysidelaw10.BestRuns': WHATEVER THE INPUT: true; the input reads as it did. -/
def bestRunsSpec : ChangeSpec := { name := "bestRuns", fn := fun _ => fun
  | [d1, d2] => { results := [.lit (.bool true)], args := [d1, d2] }
  | _ => none }
def bestRunsRow : OpenClaim := { program := "ytgplodgpbhddbaa", sum := "c06643e121246fbb991edd60f549f704de3d3378826cc3f2200d7ccd37b0c889", func := "wayside/waysidelaw10.BestRuns", spec := "bestRuns", unfollowed := true, recurses := true, apart := false }
def BestRunsSaid : Prop := bestRunsRow.holds Try.pinned (OpenSpec.ofChange bestRunsSpec)

/-- ITS FALSE NEIGHBOUR: 'it returns false'. Refute it at one input. -/
def bestRunsWrong : ChangeSpec := { name := "bestRuns", fn := fun _ => fun
  | [d1, d2] => { results := [.lit (.bool false)], args := [d1, d2] }
  | _ => none }
def BestRunsWrongFalsely : Prop := bestRunsRow.holds Try.pinned (OpenSpec.ofChange bestRunsWrong)

/-- 'waysidelaw10.BestOrder': WHATEVER THE INPUT: true; the input reads as it did. -/
def bestOrderSpec : ChangeSpec := { name := "bestOrder", fn := fun _ => fun
  | [d] => { results := [.lit (.bool true)], args := [d] }
  | _ => none }
def bestOrderRow : OpenClaim := { program := "ytgplodgpbhddbaa", sum := "c06643e121246fbb991edd60f549f704de3d3378826cc3f2200d7ccd37b0c889", func := "wayside/waysidelaw10.BestOrder", spec := "bestOrder", unfollowed := true, recurses := true, apart := false }
def BestOrderSaid : Prop := bestOrderRow.holds Try.pinned (OpenSpec.ofChange bestOrderSpec)

/-- ITS FALSE NEIGHBOUR: 'it returns false'. Refute it at one input. -/
def bestOrderWrong : ChangeSpec := { name := "bestOrder", fn := fun _ => fun
  | [d] => { results := [.lit (.bool false)], args := [d] }
  | _ => none }
def BestOrderWrongFalsely : Prop := bestOrderRow.holds Try.pinned (OpenSpec.ofChange bestOrderWrong)

/-- 'waysidelaw10.BestNil': WHATEVER THE INPUT: true; the input reads as it did. -/
def bestNilSpec : ChangeSpec := { name := "bestNil", fn := fun _ => fun
  | [d] => { results := [.lit (.bool true)], args := [d] }
  | _ => none }
def bestNilRow : OpenClaim := { program := "ytgplodgpbhddbaa", sum := "c06643e121246fbb991edd60f549f704de3d3378826cc3f2200d7ccd37b0c889", func := "wayside/waysidelaw10.BestNil", spec := "bestNil", unfollowed := true, recurses := true, apart := false }
def BestNilSaid : Prop := bestNilRow.holds Try.pinned (OpenSpec.ofChange bestNilSpec)

/-- ITS FALSE NEIGHBOUR: 'it returns false'. Refute it at one input. -/
def bestNilWrong : ChangeSpec := { name := "bestNil", fn := fun _ => fun
  | [d] => { results := [.lit (.bool false)], args := [d] }
  | _ => none }
def BestNilWrongFalsely : Prop := bestNilRow.holds Try.pinned (OpenSpec.ofChange bestNilWrong)

/-- 'waysidelaw10.BestFirst': WHATEVER THE INPUT: true; the input reads as it did. -/
def bestFirstSpec : ChangeSpec := { name := "bestFirst", fn := fun _ => fun
  | [d1, d2] => { results := [.lit (.bool true)], args := [d1, d2] }
  | _ => none }
def bestFirstRow : OpenClaim := { program := "ytgplodgpbhddbaa", sum := "c06643e121246fbb991edd60f549f704de3d3378826cc3f2200d7ccd37b0c889", func := "wayside/waysidelaw10.BestFirst", spec := "bestFirst", unfollowed := true, recurses := true, apart := false }
def BestFirstSaid : Prop := bestFirstRow.holds Try.pinned (OpenSpec.ofChange bestFirstSpec)

/-- ITS FALSE NEIGHBOUR: 'it returns false'. Refute it at one input. -/
def bestFirstWrong : ChangeSpec := { name := "bestFirst", fn := fun _ => fun
  | [d1, d2] => { results := [.lit (.bool false)], args := [d1, d2] }
  | _ => none }
def BestFirstWrongFalsely : Prop := bestFirstRow.holds Try.pinned (OpenSpec.ofChange bestFirstWrong)

/-- 'waysidelaw10.BestKeeps': WHATEVER THE INPUT: true; the input reads as it did. -/
def bestKeepsSpec : ChangeSpec := { name := "bestKeeps", fn := fun _ => fun
  | [d1, d2] => { results := [.lit (.bool true)], args := [d1, d2] }
  | _ => none }
def bestKeepsRow : OpenClaim := { program := "ytgplodgpbhddbaa", sum := "c06643e121246fbb991edd60f549f704de3d3378826cc3f2200d7ccd37b0c889", func := "wayside/waysidelaw10.BestKeeps", spec := "bestKeeps", unfollowed := true, recurses := true, apart := false }
def BestKeepsSaid : Prop := bestKeepsRow.holds Try.pinned (OpenSpec.ofChange bestKeepsSpec)

/-- ITS FALSE NEIGHBOUR: 'it returns false'. Refute it at one input. -/
def bestKeepsWrong : ChangeSpec := { name := "bestKeeps", fn := fun _ => fun
  | [d1, d2] => { results := [.lit (.bool false)], args := [d1, d2] }
  | _ => none }
def BestKeepsWrongFalsely : Prop := bestKeepsRow.holds Try.pinned (OpenSpec.ofChange bestKeepsWrong)

/-- 'waysidelaw26.StatsTell': WHATEVER THE INPUT: true; the input reads as it did. -/
def statsTellSpec : ChangeSpec := { name := "statsTell", fn := fun _ => fun
  | [d1, d2] => { results := [.lit (.bool true)], args := [d1, d2] }
  | _ => none }
def statsTellRow : OpenClaim := { program := "ytgplodgpbhddbaa", sum := "c06643e121246fbb991edd60f549f704de3d3378826cc3f2200d7ccd37b0c889", func := "wayside/waysidelaw26.StatsTell", spec := "statsTell", unfollowed := true, recurses := true, apart := false }
def StatsTellSaid : Prop := statsTellRow.holds Try.pinned (OpenSpec.ofChange statsTellSpec)

/-- ITS FALSE NEIGHBOUR: 'it returns false'. Refute it at one input. -/
def statsTellWrong : ChangeSpec := { name := "statsTell", fn := fun _ => fun
  | [d1, d2] => { results := [.lit (.bool false)], args := [d1, d2] }
  | _ => none }
def StatsTellWrongFalsely : Prop := statsTellRow.holds Try.pinned (OpenSpec.ofChange statsTellWrong)

/-- 'waysidelaw26.StatsSums': WHATEVER THE INPUT: true; the input reads as it did. -/
def statsSumsSpec : ChangeSpec := { name := "statsSums", fn := fun _ => fun
  | [d1, d2, d3] => { results := [.lit (.bool true)], args := [d1, d2, d3] }
  | _ => none }
def statsSumsRow : OpenClaim := { program := "ytgplodgpbhddbaa", sum := "c06643e121246fbb991edd60f549f704de3d3378826cc3f2200d7ccd37b0c889", func := "wayside/waysidelaw26.StatsSums", spec := "statsSums", unfollowed := true, recurses := true, apart := false }
def StatsSumsSaid : Prop := statsSumsRow.holds Try.pinned (OpenSpec.ofChange statsSumsSpec)

/-- ITS FALSE NEIGHBOUR: 'it returns false'. Refute it at one input. -/
def statsSumsWrong : ChangeSpec := { name := "statsSums", fn := fun _ => fun
  | [d1, d2, d3] => { results := [.lit (.bool false)], args := [d1, d2, d3] }
  | _ => none }
def StatsSumsWrongFalsely : Prop := statsSumsRow.holds Try.pinned (OpenSpec.ofChange statsSumsWrong)

/-- 'waysidelaw26.StatsOnce': WHATEVER THE INPUT: true; the input reads as it did. -/
def statsOnceSpec : ChangeSpec := { name := "statsOnce", fn := fun _ => fun
  | [d] => { results := [.lit (.bool true)], args := [d] }
  | _ => none }
def statsOnceRow : OpenClaim := { program := "ytgplodgpbhddbaa", sum := "c06643e121246fbb991edd60f549f704de3d3378826cc3f2200d7ccd37b0c889", func := "wayside/waysidelaw26.StatsOnce", spec := "statsOnce", unfollowed := true, recurses := true, apart := false }
def StatsOnceSaid : Prop := statsOnceRow.holds Try.pinned (OpenSpec.ofChange statsOnceSpec)

/-- ITS FALSE NEIGHBOUR: 'it returns false'. Refute it at one input. -/
def statsOnceWrong : ChangeSpec := { name := "statsOnce", fn := fun _ => fun
  | [d] => { results := [.lit (.bool false)], args := [d] }
  | _ => none }
def StatsOnceWrongFalsely : Prop := statsOnceRow.holds Try.pinned (OpenSpec.ofChange statsOnceWrong)

/-- 'waysidelaw26.StatsBack': WHATEVER THE INPUT: true; the input reads as it did. -/
def statsBackSpec : ChangeSpec := { name := "statsBack", fn := fun _ => fun
  | [d1, d2] => { results := [.lit (.bool true)], args := [d1, d2] }
  | _ => none }
def statsBackRow : OpenClaim := { program := "ytgplodgpbhddbaa", sum := "c06643e121246fbb991edd60f549f704de3d3378826cc3f2200d7ccd37b0c889", func := "wayside/waysidelaw26.StatsBack", spec := "statsBack", inPlace := ["internal/abi.NoEscape"], unfollowed := true, recurses := true, apart := false }
def StatsBackSaid : Prop := statsBackRow.holds Try.pinned (OpenSpec.ofChange statsBackSpec)

/-- ITS FALSE NEIGHBOUR: 'it returns false'. Refute it at one input. -/
def statsBackWrong : ChangeSpec := { name := "statsBack", fn := fun _ => fun
  | [d1, d2] => { results := [.lit (.bool false)], args := [d1, d2] }
  | _ => none }
def StatsBackWrongFalsely : Prop := statsBackRow.holds Try.pinned (OpenSpec.ofChange statsBackWrong)

/- THE SECOND FORM. 'bulk': how many values and letters a reading holds, each counted each time it is reached (what is shared counts as often as it is met; a slice's spare places count too). A statement '..UptoSaid' is the law's where the arguments, and the package variables that the reading takes, are together of bulk at most 1048576: NARROWER than '..Said'. Prove '..Said' where nothing that the law and all that it calls make is longer than what came in: it says more and counts as full. Else prove '..UptoSaid'. A law counts once. -/
mutual
def uptoBulk {H : Type} : DataW H → Nat
  | .lit (.string bytes) => bytes.length + 1
  | .lit _ => 1
  | .nil => 1
  | .ptr d => uptoBulk d + 1
  | .slice elems spare => uptoBulkAll elems + uptoBulkAll spare + 1
  | .agg parts => uptoBulkAll parts + 1
  | .iface _ d => uptoBulk d + 1
  | .map entries => uptoBulkEntries entries + 1
  | .held _ => 1
def uptoBulkAll {H : Type} : List (DataW H) → Nat
  | [] => 0
  | d :: r => uptoBulk d + uptoBulkAll r
def uptoBulkEntries {H : Type} : List (Lit × DataW H) → Nat
  | [] => 0
  | x :: r => uptoBulkEntry x + uptoBulkEntries r
def uptoBulkEntry {H : Type} : Lit × DataW H → Nat
  | (.string bytes, d) => bytes.length + uptoBulk d + 1
  | (_, d) => uptoBulk d + 1
 end
def uptoSmall : (H : Type) → List (DataW H) → Bool := fun _ ds => decide (uptoBulkAll ds ≤ 1048576)
def OpenSpec.upto (s : _root_.Go.ChangeSpec) : _root_.Go.OpenSpec := { _root_.Go.OpenSpec.ofChange s with cond := some uptoSmall }

/-- 'waysidelaw06.PartHomes', WHERE WHAT IT READS IS OF BULK AT MOST 1048576: true; the input reads as it did. -/
def partHomesUptoRow : OpenClaim := { program := "ytgplodgpbhddbaa", sum := "c06643e121246fbb991edd60f549f704de3d3378826cc3f2200d7ccd37b0c889", func := "wayside/waysidelaw06.PartHomes", spec := "partHomes", unfollowed := true, recurses := true, apart := false, narrowed := true }
def PartHomesUptoSaid : Prop := partHomesUptoRow.holds Try.pinned (OpenSpec.upto partHomesSpec)

/-- 'waysidelaw06.PartMerges', WHERE WHAT IT READS IS OF BULK AT MOST 1048576: true; the input reads as it did. -/
def partMergesUptoRow : OpenClaim := { program := "ytgplodgpbhddbaa", sum := "c06643e121246fbb991edd60f549f704de3d3378826cc3f2200d7ccd37b0c889", func := "wayside/waysidelaw06.PartMerges", spec := "partMerges", unfollowed := true, recurses := true, apart := false, narrowed := true }
def PartMergesUptoSaid : Prop := partMergesUptoRow.holds Try.pinned (OpenSpec.upto partMergesSpec)

/-- 'waysidelaw06.PartWhole', WHERE WHAT IT READS IS OF BULK AT MOST 1048576: true; the input reads as it did. -/
def partWholeUptoRow : OpenClaim := { program := "ytgplodgpbhddbaa", sum := "c06643e121246fbb991edd60f549f704de3d3378826cc3f2200d7ccd37b0c889", func := "wayside/waysidelaw06.PartWhole", spec := "partWhole", unfollowed := true, recurses := true, apart := false, narrowed := true }
def PartWholeUptoSaid : Prop := partWholeUptoRow.holds Try.pinned (OpenSpec.upto partWholeSpec)

/-- 'waysidelaw06.PartBack', WHERE WHAT IT READS IS OF BULK AT MOST 1048576: true; the input reads as it did. -/
def partBackUptoRow : OpenClaim := { program := "ytgplodgpbhddbaa", sum := "c06643e121246fbb991edd60f549f704de3d3378826cc3f2200d7ccd37b0c889", func := "wayside/waysidelaw06.PartBack", spec := "partBack", unfollowed := true, recurses := true, apart := false, narrowed := true }
def PartBackUptoSaid : Prop := partBackUptoRow.holds Try.pinned (OpenSpec.upto partBackSpec)

/-- 'waysidelaw06.PartRows', WHERE WHAT IT READS IS OF BULK AT MOST 1048576: true; the input reads as it did. -/
def partRowsUptoRow : OpenClaim := { program := "ytgplodgpbhddbaa", sum := "c06643e121246fbb991edd60f549f704de3d3378826cc3f2200d7ccd37b0c889", func := "wayside/waysidelaw06.PartRows", spec := "partRows", unfollowed := true, recurses := true, apart := false, narrowed := true }
def PartRowsUptoSaid : Prop := partRowsUptoRow.holds Try.pinned (OpenSpec.upto partRowsSpec)

/-- 'waysidelaw10.BestRuns', WHERE WHAT IT READS IS OF BULK AT MOST 1048576: true; the input reads as it did. -/
def bestRunsUptoRow : OpenClaim := { program := "ytgplodgpbhddbaa", sum := "c06643e121246fbb991edd60f549f704de3d3378826cc3f2200d7ccd37b0c889", func := "wayside/waysidelaw10.BestRuns", spec := "bestRuns", unfollowed := true, recurses := true, apart := false, narrowed := true }
def BestRunsUptoSaid : Prop := bestRunsUptoRow.holds Try.pinned (OpenSpec.upto bestRunsSpec)

/-- 'waysidelaw10.BestOrder', WHERE WHAT IT READS IS OF BULK AT MOST 1048576: true; the input reads as it did. -/
def bestOrderUptoRow : OpenClaim := { program := "ytgplodgpbhddbaa", sum := "c06643e121246fbb991edd60f549f704de3d3378826cc3f2200d7ccd37b0c889", func := "wayside/waysidelaw10.BestOrder", spec := "bestOrder", unfollowed := true, recurses := true, apart := false, narrowed := true }
def BestOrderUptoSaid : Prop := bestOrderUptoRow.holds Try.pinned (OpenSpec.upto bestOrderSpec)

/-- 'waysidelaw10.BestNil', WHERE WHAT IT READS IS OF BULK AT MOST 1048576: true; the input reads as it did. -/
def bestNilUptoRow : OpenClaim := { program := "ytgplodgpbhddbaa", sum := "c06643e121246fbb991edd60f549f704de3d3378826cc3f2200d7ccd37b0c889", func := "wayside/waysidelaw10.BestNil", spec := "bestNil", unfollowed := true, recurses := true, apart := false, narrowed := true }
def BestNilUptoSaid : Prop := bestNilUptoRow.holds Try.pinned (OpenSpec.upto bestNilSpec)

/-- 'waysidelaw10.BestFirst', WHERE WHAT IT READS IS OF BULK AT MOST 1048576: true; the input reads as it did. -/
def bestFirstUptoRow : OpenClaim := { program := "ytgplodgpbhddbaa", sum := "c06643e121246fbb991edd60f549f704de3d3378826cc3f2200d7ccd37b0c889", func := "wayside/waysidelaw10.BestFirst", spec := "bestFirst", unfollowed := true, recurses := true, apart := false, narrowed := true }
def BestFirstUptoSaid : Prop := bestFirstUptoRow.holds Try.pinned (OpenSpec.upto bestFirstSpec)

/-- 'waysidelaw10.BestKeeps', WHERE WHAT IT READS IS OF BULK AT MOST 1048576: true; the input reads as it did. -/
def bestKeepsUptoRow : OpenClaim := { program := "ytgplodgpbhddbaa", sum := "c06643e121246fbb991edd60f549f704de3d3378826cc3f2200d7ccd37b0c889", func := "wayside/waysidelaw10.BestKeeps", spec := "bestKeeps", unfollowed := true, recurses := true, apart := false, narrowed := true }
def BestKeepsUptoSaid : Prop := bestKeepsUptoRow.holds Try.pinned (OpenSpec.upto bestKeepsSpec)

/-- 'waysidelaw26.StatsTell', WHERE WHAT IT READS IS OF BULK AT MOST 1048576: true; the input reads as it did. -/
def statsTellUptoRow : OpenClaim := { program := "ytgplodgpbhddbaa", sum := "c06643e121246fbb991edd60f549f704de3d3378826cc3f2200d7ccd37b0c889", func := "wayside/waysidelaw26.StatsTell", spec := "statsTell", unfollowed := true, recurses := true, apart := false, narrowed := true }
def StatsTellUptoSaid : Prop := statsTellUptoRow.holds Try.pinned (OpenSpec.upto statsTellSpec)

/-- 'waysidelaw26.StatsSums', WHERE WHAT IT READS IS OF BULK AT MOST 1048576: true; the input reads as it did. -/
def statsSumsUptoRow : OpenClaim := { program := "ytgplodgpbhddbaa", sum := "c06643e121246fbb991edd60f549f704de3d3378826cc3f2200d7ccd37b0c889", func := "wayside/waysidelaw26.StatsSums", spec := "statsSums", unfollowed := true, recurses := true, apart := false, narrowed := true }
def StatsSumsUptoSaid : Prop := statsSumsUptoRow.holds Try.pinned (OpenSpec.upto statsSumsSpec)

/-- 'waysidelaw26.StatsOnce', WHERE WHAT IT READS IS OF BULK AT MOST 1048576: true; the input reads as it did. -/
def statsOnceUptoRow : OpenClaim := { program := "ytgplodgpbhddbaa", sum := "c06643e121246fbb991edd60f549f704de3d3378826cc3f2200d7ccd37b0c889", func := "wayside/waysidelaw26.StatsOnce", spec := "statsOnce", unfollowed := true, recurses := true, apart := false, narrowed := true }
def StatsOnceUptoSaid : Prop := statsOnceUptoRow.holds Try.pinned (OpenSpec.upto statsOnceSpec)

/-- 'waysidelaw26.StatsBack', WHERE WHAT IT READS IS OF BULK AT MOST 1048576: true; the input reads as it did. -/
def statsBackUptoRow : OpenClaim := { program := "ytgplodgpbhddbaa", sum := "c06643e121246fbb991edd60f549f704de3d3378826cc3f2200d7ccd37b0c889", func := "wayside/waysidelaw26.StatsBack", spec := "statsBack", inPlace := ["internal/abi.NoEscape"], unfollowed := true, recurses := true, apart := false, narrowed := true }
def StatsBackUptoSaid : Prop := statsBackUptoRow.holds Try.pinned (OpenSpec.upto statsBackSpec)

end Rows
end Go.Proofs.Ytgplodgpbhddbaa
