/-
  No cell of these rows narrows 'for every input' (looked for: loops, veiled, ifaces, maps, wideKeys, modest, calm, conditions, laid).
  DERIVED. THE GIVEN ROWS OF THIS SEAT. 3 by the template 'for every input the law returns true; each argument reads behind the call as it read before'; 0 by the template 'total and deterministic' (their statements: YtgjanodnkajinaaGreatTotals.lean).
  GIVEN WITH THE SEED: the statements are not yours to turn. If you find one false, say at which input.
  Laid BY PROGRAM, IN A SANDBOX (cutbox-rows.mjs): the forced cells as the released guide's own fill.sh prints them over the translation 4a6b392e90ede2c8… (all of the seat's roots in one cut). By AI agents, Wed Nov 11 2026. No macro, syntax, notation, axiom, sorry.
-/
import Derived.Test.YtgjanodnkajinaaGreatChecked
import GoSem.Claim
import GoSem.ClaimJoined
import GoSem.ClaimMapViews
import Derived.JoinedTies
import Derived.KernelRfl
namespace Go.Proofs.YtgjanodnkajinaaGreat
/- THE CELL 'sum', in the pinned program and in every row, IS THE sha256 OF THE DUMP (.gsa) THAT YtgjanodnkajinaaGreatProg.lean LOADS. Nothing in Lean hashes anything: it is a label: what it is worth is what the hold of that sum in a sandbox is worth. -/
noncomputable def Tryz.pinned : Pinned := { name := "ytgjanodnkajinaagreat", sum := "4a6b392e90ede2c8ef74c2d7fd6006f41135271468db448f5009a41c728e91ca", checked := Tryz.checked }
namespace Rows
def none {H : Type} : Left H := { results := [], args := [] }

/-- 'waysidetop.TopPath': WHATEVER THE INPUT: true; the input reads as it did. -/
def topPathSpec : ChangeSpec := { name := "topPath", fn := fun _ => fun
  | [d1, d2, d3] => { results := [.lit (.bool true)], args := [d1, d2, d3] }
  | _ => none }
def topPathRow : OpenClaim := { program := "ytgjanodnkajinaagreat", sum := "4a6b392e90ede2c8ef74c2d7fd6006f41135271468db448f5009a41c728e91ca", func := "wayside/waysidetop.TopPath", spec := "topPath", inPlace := ["internal/bytealg.abigen_runtime_cmpstring", "internal/abi.NoEscape"], unfollowed := true, recurses := true, plainKeys := false, apart := false }
def TopPathSaid : Prop := topPathRow.holds Tryz.pinned (OpenSpec.ofChange topPathSpec)

/-- ITS FALSE NEIGHBOUR: 'it returns false'. Refute it at one input. -/
def topPathWrong : ChangeSpec := { name := "topPath", fn := fun _ => fun
  | [d1, d2, d3] => { results := [.lit (.bool false)], args := [d1, d2, d3] }
  | _ => none }
def TopPathWrongFalsely : Prop := topPathRow.holds Tryz.pinned (OpenSpec.ofChange topPathWrong)

/-- 'waysidetop.TopHubs': WHATEVER THE INPUT: true; the input reads as it did. -/
def topHubsSpec : ChangeSpec := { name := "topHubs", fn := fun _ => fun
  | [d1, d2, d3] => { results := [.lit (.bool true)], args := [d1, d2, d3] }
  | _ => none }
def topHubsRow : OpenClaim := { program := "ytgjanodnkajinaagreat", sum := "4a6b392e90ede2c8ef74c2d7fd6006f41135271468db448f5009a41c728e91ca", func := "wayside/waysidetop.TopHubs", spec := "topHubs", inPlace := ["internal/bytealg.abigen_runtime_cmpstring", "internal/abi.NoEscape"], unfollowed := true, recurses := true, plainKeys := false, apart := false }
def TopHubsSaid : Prop := topHubsRow.holds Tryz.pinned (OpenSpec.ofChange topHubsSpec)

/-- ITS FALSE NEIGHBOUR: 'it returns false'. Refute it at one input. -/
def topHubsWrong : ChangeSpec := { name := "topHubs", fn := fun _ => fun
  | [d1, d2, d3] => { results := [.lit (.bool false)], args := [d1, d2, d3] }
  | _ => none }
def TopHubsWrongFalsely : Prop := topHubsRow.holds Tryz.pinned (OpenSpec.ofChange topHubsWrong)

/-- 'waysidelaw25.ServerAnswers': WHATEVER THE INPUT: true; the input reads as it did. -/
def serverAnswersSpec : ChangeSpec := { name := "serverAnswers", fn := fun _ => fun
  | [d1, d2, d3] => { results := [.lit (.bool true)], args := [d1, d2, d3] }
  | _ => none }
def serverAnswersRow : OpenClaim := { program := "ytgjanodnkajinaagreat", sum := "4a6b392e90ede2c8ef74c2d7fd6006f41135271468db448f5009a41c728e91ca", func := "wayside/waysidelaw25.ServerAnswers", spec := "serverAnswers", inPlace := ["internal/bytealg.abigen_runtime_cmpstring", "internal/abi.NoEscape"], unfollowed := true, recurses := true, plainKeys := false, apart := false }
def ServerAnswersSaid : Prop := serverAnswersRow.holds Tryz.pinned (OpenSpec.ofChange serverAnswersSpec)

/-- ITS FALSE NEIGHBOUR: 'it returns false'. Refute it at one input. -/
def serverAnswersWrong : ChangeSpec := { name := "serverAnswers", fn := fun _ => fun
  | [d1, d2, d3] => { results := [.lit (.bool false)], args := [d1, d2, d3] }
  | _ => none }
def ServerAnswersWrongFalsely : Prop := serverAnswersRow.holds Tryz.pinned (OpenSpec.ofChange serverAnswersWrong)

/- THE SECOND FORM. 'bulk': how many values and letters a reading holds, each counted each time it is reached (what is shared counts as often as it is met; a slice's spare places count too). A statement '..UptoSaid' is the law's where the arguments, and the package variables that the reading takes, are together of bulk at most 1048576: NARROWER than '..Said'. Prove '..Said' where nothing that the law and all that it calls make is longer than what came in: it says more and counts as full. Else prove '..UptoSaid'. A law counts once. -/
mutual
def uptoBulk {H : Type} : DataW H → Nat
  | .lit (.string bytes) => bytes.length + 1
  | .lit _ => 1
  | .nil => 1
  | .ptr d => uptoBulk d + 1
  | .slice elems spare => uptoBulkAll elems + uptoBulkAll spare + 1
  | .agg parts => uptoBulkAll parts + 1
  | .iface _ d => uptoBulk d + 1
  | .map entries => uptoBulkEntries entries + 1
  | .held _ => 1
def uptoBulkAll {H : Type} : List (DataW H) → Nat
  | [] => 0
  | d :: r => uptoBulk d + uptoBulkAll r
def uptoBulkEntries {H : Type} : List (Lit × DataW H) → Nat
  | [] => 0
  | x :: r => uptoBulkEntry x + uptoBulkEntries r
def uptoBulkEntry {H : Type} : Lit × DataW H → Nat
  | (.string bytes, d) => bytes.length + uptoBulk d + 1
  | (_, d) => uptoBulk d + 1
 end
def uptoSmall : (H : Type) → List (DataW H) → Bool := fun _ ds => decide (uptoBulkAll ds ≤ 1048576)
def OpenSpec.upto (s : _root_.Go.ChangeSpec) : _root_.Go.OpenSpec := { _root_.Go.OpenSpec.ofChange s with cond := some uptoSmall }

/-- 'waysidetop.TopPath', WHERE WHAT IT READS IS OF BULK AT MOST 1048576: true; the input reads as it did. -/
def topPathUptoRow : OpenClaim := { program := "ytgjanodnkajinaagreat", sum := "4a6b392e90ede2c8ef74c2d7fd6006f41135271468db448f5009a41c728e91ca", func := "wayside/waysidetop.TopPath", spec := "topPath", inPlace := ["internal/bytealg.abigen_runtime_cmpstring", "internal/abi.NoEscape"], unfollowed := true, recurses := true, plainKeys := false, apart := false, narrowed := true }
def TopPathUptoSaid : Prop := topPathUptoRow.holds Tryz.pinned (OpenSpec.upto topPathSpec)

/-- 'waysidetop.TopHubs', WHERE WHAT IT READS IS OF BULK AT MOST 1048576: true; the input reads as it did. -/
def topHubsUptoRow : OpenClaim := { program := "ytgjanodnkajinaagreat", sum := "4a6b392e90ede2c8ef74c2d7fd6006f41135271468db448f5009a41c728e91ca", func := "wayside/waysidetop.TopHubs", spec := "topHubs", inPlace := ["internal/bytealg.abigen_runtime_cmpstring", "internal/abi.NoEscape"], unfollowed := true, recurses := true, plainKeys := false, apart := false, narrowed := true }
def TopHubsUptoSaid : Prop := topHubsUptoRow.holds Tryz.pinned (OpenSpec.upto topHubsSpec)

/-- 'waysidelaw25.ServerAnswers', WHERE WHAT IT READS IS OF BULK AT MOST 1048576: true; the input reads as it did. -/
def serverAnswersUptoRow : OpenClaim := { program := "ytgjanodnkajinaagreat", sum := "4a6b392e90ede2c8ef74c2d7fd6006f41135271468db448f5009a41c728e91ca", func := "wayside/waysidelaw25.ServerAnswers", spec := "serverAnswers", inPlace := ["internal/bytealg.abigen_runtime_cmpstring", "internal/abi.NoEscape"], unfollowed := true, recurses := true, plainKeys := false, apart := false, narrowed := true }
def ServerAnswersUptoSaid : Prop := serverAnswersUptoRow.holds Tryz.pinned (OpenSpec.upto serverAnswersSpec)

end Rows
end Go.Proofs.YtgjanodnkajinaaGreat
