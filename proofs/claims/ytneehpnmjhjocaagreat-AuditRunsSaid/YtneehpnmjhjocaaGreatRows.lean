/-
  No cell of these rows narrows 'for every input' (looked for: loops, veiled, ifaces, maps, wideKeys, modest, calm, conditions, laid).
  DERIVED. THE GIVEN ROWS OF THIS SEAT. 6 by the template 'for every input the law returns true; each argument reads behind the call as it read before'; 0 by the template 'total and deterministic' (their statements: YtneehpnmjhjocaaGreatTotals.lean).
  GIVEN WITH THE SEED: the statements are not yours to turn. If you find one false, say at which input.
  Laid BY PROGRAM, IN A SANDBOX (cutbox-rows.mjs): the forced cells as the released guide's own fill.sh prints them over the translation e241bf7bcb0b23d3… (all of the seat's roots in one cut). By AI agents, Wed Nov 11 2026. No macro, syntax, notation, axiom, sorry.
-/
import Derived.Test.YtneehpnmjhjocaaGreatChecked
import GoSem.Claim
import GoSem.ClaimJoined
import GoSem.ClaimMapViews
import Derived.JoinedTies
import Derived.KernelRfl
namespace Go.Proofs.YtneehpnmjhjocaaGreat
/- THE CELL 'sum', in the pinned program and in every row, IS THE sha256 OF THE DUMP (.gsa) THAT YtneehpnmjhjocaaGreatProg.lean LOADS. Nothing in Lean hashes anything: it is a label: what it is worth is what the hold of that sum in a sandbox is worth. -/
noncomputable def Tryz.pinned : Pinned := { name := "ytneehpnmjhjocaagreat", sum := "e241bf7bcb0b23d373eb31546437b7360a4d3aad0937ec2b90aed684bf5044af", checked := Tryz.checked }
namespace Rows
def none {H : Type} : Left H := { results := [], args := [] }

/-- 'waysidelaw25.ServerRuns': WHATEVER THE INPUT: true; the input reads as it did. -/
def serverRunsSpec : ChangeSpec := { name := "serverRuns", fn := fun _ => fun
  | [d1, d2, d3] => { results := [.lit (.bool true)], args := [d1, d2, d3] }
  | _ => none }
def serverRunsRow : OpenClaim := { program := "ytneehpnmjhjocaagreat", sum := "e241bf7bcb0b23d373eb31546437b7360a4d3aad0937ec2b90aed684bf5044af", func := "wayside/waysidelaw25.ServerRuns", spec := "serverRuns", inPlace := ["internal/bytealg.abigen_runtime_cmpstring", "internal/abi.NoEscape"], unfollowed := true, recurses := true, plainKeys := false, apart := false }
def ServerRunsSaid : Prop := serverRunsRow.holds Tryz.pinned (OpenSpec.ofChange serverRunsSpec)

/-- ITS FALSE NEIGHBOUR: 'it returns false'. Refute it at one input. -/
def serverRunsWrong : ChangeSpec := { name := "serverRuns", fn := fun _ => fun
  | [d1, d2, d3] => { results := [.lit (.bool false)], args := [d1, d2, d3] }
  | _ => none }
def ServerRunsWrongFalsely : Prop := serverRunsRow.holds Tryz.pinned (OpenSpec.ofChange serverRunsWrong)

/-- 'waysidelaw27.AuditRuns': WHATEVER THE INPUT: true; the input reads as it did. -/
def auditRunsSpec : ChangeSpec := { name := "auditRuns", fn := fun _ => fun
  | [d1, d2, d3] => { results := [.lit (.bool true)], args := [d1, d2, d3] }
  | _ => none }
def auditRunsRow : OpenClaim := { program := "ytneehpnmjhjocaagreat", sum := "e241bf7bcb0b23d373eb31546437b7360a4d3aad0937ec2b90aed684bf5044af", func := "wayside/waysidelaw27.AuditRuns", spec := "auditRuns", inPlace := ["internal/bytealg.abigen_runtime_cmpstring", "internal/abi.NoEscape"], unfollowed := true, recurses := true, plainKeys := false, apart := false }
def AuditRunsSaid : Prop := auditRunsRow.holds Tryz.pinned (OpenSpec.ofChange auditRunsSpec)

/-- ITS FALSE NEIGHBOUR: 'it returns false'. Refute it at one input. -/
def auditRunsWrong : ChangeSpec := { name := "auditRuns", fn := fun _ => fun
  | [d1, d2, d3] => { results := [.lit (.bool false)], args := [d1, d2, d3] }
  | _ => none }
def AuditRunsWrongFalsely : Prop := auditRunsRow.holds Tryz.pinned (OpenSpec.ofChange auditRunsWrong)

/-- 'waysidelaw27.AuditCalm': WHATEVER THE INPUT: true; the input reads as it did. -/
def auditCalmSpec : ChangeSpec := { name := "auditCalm", fn := fun _ => fun
  | [d1, d2, d3] => { results := [.lit (.bool true)], args := [d1, d2, d3] }
  | _ => none }
def auditCalmRow : OpenClaim := { program := "ytneehpnmjhjocaagreat", sum := "e241bf7bcb0b23d373eb31546437b7360a4d3aad0937ec2b90aed684bf5044af", func := "wayside/waysidelaw27.AuditCalm", spec := "auditCalm", inPlace := ["internal/bytealg.abigen_runtime_cmpstring", "internal/abi.NoEscape"], unfollowed := true, recurses := true, plainKeys := false, apart := false }
def AuditCalmSaid : Prop := auditCalmRow.holds Tryz.pinned (OpenSpec.ofChange auditCalmSpec)

/-- ITS FALSE NEIGHBOUR: 'it returns false'. Refute it at one input. -/
def auditCalmWrong : ChangeSpec := { name := "auditCalm", fn := fun _ => fun
  | [d1, d2, d3] => { results := [.lit (.bool false)], args := [d1, d2, d3] }
  | _ => none }
def AuditCalmWrongFalsely : Prop := auditCalmRow.holds Tryz.pinned (OpenSpec.ofChange auditCalmWrong)

/-- 'waysidelaw27.AuditFront': WHATEVER THE INPUT: true; the input reads as it did. -/
def auditFrontSpec : ChangeSpec := { name := "auditFront", fn := fun _ => fun
  | [d1, d2, d3, d4] => { results := [.lit (.bool true)], args := [d1, d2, d3, d4] }
  | _ => none }
def auditFrontRow : OpenClaim := { program := "ytneehpnmjhjocaagreat", sum := "e241bf7bcb0b23d373eb31546437b7360a4d3aad0937ec2b90aed684bf5044af", func := "wayside/waysidelaw27.AuditFront", spec := "auditFront", inPlace := ["internal/bytealg.abigen_runtime_cmpstring", "internal/abi.NoEscape"], unfollowed := true, recurses := true, plainKeys := false, apart := false }
def AuditFrontSaid : Prop := auditFrontRow.holds Tryz.pinned (OpenSpec.ofChange auditFrontSpec)

/-- ITS FALSE NEIGHBOUR: 'it returns false'. Refute it at one input. -/
def auditFrontWrong : ChangeSpec := { name := "auditFront", fn := fun _ => fun
  | [d1, d2, d3, d4] => { results := [.lit (.bool false)], args := [d1, d2, d3, d4] }
  | _ => none }
def AuditFrontWrongFalsely : Prop := auditFrontRow.holds Tryz.pinned (OpenSpec.ofChange auditFrontWrong)

/-- 'waysidelaw27.AuditServer': WHATEVER THE INPUT: true; the input reads as it did. -/
def auditServerSpec : ChangeSpec := { name := "auditServer", fn := fun _ => fun
  | [d1, d2, d3] => { results := [.lit (.bool true)], args := [d1, d2, d3] }
  | _ => none }
def auditServerRow : OpenClaim := { program := "ytneehpnmjhjocaagreat", sum := "e241bf7bcb0b23d373eb31546437b7360a4d3aad0937ec2b90aed684bf5044af", func := "wayside/waysidelaw27.AuditServer", spec := "auditServer", inPlace := ["internal/bytealg.abigen_runtime_cmpstring", "internal/abi.NoEscape"], unfollowed := true, recurses := true, plainKeys := false, apart := false }
def AuditServerSaid : Prop := auditServerRow.holds Tryz.pinned (OpenSpec.ofChange auditServerSpec)

/-- ITS FALSE NEIGHBOUR: 'it returns false'. Refute it at one input. -/
def auditServerWrong : ChangeSpec := { name := "auditServer", fn := fun _ => fun
  | [d1, d2, d3] => { results := [.lit (.bool false)], args := [d1, d2, d3] }
  | _ => none }
def AuditServerWrongFalsely : Prop := auditServerRow.holds Tryz.pinned (OpenSpec.ofChange auditServerWrong)

/-- 'waysidelaw27.AuditOnce': WHATEVER THE INPUT: true; the input reads as it did. -/
def auditOnceSpec : ChangeSpec := { name := "auditOnce", fn := fun _ => fun
  | [d1, d2, d3] => { results := [.lit (.bool true)], args := [d1, d2, d3] }
  | _ => none }
def auditOnceRow : OpenClaim := { program := "ytneehpnmjhjocaagreat", sum := "e241bf7bcb0b23d373eb31546437b7360a4d3aad0937ec2b90aed684bf5044af", func := "wayside/waysidelaw27.AuditOnce", spec := "auditOnce", inPlace := ["internal/bytealg.abigen_runtime_cmpstring", "internal/abi.NoEscape"], unfollowed := true, recurses := true, plainKeys := false, apart := false }
def AuditOnceSaid : Prop := auditOnceRow.holds Tryz.pinned (OpenSpec.ofChange auditOnceSpec)

/-- ITS FALSE NEIGHBOUR: 'it returns false'. Refute it at one input. -/
def auditOnceWrong : ChangeSpec := { name := "auditOnce", fn := fun _ => fun
  | [d1, d2, d3] => { results := [.lit (.bool false)], args := [d1, d2, d3] }
  | _ => none }
def AuditOnceWrongFalsely : Prop := auditOnceRow.holds Tryz.pinned (OpenSpec.ofChange auditOnceWrong)

/- THE SECOND FORM. 'bulk': how many values and letters a reading holds, each counted each time it is reached (what is shared counts as often as it is met; a slice's spare places count too). A statement '..UptoSaid' is the law's where the arguments, and the package variables that the reading takes, are together of bulk at most 1048576: NARROWER than '..Said'. Prove '..Said' where nothing that the law and all that it calls make is longer than what came in: it says more and counts as full. Else prove '..UptoSaid'. A law counts once. -/
mutual
def uptoBulk {H : Type} : DataW H → Nat
  | .lit (.string bytes) => bytes.length + 1
  | .lit _ => 1
  | .nil => 1
  | .ptr d => uptoBulk d + 1
  | .slice elems spare => uptoBulkAll elems + uptoBulkAll spare + 1
  | .agg parts => uptoBulkAll parts + 1
  | .iface _ d => uptoBulk d + 1
  | .map entries => uptoBulkEntries entries + 1
  | .held _ => 1
def uptoBulkAll {H : Type} : List (DataW H) → Nat
  | [] => 0
  | d :: r => uptoBulk d + uptoBulkAll r
def uptoBulkEntries {H : Type} : List (Lit × DataW H) → Nat
  | [] => 0
  | x :: r => uptoBulkEntry x + uptoBulkEntries r
def uptoBulkEntry {H : Type} : Lit × DataW H → Nat
  | (.string bytes, d) => bytes.length + uptoBulk d + 1
  | (_, d) => uptoBulk d + 1
 end
def uptoSmall : (H : Type) → List (DataW H) → Bool := fun _ ds => decide (uptoBulkAll ds ≤ 1048576)
def OpenSpec.upto (s : _root_.Go.ChangeSpec) : _root_.Go.OpenSpec := { _root_.Go.OpenSpec.ofChange s with cond := some uptoSmall }

/-- 'waysidelaw25.ServerRuns', WHERE WHAT IT READS IS OF BULK AT MOST 1048576: true; the input reads as it did. -/
def serverRunsUptoRow : OpenClaim := { program := "ytneehpnmjhjocaagreat", sum := "e241bf7bcb0b23d373eb31546437b7360a4d3aad0937ec2b90aed684bf5044af", func := "wayside/waysidelaw25.ServerRuns", spec := "serverRuns", inPlace := ["internal/bytealg.abigen_runtime_cmpstring", "internal/abi.NoEscape"], unfollowed := true, recurses := true, plainKeys := false, apart := false, narrowed := true }
def ServerRunsUptoSaid : Prop := serverRunsUptoRow.holds Tryz.pinned (OpenSpec.upto serverRunsSpec)

/-- 'waysidelaw27.AuditRuns', WHERE WHAT IT READS IS OF BULK AT MOST 1048576: true; the input reads as it did. -/
def auditRunsUptoRow : OpenClaim := { program := "ytneehpnmjhjocaagreat", sum := "e241bf7bcb0b23d373eb31546437b7360a4d3aad0937ec2b90aed684bf5044af", func := "wayside/waysidelaw27.AuditRuns", spec := "auditRuns", inPlace := ["internal/bytealg.abigen_runtime_cmpstring", "internal/abi.NoEscape"], unfollowed := true, recurses := true, plainKeys := false, apart := false, narrowed := true }
def AuditRunsUptoSaid : Prop := auditRunsUptoRow.holds Tryz.pinned (OpenSpec.upto auditRunsSpec)

/-- 'waysidelaw27.AuditCalm', WHERE WHAT IT READS IS OF BULK AT MOST 1048576: true; the input reads as it did. -/
def auditCalmUptoRow : OpenClaim := { program := "ytneehpnmjhjocaagreat", sum := "e241bf7bcb0b23d373eb31546437b7360a4d3aad0937ec2b90aed684bf5044af", func := "wayside/waysidelaw27.AuditCalm", spec := "auditCalm", inPlace := ["internal/bytealg.abigen_runtime_cmpstring", "internal/abi.NoEscape"], unfollowed := true, recurses := true, plainKeys := false, apart := false, narrowed := true }
def AuditCalmUptoSaid : Prop := auditCalmUptoRow.holds Tryz.pinned (OpenSpec.upto auditCalmSpec)

/-- 'waysidelaw27.AuditFront', WHERE WHAT IT READS IS OF BULK AT MOST 1048576: true; the input reads as it did. -/
def auditFrontUptoRow : OpenClaim := { program := "ytneehpnmjhjocaagreat", sum := "e241bf7bcb0b23d373eb31546437b7360a4d3aad0937ec2b90aed684bf5044af", func := "wayside/waysidelaw27.AuditFront", spec := "auditFront", inPlace := ["internal/bytealg.abigen_runtime_cmpstring", "internal/abi.NoEscape"], unfollowed := true, recurses := true, plainKeys := false, apart := false, narrowed := true }
def AuditFrontUptoSaid : Prop := auditFrontUptoRow.holds Tryz.pinned (OpenSpec.upto auditFrontSpec)

/-- 'waysidelaw27.AuditServer', WHERE WHAT IT READS IS OF BULK AT MOST 1048576: true; the input reads as it did. -/
def auditServerUptoRow : OpenClaim := { program := "ytneehpnmjhjocaagreat", sum := "e241bf7bcb0b23d373eb31546437b7360a4d3aad0937ec2b90aed684bf5044af", func := "wayside/waysidelaw27.AuditServer", spec := "auditServer", inPlace := ["internal/bytealg.abigen_runtime_cmpstring", "internal/abi.NoEscape"], unfollowed := true, recurses := true, plainKeys := false, apart := false, narrowed := true }
def AuditServerUptoSaid : Prop := auditServerUptoRow.holds Tryz.pinned (OpenSpec.upto auditServerSpec)

/-- 'waysidelaw27.AuditOnce', WHERE WHAT IT READS IS OF BULK AT MOST 1048576: true; the input reads as it did. -/
def auditOnceUptoRow : OpenClaim := { program := "ytneehpnmjhjocaagreat", sum := "e241bf7bcb0b23d373eb31546437b7360a4d3aad0937ec2b90aed684bf5044af", func := "wayside/waysidelaw27.AuditOnce", spec := "auditOnce", inPlace := ["internal/bytealg.abigen_runtime_cmpstring", "internal/abi.NoEscape"], unfollowed := true, recurses := true, plainKeys := false, apart := false, narrowed := true }
def AuditOnceUptoSaid : Prop := auditOnceUptoRow.holds Tryz.pinned (OpenSpec.upto auditOnceSpec)

end Rows
end Go.Proofs.YtneehpnmjhjocaaGreat
