/-
  No cell of these rows narrows 'for every input' (looked for: loops, veiled, ifaces, maps, wideKeys, modest, calm, conditions, laid).
  DERIVED. THE GIVEN ROWS OF THIS SEAT. 5 by the template 'for every input the law returns true; each argument reads behind the call as it read before'; 0 by the template 'total and deterministic' (their statements: YtaleiifbaefffaaGreatTotals.lean).
  GIVEN WITH THE SEED: the statements are not yours to turn. If you find one false, say at which input.
  Laid BY PROGRAM, IN A SANDBOX (cutbox-rows.mjs): the forced cells as the released guide's own fill.sh prints them over the translation 86b12106ee7b194e… (all of the seat's roots in one cut). By AI agents, Wed Nov 11 2026. No macro, syntax, notation, axiom, sorry.
-/
import Derived.Test.YtaleiifbaefffaaGreatChecked
import GoSem.Claim
import GoSem.ClaimJoined
import GoSem.ClaimMapViews
import Derived.JoinedTies
import Derived.KernelRfl
namespace Go.Proofs.YtaleiifbaefffaaGreat
/- THE CELL 'sum', in the pinned program and in every row, IS THE sha256 OF THE DUMP (.gsa) THAT YtaleiifbaefffaaGreatProg.lean LOADS. Nothing in Lean hashes anything: it is a label: what it is worth is what the hold of that sum in a sandbox is worth. -/
noncomputable def Tryz.pinned : Pinned := { name := "ytaleiifbaefffaagreat", sum := "86b12106ee7b194e48fa98f57f3e07f07d4b69daa06297c9623d96e3aab41b1f", checked := Tryz.checked }
namespace Rows
def none {H : Type} : Left H := { results := [], args := [] }

/-- 'waysidelaw25.ServerPicks': WHATEVER THE INPUT: true; the input reads as it did. -/
def serverPicksSpec : ChangeSpec := { name := "serverPicks", fn := fun _ => fun
  | [d1, d2, d3, d4] => { results := [.lit (.bool true)], args := [d1, d2, d3, d4] }
  | _ => none }
def serverPicksRow : OpenClaim := { program := "ytaleiifbaefffaagreat", sum := "86b12106ee7b194e48fa98f57f3e07f07d4b69daa06297c9623d96e3aab41b1f", func := "wayside/waysidelaw25.ServerPicks", spec := "serverPicks", inPlace := ["internal/bytealg.abigen_runtime_cmpstring", "internal/abi.NoEscape"], unfollowed := true, recurses := true, plainKeys := false, apart := false }
def ServerPicksSaid : Prop := serverPicksRow.holds Tryz.pinned (OpenSpec.ofChange serverPicksSpec)

/-- ITS FALSE NEIGHBOUR: 'it returns false'. Refute it at one input. -/
def serverPicksWrong : ChangeSpec := { name := "serverPicks", fn := fun _ => fun
  | [d1, d2, d3, d4] => { results := [.lit (.bool false)], args := [d1, d2, d3, d4] }
  | _ => none }
def ServerPicksWrongFalsely : Prop := serverPicksRow.holds Tryz.pinned (OpenSpec.ofChange serverPicksWrong)

/-- 'waysidelaw25.ServerFits': WHATEVER THE INPUT: true; the input reads as it did. -/
def serverFitsSpec : ChangeSpec := { name := "serverFits", fn := fun _ => fun
  | [d1, d2, d3] => { results := [.lit (.bool true)], args := [d1, d2, d3] }
  | _ => none }
def serverFitsRow : OpenClaim := { program := "ytaleiifbaefffaagreat", sum := "86b12106ee7b194e48fa98f57f3e07f07d4b69daa06297c9623d96e3aab41b1f", func := "wayside/waysidelaw25.ServerFits", spec := "serverFits", inPlace := ["internal/bytealg.abigen_runtime_cmpstring", "internal/abi.NoEscape"], unfollowed := true, recurses := true, plainKeys := false, apart := false }
def ServerFitsSaid : Prop := serverFitsRow.holds Tryz.pinned (OpenSpec.ofChange serverFitsSpec)

/-- ITS FALSE NEIGHBOUR: 'it returns false'. Refute it at one input. -/
def serverFitsWrong : ChangeSpec := { name := "serverFits", fn := fun _ => fun
  | [d1, d2, d3] => { results := [.lit (.bool false)], args := [d1, d2, d3] }
  | _ => none }
def ServerFitsWrongFalsely : Prop := serverFitsRow.holds Tryz.pinned (OpenSpec.ofChange serverFitsWrong)

/-- 'waysidelaw25.ServerAlone': WHATEVER THE INPUT: true; the input reads as it did. -/
def serverAloneSpec : ChangeSpec := { name := "serverAlone", fn := fun _ => fun
  | [d1, d2, d3, d4] => { results := [.lit (.bool true)], args := [d1, d2, d3, d4] }
  | _ => none }
def serverAloneRow : OpenClaim := { program := "ytaleiifbaefffaagreat", sum := "86b12106ee7b194e48fa98f57f3e07f07d4b69daa06297c9623d96e3aab41b1f", func := "wayside/waysidelaw25.ServerAlone", spec := "serverAlone", inPlace := ["internal/bytealg.abigen_runtime_cmpstring", "internal/abi.NoEscape"], unfollowed := true, recurses := true, plainKeys := false, apart := false }
def ServerAloneSaid : Prop := serverAloneRow.holds Tryz.pinned (OpenSpec.ofChange serverAloneSpec)

/-- ITS FALSE NEIGHBOUR: 'it returns false'. Refute it at one input. -/
def serverAloneWrong : ChangeSpec := { name := "serverAlone", fn := fun _ => fun
  | [d1, d2, d3, d4] => { results := [.lit (.bool false)], args := [d1, d2, d3, d4] }
  | _ => none }
def ServerAloneWrongFalsely : Prop := serverAloneRow.holds Tryz.pinned (OpenSpec.ofChange serverAloneWrong)

/-- 'waysidelaw25.ServerLive': WHATEVER THE INPUT: true; the input reads as it did. -/
def serverLiveSpec : ChangeSpec := { name := "serverLive", fn := fun _ => fun
  | [d1, d2, d3] => { results := [.lit (.bool true)], args := [d1, d2, d3] }
  | _ => none }
def serverLiveRow : OpenClaim := { program := "ytaleiifbaefffaagreat", sum := "86b12106ee7b194e48fa98f57f3e07f07d4b69daa06297c9623d96e3aab41b1f", func := "wayside/waysidelaw25.ServerLive", spec := "serverLive", inPlace := ["internal/bytealg.abigen_runtime_cmpstring", "internal/abi.NoEscape"], unfollowed := true, recurses := true, plainKeys := false, apart := false }
def ServerLiveSaid : Prop := serverLiveRow.holds Tryz.pinned (OpenSpec.ofChange serverLiveSpec)

/-- ITS FALSE NEIGHBOUR: 'it returns false'. Refute it at one input. -/
def serverLiveWrong : ChangeSpec := { name := "serverLive", fn := fun _ => fun
  | [d1, d2, d3] => { results := [.lit (.bool false)], args := [d1, d2, d3] }
  | _ => none }
def ServerLiveWrongFalsely : Prop := serverLiveRow.holds Tryz.pinned (OpenSpec.ofChange serverLiveWrong)

/-- 'waysidelaw25.ServerDrains': WHATEVER THE INPUT: true; the input reads as it did. -/
def serverDrainsSpec : ChangeSpec := { name := "serverDrains", fn := fun _ => fun
  | [d1, d2, d3] => { results := [.lit (.bool true)], args := [d1, d2, d3] }
  | _ => none }
def serverDrainsRow : OpenClaim := { program := "ytaleiifbaefffaagreat", sum := "86b12106ee7b194e48fa98f57f3e07f07d4b69daa06297c9623d96e3aab41b1f", func := "wayside/waysidelaw25.ServerDrains", spec := "serverDrains", inPlace := ["internal/bytealg.abigen_runtime_cmpstring", "internal/abi.NoEscape"], unfollowed := true, recurses := true, plainKeys := false, apart := false }
def ServerDrainsSaid : Prop := serverDrainsRow.holds Tryz.pinned (OpenSpec.ofChange serverDrainsSpec)

/-- ITS FALSE NEIGHBOUR: 'it returns false'. Refute it at one input. -/
def serverDrainsWrong : ChangeSpec := { name := "serverDrains", fn := fun _ => fun
  | [d1, d2, d3] => { results := [.lit (.bool false)], args := [d1, d2, d3] }
  | _ => none }
def ServerDrainsWrongFalsely : Prop := serverDrainsRow.holds Tryz.pinned (OpenSpec.ofChange serverDrainsWrong)

/- THE SECOND FORM. 'bulk': how many values and letters a reading holds, each counted each time it is reached (what is shared counts as often as it is met; a slice's spare places count too). A statement '..UptoSaid' is the law's where the arguments, and the package variables that the reading takes, are together of bulk at most 1048576: NARROWER than '..Said'. Prove '..Said' where nothing that the law and all that it calls make is longer than what came in: it says more and counts as full. Else prove '..UptoSaid'. A law counts once. -/
mutual
def uptoBulk {H : Type} : DataW H → Nat
  | .lit (.string bytes) => bytes.length + 1
  | .lit _ => 1
  | .nil => 1
  | .ptr d => uptoBulk d + 1
  | .slice elems spare => uptoBulkAll elems + uptoBulkAll spare + 1
  | .agg parts => uptoBulkAll parts + 1
  | .iface _ d => uptoBulk d + 1
  | .map entries => uptoBulkEntries entries + 1
  | .held _ => 1
def uptoBulkAll {H : Type} : List (DataW H) → Nat
  | [] => 0
  | d :: r => uptoBulk d + uptoBulkAll r
def uptoBulkEntries {H : Type} : List (Lit × DataW H) → Nat
  | [] => 0
  | x :: r => uptoBulkEntry x + uptoBulkEntries r
def uptoBulkEntry {H : Type} : Lit × DataW H → Nat
  | (.string bytes, d) => bytes.length + uptoBulk d + 1
  | (_, d) => uptoBulk d + 1
 end
def uptoSmall : (H : Type) → List (DataW H) → Bool := fun _ ds => decide (uptoBulkAll ds ≤ 1048576)
def OpenSpec.upto (s : _root_.Go.ChangeSpec) : _root_.Go.OpenSpec := { _root_.Go.OpenSpec.ofChange s with cond := some uptoSmall }

/-- 'waysidelaw25.ServerPicks', WHERE WHAT IT READS IS OF BULK AT MOST 1048576: true; the input reads as it did. -/
def serverPicksUptoRow : OpenClaim := { program := "ytaleiifbaefffaagreat", sum := "86b12106ee7b194e48fa98f57f3e07f07d4b69daa06297c9623d96e3aab41b1f", func := "wayside/waysidelaw25.ServerPicks", spec := "serverPicks", inPlace := ["internal/bytealg.abigen_runtime_cmpstring", "internal/abi.NoEscape"], unfollowed := true, recurses := true, plainKeys := false, apart := false, narrowed := true }
def ServerPicksUptoSaid : Prop := serverPicksUptoRow.holds Tryz.pinned (OpenSpec.upto serverPicksSpec)

/-- 'waysidelaw25.ServerFits', WHERE WHAT IT READS IS OF BULK AT MOST 1048576: true; the input reads as it did. -/
def serverFitsUptoRow : OpenClaim := { program := "ytaleiifbaefffaagreat", sum := "86b12106ee7b194e48fa98f57f3e07f07d4b69daa06297c9623d96e3aab41b1f", func := "wayside/waysidelaw25.ServerFits", spec := "serverFits", inPlace := ["internal/bytealg.abigen_runtime_cmpstring", "internal/abi.NoEscape"], unfollowed := true, recurses := true, plainKeys := false, apart := false, narrowed := true }
def ServerFitsUptoSaid : Prop := serverFitsUptoRow.holds Tryz.pinned (OpenSpec.upto serverFitsSpec)

/-- 'waysidelaw25.ServerAlone', WHERE WHAT IT READS IS OF BULK AT MOST 1048576: true; the input reads as it did. -/
def serverAloneUptoRow : OpenClaim := { program := "ytaleiifbaefffaagreat", sum := "86b12106ee7b194e48fa98f57f3e07f07d4b69daa06297c9623d96e3aab41b1f", func := "wayside/waysidelaw25.ServerAlone", spec := "serverAlone", inPlace := ["internal/bytealg.abigen_runtime_cmpstring", "internal/abi.NoEscape"], unfollowed := true, recurses := true, plainKeys := false, apart := false, narrowed := true }
def ServerAloneUptoSaid : Prop := serverAloneUptoRow.holds Tryz.pinned (OpenSpec.upto serverAloneSpec)

/-- 'waysidelaw25.ServerLive', WHERE WHAT IT READS IS OF BULK AT MOST 1048576: true; the input reads as it did. -/
def serverLiveUptoRow : OpenClaim := { program := "ytaleiifbaefffaagreat", sum := "86b12106ee7b194e48fa98f57f3e07f07d4b69daa06297c9623d96e3aab41b1f", func := "wayside/waysidelaw25.ServerLive", spec := "serverLive", inPlace := ["internal/bytealg.abigen_runtime_cmpstring", "internal/abi.NoEscape"], unfollowed := true, recurses := true, plainKeys := false, apart := false, narrowed := true }
def ServerLiveUptoSaid : Prop := serverLiveUptoRow.holds Tryz.pinned (OpenSpec.upto serverLiveSpec)

/-- 'waysidelaw25.ServerDrains', WHERE WHAT IT READS IS OF BULK AT MOST 1048576: true; the input reads as it did. -/
def serverDrainsUptoRow : OpenClaim := { program := "ytaleiifbaefffaagreat", sum := "86b12106ee7b194e48fa98f57f3e07f07d4b69daa06297c9623d96e3aab41b1f", func := "wayside/waysidelaw25.ServerDrains", spec := "serverDrains", inPlace := ["internal/bytealg.abigen_runtime_cmpstring", "internal/abi.NoEscape"], unfollowed := true, recurses := true, plainKeys := false, apart := false, narrowed := true }
def ServerDrainsUptoSaid : Prop := serverDrainsUptoRow.holds Tryz.pinned (OpenSpec.upto serverDrainsSpec)

end Rows
end Go.Proofs.YtaleiifbaefffaaGreat
