/-
  No cell of these rows narrows 'for every input' (looked for: loops, veiled, ifaces, maps, wideKeys, modest, calm, conditions, laid).
  DERIVED. THE GIVEN ROWS OF THIS SEAT. 8 by the template 'for every input the law returns true; each argument reads behind the call as it read before'; 0 by the template 'total and deterministic' (their statements: YtkcbegmkbjmmfaaGreatTotals.lean).
  GIVEN WITH THE SEED: the statements are not yours to turn. If you find one false, say at which input.
  Laid BY PROGRAM, IN A SANDBOX (cutbox-rows.mjs): the forced cells as the released guide's own fill.sh prints them over the translation 3ddd446c2c47752e… (all of the seat's roots in one cut). By AI agents, Wed Nov 11 2026. No macro, syntax, notation, axiom, sorry.
-/
import Derived.Test.YtkcbegmkbjmmfaaGreatChecked
import GoSem.Claim
import GoSem.ClaimJoined
import GoSem.ClaimMapViews
import Derived.JoinedTies
import Derived.KernelRfl
namespace Go.Proofs.YtkcbegmkbjmmfaaGreat
/- THE CELL 'sum', in the pinned program and in every row, IS THE sha256 OF THE DUMP (.gsa) THAT YtkcbegmkbjmmfaaGreatProg.lean LOADS. Nothing in Lean hashes anything: it is a label: what it is worth is what the hold of that sum in a sandbox is worth. -/
noncomputable def Tryz.pinned : Pinned := { name := "ytkcbegmkbjmmfaagreat", sum := "3ddd446c2c47752e6f157e1f4a83959b20954b1023328e5e47cdb994e8c41a7b", checked := Tryz.checked }
namespace Rows
def none {H : Type} : Left H := { results := [], args := [] }

/-- 'beehivetop.TopKills': WHATEVER THE INPUT: true; the input reads as it did. -/
def topKillsSpec : ChangeSpec := { name := "topKills", fn := fun _ => fun
  | [d1, d2] => { results := [.lit (.bool true)], args := [d1, d2] }
  | _ => none }
def topKillsRow : OpenClaim := { program := "ytkcbegmkbjmmfaagreat", sum := "3ddd446c2c47752e6f157e1f4a83959b20954b1023328e5e47cdb994e8c41a7b", func := "beehive/beehivetop.TopKills", spec := "topKills", inPlace := ["math.Float64frombits", "math.Float64bits", "math.archTrunc", "internal/bytealg.abigen_runtime_cmpstring"], unfollowed := true, recurses := true, plainKeys := false, apart := false }
def TopKillsSaid : Prop := topKillsRow.holds Tryz.pinned (OpenSpec.ofChange topKillsSpec)

/-- ITS FALSE NEIGHBOUR: 'it returns false'. Refute it at one input. -/
def topKillsWrong : ChangeSpec := { name := "topKills", fn := fun _ => fun
  | [d1, d2] => { results := [.lit (.bool false)], args := [d1, d2] }
  | _ => none }
def TopKillsWrongFalsely : Prop := topKillsRow.holds Tryz.pinned (OpenSpec.ofChange topKillsWrong)

/-- 'beehivelaw22.WorldRuns': WHATEVER THE INPUT: true; the input reads as it did. -/
def worldRunsSpec : ChangeSpec := { name := "worldRuns", fn := fun _ => fun
  | [d1, d2, d3] => { results := [.lit (.bool true)], args := [d1, d2, d3] }
  | _ => none }
def worldRunsRow : OpenClaim := { program := "ytkcbegmkbjmmfaagreat", sum := "3ddd446c2c47752e6f157e1f4a83959b20954b1023328e5e47cdb994e8c41a7b", func := "beehive/beehivelaw22.WorldRuns", spec := "worldRuns", inPlace := ["math.Float64frombits", "math.Float64bits", "math.archTrunc", "internal/bytealg.abigen_runtime_cmpstring"], unfollowed := true, recurses := true, plainKeys := false, apart := false }
def WorldRunsSaid : Prop := worldRunsRow.holds Tryz.pinned (OpenSpec.ofChange worldRunsSpec)

/-- ITS FALSE NEIGHBOUR: 'it returns false'. Refute it at one input. -/
def worldRunsWrong : ChangeSpec := { name := "worldRuns", fn := fun _ => fun
  | [d1, d2, d3] => { results := [.lit (.bool false)], args := [d1, d2, d3] }
  | _ => none }
def WorldRunsWrongFalsely : Prop := worldRunsRow.holds Tryz.pinned (OpenSpec.ofChange worldRunsWrong)

/-- 'beehivelaw22.WorldTwins': WHATEVER THE INPUT: true; the input reads as it did. -/
def worldTwinsSpec : ChangeSpec := { name := "worldTwins", fn := fun _ => fun
  | [d1, d2, d3, d4] => { results := [.lit (.bool true)], args := [d1, d2, d3, d4] }
  | _ => none }
def worldTwinsRow : OpenClaim := { program := "ytkcbegmkbjmmfaagreat", sum := "3ddd446c2c47752e6f157e1f4a83959b20954b1023328e5e47cdb994e8c41a7b", func := "beehive/beehivelaw22.WorldTwins", spec := "worldTwins", inPlace := ["math.Float64frombits", "math.Float64bits", "math.archTrunc", "internal/bytealg.abigen_runtime_cmpstring"], unfollowed := true, recurses := true, plainKeys := false, apart := false }
def WorldTwinsSaid : Prop := worldTwinsRow.holds Tryz.pinned (OpenSpec.ofChange worldTwinsSpec)

/-- ITS FALSE NEIGHBOUR: 'it returns false'. Refute it at one input. -/
def worldTwinsWrong : ChangeSpec := { name := "worldTwins", fn := fun _ => fun
  | [d1, d2, d3, d4] => { results := [.lit (.bool false)], args := [d1, d2, d3, d4] }
  | _ => none }
def WorldTwinsWrongFalsely : Prop := worldTwinsRow.holds Tryz.pinned (OpenSpec.ofChange worldTwinsWrong)

/-- 'beehivelaw22.WorldTells': WHATEVER THE INPUT: true; the input reads as it did. -/
def worldTellsSpec : ChangeSpec := { name := "worldTells", fn := fun _ => fun
  | [d1, d2, d3] => { results := [.lit (.bool true)], args := [d1, d2, d3] }
  | _ => none }
def worldTellsRow : OpenClaim := { program := "ytkcbegmkbjmmfaagreat", sum := "3ddd446c2c47752e6f157e1f4a83959b20954b1023328e5e47cdb994e8c41a7b", func := "beehive/beehivelaw22.WorldTells", spec := "worldTells", inPlace := ["math.Float64frombits", "math.Float64bits", "math.archTrunc", "internal/bytealg.abigen_runtime_cmpstring"], unfollowed := true, recurses := true, plainKeys := false, apart := false }
def WorldTellsSaid : Prop := worldTellsRow.holds Tryz.pinned (OpenSpec.ofChange worldTellsSpec)

/-- ITS FALSE NEIGHBOUR: 'it returns false'. Refute it at one input. -/
def worldTellsWrong : ChangeSpec := { name := "worldTells", fn := fun _ => fun
  | [d1, d2, d3] => { results := [.lit (.bool false)], args := [d1, d2, d3] }
  | _ => none }
def WorldTellsWrongFalsely : Prop := worldTellsRow.holds Tryz.pinned (OpenSpec.ofChange worldTellsWrong)

/-- 'beehivelaw22.WorldForced': WHATEVER THE INPUT: true; the input reads as it did. -/
def worldForcedSpec : ChangeSpec := { name := "worldForced", fn := fun _ => fun
  | [d1, d2, d3, d4, d5] => { results := [.lit (.bool true)], args := [d1, d2, d3, d4, d5] }
  | _ => none }
def worldForcedRow : OpenClaim := { program := "ytkcbegmkbjmmfaagreat", sum := "3ddd446c2c47752e6f157e1f4a83959b20954b1023328e5e47cdb994e8c41a7b", func := "beehive/beehivelaw22.WorldForced", spec := "worldForced", inPlace := ["math.Float64frombits", "math.Float64bits", "math.archTrunc", "internal/bytealg.abigen_runtime_cmpstring"], unfollowed := true, recurses := true, plainKeys := false, apart := false }
def WorldForcedSaid : Prop := worldForcedRow.holds Tryz.pinned (OpenSpec.ofChange worldForcedSpec)

/-- ITS FALSE NEIGHBOUR: 'it returns false'. Refute it at one input. -/
def worldForcedWrong : ChangeSpec := { name := "worldForced", fn := fun _ => fun
  | [d1, d2, d3, d4, d5] => { results := [.lit (.bool false)], args := [d1, d2, d3, d4, d5] }
  | _ => none }
def WorldForcedWrongFalsely : Prop := worldForcedRow.holds Tryz.pinned (OpenSpec.ofChange worldForcedWrong)

/-- 'beehivelaw22.WorldBudget': WHATEVER THE INPUT: true; the input reads as it did. -/
def worldBudgetSpec : ChangeSpec := { name := "worldBudget", fn := fun _ => fun
  | [d1, d2, d3] => { results := [.lit (.bool true)], args := [d1, d2, d3] }
  | _ => none }
def worldBudgetRow : OpenClaim := { program := "ytkcbegmkbjmmfaagreat", sum := "3ddd446c2c47752e6f157e1f4a83959b20954b1023328e5e47cdb994e8c41a7b", func := "beehive/beehivelaw22.WorldBudget", spec := "worldBudget", inPlace := ["math.Float64frombits", "math.Float64bits", "math.archTrunc", "internal/bytealg.abigen_runtime_cmpstring"], unfollowed := true, recurses := true, plainKeys := false, apart := false }
def WorldBudgetSaid : Prop := worldBudgetRow.holds Tryz.pinned (OpenSpec.ofChange worldBudgetSpec)

/-- ITS FALSE NEIGHBOUR: 'it returns false'. Refute it at one input. -/
def worldBudgetWrong : ChangeSpec := { name := "worldBudget", fn := fun _ => fun
  | [d1, d2, d3] => { results := [.lit (.bool false)], args := [d1, d2, d3] }
  | _ => none }
def WorldBudgetWrongFalsely : Prop := worldBudgetRow.holds Tryz.pinned (OpenSpec.ofChange worldBudgetWrong)

/-- 'beehivelaw22.WorldNone': WHATEVER THE INPUT: true; the input reads as it did. -/
def worldNoneSpec : ChangeSpec := { name := "worldNone", fn := fun _ => fun
  | [d] => { results := [.lit (.bool true)], args := [d] }
  | _ => none }
def worldNoneRow : OpenClaim := { program := "ytkcbegmkbjmmfaagreat", sum := "3ddd446c2c47752e6f157e1f4a83959b20954b1023328e5e47cdb994e8c41a7b", func := "beehive/beehivelaw22.WorldNone", spec := "worldNone", inPlace := ["math.Float64frombits", "math.Float64bits", "math.archTrunc", "internal/bytealg.abigen_runtime_cmpstring"], unfollowed := true, recurses := true, plainKeys := false, apart := false }
def WorldNoneSaid : Prop := worldNoneRow.holds Tryz.pinned (OpenSpec.ofChange worldNoneSpec)

/-- ITS FALSE NEIGHBOUR: 'it returns false'. Refute it at one input. -/
def worldNoneWrong : ChangeSpec := { name := "worldNone", fn := fun _ => fun
  | [d] => { results := [.lit (.bool false)], args := [d] }
  | _ => none }
def WorldNoneWrongFalsely : Prop := worldNoneRow.holds Tryz.pinned (OpenSpec.ofChange worldNoneWrong)

/-- 'beehivelaw23.AuditRight': WHATEVER THE INPUT: true; the input reads as it did. -/
def auditRightSpec : ChangeSpec := { name := "auditRight", fn := fun _ => fun
  | [d1, d2, d3] => { results := [.lit (.bool true)], args := [d1, d2, d3] }
  | _ => none }
def auditRightRow : OpenClaim := { program := "ytkcbegmkbjmmfaagreat", sum := "3ddd446c2c47752e6f157e1f4a83959b20954b1023328e5e47cdb994e8c41a7b", func := "beehive/beehivelaw23.AuditRight", spec := "auditRight", inPlace := ["math.Float64frombits", "math.Float64bits", "math.archTrunc", "internal/bytealg.abigen_runtime_cmpstring"], unfollowed := true, recurses := true, plainKeys := false, apart := false }
def AuditRightSaid : Prop := auditRightRow.holds Tryz.pinned (OpenSpec.ofChange auditRightSpec)

/-- ITS FALSE NEIGHBOUR: 'it returns false'. Refute it at one input. -/
def auditRightWrong : ChangeSpec := { name := "auditRight", fn := fun _ => fun
  | [d1, d2, d3] => { results := [.lit (.bool false)], args := [d1, d2, d3] }
  | _ => none }
def AuditRightWrongFalsely : Prop := auditRightRow.holds Tryz.pinned (OpenSpec.ofChange auditRightWrong)

/- THE SECOND FORM. 'bulk': how many values and letters a reading holds, each counted each time it is reached (what is shared counts as often as it is met; a slice's spare places count too). A statement '..UptoSaid' is the law's where the arguments, and the package variables that the reading takes, are together of bulk at most 1048576: NARROWER than '..Said'. Prove '..Said' where nothing that the law and all that it calls make is longer than what came in: it says more and counts as full. Else prove '..UptoSaid'. A law counts once. -/
mutual
def uptoBulk {H : Type} : DataW H → Nat
  | .lit (.string bytes) => bytes.length + 1
  | .lit _ => 1
  | .nil => 1
  | .ptr d => uptoBulk d + 1
  | .slice elems spare => uptoBulkAll elems + uptoBulkAll spare + 1
  | .agg parts => uptoBulkAll parts + 1
  | .iface _ d => uptoBulk d + 1
  | .map entries => uptoBulkEntries entries + 1
  | .held _ => 1
def uptoBulkAll {H : Type} : List (DataW H) → Nat
  | [] => 0
  | d :: r => uptoBulk d + uptoBulkAll r
def uptoBulkEntries {H : Type} : List (Lit × DataW H) → Nat
  | [] => 0
  | x :: r => uptoBulkEntry x + uptoBulkEntries r
def uptoBulkEntry {H : Type} : Lit × DataW H → Nat
  | (.string bytes, d) => bytes.length + uptoBulk d + 1
  | (_, d) => uptoBulk d + 1
 end
def uptoSmall : (H : Type) → List (DataW H) → Bool := fun _ ds => decide (uptoBulkAll ds ≤ 1048576)
def OpenSpec.upto (s : _root_.Go.ChangeSpec) : _root_.Go.OpenSpec := { _root_.Go.OpenSpec.ofChange s with cond := some uptoSmall }

/-- 'beehivetop.TopKills', WHERE WHAT IT READS IS OF BULK AT MOST 1048576: true; the input reads as it did. -/
def topKillsUptoRow : OpenClaim := { program := "ytkcbegmkbjmmfaagreat", sum := "3ddd446c2c47752e6f157e1f4a83959b20954b1023328e5e47cdb994e8c41a7b", func := "beehive/beehivetop.TopKills", spec := "topKills", inPlace := ["math.Float64frombits", "math.Float64bits", "math.archTrunc", "internal/bytealg.abigen_runtime_cmpstring"], unfollowed := true, recurses := true, plainKeys := false, apart := false, narrowed := true }
def TopKillsUptoSaid : Prop := topKillsUptoRow.holds Tryz.pinned (OpenSpec.upto topKillsSpec)

/-- 'beehivelaw22.WorldRuns', WHERE WHAT IT READS IS OF BULK AT MOST 1048576: true; the input reads as it did. -/
def worldRunsUptoRow : OpenClaim := { program := "ytkcbegmkbjmmfaagreat", sum := "3ddd446c2c47752e6f157e1f4a83959b20954b1023328e5e47cdb994e8c41a7b", func := "beehive/beehivelaw22.WorldRuns", spec := "worldRuns", inPlace := ["math.Float64frombits", "math.Float64bits", "math.archTrunc", "internal/bytealg.abigen_runtime_cmpstring"], unfollowed := true, recurses := true, plainKeys := false, apart := false, narrowed := true }
def WorldRunsUptoSaid : Prop := worldRunsUptoRow.holds Tryz.pinned (OpenSpec.upto worldRunsSpec)

/-- 'beehivelaw22.WorldTwins', WHERE WHAT IT READS IS OF BULK AT MOST 1048576: true; the input reads as it did. -/
def worldTwinsUptoRow : OpenClaim := { program := "ytkcbegmkbjmmfaagreat", sum := "3ddd446c2c47752e6f157e1f4a83959b20954b1023328e5e47cdb994e8c41a7b", func := "beehive/beehivelaw22.WorldTwins", spec := "worldTwins", inPlace := ["math.Float64frombits", "math.Float64bits", "math.archTrunc", "internal/bytealg.abigen_runtime_cmpstring"], unfollowed := true, recurses := true, plainKeys := false, apart := false, narrowed := true }
def WorldTwinsUptoSaid : Prop := worldTwinsUptoRow.holds Tryz.pinned (OpenSpec.upto worldTwinsSpec)

/-- 'beehivelaw22.WorldTells', WHERE WHAT IT READS IS OF BULK AT MOST 1048576: true; the input reads as it did. -/
def worldTellsUptoRow : OpenClaim := { program := "ytkcbegmkbjmmfaagreat", sum := "3ddd446c2c47752e6f157e1f4a83959b20954b1023328e5e47cdb994e8c41a7b", func := "beehive/beehivelaw22.WorldTells", spec := "worldTells", inPlace := ["math.Float64frombits", "math.Float64bits", "math.archTrunc", "internal/bytealg.abigen_runtime_cmpstring"], unfollowed := true, recurses := true, plainKeys := false, apart := false, narrowed := true }
def WorldTellsUptoSaid : Prop := worldTellsUptoRow.holds Tryz.pinned (OpenSpec.upto worldTellsSpec)

/-- 'beehivelaw22.WorldForced', WHERE WHAT IT READS IS OF BULK AT MOST 1048576: true; the input reads as it did. -/
def worldForcedUptoRow : OpenClaim := { program := "ytkcbegmkbjmmfaagreat", sum := "3ddd446c2c47752e6f157e1f4a83959b20954b1023328e5e47cdb994e8c41a7b", func := "beehive/beehivelaw22.WorldForced", spec := "worldForced", inPlace := ["math.Float64frombits", "math.Float64bits", "math.archTrunc", "internal/bytealg.abigen_runtime_cmpstring"], unfollowed := true, recurses := true, plainKeys := false, apart := false, narrowed := true }
def WorldForcedUptoSaid : Prop := worldForcedUptoRow.holds Tryz.pinned (OpenSpec.upto worldForcedSpec)

/-- 'beehivelaw22.WorldBudget', WHERE WHAT IT READS IS OF BULK AT MOST 1048576: true; the input reads as it did. -/
def worldBudgetUptoRow : OpenClaim := { program := "ytkcbegmkbjmmfaagreat", sum := "3ddd446c2c47752e6f157e1f4a83959b20954b1023328e5e47cdb994e8c41a7b", func := "beehive/beehivelaw22.WorldBudget", spec := "worldBudget", inPlace := ["math.Float64frombits", "math.Float64bits", "math.archTrunc", "internal/bytealg.abigen_runtime_cmpstring"], unfollowed := true, recurses := true, plainKeys := false, apart := false, narrowed := true }
def WorldBudgetUptoSaid : Prop := worldBudgetUptoRow.holds Tryz.pinned (OpenSpec.upto worldBudgetSpec)

/-- 'beehivelaw22.WorldNone', WHERE WHAT IT READS IS OF BULK AT MOST 1048576: true; the input reads as it did. -/
def worldNoneUptoRow : OpenClaim := { program := "ytkcbegmkbjmmfaagreat", sum := "3ddd446c2c47752e6f157e1f4a83959b20954b1023328e5e47cdb994e8c41a7b", func := "beehive/beehivelaw22.WorldNone", spec := "worldNone", inPlace := ["math.Float64frombits", "math.Float64bits", "math.archTrunc", "internal/bytealg.abigen_runtime_cmpstring"], unfollowed := true, recurses := true, plainKeys := false, apart := false, narrowed := true }
def WorldNoneUptoSaid : Prop := worldNoneUptoRow.holds Tryz.pinned (OpenSpec.upto worldNoneSpec)

/-- 'beehivelaw23.AuditRight', WHERE WHAT IT READS IS OF BULK AT MOST 1048576: true; the input reads as it did. -/
def auditRightUptoRow : OpenClaim := { program := "ytkcbegmkbjmmfaagreat", sum := "3ddd446c2c47752e6f157e1f4a83959b20954b1023328e5e47cdb994e8c41a7b", func := "beehive/beehivelaw23.AuditRight", spec := "auditRight", inPlace := ["math.Float64frombits", "math.Float64bits", "math.archTrunc", "internal/bytealg.abigen_runtime_cmpstring"], unfollowed := true, recurses := true, plainKeys := false, apart := false, narrowed := true }
def AuditRightUptoSaid : Prop := auditRightUptoRow.holds Tryz.pinned (OpenSpec.upto auditRightSpec)

end Rows
end Go.Proofs.YtkcbegmkbjmmfaaGreat
