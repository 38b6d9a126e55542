/-
  NARROWER THAN 'FOR EVERY INPUT', by the rows' own cells (each row's printed sentence says how): HiveCuts: loops · HiveTurns: loops.
  DERIVED. THE GIVEN ROWS OF THIS SEAT. 3 by the template 'for every input the law returns true; each argument reads behind the call as it read before'; 0 by the template 'total and deterministic' (their statements: YtkilcechnoenpaaGreatTotals.lean).
  GIVEN WITH THE SEED: the statements are not yours to turn. If you find one false, say at which input.
  Laid BY PROGRAM, IN A SANDBOX (cutbox-rows.mjs): the forced cells as the released guide's own fill.sh prints them over the translation 06c4880bc5820911… (all of the seat's roots in one cut). By AI agents, Wed Nov 11 2026. No macro, syntax, notation, axiom, sorry.
-/
import Derived.Test.YtkilcechnoenpaaGreatChecked
import GoSem.Claim
import GoSem.ClaimJoined
import GoSem.ClaimMapViews
import Derived.JoinedTies
import Derived.KernelRfl
namespace Go.Proofs.YtkilcechnoenpaaGreat
/- THE CELL 'sum', in the pinned program and in every row, IS THE sha256 OF THE DUMP (.gsa) THAT YtkilcechnoenpaaGreatProg.lean LOADS. Nothing in Lean hashes anything: it is a label: what it is worth is what the hold of that sum in a sandbox is worth. -/
noncomputable def Tryz.pinned : Pinned := { name := "ytkilcechnoenpaagreat", sum := "06c4880bc582091133ee548e4b24410d32bb1e4a5e214240f125c964a78e163c", checked := Tryz.checked }
namespace Rows
def none {H : Type} : Left H := { results := [], args := [] }

/-- 'beehivelaw20.HiveCuts': WHATEVER THE INPUT: true; the input reads as it did. -/
def hiveCutsSpec : ChangeSpec := { name := "hiveCuts", fn := fun _ => fun
  | [d1, d2, d3] => { results := [.lit (.bool true)], args := [d1, d2, d3] }
  | _ => none }
def hiveCutsRow : OpenClaim := { program := "ytkilcechnoenpaagreat", sum := "06c4880bc582091133ee548e4b24410d32bb1e4a5e214240f125c964a78e163c", func := "beehive/beehivelaw20.HiveCuts", spec := "hiveCuts", inPlace := ["math.Float64frombits", "math.Float64bits", "math.archTrunc", "internal/bytealg.abigen_runtime_cmpstring"], unfollowed := true, recurses := true, loops := true, apart := false }
def HiveCutsSaid : Prop := hiveCutsRow.holds Tryz.pinned (OpenSpec.ofChange hiveCutsSpec)

/-- ITS FALSE NEIGHBOUR: 'it returns false'. Refute it at one input. -/
def hiveCutsWrong : ChangeSpec := { name := "hiveCuts", fn := fun _ => fun
  | [d1, d2, d3] => { results := [.lit (.bool false)], args := [d1, d2, d3] }
  | _ => none }
def HiveCutsWrongFalsely : Prop := hiveCutsRow.holds Tryz.pinned (OpenSpec.ofChange hiveCutsWrong)

/-- 'beehivelaw20.HiveNone': WHATEVER THE INPUT: true; the input reads as it did. -/
def hiveNoneSpec : ChangeSpec := { name := "hiveNone", fn := fun _ => fun
  | [d] => { results := [.lit (.bool true)], args := [d] }
  | _ => none }
def hiveNoneRow : OpenClaim := { program := "ytkilcechnoenpaagreat", sum := "06c4880bc582091133ee548e4b24410d32bb1e4a5e214240f125c964a78e163c", func := "beehive/beehivelaw20.HiveNone", spec := "hiveNone", inPlace := ["math.Float64frombits", "math.Float64bits", "math.archTrunc", "internal/bytealg.abigen_runtime_cmpstring"], unfollowed := true, recurses := true, apart := false }
def HiveNoneSaid : Prop := hiveNoneRow.holds Tryz.pinned (OpenSpec.ofChange hiveNoneSpec)

/-- ITS FALSE NEIGHBOUR: 'it returns false'. Refute it at one input. -/
def hiveNoneWrong : ChangeSpec := { name := "hiveNone", fn := fun _ => fun
  | [d] => { results := [.lit (.bool false)], args := [d] }
  | _ => none }
def HiveNoneWrongFalsely : Prop := hiveNoneRow.holds Tryz.pinned (OpenSpec.ofChange hiveNoneWrong)

/-- 'beehivelaw20.HiveTurns': WHATEVER THE INPUT: true; the input reads as it did. -/
def hiveTurnsSpec : ChangeSpec := { name := "hiveTurns", fn := fun _ => fun
  | [d1, d2, d3, d4] => { results := [.lit (.bool true)], args := [d1, d2, d3, d4] }
  | _ => none }
def hiveTurnsRow : OpenClaim := { program := "ytkilcechnoenpaagreat", sum := "06c4880bc582091133ee548e4b24410d32bb1e4a5e214240f125c964a78e163c", func := "beehive/beehivelaw20.HiveTurns", spec := "hiveTurns", inPlace := ["math.Float64frombits", "math.Float64bits", "math.archTrunc", "internal/bytealg.abigen_runtime_cmpstring"], unfollowed := true, recurses := true, loops := true, apart := false }
def HiveTurnsSaid : Prop := hiveTurnsRow.holds Tryz.pinned (OpenSpec.ofChange hiveTurnsSpec)

/-- ITS FALSE NEIGHBOUR: 'it returns false'. Refute it at one input. -/
def hiveTurnsWrong : ChangeSpec := { name := "hiveTurns", fn := fun _ => fun
  | [d1, d2, d3, d4] => { results := [.lit (.bool false)], args := [d1, d2, d3, d4] }
  | _ => none }
def HiveTurnsWrongFalsely : Prop := hiveTurnsRow.holds Tryz.pinned (OpenSpec.ofChange hiveTurnsWrong)

/- THE SECOND FORM. 'bulk': how many values and letters a reading holds, each counted each time it is reached (what is shared counts as often as it is met; a slice's spare places count too). A statement '..UptoSaid' is the law's where the arguments, and the package variables that the reading takes, are together of bulk at most 1048576: NARROWER than '..Said'. Prove '..Said' where nothing that the law and all that it calls make is longer than what came in: it says more and counts as full. Else prove '..UptoSaid'. A law counts once. -/
mutual
def uptoBulk {H : Type} : DataW H → Nat
  | .lit (.string bytes) => bytes.length + 1
  | .lit _ => 1
  | .nil => 1
  | .ptr d => uptoBulk d + 1
  | .slice elems spare => uptoBulkAll elems + uptoBulkAll spare + 1
  | .agg parts => uptoBulkAll parts + 1
  | .iface _ d => uptoBulk d + 1
  | .map entries => uptoBulkEntries entries + 1
  | .held _ => 1
def uptoBulkAll {H : Type} : List (DataW H) → Nat
  | [] => 0
  | d :: r => uptoBulk d + uptoBulkAll r
def uptoBulkEntries {H : Type} : List (Lit × DataW H) → Nat
  | [] => 0
  | x :: r => uptoBulkEntry x + uptoBulkEntries r
def uptoBulkEntry {H : Type} : Lit × DataW H → Nat
  | (.string bytes, d) => bytes.length + uptoBulk d + 1
  | (_, d) => uptoBulk d + 1
 end
def uptoSmall : (H : Type) → List (DataW H) → Bool := fun _ ds => decide (uptoBulkAll ds ≤ 1048576)
def OpenSpec.upto (s : _root_.Go.ChangeSpec) : _root_.Go.OpenSpec := { _root_.Go.OpenSpec.ofChange s with cond := some uptoSmall }

/-- 'beehivelaw20.HiveCuts', WHERE WHAT IT READS IS OF BULK AT MOST 1048576: true; the input reads as it did. -/
def hiveCutsUptoRow : OpenClaim := { program := "ytkilcechnoenpaagreat", sum := "06c4880bc582091133ee548e4b24410d32bb1e4a5e214240f125c964a78e163c", func := "beehive/beehivelaw20.HiveCuts", spec := "hiveCuts", inPlace := ["math.Float64frombits", "math.Float64bits", "math.archTrunc", "internal/bytealg.abigen_runtime_cmpstring"], unfollowed := true, recurses := true, loops := true, apart := false, narrowed := true }
def HiveCutsUptoSaid : Prop := hiveCutsUptoRow.holds Tryz.pinned (OpenSpec.upto hiveCutsSpec)

/-- 'beehivelaw20.HiveNone', WHERE WHAT IT READS IS OF BULK AT MOST 1048576: true; the input reads as it did. -/
def hiveNoneUptoRow : OpenClaim := { program := "ytkilcechnoenpaagreat", sum := "06c4880bc582091133ee548e4b24410d32bb1e4a5e214240f125c964a78e163c", func := "beehive/beehivelaw20.HiveNone", spec := "hiveNone", inPlace := ["math.Float64frombits", "math.Float64bits", "math.archTrunc", "internal/bytealg.abigen_runtime_cmpstring"], unfollowed := true, recurses := true, apart := false, narrowed := true }
def HiveNoneUptoSaid : Prop := hiveNoneUptoRow.holds Tryz.pinned (OpenSpec.upto hiveNoneSpec)

/-- 'beehivelaw20.HiveTurns', WHERE WHAT IT READS IS OF BULK AT MOST 1048576: true; the input reads as it did. -/
def hiveTurnsUptoRow : OpenClaim := { program := "ytkilcechnoenpaagreat", sum := "06c4880bc582091133ee548e4b24410d32bb1e4a5e214240f125c964a78e163c", func := "beehive/beehivelaw20.HiveTurns", spec := "hiveTurns", inPlace := ["math.Float64frombits", "math.Float64bits", "math.archTrunc", "internal/bytealg.abigen_runtime_cmpstring"], unfollowed := true, recurses := true, loops := true, apart := false, narrowed := true }
def HiveTurnsUptoSaid : Prop := hiveTurnsUptoRow.holds Tryz.pinned (OpenSpec.upto hiveTurnsSpec)

end Rows
end Go.Proofs.YtkilcechnoenpaaGreat
