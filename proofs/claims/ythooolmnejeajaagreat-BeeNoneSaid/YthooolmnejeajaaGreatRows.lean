/-
  NARROWER THAN 'FOR EVERY INPUT', by the rows' own cells (each row's printed sentence says how): BeeHeld: loops · BeeRoom: loops · BeeSteps: loops.
  DERIVED. THE GIVEN ROWS OF THIS SEAT. 4 by the template 'for every input the law returns true; each argument reads behind the call as it read before'; 0 by the template 'total and deterministic' (their statements: YthooolmnejeajaaGreatTotals.lean).
  GIVEN WITH THE SEED: the statements are not yours to turn. If you find one false, say at which input.
  Laid BY PROGRAM, IN A SANDBOX (cutbox-rows.mjs): the forced cells as the released guide's own fill.sh prints them over the translation aefd831f193c5fee… (all of the seat's roots in one cut). By AI agents, Wed Nov 11 2026. No macro, syntax, notation, axiom, sorry.
-/
import Derived.Test.YthooolmnejeajaaGreatChecked
import GoSem.Claim
import GoSem.ClaimJoined
import GoSem.ClaimMapViews
import Derived.JoinedTies
import Derived.KernelRfl
namespace Go.Proofs.YthooolmnejeajaaGreat
/- THE CELL 'sum', in the pinned program and in every row, IS THE sha256 OF THE DUMP (.gsa) THAT YthooolmnejeajaaGreatProg.lean LOADS. Nothing in Lean hashes anything: it is a label: what it is worth is what the hold of that sum in a sandbox is worth. -/
noncomputable def Tryz.pinned : Pinned := { name := "ythooolmnejeajaagreat", sum := "aefd831f193c5feedcdc52f5e0c2fda6ac397acaff2b50e24ec7101e924983a9", checked := Tryz.checked }
namespace Rows
def none {H : Type} : Left H := { results := [], args := [] }

/-- 'beehivelaw21.BeeHeld': WHATEVER THE INPUT: true; the input reads as it did. -/
def beeHeldSpec : ChangeSpec := { name := "beeHeld", fn := fun _ => fun
  | [d1, d2, d3, d4] => { results := [.lit (.bool true)], args := [d1, d2, d3, d4] }
  | _ => none }
def beeHeldRow : OpenClaim := { program := "ythooolmnejeajaagreat", sum := "aefd831f193c5feedcdc52f5e0c2fda6ac397acaff2b50e24ec7101e924983a9", func := "beehive/beehivelaw21.BeeHeld", spec := "beeHeld", inPlace := ["math.Float64frombits", "math.Float64bits", "math.archTrunc", "internal/bytealg.abigen_runtime_cmpstring"], unfollowed := true, recurses := true, loops := true, plainKeys := false, apart := false }
def BeeHeldSaid : Prop := beeHeldRow.holds Tryz.pinned (OpenSpec.ofChange beeHeldSpec)

/-- ITS FALSE NEIGHBOUR: 'it returns false'. Refute it at one input. -/
def beeHeldWrong : ChangeSpec := { name := "beeHeld", fn := fun _ => fun
  | [d1, d2, d3, d4] => { results := [.lit (.bool false)], args := [d1, d2, d3, d4] }
  | _ => none }
def BeeHeldWrongFalsely : Prop := beeHeldRow.holds Tryz.pinned (OpenSpec.ofChange beeHeldWrong)

/-- 'beehivelaw21.BeeRoom': WHATEVER THE INPUT: true; the input reads as it did. -/
def beeRoomSpec : ChangeSpec := { name := "beeRoom", fn := fun _ => fun
  | [d1, d2, d3, d4] => { results := [.lit (.bool true)], args := [d1, d2, d3, d4] }
  | _ => none }
def beeRoomRow : OpenClaim := { program := "ythooolmnejeajaagreat", sum := "aefd831f193c5feedcdc52f5e0c2fda6ac397acaff2b50e24ec7101e924983a9", func := "beehive/beehivelaw21.BeeRoom", spec := "beeRoom", inPlace := ["math.Float64frombits", "math.Float64bits", "math.archTrunc", "internal/bytealg.abigen_runtime_cmpstring"], unfollowed := true, recurses := true, loops := true, plainKeys := false, apart := false }
def BeeRoomSaid : Prop := beeRoomRow.holds Tryz.pinned (OpenSpec.ofChange beeRoomSpec)

/-- ITS FALSE NEIGHBOUR: 'it returns false'. Refute it at one input. -/
def beeRoomWrong : ChangeSpec := { name := "beeRoom", fn := fun _ => fun
  | [d1, d2, d3, d4] => { results := [.lit (.bool false)], args := [d1, d2, d3, d4] }
  | _ => none }
def BeeRoomWrongFalsely : Prop := beeRoomRow.holds Tryz.pinned (OpenSpec.ofChange beeRoomWrong)

/-- 'beehivelaw21.BeeNone': WHATEVER THE INPUT: true; the input reads as it did. -/
def beeNoneSpec : ChangeSpec := { name := "beeNone", fn := fun _ => fun
  | [d] => { results := [.lit (.bool true)], args := [d] }
  | _ => none }
def beeNoneRow : OpenClaim := { program := "ythooolmnejeajaagreat", sum := "aefd831f193c5feedcdc52f5e0c2fda6ac397acaff2b50e24ec7101e924983a9", func := "beehive/beehivelaw21.BeeNone", spec := "beeNone", inPlace := ["math.Float64frombits", "math.Float64bits", "math.archTrunc", "internal/bytealg.abigen_runtime_cmpstring"], unfollowed := true, recurses := true, plainKeys := false, apart := false }
def BeeNoneSaid : Prop := beeNoneRow.holds Tryz.pinned (OpenSpec.ofChange beeNoneSpec)

/-- ITS FALSE NEIGHBOUR: 'it returns false'. Refute it at one input. -/
def beeNoneWrong : ChangeSpec := { name := "beeNone", fn := fun _ => fun
  | [d] => { results := [.lit (.bool false)], args := [d] }
  | _ => none }
def BeeNoneWrongFalsely : Prop := beeNoneRow.holds Tryz.pinned (OpenSpec.ofChange beeNoneWrong)

/-- 'beehivelaw21.BeeSteps': WHATEVER THE INPUT: true; the input reads as it did. -/
def beeStepsSpec : ChangeSpec := { name := "beeSteps", fn := fun _ => fun
  | [d1, d2, d3, d4, d5, d6] => { results := [.lit (.bool true)], args := [d1, d2, d3, d4, d5, d6] }
  | _ => none }
def beeStepsRow : OpenClaim := { program := "ythooolmnejeajaagreat", sum := "aefd831f193c5feedcdc52f5e0c2fda6ac397acaff2b50e24ec7101e924983a9", func := "beehive/beehivelaw21.BeeSteps", spec := "beeSteps", inPlace := ["math.Float64frombits", "math.Float64bits", "math.archTrunc", "internal/bytealg.abigen_runtime_cmpstring"], unfollowed := true, recurses := true, loops := true, plainKeys := false, apart := false }
def BeeStepsSaid : Prop := beeStepsRow.holds Tryz.pinned (OpenSpec.ofChange beeStepsSpec)

/-- ITS FALSE NEIGHBOUR: 'it returns false'. Refute it at one input. -/
def beeStepsWrong : ChangeSpec := { name := "beeSteps", fn := fun _ => fun
  | [d1, d2, d3, d4, d5, d6] => { results := [.lit (.bool false)], args := [d1, d2, d3, d4, d5, d6] }
  | _ => none }
def BeeStepsWrongFalsely : Prop := beeStepsRow.holds Tryz.pinned (OpenSpec.ofChange beeStepsWrong)

/- THE SECOND FORM. 'bulk': how many values and letters a reading holds, each counted each time it is reached (what is shared counts as often as it is met; a slice's spare places count too). A statement '..UptoSaid' is the law's where the arguments, and the package variables that the reading takes, are together of bulk at most 1048576: NARROWER than '..Said'. Prove '..Said' where nothing that the law and all that it calls make is longer than what came in: it says more and counts as full. Else prove '..UptoSaid'. A law counts once. -/
mutual
def uptoBulk {H : Type} : DataW H → Nat
  | .lit (.string bytes) => bytes.length + 1
  | .lit _ => 1
  | .nil => 1
  | .ptr d => uptoBulk d + 1
  | .slice elems spare => uptoBulkAll elems + uptoBulkAll spare + 1
  | .agg parts => uptoBulkAll parts + 1
  | .iface _ d => uptoBulk d + 1
  | .map entries => uptoBulkEntries entries + 1
  | .held _ => 1
def uptoBulkAll {H : Type} : List (DataW H) → Nat
  | [] => 0
  | d :: r => uptoBulk d + uptoBulkAll r
def uptoBulkEntries {H : Type} : List (Lit × DataW H) → Nat
  | [] => 0
  | x :: r => uptoBulkEntry x + uptoBulkEntries r
def uptoBulkEntry {H : Type} : Lit × DataW H → Nat
  | (.string bytes, d) => bytes.length + uptoBulk d + 1
  | (_, d) => uptoBulk d + 1
 end
def uptoSmall : (H : Type) → List (DataW H) → Bool := fun _ ds => decide (uptoBulkAll ds ≤ 1048576)
def OpenSpec.upto (s : _root_.Go.ChangeSpec) : _root_.Go.OpenSpec := { _root_.Go.OpenSpec.ofChange s with cond := some uptoSmall }

/-- 'beehivelaw21.BeeHeld', WHERE WHAT IT READS IS OF BULK AT MOST 1048576: true; the input reads as it did. -/
def beeHeldUptoRow : OpenClaim := { program := "ythooolmnejeajaagreat", sum := "aefd831f193c5feedcdc52f5e0c2fda6ac397acaff2b50e24ec7101e924983a9", func := "beehive/beehivelaw21.BeeHeld", spec := "beeHeld", inPlace := ["math.Float64frombits", "math.Float64bits", "math.archTrunc", "internal/bytealg.abigen_runtime_cmpstring"], unfollowed := true, recurses := true, loops := true, plainKeys := false, apart := false, narrowed := true }
def BeeHeldUptoSaid : Prop := beeHeldUptoRow.holds Tryz.pinned (OpenSpec.upto beeHeldSpec)

/-- 'beehivelaw21.BeeRoom', WHERE WHAT IT READS IS OF BULK AT MOST 1048576: true; the input reads as it did. -/
def beeRoomUptoRow : OpenClaim := { program := "ythooolmnejeajaagreat", sum := "aefd831f193c5feedcdc52f5e0c2fda6ac397acaff2b50e24ec7101e924983a9", func := "beehive/beehivelaw21.BeeRoom", spec := "beeRoom", inPlace := ["math.Float64frombits", "math.Float64bits", "math.archTrunc", "internal/bytealg.abigen_runtime_cmpstring"], unfollowed := true, recurses := true, loops := true, plainKeys := false, apart := false, narrowed := true }
def BeeRoomUptoSaid : Prop := beeRoomUptoRow.holds Tryz.pinned (OpenSpec.upto beeRoomSpec)

/-- 'beehivelaw21.BeeNone', WHERE WHAT IT READS IS OF BULK AT MOST 1048576: true; the input reads as it did. -/
def beeNoneUptoRow : OpenClaim := { program := "ythooolmnejeajaagreat", sum := "aefd831f193c5feedcdc52f5e0c2fda6ac397acaff2b50e24ec7101e924983a9", func := "beehive/beehivelaw21.BeeNone", spec := "beeNone", inPlace := ["math.Float64frombits", "math.Float64bits", "math.archTrunc", "internal/bytealg.abigen_runtime_cmpstring"], unfollowed := true, recurses := true, plainKeys := false, apart := false, narrowed := true }
def BeeNoneUptoSaid : Prop := beeNoneUptoRow.holds Tryz.pinned (OpenSpec.upto beeNoneSpec)

/-- 'beehivelaw21.BeeSteps', WHERE WHAT IT READS IS OF BULK AT MOST 1048576: true; the input reads as it did. -/
def beeStepsUptoRow : OpenClaim := { program := "ythooolmnejeajaagreat", sum := "aefd831f193c5feedcdc52f5e0c2fda6ac397acaff2b50e24ec7101e924983a9", func := "beehive/beehivelaw21.BeeSteps", spec := "beeSteps", inPlace := ["math.Float64frombits", "math.Float64bits", "math.archTrunc", "internal/bytealg.abigen_runtime_cmpstring"], unfollowed := true, recurses := true, loops := true, plainKeys := false, apart := false, narrowed := true }
def BeeStepsUptoSaid : Prop := beeStepsUptoRow.holds Tryz.pinned (OpenSpec.upto beeStepsSpec)

end Rows
end Go.Proofs.YthooolmnejeajaaGreat
