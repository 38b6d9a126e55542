/- A function of no arguments that answers true, and changes nothing, is taken whole. -/
import Derived.Test.YtiafmiembjomhaaGreatAbGo
set_option linter.unusedSimpArgs false
set_option linter.unusedVariables false
set_option linter.unusedSectionVars false
set_option linter.unnecessarySimpa false
namespace Go.Ab
noncomputable section
open Go Go.RowKit
variable {S0 : Sym}

def awakeHook (fA : Nat) (hook : Hook) : Hook := fun f args h => match Nat.beq f fA with
  | true => match args with
    | [] => some (.ret (.bool true) h)
    | _ :: _ => none
  | false => hook f args h

theorem awakeHook_sound {G : Prg} {fA : Nat} {hook : Hook} (hc : ∀ w, Calls G.P fA ⟨[]⟩ w fun e w' => e = .returned (.bool true) ∧ Below w.heap.size w w') (hs : CallSound S0 G hook) : CallSound S0 G (awakeHook fA hook) := by
  intro f args h r hr e w0 w args' hw ha
  unfold awakeHook at hr
  split at hr
  · rename_i hf
    obtain rfl := Nat.eq_of_beq_eq_true hf
    split at hr
    · cases hr
      obtain rfl := ha.nil_inv
      refine (hc w).mono ?_
      rintro en w' ⟨rfl, hb⟩
      exact ⟨e, .bool true, e.le_refl, rfl, .sc _ rfl, hw.grown hb⟩
    · cases hr
  · exact hs f args h r hr e w0 w args' hw ha

end
end Go.Ab
