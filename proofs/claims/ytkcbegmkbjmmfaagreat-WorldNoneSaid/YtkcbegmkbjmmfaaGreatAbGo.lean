/- A program whose functions with a body are entered. -/
import Derived.Test.YtkcbegmkbjmmfaaGreatAbLive
set_option linter.unusedSimpArgs false
set_option linter.unusedVariables false
set_option linter.unusedSectionVars false
set_option linter.unnecessarySimpa false
namespace Go.Ab
noncomputable section
open Go Go.RowKit

def okOf (P : Program) (g : Nat) : Bool := match P.funcs[g]? with
  | some fn => match fn.body with
    | some _ => match fn.name == "runtime.NumGoroutine" with | true => false | false => true
    | none => false
  | none => false

theorem okOf_enters (P : Program) (g : Nat) (h : okOf P g = true) (args : Array Value) (w : World) : (callFunc g args).run P w = .ok (.enter g args) w := by
  unfold okOf at h
  split at h
  · rename_i fn hf
    split at h
    · rename_i c hc
      split at h
      · cases h
      · rename_i hn
        have hn' : ¬ fn.name = "runtime.NumGoroutine" := by simpa using hn
        simp [callFunc, program, Sem.run_bind, Sem.run, hf, hn', hc]
    · cases h
  · cases h

def prgOf (P : Program) : Prg := ⟨P, okOf P, okOf_enters P⟩

def retTrue : Option CRes → Bool
  | some (.ret (.bool true) _) => true
  | _ => false

theorem calls_true {G : Prg} (hm : G.P.follows .mixedOrders = true) {hook : Hook} (hh : CallSound G hook) {lf n f : Nat} (ht : retTrue (evF G hook lf n f [] AH.empty) = true) (w : World) :
    Calls G.P f #[] w fun e w' => e = .returned (.bool true) ∧ Below w.heap.size w w' := by
  cases hr : evF G hook lf n f [] AH.empty with
  | none => rw [hr] at ht; cases ht
  | some r =>
    rw [hr] at ht
    refine (evF_sound hm hh n f [] AH.empty r hr (fun _ => none) ⟨w, fun _ => False⟩ w [] (Rw.empty w) .nil).mono ?_
    intro e w' h
    unfold retTrue at ht
    split at ht
    · rename_i hh2 heq
      cases heq
      obtain ⟨e', v', _, rfl, hv, hw⟩ := h
      exact ⟨by rw [hv.bool_inv], hw.below⟩
    · cases ht

theorem calls_args {G : Prg} (hm : G.P.follows .mixedOrders = true) {hook : Hook} (hh : CallSound G hook) {lf n f : Nat} {args : List Value} (ha : args.all ground = true) (ht : retTrue (evF G hook lf n f args AH.empty) = true) (w : World) :
    Calls G.P f ⟨args⟩ w fun e w' => e = .returned (.bool true) ∧ Below w.heap.size w w' := by
  have hl : ∀ (l : List Value), l.all ground = true → Rl (fun _ => none) l l := by
    intro l
    induction l with
    | nil => intro _; exact .nil
    | cons v l ih =>
      intro h
      simp only [List.all_cons, Bool.and_eq_true] at h
      exact .cons _ _ _ _ (Rv.of_ground v h.1) (ih h.2)
  cases hr : evF G hook lf n f args AH.empty with
  | none => rw [hr] at ht; cases ht
  | some r =>
    rw [hr] at ht
    refine (evF_sound hm hh n f args AH.empty r hr (fun _ => none) ⟨w, fun _ => False⟩ w args (Rw.empty w) (hl args ha)).mono ?_
    intro e w' h
    unfold retTrue at ht
    split at ht
    · rename_i hh2 heq
      cases heq
      obtain ⟨e', v', _, rfl, hv, hw⟩ := h
      exact ⟨by rw [hv.bool_inv], hw.below⟩
    · cases ht

/-- No hook at all. -/
def noHook : Hook := fun _ _ _ => none

theorem noHook_sound (G : Prg) : CallSound G noHook := fun _ _ _ _ h => by cases h

end
end Go.Ab
