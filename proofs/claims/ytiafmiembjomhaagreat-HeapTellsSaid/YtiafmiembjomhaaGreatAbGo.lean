/- A program whose functions with a body are entered. -/
import Derived.Test.YtiafmiembjomhaaGreatAbLive
set_option linter.unusedSimpArgs false
set_option linter.unusedVariables false
set_option linter.unusedSectionVars false
set_option linter.unnecessarySimpa false
namespace Go.Ab
noncomputable section
open Go Go.RowKit
variable {S0 : Sym}

def okOf (P : Program) (g : Nat) : Bool := match P.funcs[g]? with
  | some fn => match fn.body with
    | some _ => match fn.name == "runtime.NumGoroutine" with | true => false | false => true
    | none => false
  | none => false

theorem okOf_enters (P : Program) (g : Nat) (h : okOf P g = true) (args : Array Value) (w : World) : (callFunc g args).run P w = .ok (.enter g args) w := by
  unfold okOf at h
  split at h
  · rename_i fn hf
    split at h
    · rename_i c hc
      split at h
      · cases h
      · rename_i hn
        have hn' : ¬ fn.name = "runtime.NumGoroutine" := by simpa using hn
        simp [callFunc, program, Sem.run_bind, Sem.run, hf, hn', hc]
    · cases h
  · cases h

def prgOf (P : Program) : Prg := ⟨P, okOf P, okOf_enters P, fun _ => false⟩

/-- With functions that turn no memory where they are called in a region. -/
def prgWith (P : Program) (still : Nat → Bool) : Prg := ⟨P, okOf P, okOf_enters P, still⟩

def retTrue : Option CRes → Bool
  | some (.ret (.bool true) _) => true
  | _ => false

/-- No unknown value. -/
def Sym.none (w : World) : Sym := ⟨w, fun _ => .none, fun _ _ h => by cases h⟩

theorem calls_sym {G : Prg} (hm : G.P.follows .mixedOrders = true) {hook : Hook} (S : Sym) (hh : CallSound S G hook) {lf n f : Nat} {args args' : List Value} (ha : Rl (Env.start S) args args') (ht : retTrue (evF G hook lf n f args AH.empty) = true) :
    Calls G.P f ⟨args'⟩ S.W fun e w' => e = .returned (.bool true) ∧ Below S.W.heap.size S.W w' := by
  cases hr : evF G hook lf n f args AH.empty with
  | none => rw [hr] at ht; cases ht
  | some r =>
    rw [hr] at ht
    refine (evF_sound hm hh n f args AH.empty r hr (Env.start S) ⟨S.W, fun _ => False⟩ S.W args' (Rw.empty S) ha).mono ?_
    intro e w' h
    unfold retTrue at ht
    split at ht
    · rename_i hh2 heq
      cases heq
      obtain ⟨e', v', _, rfl, hv, hw⟩ := h
      exact ⟨by rw [hv.bool_inv], hw.below⟩
    · cases ht

theorem calls_true {G : Prg} (hm : G.P.follows .mixedOrders = true) {hook : Hook} (hh : ∀ S, CallSound S G hook) {lf n f : Nat} (ht : retTrue (evF G hook lf n f [] AH.empty) = true) (w : World) :
    Calls G.P f #[] w fun e w' => e = .returned (.bool true) ∧ Below w.heap.size w w' :=
  calls_sym hm (Sym.none w) (hh _) .nil ht

theorem Rl.of_grounds {e : Env} : ∀ (l : List Value), l.all ground = true → Rl e l l
  | [], _ => .nil
  | v :: l, h => by
    simp only [List.all_cons, Bool.and_eq_true] at h
    exact .cons _ _ _ _ (Rv.of_ground v h.1) (Rl.of_grounds l h.2)

theorem calls_args {G : Prg} (hm : G.P.follows .mixedOrders = true) {hook : Hook} (hh : ∀ S, CallSound S G hook) {lf n f : Nat} {args : List Value} (ha : args.all ground = true) (ht : retTrue (evF G hook lf n f args AH.empty) = true) (w : World) :
    Calls G.P f ⟨args⟩ w fun e w' => e = .returned (.bool true) ∧ Below w.heap.size w w' :=
  calls_sym hm (Sym.none w) (hh _) (Rl.of_grounds args ha) ht

/-- No hook at all. -/
def noHook : Hook := fun _ _ _ => none

theorem noHook_sound (G : Prg) : CallSound S0 G noHook := fun _ _ _ _ h => by cases h

end
end Go.Ab
