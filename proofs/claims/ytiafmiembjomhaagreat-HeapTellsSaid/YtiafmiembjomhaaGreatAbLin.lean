/- What a schedule of a region is. -/
import Derived.Test.YtiafmiembjomhaaGreatAbEv1
set_option linter.unusedSimpArgs false
set_option linter.unusedVariables false
set_option linter.unusedSectionVars false
set_option linter.unnecessarySimpa false
namespace Go.Ab
noncomputable section
open Go Go.RowKit

def updD (D : Nat → Bool) (i : Nat) : Nat → Bool := fun j => if j = i then true else D j

inductive Lin (ops : List Oper) : (Nat → Bool) → List Nat → Prop
  | nil (D : Nat → Bool) (h : ∀ i, i < ops.length → D i = true) : Lin ops D []
  | cons (D : Nat → Bool) (i : Nat) (l : List Nat) (o : Oper) (ho : ops[i]? = some o) (hD : D i = false)
      (he : ∀ e ∈ o.after.toList, Region.binds .any e = true → D e.on = true) (hl : Lin ops (updD D i) l) : Lin ops D (i :: l)

theorem countP_lt {α : Type} (p q : α → Bool) : ∀ (l : List α) (x : α), x ∈ l → (∀ y ∈ l, q y = true → p y = true) → p x = true → q x = false → l.countP q < l.countP p
  | [], x, hx, _, _, _ => by cases hx
  | y :: l, x, hx, hqp, hp, hq => by
    have hle : l.countP q ≤ l.countP p := List.countP_mono_left (fun z hz => hqp z (List.mem_cons_of_mem _ hz))
    rcases List.mem_cons.1 hx with rfl | hx
    · rw [List.countP_cons_of_neg (by simp [hq]), List.countP_cons_of_pos hp]; omega
    · have ih := countP_lt p q l x hx (fun z hz => hqp z (List.mem_cons_of_mem _ hz)) hp hq
      by_cases hqy : q y = true
      · rw [List.countP_cons_of_pos hqy, List.countP_cons_of_pos (hqp y (List.mem_cons_self ..) hqy)]; omega
      · by_cases hpy : p y = true
        · rw [List.countP_cons_of_neg hqy, List.countP_cons_of_pos hpy]; omega
        · rw [List.countP_cons_of_neg hqy, List.countP_cons_of_neg hpy]; exact ih

/-- Each edge that binds goes back. -/
def edgesBack (ops : List Oper) : Prop := ∀ (i : Nat) (o : Oper), ops[i]? = some o → ∀ e ∈ o.after.toList, Region.binds .any e = true → e.on < i

theorem lin_go (ops : Array Oper) (hb : edgesBack ops.toList) : ∀ (fuel t : Nat) (listed : Array Bool) (acc : List Nat), listed.size = ops.size →
    (List.range ops.size).countP (fun i => !listed.getD i true) ≤ fuel → ∃ l, Region.linearise.go .any ops fuel t listed acc = acc.reverse ++ l ∧ Lin ops.toList (fun i => listed.getD i false) l := by
  intro fuel
  induction fuel with
  | zero =>
    intro t listed acc hs hc
    refine ⟨[], by simp [Region.linearise.go], .nil _ ?_⟩
    intro i hi
    have h0 : (List.range ops.size).countP (fun i => !listed.getD i true) = 0 := by omega
    rw [List.countP_eq_zero] at h0
    have := h0 i (by simpa using hi)
    have hil : i < listed.size := by rw [hs]; simpa using hi
    simp [Array.getD_eq_getD_getElem?, hil] at this ⊢
    exact this
  | succ fuel ih =>
    intro t listed acc hs hc
    rw [Region.linearise.go]
    generalize hrs : ((List.range ops.size).filter fun i => !listed.getD i true && ((ops[i]?).map (·.after.all fun e => !Region.binds .any e || listed.getD e.on false)).getD false) = rs
    cases hp : rs[t % rs.length]? with
    | none =>
      refine ⟨[], by simp, .nil _ ?_⟩
      intro i hi
      have hempty : rs = [] := by
        cases rs with
        | nil => rfl
        | cons x xs =>
          exfalso
          rw [List.getElem?_eq_none_iff] at hp
          have := Nat.mod_lt t (show 0 < (x :: xs).length by simp)
          omega
      subst hempty
      -- the least one that is not listed would stand there
      refine Classical.byContradiction fun hn => ?_
      have hex : ∃ i, i < ops.size ∧ listed.getD i false = false := ⟨i, by simpa using hi, by simpa using hn⟩
      have : ∀ k, ∀ i, i < k → i < ops.size → listed.getD i false = true := by
        intro k
        induction k with
        | zero => intro i hi; omega
        | succ k ihk =>
          intro i hik hin
          rcases Nat.lt_or_ge i k with h | h
          · exact ihk i h hin
          · obtain rfl : i = k := by omega
            refine Classical.byContradiction fun hne => ?_
            have hmem : i ∈ ((List.range ops.size).filter fun i => !listed.getD i true && ((ops[i]?).map (·.after.all fun e => !Region.binds .any e || listed.getD e.on false)).getD false) := by
              rw [List.mem_filter]
              have hil : i < listed.size := by rw [hs]; exact hin
              refine ⟨by simpa using hin, ?_⟩
              have h1 : listed.getD i true = false := by
                simp [Array.getD_eq_getD_getElem?, hil] at hne ⊢; exact hne
              have hops : ops[i]? = some ops[i] := by simp [hin]
              rw [h1, hops]
              simp only [Bool.not_false, Bool.true_and, Option.map_some, Option.getD_some]
              rw [Array.all_eq_true_iff_forall_mem]
              intro e he
              by_cases hbe : Region.binds .any e = true
              · have hlt := hb i ops[i] (by simpa using hops) e (by simpa using he) hbe
                simp [hbe, ihk e.on hlt (by omega)]
              · simp [hbe]
            rw [hrs] at hmem
            cases hmem
      obtain ⟨j, hj1, hj2⟩ := hex
      rw [this (j + 1) j (by omega) hj1] at hj2
      cases hj2
    | some i =>
      have hmem : i ∈ rs := List.mem_of_getElem? hp
      rw [← hrs, List.mem_filter] at hmem
      obtain ⟨hin, hcond⟩ := hmem
      have hin : i < ops.size := by simpa using hin
      have hil : i < listed.size := by rw [hs]; exact hin
      have hops : ops[i]? = some ops[i] := by simp [hin]
      rw [hops] at hcond
      simp only [Option.map_some, Option.getD_some, Bool.and_eq_true] at hcond
      obtain ⟨h1, h2⟩ := hcond
      have hset : ∀ j d, (listed.setIfInBounds i true).getD j d = if j = i then true else listed.getD j d := by
        intro j d
        simp only [Array.getD_eq_getD_getElem?, Array.getElem?_setIfInBounds]
        by_cases hji : i = j
        · subst hji; simp [hil]
        · simp [hji, Ne.symm hji]
      obtain ⟨l, hl1, hl2⟩ := ih (t / rs.length) (listed.setIfInBounds i true) (i :: acc) (by simpa using hs) (by
        have hlt : (List.range ops.size).countP (fun j => !(listed.setIfInBounds i true).getD j true) < (List.range ops.size).countP (fun j => !listed.getD j true) := by
          refine countP_lt _ _ _ i (by simpa using hin) ?_ h1 ?_
          · intro y _ hy
            rw [hset] at hy
            by_cases hyi : y = i
            · subst hyi; exact h1
            · simpa [hyi] using hy
          · rw [hset]; simp
        omega)
      refine ⟨i :: l, ?_, ?_⟩
      · simp only; rw [hl1]; simp
      · refine .cons _ i l ops[i] (by simpa using hops) ?_ ?_ ?_
        · simp [Array.getD_eq_getD_getElem?, hil] at h1 ⊢; exact h1
        · intro e he hbe
          rw [Array.all_eq_true_iff_forall_mem] at h2
          have := h2 e (by simpa using he)
          simpa [hbe] using this
        · have : (fun j => (listed.setIfInBounds i true).getD j false) = updD (fun j => listed.getD j false) i := by
            funext j; rw [hset]; rfl
          rw [this] at hl2; exact hl2

theorem lin_schedule (P : Program) (hm : P.follows .mixedOrders = true) (ops : Array Oper) (hb : edgesBack ops.toList) (t : Nat) : Lin ops.toList (fun _ => false) (Region.schedule (P.follows .mixedOrders) ops t) := by
  unfold Region.schedule
  rw [hm]
  simp only [Bool.true_or, if_true]
  unfold Region.linearise
  obtain ⟨l, h1, h2⟩ := lin_go ops hb ops.size t (Array.replicate ops.size false) [] (by simp) (by
    refine Nat.le_trans List.countP_le_length ?_
    simp)
  rw [h1]
  have : (fun i => (Array.replicate ops.size false).getD i false) = fun _ => false := by
    funext i
    simp [Array.getD_eq_getD_getElem?, Array.getElem?_replicate]
    split <;> rfl
  rw [this] at h2
  simpa using h2

end
end Go.Ab
