/- Code, and what it does: sequences, branches, loops. -/
import Derived.Test.YtiafmiembjomhaaGreatAbDraw4
set_option linter.unusedSimpArgs false
set_option linter.unusedVariables false
set_option linter.unusedSectionVars false
set_option linter.unnecessarySimpa false
namespace Go.Ab
noncomputable section
open Go Go.RowKit
variable {S0 : Sym}

def loopA (f : St → Option (AExit × St)) : Nat → St → Option (AExit × St)
  | 0, _ => none
  | n + 1, s => match f s with
    | some (.normal, s') => loopA f n s'
    | r => r

def evC (G : Prg) (cf : FuncId → List Value → AH → Option CRes) (lf : Nat) : Code → St → Option (AExit × St)
  | .skip, s => some (.normal, s)
  | .label _, s => some (.normal, s)
  | .region _ ops draw, s => match draw with
    | true => evDraw G cf ops s
    | false => evOps G cf ops ops.toList s
  | .seq a b, s => match evC G cf lf a s with
    | some (.normal, s') => evC G cf lf b s'
    | r => r
  | .cond c x y, s => match evalA s.tmps c with
    | some (.bool true) => evC G cf lf x s
    | some (.bool false) => evC G cf lf y s
    | _ => none
  | .block id body, s => match evC G cf lf body s with
    | some (.exit i, s') => match Nat.beq i id with
      | true => some (.normal, s')
      | false => some (.exit i, s')
    | r => r
  | .loop body, s => loopA (evC G cf lf body) lf s
  | .exit id, s => some (.exit id, s)
  | .ret, s => some (.ret, s)
  | _, _ => none

variable {G : Prg} {cf : FuncId → List Value → AH → Option CRes}

def LoopW (P : Program) (c : Code) (Q : Exit → Act → World → Prop) (a : Act) (w : World) : Prop :=
  ∀ (b : Frame) (k : List Item) (cs : List Frame), ∃ e a' w', Q e a' w' ∧ Arrives P (lone (b.at a (.code c :: .inLoop c :: k)) cs w) b k cs e a' w'

theorem loopW_step {P : Program} {c : Code} {Q : Exit → Act → World → Prop} {a : Act} {w : World} (h : c.wp P (Exit.then (LoopW P c Q) Q) a w) : LoopW P c Q a w := by
  intro b k cs
  obtain ⟨e, a₁, w₁, hq, harr⟩ := h b (.inLoop c :: k) cs
  cases e with
  | normal =>
    obtain ⟨e₂, a₂, w₂, hq₂, harr₂⟩ := hq b k cs
    exact ⟨e₂, a₂, w₂, hq₂, .of_steps (Steps.trans harr (.one step_inLoop)) harr₂⟩
  | exit id => exact ⟨_, a₁, w₁, hq, .pass (x := .inLoop c) rfl (fun _ _ => .inl (by simp)) harr⟩
  | goto l => exact ⟨_, a₁, w₁, hq, .pass (x := .inLoop c) rfl (fun _ _ => .inl (by simp)) harr⟩
  | ret => exact ⟨_, a₁, w₁, hq, .pass (x := .inLoop c) rfl (fun _ _ => .inl (by simp)) harr⟩
  | panic ch => exact ⟨_, a₁, w₁, hq, .pass (x := .inLoop c) rfl (fun _ _ => .inl (by simp)) harr⟩
  | outgrown => exact ⟨_, a₁, w₁, hq, .pass (x := .inLoop c) rfl (fun _ _ => .inl (by simp)) harr⟩

theorem wp_of_loopW {P : Program} {c : Code} {Q : Exit → Act → World → Prop} {a : Act} {w : World} (h : LoopW P c Q a w) : (Code.loop c).wp P Q a w :=
  fun b k cs => let ⟨e, a', w', q, r⟩ := h b k cs; ⟨e, a', w', q, .of_steps (.one step_loop) r⟩

theorem evC_sound (hm : G.P.follows .mixedOrders = true) (hcf : CallSound S0 G cf) {lf : Nat} {w0 : Bs S0} : ∀ (c : Code) {e : Env} {s : St} {a : Act} {w : World} {x : AExit} {s' : St} {Q : Exit → Act → World → Prop},
    Rs G e w0 s a w → evC G cf lf c s = some (x, s') → Meets G e w0 x s' Q → c.wp G.P Q a w := by
  intro c
  induction c with
  | skip =>
    intro e s a w x s' Q hs h hQ
    simp only [evC, Option.some.injEq, Prod.mk.injEq] at h
    obtain ⟨rfl, rfl⟩ := h
    exact wp_skip (hQ e _ a w e.le_refl rfl hs)
  | label l =>
    intro e s a w x s' Q hs h hQ
    simp only [evC, Option.some.injEq, Prod.mk.injEq] at h
    obtain ⟨rfl, rfl⟩ := h
    exact wp_label (hQ e _ a w e.le_refl rfl hs)
  | region id ops draw =>
    intro e s a w x s' Q hs h hQ
    cases draw with
    | true => exact evDraw_sound hm hcf hs h hQ
    | false => exact wp_region_list (evOps_sound hcf ops.toList hs h hQ)
  | seq c1 c2 ih1 ih2 =>
    intro e s a w x s' Q hs h hQ
    simp only [evC] at h
    split at h
    · rename_i s1 h1
      refine wp_seq (ih1 hs h1 fun e' ex a' w' hle hx hs' => ?_)
      cases hx
      exact ih2 hs' h (hQ.mono hle)
    · rename_i hn
      refine wp_seq (ih1 hs h fun e' ex a' w' hle hx hs' => ?_)
      have hne : ex ≠ .normal := by
        intro hex; subst hex
        cases x with
        | normal => exact hn s' h
        | panic ch => obtain ⟨_, h1, _⟩ := hx; cases h1
        | _ => cases hx
      have := hQ e' ex a' w' hle hx hs'
      cases ex <;> first | exact absurd rfl hne | exact this
  | cond c x y ihx ihy =>
    intro e s a w ex s' Q hs h hQ
    simp only [evC] at h
    split at h
    · rename_i hc
      exact wp_cond_true ((evalA_sound hs.tmps hc).bool_inv) (ihx hs h hQ)
    · rename_i hc
      exact wp_cond_false ((evalA_sound hs.tmps hc).bool_inv) (ihy hs h hQ)
    · cases h
  | block id body ih =>
    intro e s a w x s' Q hs h hQ
    simp only [evC] at h
    refine wp_block ?_
    split at h
    · rename_i i s1 h1
      refine ih hs h1 fun e' ex a' w' hle hx hs' => ?_
      cases hx
      split at h
      · rename_i hb
        cases h
        have := Nat.eq_of_beq_eq_true hb
        simp only [Exit.inBlock, this, if_true]
        exact hQ e' _ a' w' hle rfl hs'
      · rename_i hb
        cases h
        have hne : ¬ i = id := fun h => by rw [beq_yes h] at hb; cases hb
        simp only [Exit.inBlock, hne, if_false]
        exact hQ e' _ a' w' hle rfl hs'
    · rename_i hn
      refine ih hs h fun e' ex a' w' hle hx hs' => ?_
      have := hQ e' ex a' w' hle hx hs'
      cases ex with
      | exit i =>
        cases x with
        | exit j => exact absurd h (hn j s')
        | panic ch => obtain ⟨_, h1, _⟩ := hx; cases h1
        | _ => cases hx
      | _ => exact this
  | loop body ih =>
    intro e s a w x s' Q hs h hQ
    simp only [evC] at h
    refine wp_of_loopW ?_
    have key : ∀ (n : Nat) (e : Env) (s : St) (a : Act) (w : World), Rs G e w0 s a w → loopA (evC G cf lf body) n s = some (x, s') → Meets G e w0 x s' Q → LoopW G.P body Q a w := by
      intro n
      induction n with
      | zero => intro e s a w _ h _; cases h
      | succ n ihn =>
        intro e s a w hs h hQ
        rw [loopA] at h
        split at h
        · rename_i s1 h1
          refine loopW_step (ih hs h1 fun e' ex a' w' hle hx hs' => ?_)
          cases hx
          exact ihn e' s1 a' w' hs' h (hQ.mono hle)
        · rename_i hn
          refine loopW_step (ih hs h fun e' ex a' w' hle hx hs' => ?_)
          have hne : ex ≠ .normal := by
            intro hex; subst hex
            cases x with
            | normal => exact hn s' h
            | panic ch => obtain ⟨_, h1, _⟩ := hx; cases h1
            | _ => cases hx
          have := hQ e' ex a' w' hle hx hs'
          cases ex <;> first | exact absurd rfl hne | exact this
    exact key lf e s a w hs h hQ
  | exit id =>
    intro e s a w x s' Q hs h hQ
    simp only [evC, Option.some.injEq, Prod.mk.injEq] at h
    obtain ⟨rfl, rfl⟩ := h
    exact wp_exit (hQ e _ a w e.le_refl rfl hs)
  | ret =>
    intro e s a w x s' Q hs h hQ
    simp only [evC, Option.some.injEq, Prod.mk.injEq] at h
    obtain ⟨rfl, rfl⟩ := h
    exact wp_ret (hQ e _ a w e.le_refl rfl hs)
  | rangeFunc f ps as body _ _ => intro e s a w x s' Q hs h hQ; simp [evC] at h
  | scope body _ => intro e s a w x s' Q hs h hQ; simp [evC] at h
  | goto l => intro e s a w x s' Q hs h hQ; simp [evC] at h
  | refuse why => intro e s a w x s' Q hs h hQ; simp [evC] at h

end
end Go.Ab
