/- Functions: results, deferred calls, recover. -/
import Derived.Test.YtiafmiembjomhaaGreatAbEv3
set_option linter.unusedSimpArgs false
set_option linter.unusedVariables false
set_option linter.unusedSectionVars false
set_option linter.unnecessarySimpa false
namespace Go.Ab
noncomputable section
open Go Go.RowKit
variable {S0 : Sym}

def getT (T : List Value) (t : Tmp) : Value := match getL T t with | some v => v | none => undef

def resF (tmps : Array Value) : ResultVar → Sem Value
  | .tmp t => pure (tmps.getD t undef)
  | .cell a t => do loadVar t (← asAddr (tmps.getD a undef))

theorem results_eq (fn : Func) (tmps : Array Value) : results fn tmps = (do let vs ← fn.results.mapM (resF tmps); pure (if h : vs.size = 1 then vs[0] else .tuple vs)) := by
  unfold results
  have : (fun x : ResultVar => (match x with | .tmp t => pure (tmps.getD t undef) | .cell a t => do loadVar t (← asAddr (tmps.getD a undef)) : Sem Value)) = resF tmps := by
    funext x; cases x <;> rfl
  rw [← this]; rfl

def resL (P : Program) (T : List Value) (h : AH) : List ResultVar → Option (List Value)
  | [] => some []
  | .tmp t :: rest => match resL P T h rest with
    | some vs => some (getT T t :: vs)
    | none => none
  | .cell a t :: rest => match getT T a with
    | .pointer (some ad) => match aLoad P t (.pointer (some ad)) h, resL P T h rest with
      | some v, some vs => some (v :: vs)
      | _, _ => none
    | _ => none

def resA (P : Program) (fn : Func) (T : List Value) (h : AH) : Option Value :=
  match resL P T h fn.results.toList with
  | some [v] => some v
  | some vs => some (.tuple ⟨vs⟩)
  | none => none

variable {G : Prg} {cf : FuncId → List Value → AH → Option CRes}

theorem resL_sound {P : Program} {e : Env} {h : AH} {w0 : Bs S0} {w : World} (hw : Rw P e h w0 w) {T : List Value} {tmps : Array Value} (hr : Rl e T tmps.toList) : ∀ {rs : List ResultVar} {vs : List Value}, resL P T h rs = some vs →
    ∃ vs', Rl e vs vs' ∧ (rs.mapM (resF tmps)).run P w = .ok vs' w
  | [], vs, hl => by simp only [resL, Option.some.injEq] at hl; subst hl; exact ⟨[], .nil, rfl⟩
  | .tmp t :: rest, vs, hl => by
    simp only [resL] at hl
    split at hl
    · rename_i vs1 h1
      cases hl
      obtain ⟨vs', g1, g2⟩ := resL_sound hw hr h1
      have hv : Rv e (getT T t) (tmps.getD t undef) := evalA_sound (a := ⟨tmps, []⟩) (x := .tmp t) hr rfl
      exact ⟨tmps.getD t undef :: vs', .cons _ _ _ _ hv g1, by simp only [List.mapM_cons, Sem.run_bind, resF, Sem.run_pure, Result.andThen_ok]; rw [g2]; rfl⟩
    · cases hl
  | .cell a t :: rest, vs, hl => by
    simp only [resL] at hl
    split at hl
    · rename_i ad had
      split at hl
      · rename_i v1 vs1 h1 h2
        cases hl
        obtain ⟨vs', g1, g2⟩ := resL_sound hw hr h2
        have hv : Rv e (getT T a) (tmps.getD a undef) := evalA_sound (a := ⟨tmps, []⟩) (x := .tmp a) hr rfl
        rw [had] at hv
        obtain ⟨n, off, sp⟩ := ad
        obtain ⟨rfl, b, sz, es, he, hpe⟩ := hv.ptr_inv
        obtain ⟨v', k1, k2⟩ := aLoad_sound hw hv h1
        refine ⟨v' :: vs', .cons _ _ _ _ k1 g1, ?_⟩
        rw [hpe] at k2
        simp only [Instr.loadAt, Instr.sureAddr, Sem.run_bind, Sem.run_pure, Result.andThen_ok] at k2
        simp only [List.mapM_cons, Sem.run_bind, resF, hpe, asAddr, Sem.run_pure, Result.andThen_ok, k2]
        rw [g2]; rfl
      · cases hl
    · cases hl

theorem resA_sound {P : Program} {e : Env} {h : AH} {w0 : Bs S0} {w : World} (hw : Rw P e h w0 w) {T : List Value} {tmps : Array Value} (hr : Rl e T tmps.toList) {fn : Func} {v : Value} (ha : resA P fn T h = some v) :
    ∃ v', Rv e v v' ∧ (results fn tmps).run P w = .ok v' w := by
  unfold resA at ha
  have key : ∀ {vs : List Value}, resL P T h fn.results.toList = some vs → ∃ vs', Rl e vs vs' ∧ (results fn tmps).run P w = .ok (if h : vs'.length = 1 then vs'[0] else .tuple ⟨vs'⟩) w := by
    intro vs h1
    obtain ⟨vs', g1, g2⟩ := resL_sound hw hr h1
    refine ⟨vs', g1, ?_⟩
    rw [results_eq, Array.mapM_eq_mapM_toList, Sem.run_bind, map_eq_pure_bind, Sem.run_bind, g2]
    rfl
  split at ha
  · rename_i v1 h1
    cases ha
    obtain ⟨vs', g1, g2⟩ := key h1
    obtain ⟨v', m, rfl, hv, hm⟩ := g1.cons_inv
    obtain rfl := hm.nil_inv
    exact ⟨v', hv, by simpa using g2⟩
  · rename_i vs hnn h1
    cases ha
    obtain ⟨vs', g1, g2⟩ := key h1
    have hl : ¬ vs'.length = 1 := by
      intro hl
      rw [← g1.length] at hl
      match vs, hl with
      | [x], _ => exact hnn x rfl
    rw [dif_neg hl] at g2
    exact ⟨_, .tuple _ _ g1, g2⟩
  · cases ha

/-! ### Deferred calls -/

inductive AMode where
  | returning
  | panicking (ch : List PanicEntry)

inductive Rm (e : Env) : AMode → FrameMode → Prop
  | returning : Rm e .returning .returning
  | panicking (ch ch' : List PanicEntry) (h : Rc e ch ch') : Rm e (.panicking ch) (.panicking ch')

theorem Rm.mono {e e' : Env} (he : e.le e') {u : AMode} {u' : FrameMode} : Rm e u u' → Rm e' u u'
  | .returning => .returning
  | .panicking ch ch' h => .panicking ch ch' (h.mono he)

def settleA : AMode → Option AMode
  | .panicking (x :: older) => match x.recovered, older with
    | true, [] => some .returning
    | true, _ :: _ => none
    | false, _ => some (.panicking (x :: older))
  | m => some m

def raisedA (u : AMode) (chain : List PanicEntry) : AMode := match u with
  | .panicking old => .panicking (chain ++ old)
  | .returning => .panicking chain

theorem settleA_sound {e : Env} {u v : AMode} {u' : FrameMode} (h : Rm e u u') (ha : settleA u = some v) : Rm e v (settle u') := by
  cases h with
  | returning => simp only [settleA, Option.some.injEq] at ha; subst ha; exact .returning
  | panicking ch ch' hc =>
    cases hc with
    | nil => simp only [settleA, Option.some.injEq] at ha; subst ha; exact .panicking _ _ .nil
    | cons x x' l l' hv hr hg hl =>
      simp only [settleA] at ha
      obtain ⟨v1, r1, g1⟩ := x'
      simp only at hr hg
      split at ha
      · rename_i h1
        cases ha
        cases hl
        rw [h1] at hr; subst hr
        exact .returning
      · cases ha
      · rename_i h1
        cases ha
        have hr2 := hr
        rw [h1] at hr2; subst hr2
        exact .panicking _ _ (.cons _ _ _ _ hv hr hg hl)

theorem raisedA_sound {e : Env} {u : AMode} {u' : FrameMode} {ch ch' : List PanicEntry} (h : Rm e u u') (hc : Rc e ch ch') : Rm e (raisedA u ch) (raised u' ch') := by
  cases h with
  | returning => exact .panicking _ _ hc
  | panicking old old' ho => exact .panicking _ _ (hc.append ho)

theorem Rm.ne_run {e : Env} {u : AMode} {u' : FrameMode} (h : Rm e u u') : u' ≠ .run := by cases h <;> simp

/-- A recover in a deferred call: what it gives, and the caller's mode behind it. -/
def recA : AMode → Option (Value × AMode)
  | .returning => some (.nilIface, .returning)
  | .panicking [] => some (.nilIface, .panicking [])
  | .panicking (x :: older) => match x.recovered, x.goexit with
    | false, false => some (x.v, .panicking ({ v := x.v, recovered := true } :: older))
    | _, _ => none

def evOpsS (G : Prg) (cf : FuncId → List Value → AH → Option CRes) (ops : Array Oper) : List Nat → St → AMode → Option (AExit × St × AMode)
  | [], s, u => some (.normal, s, u)
  | i :: rest, s, u => match ops.toList[i]? with
    | none => none
    | some o => match wantedL ops s.tmps o with
      | true => match evOp G s.tmps s.h o with
        | some .recover => match recA u with
          | some (v, u') => evOpsS G cf ops rest ⟨putL s.tmps o.dst v, s.defers, s.h⟩ u'
          | none => none
        | _ => match evOne G cf s o with
          | some (.normal, s') => evOpsS G cf ops rest s' u
          | some (x, s') => some (x, s', u)
          | none => none
      | false => evOpsS G cf ops rest ⟨putL s.tmps o.dst undef, s.defers, s.h⟩ u

def MeetsS (G : Prg) (e : Env) (w0 : Bs S0) (c₀ : Frame) (cs : List Frame) (x : AExit) (s : St) (u : AMode) (Q : Exit → Act → List Frame → World → Prop) : Prop :=
  ∀ e' ex a u' w, e.le e' → ExitGood e' x ex → Rs G e' w0 s a w → Rm e' u u' → Q ex a ({ c₀ with mode := u' } :: cs) w

theorem MeetsS.mono {e e' : Env} {w0 : Bs S0} {c₀ : Frame} {cs : List Frame} {x : AExit} {s : St} {u : AMode} {Q : Exit → Act → List Frame → World → Prop} (h : MeetsS G e w0 c₀ cs x s u Q) (he : e.le e') : MeetsS G e' w0 c₀ cs x s u Q :=
  fun e'' ex a u' w hle hx hs hu => h e'' ex a u' w (Env.le_trans he hle) hx hs hu

theorem recA_sound {e : Env} {u v2 : AMode} {u' : FrameMode} {v : Value} {c₀ : Frame} {cs : List Frame} (hu : Rm e u u') (h : recA u = some (v, v2)) :
    ∃ v' u2, Rv e v v' ∧ Rm e v2 u2 ∧ (recoverD ({ c₀ with mode := u' } :: cs) = some (v', { c₀ with mode := u2 } :: cs) ∨ (recoverD ({ c₀ with mode := u' } :: cs) = none ∧ v' = .nilIface ∧ u2 = u')) := by
  cases hu with
  | returning =>
    simp only [recA, Option.some.injEq, Prod.mk.injEq] at h
    obtain ⟨rfl, rfl⟩ := h
    exact ⟨.nilIface, .returning, .sc _ rfl, .returning, .inr ⟨rfl, rfl, rfl⟩⟩
  | panicking ch ch' hc =>
    cases hc with
    | nil =>
      simp only [recA, Option.some.injEq, Prod.mk.injEq] at h
      obtain ⟨rfl, rfl⟩ := h
      exact ⟨.nilIface, .panicking [], .sc _ rfl, .panicking _ _ .nil, .inr ⟨rfl, rfl, rfl⟩⟩
    | cons x x' l l' hv hr hg hl =>
      simp only [recA] at h
      obtain ⟨v1, r1, g1⟩ := x'
      simp only at hr hg hv
      split at h
      · rename_i h1 h2
        cases h
        rw [h1] at hr; rw [h2] at hg
        subst hr; subst hg
        exact ⟨v1, .panicking ({ v := v1, recovered := true } :: l'), hv, .panicking _ _ (.cons _ _ _ _ hv rfl rfl hl), .inl rfl⟩
      · cases h

theorem evOpsS_sound (hcf : CallSound S0 G cf) {w0 : Bs S0} {ops : Array Oper} {c₀ : Frame} {cs : List Frame} {Q : Exit → Act → List Frame → World → Prop} :
    ∀ (l : List Nat) {e : Env} {s : St} {u : AMode} {u' : FrameMode} {a : Act} {w : World} {x : AExit} {s' : St} {u2 : AMode}, Rs G e w0 s a w → Rm e u u' → evOpsS G cf ops l s u = some (x, s', u2) → MeetsS G e w0 c₀ cs x s' u2 Q →
      wpOpsS G.P ops Q l a ({ c₀ with mode := u' } :: cs) w
  | [], e, s, u, u', a, w, x, s', u2, hs, hu, h, hQ => by
    simp only [evOpsS, Option.some.injEq, Prod.mk.injEq] at h
    obtain ⟨rfl, rfl, rfl⟩ := h
    exact hQ e .normal a u' w e.le_refl rfl hs hu
  | i :: rest, e, s, u, u', a, w, x, s', u2, hs, hu, h, hQ => by
    rw [evOpsS] at h
    split at h
    · cases h
    · rename_i o ho
      have hoa : ops[i]? = some o := by simpa using ho
      rw [wpOpsS, hoa]
      simp only
      rw [wanted_eq hs.tmps]
      split at h
      · rename_i hw
        rw [if_pos hw]
        split at h
        · rename_i hrec
          have hrun : (execOp a.eval o).run G.P w = .ok .recover w := evOp_sound hs.w hs.tmps hrec
          rw [hrun]
          simp only
          split at h
          · rename_i v u3 hra
            obtain ⟨v', u4, hv, hm, hcase⟩ := recA_sound (c₀ := c₀) (cs := cs) hu hra
            have hrs : Rs G e w0 ⟨putL s.tmps o.dst v, s.defers, s.h⟩ (a.put o.dst v') w := ⟨putL_rel hs.tmps _ hv, by rw [put_defers]; exact hs.defers, hs.w⟩
            have := evOpsS_sound hcf (c₀ := c₀) (cs := cs) (Q := Q) rest hrs hm h hQ
            rcases hcase with hc | ⟨hc, rfl, rfl⟩
            · rw [hc]; exact this
            · rw [hc]; exact this
          · cases h
        · rename_i hnr
          have hne : ∀ w', (execOp a.eval o).run G.P w ≠ .ok .recover w' := by
            intro w' hrun
            have : evOne G cf s o ≠ none := by intro hn; rw [hn] at h; cases h
            unfold evOne at this
            split at this
            · rename_i hop
              obtain ⟨_, _, _, _, _, _, hr⟩ := evOp_sound hs.w hs.tmps hop
              rcases hr with hr | ⟨hr, _⟩ <;> (rw [hrun] at hr; cases hr)
            · rename_i hop
              obtain ⟨_, _, hr⟩ := evOp_sound hs.w hs.tmps hop
              rw [hrun] at hr; cases hr
            · rename_i hop
              obtain ⟨_, _, _, _, hr⟩ := evOp_sound hs.w hs.tmps hop
              rw [hrun] at hr; cases hr
            · rename_i hop
              obtain ⟨_, _, hr⟩ := evOp_sound hs.w hs.tmps hop
              rw [hrun] at hr; cases hr
            · exact this rfl
            · exact this rfl
          suffices hsuf : o.upon G.P a (fun a' w' => wpOpsS G.P ops Q rest a' ({ c₀ with mode := u' } :: cs) w') (fun e a' w' => Q e a' ({ c₀ with mode := u' } :: cs) w') ((execOp a.eval o).run G.P w) by
            clear h hQ
            generalize (execOp a.eval o).run G.P w = r at hne hsuf ⊢
            cases r with
            | ok n w' => cases n <;> first | exact absurd rfl (hne _) | exact hsuf
            | halt hh w' => exact hsuf
          split at h
          · rename_i s1 h1
            exact evOne_sound hcf hs h1 (Q := fun e a' w' => Q e a' ({ c₀ with mode := u' } :: cs) w') (next := fun a' w' => wpOpsS G.P ops Q rest a' ({ c₀ with mode := u' } :: cs) w')
              (fun _ e' a' w' hle hs' => evOpsS_sound hcf (c₀ := c₀) (cs := cs) (Q := Q) rest hs' (hu.mono hle) h (hQ.mono hle)) (fun hn => absurd rfl hn)
          · rename_i x1 s1 hnn h1
            cases h
            exact evOne_sound hcf hs h1 (Q := fun e a' w' => Q e a' ({ c₀ with mode := u' } :: cs) w') (next := fun a' w' => wpOpsS G.P ops Q rest a' ({ c₀ with mode := u' } :: cs) w')
              (fun hx => absurd hx (fun hx => hnn hx)) (fun _ e' ex a' w' hle hx hs' => hQ e' ex a' u' w' hle hx hs' (hu.mono hle))
          · cases h
      · rename_i hw
        rw [hw]
        simp only [Bool.false_eq_true, if_false]
        have hrs : Rs G e w0 ⟨putL s.tmps o.dst undef, s.defers, s.h⟩ (a.put o.dst undef) w := ⟨putL_rel hs.tmps _ Rv.undef, by rw [put_defers]; exact hs.defers, hs.w⟩
        exact evOpsS_sound hcf (c₀ := c₀) (cs := cs) (Q := Q) rest hrs hu h hQ

end
end Go.Ab
