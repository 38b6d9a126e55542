/- Regions that draw no order. -/
import Derived.Test.YtiafmiembjomhaaGreatAbOps9
set_option linter.unusedSimpArgs false
set_option linter.unusedVariables false
set_option linter.unusedSectionVars false
set_option linter.unnecessarySimpa false
namespace Go.Ab
noncomputable section
open Go Go.RowKit
variable {S0 : Sym}

/-- A deferred call. -/
structure ADef where
  f : FuncId
  cap : List Value
  args : List Value

structure St where
  tmps : List Value
  defers : List ADef
  h : AH

inductive Rdf (e : Env) : List ADef → List Deferred → Prop
  | nil : Rdf e [] []
  | cons (d : ADef) (cap' args' : List Value) (l : List ADef) (l' : List Deferred) (hc : Rl e d.cap cap') (ha : Rl e d.args args') (hl : Rdf e l l') :
      Rdf e (d :: l) ({ target := .fn (.func d.f) ⟨cap'⟩, args := ⟨args'⟩ } :: l')

theorem Rdf.mono {e e' : Env} (he : e.le e') : ∀ {l : List ADef} {l' : List Deferred}, Rdf e l l' → Rdf e' l l'
  | _, _, .nil => .nil
  | _, _, .cons d c a l l' hc ha hl => .cons d c a l l' (hc.mono he) (ha.mono he) (Rdf.mono he hl)

inductive Rc (e : Env) : List PanicEntry → List PanicEntry → Prop
  | nil : Rc e [] []
  | cons (x x' : PanicEntry) (l l' : List PanicEntry) (hv : Rv e x.v x'.v) (hr : x'.recovered = x.recovered) (hg : x'.goexit = x.goexit) (hl : Rc e l l') : Rc e (x :: l) (x' :: l')

theorem Rc.mono {e e' : Env} (he : e.le e') : ∀ {l l' : List PanicEntry}, Rc e l l' → Rc e' l l'
  | _, _, .nil => .nil
  | _, _, .cons x x' l l' hv hr hg hl => .cons x x' l l' (hv.mono he) hr hg (Rc.mono he hl)

theorem Rc.append {e : Env} : ∀ {l l' m m' : List PanicEntry}, Rc e l l' → Rc e m m' → Rc e (l ++ m) (l' ++ m')
  | _, _, _, _, .nil, h => h
  | _, _, _, _, .cons x x' l l' hv hr hg hl, k => .cons x x' _ _ hv hr hg (Rc.append hl k)

/-- An activation and a world are what a state stands for. -/
structure Rs (G : Prg) (e : Env) (w0 : Bs S0) (s : St) (a : Act) (w : World) : Prop where
  tmps : Rl e s.tmps a.tmps.toList
  defers : Rdf e s.defers a.defers
  w : Rw G.P e s.h w0 w

inductive AExit where
  | normal
  | exit (id : Nat)
  | ret
  | panic (chain : List PanicEntry)

def ExitGood (e : Env) : AExit → Exit → Prop
  | .normal, x => x = .normal
  | .exit id, x => x = .exit id
  | .ret, x => x = .ret
  | .panic ch, x => ∃ ch', x = .panic ch' ∧ Rc e ch ch'

inductive CRes where
  | ret (v : Value) (h : AH)
  | panic (chain : List PanicEntry) (h : AH)

def CResGood (G : Prg) (e : Env) (w0 : Bs S0) : CRes → Ending → World → Prop
  | .ret v h, en, w' => ∃ e' v', e.le e' ∧ en = .returned v' ∧ Rv e' v v' ∧ Rw G.P e' h w0 w'
  | .panic ch h, en, w' => ∃ e' ch', e.le e' ∧ en = .panicked ch' ∧ Rc e' ch ch' ∧ Rw G.P e' h w0 w'

/-- What an evaluator of calls must fulfil. -/
def CallSound (S0 : Sym) (G : Prg) (cf : FuncId → List Value → AH → Option CRes) : Prop :=
  ∀ f args h r, cf f args h = some r → ∀ e (w0 : Bs S0) w args', Rw G.P e h w0 w → Rl e args args' → Calls G.P f ⟨args'⟩ w (CResGood G e w0 r)

def yieldedL (ops : Array Oper) (tmps : List Value) (j : Nat) : Option Bool :=
  match getL ops.toList j with
  | some o => match o.dst with
    | some d => match getL tmps d with
      | some (.bool b) => some b
      | _ => none
    | none => none
  | none => none

theorem yielded_eq {e : Env} {ops : Array Oper} {tmps : List Value} {a : Act} (hr : Rl e tmps a.tmps.toList) (j : Nat) : yielded ops a.tmps j = yieldedL ops tmps j := by
  unfold yielded yieldedL
  simp only [getL_eq]
  rw [← Array.getElem?_toList]
  cases ops.toList[j]? with
  | none => rfl
  | some o =>
    simp only [Option.bind_some]
    cases o.dst with
    | none => rfl
    | some d =>
      simp only [Option.bind_some]
      cases ht : tmps[d]? with
      | none =>
        have h1 : a.tmps[d]? = none := by
          have := hr.length
          simp at ht ⊢
          simpa [this] using ht
        rw [h1]
      | some v =>
        obtain ⟨v', h1, h2⟩ := hr.get ht
        rw [Array.getElem?_toList] at h1
        rw [h1]
        cases h2 with
        | opq j _ h =>
          have h3 := (e.S.ok _ _ h).2.1
          cases v' <;> first | rfl | simp [Value.isBool] at h3
        | _ => rfl

def wantedL (ops : Array Oper) (tmps : List Value) (o : Oper) : Bool :=
  match o.guard with
  | none => true
  | some (j, want) => match yieldedL ops tmps j with
    | some b => match b, want with
      | true, true => true
      | false, false => true
      | _, _ => false
    | none => false

theorem wanted_eq {e : Env} {ops : Array Oper} {tmps : List Value} {a : Act} (hr : Rl e tmps a.tmps.toList) (o : Oper) : Region.wanted o (yielded ops a.tmps) = wantedL ops tmps o := by
  unfold Region.wanted wantedL
  cases o.guard with
  | none => rfl
  | some g =>
    obtain ⟨j, want⟩ := g
    simp only
    rw [yielded_eq hr]
    cases yieldedL ops tmps j with
    | none => rfl
    | some b => cases b <;> cases want <;> rfl

def putL (tmps : List Value) (dst : Option Tmp) (v : Value) : List Value := match dst with
  | some d => setL tmps d v
  | none => tmps

theorem putL_rel {e : Env} {tmps : List Value} {a : Act} (hr : Rl e tmps a.tmps.toList) (dst : Option Tmp) {v v' : Value} (hv : Rv e v v') : Rl e (putL tmps dst v) (a.put dst v').tmps.toList := by
  cases dst with
  | none => exact hr
  | some d => simpa [putL, setL_eq, Act.put] using hr.set d hv

theorem put_defers (a : Act) (dst : Option Tmp) (v : Value) : (a.put dst v).defers = a.defers := by cases dst <;> rfl

/-- One operation within a region: what stands behind it. -/
def evOne (G : Prg) (cf : FuncId → List Value → AH → Option CRes) (s : St) (o : Oper) : Option (AExit × St) :=
  match evOp G s.tmps s.h o with
  | some (.val v h') => some (.normal, ⟨putL s.tmps o.dst v, s.defers, h'⟩)
  | some (.call f args) => match cf f args s.h with
    | some (.ret v h') => some (.normal, ⟨putL s.tmps o.dst v, s.defers, h'⟩)
    | some (.panic ch h') => some (.panic ch, ⟨s.tmps, s.defers, h'⟩)
    | none => none
  | some (.defer f cap args) => some (.normal, ⟨putL s.tmps o.dst (.tuple ⟨[]⟩), ⟨f, cap, args⟩ :: s.defers, s.h⟩)
  | some (.panic v) => some (.panic [{ v := v, recovered := false }], s)
  | some .recover => none
  | none => none

/-- A post that holds wherever a state's exit is met. -/
def Meets (G : Prg) (e : Env) (w0 : Bs S0) (x : AExit) (s : St) (Q : Exit → Act → World → Prop) : Prop :=
  ∀ e' ex a w, e.le e' → ExitGood e' x ex → Rs G e' w0 s a w → Q ex a w

theorem evOne_sound {G : Prg} {cf : FuncId → List Value → AH → Option CRes} (hcf : CallSound S0 G cf) {e : Env} {w0 : Bs S0} {s : St} {a : Act} {w : World} (hs : Rs G e w0 s a w) {o : Oper} {x : AExit} {s' : St}
    (h : evOne G cf s o = some (x, s')) {next : Act → World → Prop} {Q : Exit → Act → World → Prop}
    (hn : x = .normal → ∀ e' a' w', e.le e' → Rs G e' w0 s' a' w' → next a' w') (hQ : x ≠ .normal → Meets G e w0 x s' Q) : o.wp G.P a w next Q := by
  unfold evOne at h
  unfold Oper.wp
  split at h
  · rename_i v h' hop
    cases h
    obtain ⟨e', v', w', hle, hv, hw', hrun⟩ := evOp_sound hs.w hs.tmps hop
    have hrs : Rs G e' w0 ⟨putL s.tmps o.dst v, s.defers, h'⟩ (a.put o.dst v') w' :=
      ⟨putL_rel (hs.tmps.mono hle) _ hv, by rw [put_defers]; exact hs.defers.mono hle, hw'⟩
    rcases hrun with hrun | ⟨hrun, rfl⟩
    · rw [hrun]; exact hn rfl e' _ _ hle hrs
    · rw [hrun]; exact hn rfl e' _ _ hle hrs
  · rename_i f args hop
    obtain ⟨args', ha, hrun⟩ := evOp_sound hs.w hs.tmps hop
    rw [hrun]
    show Calls G.P f ⟨args'⟩ w _
    split at h
    · rename_i v h' hc
      cases h
      refine (hcf f args s.h _ hc e w0 w args' hs.w ha).mono ?_
      rintro en w' ⟨e', v', hle, rfl, hv, hw'⟩
      exact hn rfl e' _ _ hle ⟨putL_rel (hs.tmps.mono hle) _ hv, by rw [put_defers]; exact hs.defers.mono hle, hw'⟩
    · rename_i ch h' hc
      cases h
      refine (hcf f args s.h _ hc e w0 w args' hs.w ha).mono ?_
      rintro en w' ⟨e', ch', hle, rfl, hch, hw'⟩
      exact hQ (by simp) e' _ _ _ hle ⟨ch', rfl, hch⟩ ⟨hs.tmps.mono hle, hs.defers.mono hle, hw'⟩
    · cases h
  · rename_i f cap args hop
    cases h
    obtain ⟨cap', args', hc, ha, hrun⟩ := evOp_sound hs.w hs.tmps hop
    rw [hrun]
    refine hn rfl e _ _ e.le_refl ⟨?_, ?_, hs.w⟩
    · exact putL_rel (a := { a with defers := _ :: a.defers }) hs.tmps _ Rv.undef
    · rw [put_defers]; exact .cons ⟨f, cap, args⟩ _ _ _ _ hc ha hs.defers
  · rename_i v hop
    cases h
    obtain ⟨v', hv, hrun⟩ := evOp_sound hs.w hs.tmps hop
    rw [hrun]
    exact hQ (by simp) e _ _ _ e.le_refl ⟨_, rfl, .cons _ _ _ _ hv rfl rfl .nil⟩ hs
  · cases h
  · cases h

def evOps (G : Prg) (cf : FuncId → List Value → AH → Option CRes) (ops : Array Oper) : List Oper → St → Option (AExit × St)
  | [], s => some (.normal, s)
  | o :: rest, s => match wantedL ops s.tmps o with
    | true => match evOne G cf s o with
      | some (.normal, s') => evOps G cf ops rest s'
      | r => r
    | false => evOps G cf ops rest ⟨putL s.tmps o.dst (.tuple ⟨[]⟩), s.defers, s.h⟩

theorem Meets.mono {G : Prg} {e e' : Env} {w0 : Bs S0} {x : AExit} {s : St} {Q : Exit → Act → World → Prop} (h : Meets G e w0 x s Q) (he : e.le e') : Meets G e' w0 x s Q :=
  fun e'' ex a w hle hx hs => h e'' ex a w (Env.le_trans he hle) hx hs

theorem evOps_sound {G : Prg} {cf : FuncId → List Value → AH → Option CRes} (hcf : CallSound S0 G cf) {w0 : Bs S0} {ops : Array Oper} {Q : Exit → Act → World → Prop} :
    ∀ (l : List Oper) {e : Env} {s : St} {a : Act} {w : World} {x : AExit} {s' : St}, Rs G e w0 s a w → evOps G cf ops l s = some (x, s') → Meets G e w0 x s' Q → wpList G.P ops Q l a w
  | [], e, s, a, w, x, s', hs, h, hQ => by
    simp only [evOps, Option.some.injEq, Prod.mk.injEq] at h
    obtain ⟨rfl, rfl⟩ := h
    exact hQ e .normal a w e.le_refl rfl hs
  | o :: rest, e, s, a, w, x, s', hs, h, hQ => by
    unfold wpList
    rw [wanted_eq hs.tmps]
    rw [evOps] at h
    split at h
    · rename_i hw
      rw [if_pos hw]
      refine .inl ?_
      split at h
      · rename_i s1 h1
        exact evOne_sound hcf hs h1 (fun _ e' a' w' hle hs' => evOps_sound hcf rest hs' h (hQ.mono hle)) (fun hn => absurd rfl hn)
      · rename_i hnn
        refine evOne_sound hcf hs h (fun hx => ?_) (fun _ => hQ)
        subst hx
        exact absurd h (hnn s')
    · rename_i hw
      rw [hw]
      simp only [Bool.false_eq_true, if_false]
      have hrs : Rs G e w0 ⟨putL s.tmps o.dst (.tuple ⟨[]⟩), s.defers, s.h⟩ (a.put o.dst undef) w :=
        ⟨putL_rel hs.tmps _ Rv.undef, by rw [put_defers]; exact hs.defers, hs.w⟩
      exact evOps_sound hcf rest hrs h hQ

end
end Go.Ab
