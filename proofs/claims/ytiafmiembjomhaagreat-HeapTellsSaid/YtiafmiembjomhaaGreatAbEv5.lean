/- Functions: bodies, deferred calls, the evaluator as a whole. -/
import Derived.Test.YtiafmiembjomhaaGreatAbEv4
set_option linter.unusedSimpArgs false
set_option linter.unusedVariables false
set_option linter.unusedSectionVars false
set_option linter.unnecessarySimpa false
namespace Go.Ab
noncomputable section
open Go Go.RowKit
variable {S0 : Sym}

variable {G : Prg} {cf : FuncId → List Value → AH → Option CRes}

theorem wpS_block {P : Program} {id : Nat} {c : Code} {Q : Exit → Act → List Frame → World → Prop} {a : Act} {cs : List Frame} {w : World}
    (h : c.wpS P (fun x a cs w => match x with | .exit i => if i = id then Q .normal a cs w else Q (.exit i) a cs w | x => Q x a cs w) a cs w) : (Code.block id c).wpS P Q a cs w := by
  intro b k hb hr
  obtain ⟨e, a₁, cs₁, w₁, hq, harr⟩ := h b (.inBlock id :: k) hb hr
  cases e with
  | normal => exact ⟨.normal, a₁, cs₁, w₁, hq, .head step_block (Steps.trans harr (.one step_inBlock))⟩
  | exit id' =>
    by_cases hid : id' = id
    · simp only [hid, if_true] at hq
      exact ⟨.normal, a₁, cs₁, w₁, hq, .head step_block (harr k (by simp [exitTo, hid]))⟩
    · simp only [hid, if_false] at hq
      refine ⟨.exit id', a₁, cs₁, w₁, hq, fun k' hk => .head step_block (harr k' ?_)⟩
      have : (id == id') = false := by simp; exact fun h => hid h.symm
      simp [exitTo, this, hk]
  | goto l => exact ⟨_, a₁, cs₁, w₁, hq, fun k' hk => .head step_block (harr k' (by simp [gotoIn, hk]))⟩
  | ret => exact ⟨_, a₁, cs₁, w₁, hq, .of_steps (.one step_block) harr⟩
  | panic ch => exact ⟨_, a₁, cs₁, w₁, hq, .of_steps (.one step_block) harr⟩
  | outgrown => exact ⟨_, a₁, cs₁, w₁, hq, .of_steps (b := b) (k := k) (cs := cs₁) (e := .outgrown) (.one step_block) harr⟩

/-- Code of a deferred call: it may recover. -/
def evS (G : Prg) (cf : FuncId → List Value → AH → Option CRes) (lf : Nat) : Code → St → AMode → Option (AExit × St × AMode)
  | .region id ops draw, s, u => match draw with
    | true => match evDraw G cf ops s with
      | some (x, s') => some (x, s', u)
      | none => none
    | false => evOpsS G cf ops (List.range ops.size) s u
  | .seq a b, s, u => match evS G cf lf a s u with
    | some (.normal, s', u') => evS G cf lf b s' u'
    | r => r
  | .cond c x y, s, u => match evalA s.tmps c with
    | some (.bool true) => evS G cf lf x s u
    | some (.bool false) => evS G cf lf y s u
    | _ => none
  | .block id body, s, u => match evS G cf lf body s u with
    | some (.exit i, s', u') => match Nat.beq i id with
      | true => some (.normal, s', u')
      | false => some (.exit i, s', u')
    | r => r
  | c, s, u => match evC G cf lf c s with
    | some (x, s') => some (x, s', u)
    | none => none

theorem evS_of_evC (hm : G.P.follows .mixedOrders = true) (hcf : CallSound S0 G cf) {lf : Nat} {w0 : Bs S0} {c₀ : Frame} {cs : List Frame} {c : Code} {e : Env} {s : St} {u u2 : AMode} {u' : FrameMode} {a : Act} {w : World} {x : AExit} {s' : St}
    {Q : Exit → Act → List Frame → World → Prop} (hs : Rs G e w0 s a w) (hu : Rm e u u') (h : (match evC G cf lf c s with | some (x, s') => some (x, s', u) | none => none) = some (x, s', u2)) (hQ : MeetsS G e w0 c₀ cs x s' u2 Q) :
    c.wpS G.P Q a ({ c₀ with mode := u' } :: cs) w := by
  split at h
  · rename_i x1 s1 h1
    cases h
    exact wpS_of_wp (evC_sound hm hcf c hs h1 fun e' ex a' w' hle hx hs' => hQ e' ex a' u' w' hle hx hs' (hu.mono hle))
  · cases h

theorem evS_sound (hm : G.P.follows .mixedOrders = true) (hcf : CallSound S0 G cf) {lf : Nat} {w0 : Bs S0} {c₀ : Frame} {cs : List Frame} : ∀ (c : Code) {e : Env} {s : St} {u u2 : AMode} {u' : FrameMode} {a : Act} {w : World} {x : AExit} {s' : St} {Q : Exit → Act → List Frame → World → Prop},
    Rs G e w0 s a w → Rm e u u' → evS G cf lf c s u = some (x, s', u2) → MeetsS G e w0 c₀ cs x s' u2 Q → c.wpS G.P Q a ({ c₀ with mode := u' } :: cs) w := by
  intro c
  induction c with
  | region id ops draw =>
    intro e s u u2 u' a w x s' Q hs hu h hQ
    cases draw with
    | true => exact evS_of_evC hm hcf (lf := lf) (c := .region id ops true) hs hu h hQ
    | false => exact wpS_region (evOpsS_sound hcf _ hs hu h hQ)
  | seq c1 c2 ih1 ih2 =>
    intro e s u u2 u' a w x s' Q hs hu h hQ
    simp only [evS] at h
    split at h
    · rename_i s1 u1 h1
      refine wpS_seq (ih1 hs hu h1 fun e' ex a' u3 w' hle hx hs' hu' => ?_)
      cases hx
      exact ih2 hs' hu' h (hQ.mono hle)
    · rename_i hn
      refine wpS_seq (ih1 hs hu h fun e' ex a' u3 w' hle hx hs' hu' => ?_)
      have hne : ex ≠ .normal := by
        intro hex; subst hex
        cases x with
        | normal => exact hn s' u2 h
        | panic ch => obtain ⟨_, h1, _⟩ := hx; cases h1
        | _ => cases hx
      have := hQ e' ex a' u3 w' hle hx hs' hu'
      cases ex <;> first | exact absurd rfl hne | exact this
  | cond c x y ihx ihy =>
    intro e s u u2 u' a w ex s' Q hs hu h hQ
    simp only [evS] at h
    split at h
    · rename_i hc
      exact wpS_cond ((evalA_sound hs.tmps hc).bool_inv) (ihx hs hu h hQ)
    · rename_i hc
      exact wpS_cond ((evalA_sound hs.tmps hc).bool_inv) (ihy hs hu h hQ)
    · cases h
  | block id body ih =>
    intro e s u u2 u' a w x s' Q hs hu h hQ
    simp only [evS] at h
    refine wpS_block ?_
    split at h
    · rename_i i s1 u1 h1
      refine ih hs hu h1 fun e' ex a' u3 w' hle hx hs' hu' => ?_
      cases hx
      split at h
      · rename_i hb
        cases h
        have := Nat.eq_of_beq_eq_true hb
        simp only [this, if_true]
        exact hQ e' _ a' u3 w' hle rfl hs' hu'
      · rename_i hb
        cases h
        have hne : ¬ i = id := fun h => by rw [beq_yes h] at hb; cases hb
        simp only [hne, if_false]
        exact hQ e' _ a' u3 w' hle rfl hs' hu'
    · rename_i hn
      refine ih hs hu h fun e' ex a' u3 w' hle hx hs' hu' => ?_
      have := hQ e' ex a' u3 w' hle hx hs' hu'
      cases ex with
      | exit i =>
        cases x with
        | exit j => exact absurd h (hn j s' u2)
        | panic ch => obtain ⟨_, h1, _⟩ := hx; cases h1
        | _ => cases hx
      | _ => exact this
  | _ => intro e s u u2 u' a w x s' Q hs hu h hQ; exact evS_of_evC hm hcf (lf := lf) hs hu h hQ

/-- Where a body begins. -/
def begA (fn : Func) (args : List Value) (h : AH) : St := ⟨args ++ List.replicate (fn.ntmps - args.length) undef, [], h⟩

theorem begA_sound {e : Env} {h : AH} {w0 : Bs S0} {w : World} (hw : Rw G.P e h w0 w) {fn : Func} {args args' : List Value} (ha : Rl e args args') :
    Rs G e w0 (begA fn args h) { tmps := (⟨args'⟩ : Array Value) ++ Array.replicate (fn.ntmps - (⟨args'⟩ : Array Value).size) undef, defers := [] } w := by
  refine ⟨?_, .nil, hw⟩
  have : ((⟨args'⟩ : Array Value) ++ Array.replicate (fn.ntmps - (⟨args'⟩ : Array Value).size) undef).toList = args' ++ List.replicate (fn.ntmps - args'.length) undef := by simp
  rw [this]
  show Rl e (args ++ List.replicate (fn.ntmps - args.length) undef) _
  rw [ha.length]
  exact ha.append (Rl.replicate Rv.undef _)

def bodyOf (G : Prg) (f : FuncId) : Option (Func × Code) := match getL G.P.funcs.toList f with
  | some fn => match fn.body with
    | some c => some (fn, c)
    | none => none
  | none => none

theorem bodyOf_eq {f : FuncId} {fn : Func} {c : Code} (h : bodyOf G f = some (fn, c)) : G.P.funcs[f]? = some fn ∧ fn.body = some c := by
  unfold bodyOf at h
  split at h
  · rename_i fn' hf
    split at h
    · rename_i c' hc; cases h; exact ⟨by rw [getL_eq, Array.getElem?_toList] at hf; exact hf, hc⟩
    · cases h
  · cases h

/-- A deferred call: its ending, its caller's mode behind it, memory. -/
def evDef (G : Prg) (cf : FuncId → List Value → AH → Option CRes) (lf : Nat) (f : FuncId) (args : List Value) (u : AMode) (h : AH) : Option (Option (List PanicEntry) × AMode × AH) :=
  match bodyOf G f with
  | some (fn, c) => match evS G cf lf c (begA fn args h) u with
    | some (x, s, u') => match s.defers with
      | [] => match x with
        | .panic ch => some (some ch, u', s.h)
        | .exit _ => none
        | _ => match resA G.P fn s.tmps s.h with
          | some _ => some (none, u', s.h)
          | none => none
      | _ :: _ => none
    | none => none
  | none => none

def DefGood (e : Env) : Option (List PanicEntry) → Ending → Prop
  | none, en => ∃ v, en = .returned v
  | some ch, en => ∃ ch', en = .panicked ch' ∧ Rc e ch ch'

theorem Rdf.nil_inv {e : Env} {l : List Deferred} (h : Rdf e [] l) : l = [] := by cases h; rfl

theorem evDef_sound (hm : G.P.follows .mixedOrders = true) (hcf : CallSound S0 G cf) {lf : Nat} {f : FuncId} {args args' : List Value} {u u2 : AMode} {u' : FrameMode} {h h' : AH} {e : Env} {w0 : Bs S0} {w : World} {r : Option (List PanicEntry)}
    (hw : Rw G.P e h w0 w) (ha : Rl e args args') (hu : Rm e u u') (hev : evDef G cf lf f args u h = some (r, u2, h')) :
    CallsD G.P f ⟨args'⟩ u' w fun en u3 w' => ∃ e', e.le e' ∧ Rm e' u2 u3 ∧ Rw G.P e' h' w0 w' ∧ DefGood e' r en := by
  unfold evDef at hev
  split at hev
  · rename_i fn c hb
    obtain ⟨hf, hbo⟩ := bodyOf_eq hb
    split at hev
    · rename_i x s u4 hS
      split at hev
      · rename_i hdf
        refine callsD_of_wpS hf hbo fun c₀ cs hc₀ => ?_
        have hc : ({ c₀ with mode := u' } : Frame) = c₀ := by subst hc₀; rfl
        have := evS_sound hm hcf (c₀ := c₀) (cs := cs) c (begA_sound hw (fn := fn) ha) hu hS (Q := bodyPostS G.P fn c₀ cs (fun en u3 w' => ∃ e', e.le e' ∧ Rm e' u2 u3 ∧ Rw G.P e' h' w0 w' ∧ DefGood e' r en)) ?_
        · rw [hc] at this; exact this
        · intro e' ex a' u3 w' hle hx hs' hu'
          have hd : a'.defers = [] := by
            have := hs'.defers
            rw [hdf] at this; exact this.nil_inv
          have fin : ∀ (v0 : Value), resA G.P fn s.tmps s.h = some v0 → r = none → u2 = u4 → h' = s.h →
              (a'.defers = [] ∧ ∃ u'', ({ c₀ with mode := u3 } : Frame) :: cs = { c₀ with mode := u'' } :: cs ∧ ∃ v, (results fn a'.tmps).run G.P w' = .ok v w' ∧ ∃ e', e.le e' ∧ Rm e' u2 u'' ∧ Rw G.P e' h' w0 w' ∧ DefGood e' r (.returned v)) := by
            intro v0 hres h1 h2 h3
            subst h1; subst h2; subst h3
            obtain ⟨v', _, hrun⟩ := resA_sound hs'.w hs'.tmps hres
            exact ⟨hd, u3, rfl, v', hrun, e', hle, hu', hs'.w, v', rfl⟩
          cases x with
          | panic ch =>
            obtain ⟨ch', rfl, hch⟩ := hx
            cases hev
            exact ⟨hd, u3, rfl, e', hle, hu', hs'.w, ch', rfl, hch⟩
          | exit id => cases hev
          | normal =>
            cases hx
            simp only at hev
            split at hev
            · rename_i v0 hres; cases hev; exact fin v0 hres rfl rfl rfl
            · cases hev
          | ret =>
            cases hx
            simp only at hev
            split at hev
            · rename_i v0 hres; cases hev; exact fin v0 hres rfl rfl rfl
            · cases hev
      · cases hev
    · cases hev
  · cases hev

/-- What leaves a function behind its deferred calls. -/
def leaveA (G : Prg) (cf : FuncId → List Value → AH → Option CRes) (lf : Nat) (fn : Func) (T : List Value) : List ADef → AMode → AH → Option CRes
  | [], .returning, h => match resA G.P fn T h with
    | some v => some (.ret v h)
    | none => none
  | [], .panicking ch, h => some (.panic ch h)
  | d :: ds, u, h => match G.ok d.f with
    | true => match evDef G cf lf d.f (d.args ++ d.cap) u h with
      | some (none, u', h') => match settleA u' with
        | some u2 => leaveA G cf lf fn T ds u2 h'
        | none => none
      | some (some ch, u', h') => leaveA G cf lf fn T ds (raisedA u' ch) h'
      | none => none
    | false => none

theorem CResGood.mono {e e' : Env} (he : e.le e') {w0 : Bs S0} {r : CRes} {en : Ending} {w' : World} (h : CResGood G e' w0 r en w') : CResGood G e w0 r en w' := by
  cases r with
  | ret v hh => obtain ⟨e2, v', h1, h2⟩ := h; exact ⟨e2, v', Env.le_trans he h1, h2⟩
  | panic ch hh => obtain ⟨e2, v', h1, h2⟩ := h; exact ⟨e2, v', Env.le_trans he h1, h2⟩

theorem Leaves_mono {P : Program} {fn : Func} {tmps : Array Value} {R R' : Ending → World → Prop} : ∀ {ds : List Deferred} {u : FrameMode} {w : World}, Leaves P fn tmps R ds u w → (∀ e w, R e w → R' e w) → Leaves P fn tmps R' ds u w
  | [], .returning, w, h, hR => let ⟨v, h1, h2⟩ := h; ⟨v, h1, hR _ _ h2⟩
  | [], .panicking ch, w, h, hR => hR _ _ h
  | [], .run, w, h, hR => h
  | d :: ds, u, w, h, hR => by
    obtain ⟨h1, fv, cap, f, args, h2, h3, h4⟩ := h
    refine ⟨h1, fv, cap, f, args, h2, h3, h4.mono ?_⟩
    intro e u' w' h
    cases e with
    | returned v => exact Leaves_mono h hR
    | panicked ch => exact Leaves_mono h hR
    | outgrown => exact hR _ _ h

theorem leaveA_sound (hm : G.P.follows .mixedOrders = true) (hcf : CallSound S0 G cf) {lf : Nat} {fn : Func} {T : List Value} {tmps : Array Value} {w0 : Bs S0} : ∀ (ds : List ADef) {ds' : List Deferred} {u : AMode} {u' : FrameMode} {h : AH} {e : Env} {w : World} {r : CRes},
    Rl e T tmps.toList → Rdf e ds ds' → Rm e u u' → Rw G.P e h w0 w → leaveA G cf lf fn T ds u h = some r → Leaves G.P fn tmps (CResGood G e w0 r) ds' u' w
  | [], ds', u, u', h, e, w, r, hT, hd, hu, hw, hl => by
    cases hd
    cases hu with
    | returning =>
      rw [leaveA] at hl
      split at hl
      · rename_i v hv
        cases hl
        obtain ⟨v', h1, h2⟩ := resA_sound hw hT hv
        exact ⟨v', h2, e, v', e.le_refl, rfl, h1, hw⟩
      · cases hl
    | panicking ch ch' hc =>
      rw [leaveA] at hl
      cases hl
      exact ⟨e, ch', e.le_refl, rfl, hc, hw⟩
  | d :: ds, ds', u, u', h, e, w, r, hT, hd, hu, hw, hl => by
    cases hd with
    | cons _ cap' args' _ l' hc ha hds =>
      rw [leaveA] at hl
      split at hl
      · rename_i hok
        have hinv : (invoke (.fn (.func d.f) ⟨cap'⟩) ⟨args'⟩).run G.P w = .ok (.enter d.f ⟨args' ++ cap'⟩) w := by
          have : (⟨args'⟩ : Array Value) ++ (⟨cap'⟩ : Array Value) = ⟨args' ++ cap'⟩ := by apply Array.ext'; simp
          show (callFunc d.f ((⟨args'⟩ : Array Value) ++ (⟨cap'⟩ : Array Value))).run G.P w = _
          rw [this]
          exact G.enters d.f hok _ w
        split at hl
        · rename_i u2 h2 hev
          split at hl
          · rename_i u3 hset
            refine leaves_cons hu.ne_run hinv ((evDef_sound hm hcf hw (ha.append hc) hu hev).mono ?_)
            rintro en u4 w' ⟨e', hle, hu4, hw', v, rfl⟩
            have := leaveA_sound hm hcf ds (hT.mono hle) (hds.mono hle) (settleA_sound hu4 hset) hw' hl
            exact Leaves_mono this (fun en w h => h.mono hle)
          · cases hl
        · rename_i ch u2 h2 hev
          refine leaves_cons hu.ne_run hinv ((evDef_sound hm hcf hw (ha.append hc) hu hev).mono ?_)
          rintro en u4 w' ⟨e', hle, hu4, hw', ch', rfl, hch⟩
          have := leaveA_sound hm hcf ds (hT.mono hle) (hds.mono hle) (raisedA_sound hu4 hch) hw' hl
          exact Leaves_mono this (fun en w h => h.mono hle)
        · cases hl
      · cases hl
/-- A hook: some functions by contracts of their own. -/
abbrev Hook := FuncId → List Value → AH → Option CRes

def evF (G : Prg) (hook : Hook) (lf : Nat) : Nat → FuncId → List Value → AH → Option CRes
  | 0, _, _, _ => none
  | n + 1, f, args, h => match hook f args h with
    | some r => some r
    | none => match bodyOf G f with
      | some (fn, c) => match evC G (evF G hook lf n) lf c (begA fn args h) with
        | some (.panic ch, s) => leaveA G (evF G hook lf n) lf fn s.tmps s.defers (.panicking ch) s.h
        | some (.exit _, _) => none
        | some (_, s) => leaveA G (evF G hook lf n) lf fn s.tmps s.defers .returning s.h
        | none => none
      | none => none

theorem evF_sound (hm : G.P.follows .mixedOrders = true) {hook : Hook} (hh : CallSound S0 G hook) {lf : Nat} : ∀ n, CallSound S0 G (evF G hook lf n)
  | 0 => fun f args h r hr => by cases hr
  | n + 1 => by
    have ih := evF_sound hm hh (lf := lf) n
    intro f args h r hr e w0 w args' hw ha
    rw [evF] at hr
    split at hr
    · rename_i r' hk; cases hr; exact hh f args h _ hk e w0 w args' hw ha
    · split at hr
      · rename_i fn c hb
        obtain ⟨hf, hbo⟩ := bodyOf_eq hb
        refine calls_of_wp_defers hf hbo ?_
        split at hr
        · rename_i ch s hC
          refine evC_sound hm ih c (begA_sound hw ha) hC fun e' ex a' w' hle hx hs' => ?_
          obtain ⟨ch', rfl, hch⟩ := hx
          exact Leaves_mono (leaveA_sound hm ih s.defers hs'.tmps hs'.defers (.panicking _ _ hch) hs'.w hr) (fun en w h => h.mono hle)
        · cases hr
        · rename_i x s hnp hne hC
          refine evC_sound hm ih c (begA_sound hw ha) hC fun e' ex a' w' hle hx hs' => ?_
          have := Leaves_mono (leaveA_sound hm ih s.defers hs'.tmps hs'.defers .returning hs'.w hr) (fun en w h => h.mono hle)
          cases x with
          | normal => cases hx; exact this
          | ret => cases hx; exact this
          | exit id => exact absurd rfl (hne id)
          | panic ch => exact absurd rfl (hnp ch)
        · cases hr
      · cases hr

end
end Go.Ab
