/- One operation on names: the model does the same (all of them). -/
import Derived.Test.YtiafmiembjomhaaGreatAbOps7
set_option linter.unusedSimpArgs false
set_option linter.unusedVariables false
set_option linter.unusedSectionVars false
set_option linter.unnecessarySimpa false
namespace Go.Ab
noncomputable section
open Go Go.RowKit
variable {S0 : Sym}

variable {G : Prg} {e : Env} {h : AH} {w0 : Bs S0} {w : World}

theorem args_arr (a : Act) (xs : Array Operand) : xs.map a.eval = ⟨xs.toList.map a.eval⟩ := by
  apply Array.ext'; simp

theorem evCall_sound (hw : Rw G.P e h w0 w) {tmps : List Value} {a : Act} (hr : Rl e tmps a.tmps.toList) {o : Oper} {c : Call} (ho : o.op = .call c) {r : OpRes} (ha : evCall G tmps h c o.type = some r) : OpGood G e w0 w o a r := by
  have hex : execOp a.eval o = (do let d ← resolve a.eval c o.type; invoke d.target d.args) := by unfold execOp; rw [ho]
  unfold evCall at ha
  split at ha
  · cases ha
  · rename_i args hargs
    have hA := evalArgs_sound hr hargs
    have hmap := args_arr a c.args
    split at ha
    · rename_i b hc
      obtain ⟨cs, hres⟩ : ∃ cs : Array Bool, (execOp a.eval o).run G.P w = (builtin b c.argTypes o.type cs ⟨c.args.toList.map a.eval⟩).run G.P w :=
        ⟨_, by rw [hex]; simp only [resolve, hc]; rw [hmap]; rfl⟩
      split at ha
      · rename_i s x
        obtain ⟨s', l1, e1, hs, h1⟩ := hA.cons_inv
        obtain ⟨x', l2, e2, hx, h2⟩ := h1.cons_inv
        have e3 := h2.nil_inv
        subst e3
        split at ha
        · rename_i v h' hap
          cases ha
          obtain ⟨e', v', w', hle, hv, hrun, hw'⟩ := aAppend_sound (ty := o.type) hw hs hx hap
          refine ⟨e', v', w', hle, hv, hw', .inl ?_⟩
          rw [hres, e1, e2]
          simp only [builtin, Sem.run_bind]
          have : (⟨[s', x']⟩ : Array Value) = #[s', x'] := rfl
          rw [this, hrun]; rfl
        · cases ha
      · rename_i x
        obtain ⟨x', l1, e1, hx, h1⟩ := hA.cons_inv
        have e3 := h1.nil_inv
        subst e3
        split at ha
        · rename_i v hl
          cases ha
          obtain ⟨v', hv, hrun⟩ := aLen_sound (ty := o.type) hw hx hl
          refine good_val hw hv ?_
          rw [hres, e1]
          simp only [builtin, Sem.run_bind]
          have : (⟨[x']⟩ : Array Value) = #[x'] := rfl
          rw [this, hrun]; rfl
        · cases ha
      · rename_i x
        obtain ⟨x', l1, e1, hx, h1⟩ := hA.cons_inv
        have e3 := h1.nil_inv
        subst e3
        split at ha
        · rename_i v hl
          cases ha
          obtain ⟨v', hv, hrun⟩ := aCap_sound (ty := o.type) hx hl w
          refine good_val hw hv ?_
          rw [hres, e1]
          simp only [builtin, Sem.run_bind]
          have : (⟨[x']⟩ : Array Value) = #[x'] := rfl
          rw [this, hrun]; rfl
        · cases ha
      · rename_i m k
        obtain ⟨m', l1, e1, hm, h1⟩ := hA.cons_inv
        obtain ⟨k', l2, e2, hk, h2⟩ := h1.cons_inv
        have e3 := h2.nil_inv
        subst e3
        split at ha
        · rename_i h' hd
          cases ha
          obtain ⟨w', hrun, hw'⟩ := aDelete_sound (ty := o.type) hw hm hk hd
          refine ⟨e, .tuple #[], w', e.le_refl, .tuple _ _ .nil, hw', .inl ?_⟩
          rw [hres, e1, e2]
          simp only [builtin, Sem.run_bind]
          have : (⟨[m', k']⟩ : Array Value) = #[m', k'] := rfl
          rw [this, hrun]; rfl
        · cases ha
      · cases ha
        have e3 := hA.nil_inv
        show _ = _
        rw [hres, e3]; rfl
      · split at ha
        · rename_i v hg hp
          cases ha
          obtain ⟨h1, h2⟩ := nextVal_some hp
          refine good_val hw (Rv.of_ground _ h2) ?_
          rw [hres, hA.ground_inv hg]
          exact pureRun_sound G.P _ h1 w
        · cases ha
      · split at ha
        · rename_i v hg hp
          cases ha
          obtain ⟨h1, h2⟩ := nextVal_some hp
          refine good_val hw (Rv.of_ground _ h2) ?_
          rw [hres, hA.ground_inv hg]
          exact pureRun_sound G.P _ h1 w
        · cases ha
      · cases ha
        obtain ⟨x', l1, e1, hx, h1⟩ := hA.cons_inv
        have e3 := h1.nil_inv
        subst e3
        obtain ⟨u, rfl, hu⟩ := hx.iface_inv
        refine ⟨_, .iface _ _ _ hu, ?_⟩
        rw [hres, e1]; rfl
      · cases ha
    · rename_i f hc
      split at ha
      · rename_i g first cap hf
        obtain ⟨f', c', hfe, hff, hcc⟩ := (evalA_sound hr hf).func_inv
        have hall : Rl e (first ++ args ++ cap) (f' ++ c.args.toList.map a.eval ++ c') := (hff.append hA).append hcc
        have hres : (execOp a.eval o).run G.P w = (callFunc g ⟨f' ++ c.args.toList.map a.eval ++ c'⟩).run G.P w := by
          rw [hex]
          simp only [resolve, hc, hfe, Deferred.ofValue]
          have : ((⟨f'⟩ : Array Value) ++ c.args.map a.eval) ++ (⟨c'⟩ : Array Value) = ⟨f' ++ c.args.toList.map a.eval ++ c'⟩ := by
            rw [hmap]; apply Array.ext'; simp
          show (callFunc g ((⟨f'⟩ : Array Value) ++ c.args.map a.eval ++ ⟨c'⟩)).run G.P w = _
          rw [this]
        split at ha
        · rename_i hok
          cases ha
          exact ⟨_, hall, by rw [hres]; exact G.enters g hok _ w⟩
        · split at ha
          · rename_i v hg hp
            cases ha
            obtain ⟨h1, h2⟩ := nextVal_some hp
            refine good_val hw (Rv.of_ground _ h2) ?_
            rw [hres, hall.ground_inv hg]
            exact pureRun_sound G.P _ h1 w
          · cases ha
      · cases ha
    · cases ha

end
end Go.Ab
