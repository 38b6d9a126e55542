/- Every operation on names: the model does the same. -/
import Derived.Test.YtiafmiembjomhaaGreatAbOps8
set_option linter.unusedSimpArgs false
set_option linter.unusedVariables false
set_option linter.unusedSectionVars false
set_option linter.unnecessarySimpa false
namespace Go.Ab
noncomputable section
open Go Go.RowKit
variable {S0 : Sym}

variable {G : Prg} {e : Env} {h : AH} {w0 : Bs S0} {w : World}

theorem parts_arr (a : Act) (xs : Array (Nat × Operand)) : (xs.map fun (i, x) => (i, a.eval x)) = ⟨xs.toList.map fun (i, x) => (i, a.eval x)⟩ := by
  apply Array.ext'; simp

set_option maxHeartbeats 1000000 in
theorem evOp_sound (hw : Rw G.P e h w0 w) {tmps : List Value} {a : Act} (hr : Rl e tmps a.tmps.toList) {o : Oper} {r : OpRes} (ha : evOp G tmps h o = some r) : OpGood G e w0 w o a r := by
  obtain ⟨dst, op, ty, pos, after, guard⟩ := o
  cases op with
  | move x =>
    simp only [evOp, opMove, opAssign, opPick, opAlloc, opBox, opBuild, opBuildSlice, opLoad, opStore, opNilCheck, opBinOp, opUnOp, opConvert, opMakeInterface, opMakeFunc, opMakeMap, opMakeSlice, opSlice, opFieldAddr, opField, opIndexAddr, opIndex, opLookup, opMapUpdate, opTypeAssert, opExtract, opDefer, opPanic] at ha
    split at ha
    · rename_i v hv; cases ha; exact good_val hw (evalA_sound hr hv) rfl
    · cases ha
  | assign x =>
    simp only [evOp, opMove, opAssign, opPick, opAlloc, opBox, opBuild, opBuildSlice, opLoad, opStore, opNilCheck, opBinOp, opUnOp, opConvert, opMakeInterface, opMakeFunc, opMakeMap, opMakeSlice, opSlice, opFieldAddr, opField, opIndexAddr, opIndex, opLookup, opMapUpdate, opTypeAssert, opExtract, opDefer, opPanic] at ha
    split at ha
    · rename_i v hv; cases ha; exact good_val hw (evalA_sound hr hv) rfl
    · cases ha
  | pick c x y =>
    simp only [evOp, opMove, opAssign, opPick, opAlloc, opBox, opBuild, opBuildSlice, opLoad, opStore, opNilCheck, opBinOp, opUnOp, opConvert, opMakeInterface, opMakeFunc, opMakeMap, opMakeSlice, opSlice, opFieldAddr, opField, opIndexAddr, opIndex, opLookup, opMapUpdate, opTypeAssert, opExtract, opDefer, opPanic] at ha
    split at ha
    · rename_i hc
      have hcv := (evalA_sound hr hc).bool_inv
      split at ha
      · rename_i v hv; cases ha; exact good_val hw (evalA_sound hr hv) (by simp [execOp, hcv, asBool, Sem.run_bind])
      · cases ha
    · rename_i hc
      have hcv := (evalA_sound hr hc).bool_inv
      split at ha
      · rename_i v hv; cases ha; exact good_val hw (evalA_sound hr hv) (by simp [execOp, hcv, asBool, Sem.run_bind])
      · cases ha
    · cases ha
  | alloc el =>
    simp only [evOp, opMove, opAssign, opPick, opAlloc, opBox, opBuild, opBuildSlice, opLoad, opStore, opNilCheck, opBinOp, opUnOp, opConvert, opMakeInterface, opMakeFunc, opMakeMap, opMakeSlice, opSlice, opFieldAddr, opField, opIndexAddr, opIndex, opLookup, opMapUpdate, opTypeAssert, opExtract, opDefer, opPanic] at ha
    split at ha
    · rename_i z hz
      obtain ⟨hz1, hz2⟩ := zeroA_sound hz w
      split at ha
      · rename_i p h' hn; cases ha
        obtain ⟨e', p', w', hle, hp, hrun, hw'⟩ := aNew_sound hw (hz2 e) hn
        exact ⟨e', _, w', hle, hp, hw', .inl (by simp [execOp, Instr.alloc, Sem.run_bind, hz1, hrun])⟩
      · cases ha
    · cases ha
  | box el x =>
    simp only [evOp, opMove, opAssign, opPick, opAlloc, opBox, opBuild, opBuildSlice, opLoad, opStore, opNilCheck, opBinOp, opUnOp, opConvert, opMakeInterface, opMakeFunc, opMakeMap, opMakeSlice, opSlice, opFieldAddr, opField, opIndexAddr, opIndex, opLookup, opMapUpdate, opTypeAssert, opExtract, opDefer, opPanic] at ha
    split at ha
    · rename_i v hv
      split at ha
      · rename_i p h' hn; cases ha
        obtain ⟨e', p', w', hle, hp, hrun, hw'⟩ := aNew_sound hw (evalA_sound hr hv) hn
        exact ⟨e', _, w', hle, hp, hw', .inl (by simp [execOp, Instr.box, Sem.run_bind, hrun])⟩
      · cases ha
    · cases ha
  | build t parts =>
    simp only [evOp, opMove, opAssign, opPick, opAlloc, opBox, opBuild, opBuildSlice, opLoad, opStore, opNilCheck, opBinOp, opUnOp, opConvert, opMakeInterface, opMakeFunc, opMakeMap, opMakeSlice, opSlice, opFieldAddr, opField, opIndexAddr, opIndex, opLookup, opMapUpdate, opTypeAssert, opExtract, opDefer, opPanic] at ha
    split at ha
    · rename_i ps hps
      split at ha
      · rename_i v hv; cases ha
        obtain ⟨v', h1, h2⟩ := aBuild_sound (evalParts_sound hr hps) hv w
        exact good_val hw h1 (by
          have := parts_arr a parts
          simp only [execOp, Sem.run_bind, this, h2]; rfl)
      · cases ha
    · cases ha
  | buildSlice t len parts =>
    simp only [evOp, opMove, opAssign, opPick, opAlloc, opBox, opBuild, opBuildSlice, opLoad, opStore, opNilCheck, opBinOp, opUnOp, opConvert, opMakeInterface, opMakeFunc, opMakeMap, opMakeSlice, opSlice, opFieldAddr, opField, opIndexAddr, opIndex, opLookup, opMapUpdate, opTypeAssert, opExtract, opDefer, opPanic] at ha
    split at ha
    · rename_i ps hps
      split at ha
      · rename_i v h' hv; cases ha
        obtain ⟨e', v', w', hle, h1, h2, hw'⟩ := aBuildSlice_sound hw (evalParts_sound hr hps) hv
        exact ⟨e', v', w', hle, h1, hw', .inl (by
          have := parts_arr a parts
          simp only [execOp, Sem.run_bind, this, h2]; rfl)⟩
      · cases ha
    · cases ha
  | insert t m k x => simp [evOp, opMove, opAssign, opPick, opAlloc, opBox, opBuild, opBuildSlice, opLoad, opStore, opNilCheck, opBinOp, opUnOp, opConvert, opMakeInterface, opMakeFunc, opMakeMap, opMakeSlice, opSlice, opFieldAddr, opField, opIndexAddr, opIndex, opLookup, opMapUpdate, opTypeAssert, opExtract, opDefer, opPanic] at ha
  | load t x =>
    simp only [evOp, opMove, opAssign, opPick, opAlloc, opBox, opBuild, opBuildSlice, opLoad, opStore, opNilCheck, opBinOp, opUnOp, opConvert, opMakeInterface, opMakeFunc, opMakeMap, opMakeSlice, opSlice, opFieldAddr, opField, opIndexAddr, opIndex, opLookup, opMapUpdate, opTypeAssert, opExtract, opDefer, opPanic] at ha
    split at ha
    · rename_i v hv
      split at ha
      · rename_i r hl; cases ha
        obtain ⟨v', h1, h2⟩ := aLoad_sound hw (evalA_sound hr hv) hl
        exact good_val hw h1 (by simp only [execOp, Sem.run_bind, h2]; rfl)
      · cases ha
    · cases ha
  | store t x y =>
    simp only [evOp, opMove, opAssign, opPick, opAlloc, opBox, opBuild, opBuildSlice, opLoad, opStore, opNilCheck, opBinOp, opUnOp, opConvert, opMakeInterface, opMakeFunc, opMakeMap, opMakeSlice, opSlice, opFieldAddr, opField, opIndexAddr, opIndex, opLookup, opMapUpdate, opTypeAssert, opExtract, opDefer, opPanic] at ha
    split at ha
    · rename_i vx vy hx hy
      split at ha
      · rename_i h' hs; cases ha
        obtain ⟨w', h1, h2⟩ := aStore_sound hw (evalA_sound hr hx) (evalA_sound hr hy) hs
        exact ⟨e, undef, w', e.le_refl, Rv.undef, h2, .inr ⟨by simp only [execOp, Sem.run_bind, h1]; rfl, rfl⟩⟩
      · cases ha
    · cases ha
  | ready g => simp [evOp, opMove, opAssign, opPick, opAlloc, opBox, opBuild, opBuildSlice, opLoad, opStore, opNilCheck, opBinOp, opUnOp, opConvert, opMakeInterface, opMakeFunc, opMakeMap, opMakeSlice, opSlice, opFieldAddr, opField, opIndexAddr, opIndex, opLookup, opMapUpdate, opTypeAssert, opExtract, opDefer, opPanic] at ha
  | waits g => simp [evOp, opMove, opAssign, opPick, opAlloc, opBox, opBuild, opBuildSlice, opLoad, opStore, opNilCheck, opBinOp, opUnOp, opConvert, opMakeInterface, opMakeFunc, opMakeMap, opMakeSlice, opSlice, opFieldAddr, opField, opIndexAddr, opIndex, opLookup, opMapUpdate, opTypeAssert, opExtract, opDefer, opPanic] at ha
  | nilCheck x =>
    simp only [evOp, opMove, opAssign, opPick, opAlloc, opBox, opBuild, opBuildSlice, opLoad, opStore, opNilCheck, opBinOp, opUnOp, opConvert, opMakeInterface, opMakeFunc, opMakeMap, opMakeSlice, opSlice, opFieldAddr, opField, opIndexAddr, opIndex, opLookup, opMapUpdate, opTypeAssert, opExtract, opDefer, opPanic] at ha
    split at ha
    · rename_i p hx
      cases ha
      obtain ⟨n, off, sp⟩ := p
      obtain ⟨rfl, b, sz, es, he, hv⟩ := (evalA_sound hr hx).ptr_inv
      exact good_val hw (.ptr _ _ _ _ _ he) (by simp [execOp, hv])
    · rename_i g f c hx
      cases ha
      obtain ⟨f', c', hv, hf, hc⟩ := Rv.func_inv (f := f.toList) (c := c.toList) (evalA_sound hr hx)
      exact good_val hw (.func _ f.toList c.toList _ _ hf hc) (by simp [execOp, hv])
    · cases ha
  | binOp op t x y yt =>
    simp only [evOp, opMove, opAssign, opPick, opAlloc, opBox, opBuild, opBuildSlice, opLoad, opStore, opNilCheck, opBinOp, opUnOp, opConvert, opMakeInterface, opMakeFunc, opMakeMap, opMakeSlice, opSlice, opFieldAddr, opField, opIndexAddr, opIndex, opLookup, opMapUpdate, opTypeAssert, opExtract, opDefer, opPanic] at ha
    split at ha
    · rename_i vx vy hx hy
      split at ha
      · rename_i v hv; cases ha
        obtain ⟨v', h1, h2⟩ := aBin_sound (evalA_sound hr hx) (evalA_sound hr hy) hv w
        refine good_val hw h1 ?_
        simp only [execOp]
        rw [Sem.run_bind, h2]; rfl
      · cases ha
    · cases ha
  | unOp op t x =>
    simp only [evOp, opMove, opAssign, opPick, opAlloc, opBox, opBuild, opBuildSlice, opLoad, opStore, opNilCheck, opBinOp, opUnOp, opConvert, opMakeInterface, opMakeFunc, opMakeMap, opMakeSlice, opSlice, opFieldAddr, opField, opIndexAddr, opIndex, opLookup, opMapUpdate, opTypeAssert, opExtract, opDefer, opPanic] at ha
    split at ha
    · rename_i v hv
      split at ha
      · rename_i r hg hp; cases ha
        obtain ⟨h1, h2⟩ := grd_some hp
        have hx := (evalA_sound hr hv).ground_inv hg
        exact good_val hw (Rv.of_ground _ h2) (by simp only [execOp, Sem.run_bind, hx, pureRun_sound G.P _ h1 w]; rfl)
      · cases ha
    · cases ha
  | convert s d x =>
    simp only [evOp, opMove, opAssign, opPick, opAlloc, opBox, opBuild, opBuildSlice, opLoad, opStore, opNilCheck, opBinOp, opUnOp, opConvert, opMakeInterface, opMakeFunc, opMakeMap, opMakeSlice, opSlice, opFieldAddr, opField, opIndexAddr, opIndex, opLookup, opMapUpdate, opTypeAssert, opExtract, opDefer, opPanic] at ha
    split at ha
    · rename_i v hv
      split at ha
      · rename_i r hl; cases ha
        obtain ⟨v', h1, h2⟩ := aConvert_sound hw (evalA_sound hr hv) hl
        exact good_val hw h1 (by simp only [execOp, Sem.run_bind, h2]; rfl)
      · cases ha
    · cases ha
  | sliceToArrayPointer d x => simp [evOp, opMove, opAssign, opPick, opAlloc, opBox, opBuild, opBuildSlice, opLoad, opStore, opNilCheck, opBinOp, opUnOp, opConvert, opMakeInterface, opMakeFunc, opMakeMap, opMakeSlice, opSlice, opFieldAddr, opField, opIndexAddr, opIndex, opLookup, opMapUpdate, opTypeAssert, opExtract, opDefer, opPanic] at ha
  | makeInterface t x =>
    simp only [evOp, opMove, opAssign, opPick, opAlloc, opBox, opBuild, opBuildSlice, opLoad, opStore, opNilCheck, opBinOp, opUnOp, opConvert, opMakeInterface, opMakeFunc, opMakeMap, opMakeSlice, opSlice, opFieldAddr, opField, opIndexAddr, opIndex, opLookup, opMapUpdate, opTypeAssert, opExtract, opDefer, opPanic] at ha
    split at ha
    · rename_i v hv hn; cases ha
      refine good_val hw (.iface _ _ _ (evalA_sound hr hv)) ?_
      unfold notIface at hn
      split at hn
      · cases hn
      · rename_i d hni hu
        cases d <;> first | exact absurd rfl (hni _) | simp [execOp, Instr.makeInterface, Sem.run_bind, run_underlying hu]
      · cases hn
    · cases ha
  | makeFunc fn first cap =>
    simp only [evOp, opMove, opAssign, opPick, opAlloc, opBox, opBuild, opBuildSlice, opLoad, opStore, opNilCheck, opBinOp, opUnOp, opConvert, opMakeInterface, opMakeFunc, opMakeMap, opMakeSlice, opSlice, opFieldAddr, opField, opIndexAddr, opIndex, opLookup, opMapUpdate, opTypeAssert, opExtract, opDefer, opPanic] at ha
    split at ha
    · rename_i f c hf hc; cases ha
      refine good_val hw (.func _ _ _ _ _ (evalArgs_sound hr hf) (evalArgs_sound hr hc)) ?_
      simp only [execOp, args_arr]
      rfl
    · cases ha
  | makeMap t res =>
    simp only [evOp, opMove, opAssign, opPick, opAlloc, opBox, opBuild, opBuildSlice, opLoad, opStore, opNilCheck, opBinOp, opUnOp, opConvert, opMakeInterface, opMakeFunc, opMakeMap, opMakeSlice, opSlice, opFieldAddr, opField, opIndexAddr, opIndex, opLookup, opMapUpdate, opTypeAssert, opExtract, opDefer, opPanic] at ha
    split at ha
    · split at ha
      · rename_i h' hn; cases ha
        obtain ⟨hle, hw'⟩ := hw.alloc (sz := 0) (es := 0) (.map [] [] 0 .nil) hn
        exact ⟨_, .map (some w.heap.size), _, hle, .map _ _ _ _ (Env.ext_self _ _ _), hw', .inl rfl⟩
      · cases ha
    · cases ha
  | makeChan t s => simp [evOp, opMove, opAssign, opPick, opAlloc, opBox, opBuild, opBuildSlice, opLoad, opStore, opNilCheck, opBinOp, opUnOp, opConvert, opMakeInterface, opMakeFunc, opMakeMap, opMakeSlice, opSlice, opFieldAddr, opField, opIndexAddr, opIndex, opLookup, opMapUpdate, opTypeAssert, opExtract, opDefer, opPanic] at ha
  | makeSlice t l c =>
    simp only [evOp, opMove, opAssign, opPick, opAlloc, opBox, opBuild, opBuildSlice, opLoad, opStore, opNilCheck, opBinOp, opUnOp, opConvert, opMakeInterface, opMakeFunc, opMakeMap, opMakeSlice, opSlice, opFieldAddr, opField, opIndexAddr, opIndex, opLookup, opMapUpdate, opTypeAssert, opExtract, opDefer, opPanic] at ha
    split at ha
    · rename_i vl vc hl hc
      split at ha
      · rename_i v h' hv; cases ha
        obtain ⟨e', v', w', hle, h1, h2, hw'⟩ := aMakeSlice_sound hw (evalA_sound hr hl) (evalA_sound hr hc) hv
        exact ⟨e', v', w', hle, h1, hw', .inl (by simp only [execOp, Sem.run_bind, h2]; rfl)⟩
      · cases ha
    · cases ha
  | slice t x lo hi mx =>
    simp only [evOp, opMove, opAssign, opPick, opAlloc, opBox, opBuild, opBuildSlice, opLoad, opStore, opNilCheck, opBinOp, opUnOp, opConvert, opMakeInterface, opMakeFunc, opMakeMap, opMakeSlice, opSlice, opFieldAddr, opField, opIndexAddr, opIndex, opLookup, opMapUpdate, opTypeAssert, opExtract, opDefer, opPanic] at ha
    split at ha
    · rename_i v l hh m hv hl hh' hm
      have hvr := evalA_sound hr hv
      have hlr := evalOpt_sound hr hl
      have hhr := evalOpt_sound hr hh'
      have hmr := evalOpt_sound hr hm
      split at ha
      · rename_i hg
        split at ha
        · rename_i r hgo hp; cases ha
          obtain ⟨h1, h2⟩ := grd_some hp
          have e0 := hvr.ground_inv hg
          have og : ∀ {z z' : Option Value}, Ro e z z' → optGround z = true → z' = z := by
            intro z z' hz hgz
            cases hz with
            | none => rfl
            | some y y' hy => rw [hy.ground_inv hgz]
          simp only [Bool.and_eq_true] at hgo
          refine good_val hw (Rv.of_ground _ h2) ?_
          have e1 := og hlr hgo.1.1
          have e2 := og hhr hgo.1.2
          have e3 := og hmr hgo.2
          simp only [execOp, Sem.run_bind, e0, e1, e2, e3, pureRun_sound G.P _ h1 w]; rfl
        · cases ha
      · split at ha
        · rename_i r hs; cases ha
          obtain ⟨v', h1, h2⟩ := aSlice_sound hw hvr hlr hhr hmr hs
          exact good_val hw h1 (by simp only [execOp, Sem.run_bind, h2]; rfl)
        · cases ha
    · cases ha
  | fieldAddr s x f =>
    simp only [evOp, opMove, opAssign, opPick, opAlloc, opBox, opBuild, opBuildSlice, opLoad, opStore, opNilCheck, opBinOp, opUnOp, opConvert, opMakeInterface, opMakeFunc, opMakeMap, opMakeSlice, opSlice, opFieldAddr, opField, opIndexAddr, opIndex, opLookup, opMapUpdate, opTypeAssert, opExtract, opDefer, opPanic] at ha
    split at ha
    · rename_i v hv
      split at ha
      · rename_i r hl; cases ha
        obtain ⟨v', h1, h2⟩ := aFieldAddr_sound (evalA_sound hr hv) hl w
        exact good_val hw h1 (by simp only [execOp, Sem.run_bind, h2]; rfl)
      · cases ha
    · cases ha
  | field t x f =>
    simp only [evOp, opMove, opAssign, opPick, opAlloc, opBox, opBuild, opBuildSlice, opLoad, opStore, opNilCheck, opBinOp, opUnOp, opConvert, opMakeInterface, opMakeFunc, opMakeMap, opMakeSlice, opSlice, opFieldAddr, opField, opIndexAddr, opIndex, opLookup, opMapUpdate, opTypeAssert, opExtract, opDefer, opPanic] at ha
    split at ha
    · rename_i v hv
      split at ha
      · rename_i r hl; cases ha
        obtain ⟨v', h1, h2⟩ := aField_sound (evalA_sound hr hv) hl w
        exact good_val hw h1 (by simp only [execOp, Sem.run_bind, h2]; rfl)
      · cases ha
    · cases ha
  | indexAddr t x ix =>
    simp only [evOp, opMove, opAssign, opPick, opAlloc, opBox, opBuild, opBuildSlice, opLoad, opStore, opNilCheck, opBinOp, opUnOp, opConvert, opMakeInterface, opMakeFunc, opMakeMap, opMakeSlice, opSlice, opFieldAddr, opField, opIndexAddr, opIndex, opLookup, opMapUpdate, opTypeAssert, opExtract, opDefer, opPanic] at ha
    split at ha
    · rename_i v i hv hi
      split at ha
      · rename_i r hl; cases ha
        obtain ⟨v', h1, h2⟩ := aIndexAddr_sound (evalA_sound hr hv) (evalA_sound hr hi) hl w
        exact good_val hw h1 (by simp only [execOp, Sem.run_bind, h2]; rfl)
      · cases ha
    · cases ha
  | index t x ix =>
    simp only [evOp, opMove, opAssign, opPick, opAlloc, opBox, opBuild, opBuildSlice, opLoad, opStore, opNilCheck, opBinOp, opUnOp, opConvert, opMakeInterface, opMakeFunc, opMakeMap, opMakeSlice, opSlice, opFieldAddr, opField, opIndexAddr, opIndex, opLookup, opMapUpdate, opTypeAssert, opExtract, opDefer, opPanic] at ha
    split at ha
    · rename_i v i hv hi
      have hvr := evalA_sound hr hv
      have hir := evalA_sound hr hi
      split at ha
      · rename_i g1 g2
        split at ha
        · rename_i r hp; cases ha
          obtain ⟨h1, h2⟩ := grd_some hp
          refine good_val hw (Rv.of_ground _ h2) ?_
          simp only [execOp, Sem.run_bind, hvr.ground_inv g1, hir.ground_inv g2, pureRun_sound G.P _ h1 w]; rfl
        · cases ha
      · split at ha
        · rename_i r hl; cases ha
          obtain ⟨v', h1, h2⟩ := aIndexAgg_sound hvr hir hl w
          exact good_val hw h1 (by simp only [execOp, Sem.run_bind, h2]; rfl)
        · cases ha
    · cases ha
  | lookup t x k ok =>
    simp only [evOp, opMove, opAssign, opPick, opAlloc, opBox, opBuild, opBuildSlice, opLoad, opStore, opNilCheck, opBinOp, opUnOp, opConvert, opMakeInterface, opMakeFunc, opMakeMap, opMakeSlice, opSlice, opFieldAddr, opField, opIndexAddr, opIndex, opLookup, opMapUpdate, opTypeAssert, opExtract, opDefer, opPanic] at ha
    split at ha
    · rename_i v kv hv hk
      split at ha
      · rename_i r hl; cases ha
        obtain ⟨v', h1, h2⟩ := aLookup_sound hw (evalA_sound hr hv) (evalA_sound hr hk) hl
        exact good_val hw h1 (by simp only [execOp, Sem.run_bind, h2]; rfl)
      · cases ha
    · cases ha
  | mapUpdate t m k x =>
    simp only [evOp, opMove, opAssign, opPick, opAlloc, opBox, opBuild, opBuildSlice, opLoad, opStore, opNilCheck, opBinOp, opUnOp, opConvert, opMakeInterface, opMakeFunc, opMakeMap, opMakeSlice, opSlice, opFieldAddr, opField, opIndexAddr, opIndex, opLookup, opMapUpdate, opTypeAssert, opExtract, opDefer, opPanic] at ha
    split at ha
    · rename_i vm vk vx hm hk hx
      split at ha
      · rename_i h' hs; cases ha
        obtain ⟨w', h1, h2⟩ := aMapUpdate_sound hw (evalA_sound hr hm) (evalA_sound hr hk) (evalA_sound hr hx) hs
        exact ⟨e, undef, w', e.le_refl, Rv.undef, h2, .inr ⟨by simp only [execOp, Sem.run_bind, h1]; rfl, rfl⟩⟩
      · cases ha
    · cases ha
  | mapEntry t m k => simp [evOp, opMove, opAssign, opPick, opAlloc, opBox, opBuild, opBuildSlice, opLoad, opStore, opNilCheck, opBinOp, opUnOp, opConvert, opMakeInterface, opMakeFunc, opMakeMap, opMakeSlice, opSlice, opFieldAddr, opField, opIndexAddr, opIndex, opLookup, opMapUpdate, opTypeAssert, opExtract, opDefer, opPanic] at ha
  | entryStore t m s x => simp [evOp, opMove, opAssign, opPick, opAlloc, opBox, opBuild, opBuildSlice, opLoad, opStore, opNilCheck, opBinOp, opUnOp, opConvert, opMakeInterface, opMakeFunc, opMakeMap, opMakeSlice, opSlice, opFieldAddr, opField, opIndexAddr, opIndex, opLookup, opMapUpdate, opTypeAssert, opExtract, opDefer, opPanic] at ha
  | range t x => simp [evOp, opMove, opAssign, opPick, opAlloc, opBox, opBuild, opBuildSlice, opLoad, opStore, opNilCheck, opBinOp, opUnOp, opConvert, opMakeInterface, opMakeFunc, opMakeMap, opMakeSlice, opSlice, opFieldAddr, opField, opIndexAddr, opIndex, opLookup, opMapUpdate, opTypeAssert, opExtract, opDefer, opPanic] at ha
  | next it s => simp [evOp, opMove, opAssign, opPick, opAlloc, opBox, opBuild, opBuildSlice, opLoad, opStore, opNilCheck, opBinOp, opUnOp, opConvert, opMakeInterface, opMakeFunc, opMakeMap, opMakeSlice, opSlice, opFieldAddr, opField, opIndexAddr, opIndex, opLookup, opMapUpdate, opTypeAssert, opExtract, opDefer, opPanic] at ha
  | entry it => simp [evOp, opMove, opAssign, opPick, opAlloc, opBox, opBuild, opBuildSlice, opLoad, opStore, opNilCheck, opBinOp, opUnOp, opConvert, opMakeInterface, opMakeFunc, opMakeMap, opMakeSlice, opSlice, opFieldAddr, opField, opIndexAddr, opIndex, opLookup, opMapUpdate, opTypeAssert, opExtract, opDefer, opPanic] at ha
  | typeAssert x xt as ok =>
    simp only [evOp, opMove, opAssign, opPick, opAlloc, opBox, opBuild, opBuildSlice, opLoad, opStore, opNilCheck, opBinOp, opUnOp, opConvert, opMakeInterface, opMakeFunc, opMakeMap, opMakeSlice, opSlice, opFieldAddr, opField, opIndexAddr, opIndex, opLookup, opMapUpdate, opTypeAssert, opExtract, opDefer, opPanic] at ha
    split at ha
    · rename_i v hv
      split at ha
      · rename_i r hl; cases ha
        obtain ⟨v', h1, h2⟩ := aTypeAssert_sound (xt := xt) (evalA_sound hr hv) hl w
        exact good_val hw h1 (by simp only [execOp, Sem.run_bind, h2]; rfl)
      · cases ha
    · cases ha
  | extract x i =>
    simp only [evOp, opMove, opAssign, opPick, opAlloc, opBox, opBuild, opBuildSlice, opLoad, opStore, opNilCheck, opBinOp, opUnOp, opConvert, opMakeInterface, opMakeFunc, opMakeMap, opMakeSlice, opSlice, opFieldAddr, opField, opIndexAddr, opIndex, opLookup, opMapUpdate, opTypeAssert, opExtract, opDefer, opPanic] at ha
    split at ha
    · rename_i vs hx
      split at ha
      · rename_i v hv; cases ha
        obtain ⟨c', hc, hl⟩ := (evalA_sound hr hx).tuple_inv
        obtain ⟨v', h1, h2⟩ := hl.get hv
        exact good_val hw h2 (by simp [execOp, hc, Instr.extract, h1])
      · cases ha
    · cases ha
  | call c =>
    exact evCall_sound hw hr (c := c) rfl ha
  | go c => simp [evOp, opMove, opAssign, opPick, opAlloc, opBox, opBuild, opBuildSlice, opLoad, opStore, opNilCheck, opBinOp, opUnOp, opConvert, opMakeInterface, opMakeFunc, opMakeMap, opMakeSlice, opSlice, opFieldAddr, opField, opIndexAddr, opIndex, opLookup, opMapUpdate, opTypeAssert, opExtract, opDefer, opPanic] at ha
  | defer c =>
    simp only [evOp, opMove, opAssign, opPick, opAlloc, opBox, opBuild, opBuildSlice, opLoad, opStore, opNilCheck, opBinOp, opUnOp, opConvert, opMakeInterface, opMakeFunc, opMakeMap, opMakeSlice, opSlice, opFieldAddr, opField, opIndexAddr, opIndex, opLookup, opMapUpdate, opTypeAssert, opExtract, opDefer, opPanic] at ha
    split at ha
    · rename_i args f hargs hc
      split at ha
      · rename_i g first cap hf
        cases ha
        have hA := evalArgs_sound hr hargs
        obtain ⟨f', c', hfe, hff, hcc⟩ := (evalA_sound hr hf).func_inv
        refine ⟨c', f' ++ c.args.toList.map a.eval, hcc, hff.append hA, ?_⟩
        simp only [execOp, resolve, hc, hfe, Deferred.ofValue, Sem.run_bind]
        have : (⟨f'⟩ : Array Value) ++ c.args.map a.eval = ⟨f' ++ c.args.toList.map a.eval⟩ := by
          rw [args_arr]; apply Array.ext'; simp
        rw [this]; rfl
      · cases ha
    · cases ha
  | panic x =>
    simp only [evOp, opMove, opAssign, opPick, opAlloc, opBox, opBuild, opBuildSlice, opLoad, opStore, opNilCheck, opBinOp, opUnOp, opConvert, opMakeInterface, opMakeFunc, opMakeMap, opMakeSlice, opSlice, opFieldAddr, opField, opIndexAddr, opIndex, opLookup, opMapUpdate, opTypeAssert, opExtract, opDefer, opPanic] at ha
    split at ha
    · rename_i t v hx; cases ha
      obtain ⟨u, hv, hu⟩ := (evalA_sound hr hx).iface_inv
      exact ⟨_, .iface _ _ _ hu, by simp only [execOp, hv]; rfl⟩
    · cases ha
  | send c x => simp [evOp, opMove, opAssign, opPick, opAlloc, opBox, opBuild, opBuildSlice, opLoad, opStore, opNilCheck, opBinOp, opUnOp, opConvert, opMakeInterface, opMakeFunc, opMakeMap, opMakeSlice, opSlice, opFieldAddr, opField, opIndexAddr, opIndex, opLookup, opMapUpdate, opTypeAssert, opExtract, opDefer, opPanic] at ha
  | recv t c ok => simp [evOp, opMove, opAssign, opPick, opAlloc, opBox, opBuild, opBuildSlice, opLoad, opStore, opNilCheck, opBinOp, opUnOp, opConvert, opMakeInterface, opMakeFunc, opMakeMap, opMakeSlice, opSlice, opFieldAddr, opField, opIndexAddr, opIndex, opLookup, opMapUpdate, opTypeAssert, opExtract, opDefer, opPanic] at ha
  | select cs b => simp [evOp, opMove, opAssign, opPick, opAlloc, opBox, opBuild, opBuildSlice, opLoad, opStore, opNilCheck, opBinOp, opUnOp, opConvert, opMakeInterface, opMakeFunc, opMakeMap, opMakeSlice, opSlice, opFieldAddr, opField, opIndexAddr, opIndex, opLookup, opMapUpdate, opTypeAssert, opExtract, opDefer, opPanic] at ha

end
end Go.Ab
