/- An operation depends on its operands alone. -/
import Derived.Test.YtiafmiembjomhaaGreatAbLin
set_option linter.unusedSimpArgs false
set_option linter.unusedVariables false
set_option linter.unusedSectionVars false
set_option linter.unnecessarySimpa false
namespace Go.Ab
noncomputable section
open Go Go.RowKit

def tmpsOf : Operand → List Tmp
  | .tmp t => [t]
  | _ => []

def opTmps (o : Op) : List Tmp := o.operands.toList.flatMap tmpsOf

theorem evalA_cong {T T' : List Value} {x : Operand} (h : ∀ t ∈ tmpsOf x, T[t]? = T'[t]?) : evalA T x = evalA T' x := by
  cases x with
  | tmp t => simp only [evalA, getL_eq]; rw [h t (by simp [tmpsOf])]
  | _ => rfl

theorem evalArgs_cong {T T' : List Value} : ∀ {xs : List Operand}, (∀ x ∈ xs, evalA T x = evalA T' x) → evalArgs T xs = evalArgs T' xs
  | [], _ => rfl
  | x :: xs, h => by
    simp only [evalArgs]
    rw [h x (List.mem_cons_self ..), evalArgs_cong (fun y hy => h y (List.mem_cons_of_mem _ hy))]

theorem evalParts_cong {T T' : List Value} : ∀ {xs : List (Nat × Operand)}, (∀ x ∈ xs, evalA T x.2 = evalA T' x.2) → evalParts T xs = evalParts T' xs
  | [], _ => rfl
  | (i, x) :: xs, h => by
    simp only [evalParts]
    rw [h (i, x) (List.mem_cons_self ..), evalParts_cong (fun y hy => h y (List.mem_cons_of_mem _ hy))]

theorem evalOpt_cong {T T' : List Value} {x : Option Operand} (h : ∀ y, x = some y → evalA T y = evalA T' y) : evalOpt T x = evalOpt T' x := by
  cases x with
  | none => rfl
  | some y => simp only [evalOpt]; rw [h y rfl]

set_option maxHeartbeats 400000 in
theorem evOp_cong {G : Prg} {T T' : List Value} {h : AH} {o : Oper} (hc : ∀ t ∈ opTmps o.op, T[t]? = T'[t]?) : evOp G T h o = evOp G T' h o := by
  have hE : ∀ x ∈ o.op.operands.toList, evalA T x = evalA T' x := fun x hx => evalA_cong fun t ht => hc t (List.mem_flatMap.2 ⟨x, hx, ht⟩)
  clear hc
  obtain ⟨dst, op, ty, pos, after, guard⟩ := o
  simp only at hE
  cases op with
  | build t parts =>
    have : evalParts T parts.toList = evalParts T' parts.toList := evalParts_cong fun x hx => hE x.2 (by simp only [Op.operands]; simp; exact ⟨x.1, by simpa using hx⟩)
    simp only [evOp, opMove, opAssign, opPick, opAlloc, opBox, opBuild, opBuildSlice, opLoad, opStore, opNilCheck, opBinOp, opUnOp, opConvert, opMakeInterface, opMakeFunc, opMakeMap, opMakeSlice, opSlice, opFieldAddr, opField, opIndexAddr, opIndex, opLookup, opMapUpdate, opTypeAssert, opExtract, opDefer, opPanic, this]
  | buildSlice t n parts =>
    have : evalParts T parts.toList = evalParts T' parts.toList := evalParts_cong fun x hx => hE x.2 (by simp only [Op.operands]; simp; exact ⟨x.1, by simpa using hx⟩)
    simp only [evOp, opMove, opAssign, opPick, opAlloc, opBox, opBuild, opBuildSlice, opLoad, opStore, opNilCheck, opBinOp, opUnOp, opConvert, opMakeInterface, opMakeFunc, opMakeMap, opMakeSlice, opSlice, opFieldAddr, opField, opIndexAddr, opIndex, opLookup, opMapUpdate, opTypeAssert, opExtract, opDefer, opPanic, this]
  | makeFunc fn f c =>
    have h1 : evalArgs T f.toList = evalArgs T' f.toList := evalArgs_cong fun x hx => hE x (by simp only [Op.operands]; simp; exact .inl (by simpa using hx))
    have h2 : evalArgs T c.toList = evalArgs T' c.toList := evalArgs_cong fun x hx => hE x (by simp only [Op.operands]; simp; exact .inr (by simpa using hx))
    simp only [evOp, opMove, opAssign, opPick, opAlloc, opBox, opBuild, opBuildSlice, opLoad, opStore, opNilCheck, opBinOp, opUnOp, opConvert, opMakeInterface, opMakeFunc, opMakeMap, opMakeSlice, opSlice, opFieldAddr, opField, opIndexAddr, opIndex, opLookup, opMapUpdate, opTypeAssert, opExtract, opDefer, opPanic, h1, h2]
  | slice t x lo hi mx =>
    have h0 : evalA T x = evalA T' x := hE x (by simp [Op.operands])
    have h1 : evalOpt T lo = evalOpt T' lo := evalOpt_cong fun y hy => hE y (by subst hy; simp [Op.operands])
    have h2 : evalOpt T hi = evalOpt T' hi := evalOpt_cong fun y hy => hE y (by subst hy; simp [Op.operands])
    have h3 : evalOpt T mx = evalOpt T' mx := evalOpt_cong fun y hy => hE y (by subst hy; simp [Op.operands])
    simp only [evOp, opMove, opAssign, opPick, opAlloc, opBox, opBuild, opBuildSlice, opLoad, opStore, opNilCheck, opBinOp, opUnOp, opConvert, opMakeInterface, opMakeFunc, opMakeMap, opMakeSlice, opSlice, opFieldAddr, opField, opIndexAddr, opIndex, opLookup, opMapUpdate, opTypeAssert, opExtract, opDefer, opPanic, h0, h1, h2, h3]
  | call c =>
    have h1 : evalArgs T c.args.toList = evalArgs T' c.args.toList := evalArgs_cong fun x hx => hE x (by simp only [Op.operands, Call.operands]; simp; exact .inr (by simpa using hx))
    have h2 : ∀ f, c.callee = .value f → evalA T f = evalA T' f := fun f hf => hE f (by simp [Op.operands, Call.operands, hf])
    simp only [evOp, opMove, opAssign, opPick, opAlloc, opBox, opBuild, opBuildSlice, opLoad, opStore, opNilCheck, opBinOp, opUnOp, opConvert, opMakeInterface, opMakeFunc, opMakeMap, opMakeSlice, opSlice, opFieldAddr, opField, opIndexAddr, opIndex, opLookup, opMapUpdate, opTypeAssert, opExtract, opDefer, opPanic, evCall, h1]
    cases hcl : c.callee with
    | value f => simp only [h2 f hcl]
    | _ => rfl
  | defer c =>
    have h1 : evalArgs T c.args.toList = evalArgs T' c.args.toList := evalArgs_cong fun x hx => hE x (by simp only [Op.operands, Call.operands]; simp; exact .inr (by simpa using hx))
    have h2 : ∀ f, c.callee = .value f → evalA T f = evalA T' f := fun f hf => hE f (by simp [Op.operands, Call.operands, hf])
    simp only [evOp, opMove, opAssign, opPick, opAlloc, opBox, opBuild, opBuildSlice, opLoad, opStore, opNilCheck, opBinOp, opUnOp, opConvert, opMakeInterface, opMakeFunc, opMakeMap, opMakeSlice, opSlice, opFieldAddr, opField, opIndexAddr, opIndex, opLookup, opMapUpdate, opTypeAssert, opExtract, opDefer, opPanic, h1]
    cases evalArgs T' c.args.toList with
    | none => rfl
    | some args =>
      cases hcl : c.callee with
      | value f => simp only [h2 f hcl]
      | _ => rfl
  | move x => simp only [evOp, opMove, opAssign, opPick, opAlloc, opBox, opBuild, opBuildSlice, opLoad, opStore, opNilCheck, opBinOp, opUnOp, opConvert, opMakeInterface, opMakeFunc, opMakeMap, opMakeSlice, opSlice, opFieldAddr, opField, opIndexAddr, opIndex, opLookup, opMapUpdate, opTypeAssert, opExtract, opDefer, opPanic, hE x (by simp [Op.operands])]
  | assign x => simp only [evOp, opMove, opAssign, opPick, opAlloc, opBox, opBuild, opBuildSlice, opLoad, opStore, opNilCheck, opBinOp, opUnOp, opConvert, opMakeInterface, opMakeFunc, opMakeMap, opMakeSlice, opSlice, opFieldAddr, opField, opIndexAddr, opIndex, opLookup, opMapUpdate, opTypeAssert, opExtract, opDefer, opPanic, hE x (by simp [Op.operands])]
  | pick c x y => simp only [evOp, opMove, opAssign, opPick, opAlloc, opBox, opBuild, opBuildSlice, opLoad, opStore, opNilCheck, opBinOp, opUnOp, opConvert, opMakeInterface, opMakeFunc, opMakeMap, opMakeSlice, opSlice, opFieldAddr, opField, opIndexAddr, opIndex, opLookup, opMapUpdate, opTypeAssert, opExtract, opDefer, opPanic, hE c (by simp [Op.operands]), hE x (by simp [Op.operands]), hE y (by simp [Op.operands])]
  | box t x => simp only [evOp, opMove, opAssign, opPick, opAlloc, opBox, opBuild, opBuildSlice, opLoad, opStore, opNilCheck, opBinOp, opUnOp, opConvert, opMakeInterface, opMakeFunc, opMakeMap, opMakeSlice, opSlice, opFieldAddr, opField, opIndexAddr, opIndex, opLookup, opMapUpdate, opTypeAssert, opExtract, opDefer, opPanic, hE x (by simp [Op.operands])]
  | load t x => simp only [evOp, opMove, opAssign, opPick, opAlloc, opBox, opBuild, opBuildSlice, opLoad, opStore, opNilCheck, opBinOp, opUnOp, opConvert, opMakeInterface, opMakeFunc, opMakeMap, opMakeSlice, opSlice, opFieldAddr, opField, opIndexAddr, opIndex, opLookup, opMapUpdate, opTypeAssert, opExtract, opDefer, opPanic, hE x (by simp [Op.operands])]
  | store t x y => simp only [evOp, opMove, opAssign, opPick, opAlloc, opBox, opBuild, opBuildSlice, opLoad, opStore, opNilCheck, opBinOp, opUnOp, opConvert, opMakeInterface, opMakeFunc, opMakeMap, opMakeSlice, opSlice, opFieldAddr, opField, opIndexAddr, opIndex, opLookup, opMapUpdate, opTypeAssert, opExtract, opDefer, opPanic, hE x (by simp [Op.operands]), hE y (by simp [Op.operands])]
  | nilCheck x => simp only [evOp, opMove, opAssign, opPick, opAlloc, opBox, opBuild, opBuildSlice, opLoad, opStore, opNilCheck, opBinOp, opUnOp, opConvert, opMakeInterface, opMakeFunc, opMakeMap, opMakeSlice, opSlice, opFieldAddr, opField, opIndexAddr, opIndex, opLookup, opMapUpdate, opTypeAssert, opExtract, opDefer, opPanic, hE x (by simp [Op.operands])]
  | binOp op t x y yt => simp only [evOp, opMove, opAssign, opPick, opAlloc, opBox, opBuild, opBuildSlice, opLoad, opStore, opNilCheck, opBinOp, opUnOp, opConvert, opMakeInterface, opMakeFunc, opMakeMap, opMakeSlice, opSlice, opFieldAddr, opField, opIndexAddr, opIndex, opLookup, opMapUpdate, opTypeAssert, opExtract, opDefer, opPanic, hE x (by simp [Op.operands]), hE y (by simp [Op.operands])]
  | unOp op t x => simp only [evOp, opMove, opAssign, opPick, opAlloc, opBox, opBuild, opBuildSlice, opLoad, opStore, opNilCheck, opBinOp, opUnOp, opConvert, opMakeInterface, opMakeFunc, opMakeMap, opMakeSlice, opSlice, opFieldAddr, opField, opIndexAddr, opIndex, opLookup, opMapUpdate, opTypeAssert, opExtract, opDefer, opPanic, hE x (by simp [Op.operands])]
  | convert s d x => simp only [evOp, opMove, opAssign, opPick, opAlloc, opBox, opBuild, opBuildSlice, opLoad, opStore, opNilCheck, opBinOp, opUnOp, opConvert, opMakeInterface, opMakeFunc, opMakeMap, opMakeSlice, opSlice, opFieldAddr, opField, opIndexAddr, opIndex, opLookup, opMapUpdate, opTypeAssert, opExtract, opDefer, opPanic, hE x (by simp [Op.operands])]
  | makeInterface t x => simp only [evOp, opMove, opAssign, opPick, opAlloc, opBox, opBuild, opBuildSlice, opLoad, opStore, opNilCheck, opBinOp, opUnOp, opConvert, opMakeInterface, opMakeFunc, opMakeMap, opMakeSlice, opSlice, opFieldAddr, opField, opIndexAddr, opIndex, opLookup, opMapUpdate, opTypeAssert, opExtract, opDefer, opPanic, hE x (by simp [Op.operands])]
  | makeSlice t x y => simp only [evOp, opMove, opAssign, opPick, opAlloc, opBox, opBuild, opBuildSlice, opLoad, opStore, opNilCheck, opBinOp, opUnOp, opConvert, opMakeInterface, opMakeFunc, opMakeMap, opMakeSlice, opSlice, opFieldAddr, opField, opIndexAddr, opIndex, opLookup, opMapUpdate, opTypeAssert, opExtract, opDefer, opPanic, hE x (by simp [Op.operands]), hE y (by simp [Op.operands])]
  | fieldAddr t x f => simp only [evOp, opMove, opAssign, opPick, opAlloc, opBox, opBuild, opBuildSlice, opLoad, opStore, opNilCheck, opBinOp, opUnOp, opConvert, opMakeInterface, opMakeFunc, opMakeMap, opMakeSlice, opSlice, opFieldAddr, opField, opIndexAddr, opIndex, opLookup, opMapUpdate, opTypeAssert, opExtract, opDefer, opPanic, hE x (by simp [Op.operands])]
  | field t x f => simp only [evOp, opMove, opAssign, opPick, opAlloc, opBox, opBuild, opBuildSlice, opLoad, opStore, opNilCheck, opBinOp, opUnOp, opConvert, opMakeInterface, opMakeFunc, opMakeMap, opMakeSlice, opSlice, opFieldAddr, opField, opIndexAddr, opIndex, opLookup, opMapUpdate, opTypeAssert, opExtract, opDefer, opPanic, hE x (by simp [Op.operands])]
  | indexAddr t x y => simp only [evOp, opMove, opAssign, opPick, opAlloc, opBox, opBuild, opBuildSlice, opLoad, opStore, opNilCheck, opBinOp, opUnOp, opConvert, opMakeInterface, opMakeFunc, opMakeMap, opMakeSlice, opSlice, opFieldAddr, opField, opIndexAddr, opIndex, opLookup, opMapUpdate, opTypeAssert, opExtract, opDefer, opPanic, hE x (by simp [Op.operands]), hE y (by simp [Op.operands])]
  | index t x y => simp only [evOp, opMove, opAssign, opPick, opAlloc, opBox, opBuild, opBuildSlice, opLoad, opStore, opNilCheck, opBinOp, opUnOp, opConvert, opMakeInterface, opMakeFunc, opMakeMap, opMakeSlice, opSlice, opFieldAddr, opField, opIndexAddr, opIndex, opLookup, opMapUpdate, opTypeAssert, opExtract, opDefer, opPanic, hE x (by simp [Op.operands]), hE y (by simp [Op.operands])]
  | lookup t x y ok => simp only [evOp, opMove, opAssign, opPick, opAlloc, opBox, opBuild, opBuildSlice, opLoad, opStore, opNilCheck, opBinOp, opUnOp, opConvert, opMakeInterface, opMakeFunc, opMakeMap, opMakeSlice, opSlice, opFieldAddr, opField, opIndexAddr, opIndex, opLookup, opMapUpdate, opTypeAssert, opExtract, opDefer, opPanic, hE x (by simp [Op.operands]), hE y (by simp [Op.operands])]
  | mapUpdate t x y z => simp only [evOp, opMove, opAssign, opPick, opAlloc, opBox, opBuild, opBuildSlice, opLoad, opStore, opNilCheck, opBinOp, opUnOp, opConvert, opMakeInterface, opMakeFunc, opMakeMap, opMakeSlice, opSlice, opFieldAddr, opField, opIndexAddr, opIndex, opLookup, opMapUpdate, opTypeAssert, opExtract, opDefer, opPanic, hE x (by simp [Op.operands]), hE y (by simp [Op.operands]), hE z (by simp [Op.operands])]
  | typeAssert x t u ok => simp only [evOp, opMove, opAssign, opPick, opAlloc, opBox, opBuild, opBuildSlice, opLoad, opStore, opNilCheck, opBinOp, opUnOp, opConvert, opMakeInterface, opMakeFunc, opMakeMap, opMakeSlice, opSlice, opFieldAddr, opField, opIndexAddr, opIndex, opLookup, opMapUpdate, opTypeAssert, opExtract, opDefer, opPanic, hE x (by simp [Op.operands])]
  | extract x i => simp only [evOp, opMove, opAssign, opPick, opAlloc, opBox, opBuild, opBuildSlice, opLoad, opStore, opNilCheck, opBinOp, opUnOp, opConvert, opMakeInterface, opMakeFunc, opMakeMap, opMakeSlice, opSlice, opFieldAddr, opField, opIndexAddr, opIndex, opLookup, opMapUpdate, opTypeAssert, opExtract, opDefer, opPanic, hE x (by simp [Op.operands])]
  | panic x => simp only [evOp, opMove, opAssign, opPick, opAlloc, opBox, opBuild, opBuildSlice, opLoad, opStore, opNilCheck, opBinOp, opUnOp, opConvert, opMakeInterface, opMakeFunc, opMakeMap, opMakeSlice, opSlice, opFieldAddr, opField, opIndexAddr, opIndex, opLookup, opMapUpdate, opTypeAssert, opExtract, opDefer, opPanic, hE x (by simp [Op.operands])]
  | _ => rfl

/-- Does the operation leave memory alone? -/
def quiet : Op → Bool
  | .move _ => true
  | .assign _ => true
  | .pick _ _ _ => true
  | .build _ _ => true
  | .load _ _ => true
  | .nilCheck _ => true
  | .binOp _ _ _ _ _ => true
  | .unOp _ _ _ => true
  | .convert _ _ _ => true
  | .makeInterface _ _ => true
  | .makeFunc _ _ _ => true
  | .slice _ _ _ _ _ => true
  | .fieldAddr _ _ _ => true
  | .field _ _ _ => true
  | .indexAddr _ _ _ => true
  | .index _ _ _ => true
  | .lookup _ _ _ _ => true
  | .typeAssert _ _ _ _ => true
  | .extract _ _ => true
  | .call c => match c.callee with
    | .builtin .len => true
    | .builtin .cap => true
    | .builtin .min => true
    | .builtin .max => true
    | _ => false
  | _ => false

set_option maxHeartbeats 400000 in
theorem quiet_heap {G : Prg} {T : List Value} {h h' : AH} {o : Oper} {v : Value} (hq : quiet o.op = true) (he : evOp G T h o = some (.val v h')) : h' = h := by
  obtain ⟨dst, op, ty, pos, after, guard⟩ := o
  cases op with
  | call c =>
    simp only [quiet] at hq
    simp only [evOp, opMove, opAssign, opPick, opAlloc, opBox, opBuild, opBuildSlice, opLoad, opStore, opNilCheck, opBinOp, opUnOp, opConvert, opMakeInterface, opMakeFunc, opMakeMap, opMakeSlice, opSlice, opFieldAddr, opField, opIndexAddr, opIndex, opLookup, opMapUpdate, opTypeAssert, opExtract, opDefer, opPanic, evCall] at he
    cases hA : evalArgs T c.args.toList with
    | none => rw [hA] at he; cases he
    | some args =>
      rw [hA] at he
      split at hq
      · rename_i hc
        rcases args with _ | ⟨x, _ | ⟨y, ys⟩⟩ <;> simp only [hc] at he
        · cases he
        · split at he <;> cases he; rfl
        · cases he
      · rename_i hc
        rcases args with _ | ⟨x, _ | ⟨y, ys⟩⟩ <;> simp only [hc] at he
        · cases he
        · split at he <;> cases he; rfl
        · cases he
      · rename_i hc
        rcases args with _ | ⟨x, _ | ⟨y, ys⟩⟩ <;> simp only [hc] at he
        all_goals (split at he <;> cases he; rfl)
      · rename_i hc
        rcases args with _ | ⟨x, _ | ⟨y, ys⟩⟩ <;> simp only [hc] at he
        all_goals (split at he <;> cases he; rfl)
      · cases hq
  | _ => first | (simp [quiet] at hq; done) | (simp only [evOp, opMove, opAssign, opPick, opAlloc, opBox, opBuild, opBuildSlice, opLoad, opStore, opNilCheck, opBinOp, opUnOp, opConvert, opMakeInterface, opMakeFunc, opMakeMap, opMakeSlice, opSlice, opFieldAddr, opField, opIndexAddr, opIndex, opLookup, opMapUpdate, opTypeAssert, opExtract, opDefer, opPanic] at he; (repeat' split at he) <;> simp_all)

end
end Go.Ab
