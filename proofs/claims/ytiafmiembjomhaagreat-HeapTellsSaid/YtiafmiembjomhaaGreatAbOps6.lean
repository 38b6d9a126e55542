/- One operation on names, and that the model does the same. -/
import Derived.Test.YtiafmiembjomhaaGreatAbOps5
set_option linter.unusedSimpArgs false
set_option linter.unusedVariables false
set_option linter.unusedSectionVars false
set_option linter.unnecessarySimpa false
namespace Go.Ab
noncomputable section
open Go Go.RowKit

inductive OpRes where
  | val (v : Value) (h : AH)
  | call (f : FuncId) (args : List Value)
  | defer (f : FuncId) (cap args : List Value)
  | panic (v : Value)
  | recover

/-- A program, and which of its functions are entered when they are called. -/
structure Prg where
  P : Program
  ok : Nat → Bool
  enters : ∀ g, ok g = true → ∀ args w, (callFunc g args).run P w = .ok (.enter g args) w
  still : Nat → Bool

def evalArgs (tmps : List Value) : List Operand → Option (List Value)
  | [] => some []
  | x :: xs => match evalA tmps x, evalArgs tmps xs with
    | some v, some vs => some (v :: vs)
    | _, _ => none

def evalParts (tmps : List Value) : List (Nat × Operand) → Option (List (Nat × Value))
  | [] => some []
  | (i, x) :: xs => match evalA tmps x, evalParts tmps xs with
    | some v, some vs => some ((i, v) :: vs)
    | _, _ => none

def evalOpt (tmps : List Value) : Option Operand → Option (Option Value)
  | none => some none
  | some x => match evalA tmps x with
    | some v => some (some v)
    | none => none

theorem evalArgs_sound {e : Env} {tmps : List Value} {a : Act} (hr : Rl e tmps a.tmps.toList) : ∀ {xs : List Operand} {vs : List Value}, evalArgs tmps xs = some vs → Rl e vs (xs.map a.eval)
  | [], vs, h => by simp only [evalArgs, Option.some.injEq] at h; subst h; exact .nil
  | x :: xs, vs, h => by
    simp only [evalArgs] at h
    split at h
    · rename_i v vs' h1 h2; cases h; exact .cons _ _ _ _ (evalA_sound hr h1) (evalArgs_sound hr h2)
    · cases h

theorem evalParts_sound {e : Env} {tmps : List Value} {a : Act} (hr : Rl e tmps a.tmps.toList) : ∀ {xs : List (Nat × Operand)} {vs : List (Nat × Value)}, evalParts tmps xs = some vs → Rp e vs (xs.map fun (i, x) => (i, a.eval x))
  | [], vs, h => by simp only [evalParts, Option.some.injEq] at h; subst h; exact .nil
  | (i, x) :: xs, vs, h => by
    simp only [evalParts] at h
    split at h
    · rename_i v vs' h1 h2; cases h; exact .cons _ _ _ _ _ (evalA_sound hr h1) (evalParts_sound hr h2)
    · cases h

theorem evalOpt_sound {e : Env} {tmps : List Value} {a : Act} (hr : Rl e tmps a.tmps.toList) {x : Option Operand} {v : Option Value} (h : evalOpt tmps x = some v) : Ro e v (x.map a.eval) := by
  cases x with
  | none => simp only [evalOpt, Option.some.injEq] at h; subst h; exact .none
  | some x =>
    simp only [evalOpt] at h
    split at h
    · rename_i v' h1; cases h; exact .some _ _ (evalA_sound hr h1)
    · cases h

variable (P : Program)

/-- Equality where one side is nil, or both lead to one block. -/
def eqA (t : TypeId) (x y : Value) : Option Bool :=
  match P.underlying t with
  | some (.pointer el) => match x, y with
    | .pointer none, .pointer (some _) => some false
    | .pointer (some _), .pointer none => some false
    | .pointer (some ⟨n, off, none⟩), .pointer (some ⟨m, off', none⟩) => match Nat.beq n m, sizeA P el with
      | true, some (_ + 1) => some (Nat.beq off off')
      | _, _ => none
    | _, _ => none
  | some (.slice _) => match x, y with
    | .slice none _ _, .slice (some _) _ _ => some false
    | .slice (some _) _ _, .slice none _ _ => some false
    | _, _ => none
  | some (.map _ _) => match x, y with
    | .map none, .map (some _) => some false
    | .map (some _), .map none => some false
    | _, _ => none
  | some (.func _ _ _) => match x, y with
    | .nilFunc, .func _ _ _ => some false
    | .func _ _ _, .nilFunc => some false
    | _, _ => none
  | some (.interface _) => match x, y with
    | .nilIface, .iface _ _ => some false
    | .iface _ _, .nilIface => some false
    | _, _ => none
  | _ => none

/-- What an int may be. -/
def rangeA : Value → Option (Int × Int)
  | .int .i64 n => some (n, n)
  | .chan (some j) => match boundsOf j with
    | some (a, b) => some (lift a, lift b)
    | none => none
  | _ => none

/-- How two ints compare, by what they may be. -/
def cmpI (op : BinOp) (a b c d : Int) : Option Bool :=
  match op with
  | .lss => match decide (b < c), decide (d ≤ a) with | true, _ => some true | false, true => some false | false, false => none
  | .leq => match decide (b ≤ c), decide (d < a) with | true, _ => some true | false, true => some false | false, false => none
  | .gtr => match decide (d < a), decide (b ≤ c) with | true, _ => some true | false, true => some false | false, false => none
  | .geq => match decide (d ≤ a), decide (b < c) with | true, _ => some true | false, true => some false | false, false => none
  | .eql => match decide (b < c), decide (d < a) with | false, false => none | _, _ => some false
  | .neq => match decide (b < c), decide (d < a) with | false, false => none | _, _ => some true
  | _ => none

def cmpA (op : BinOp) (vx vy : Value) : Option Bool :=
  match rangeA vx, rangeA vy with
  | some (a, b), some (c, d) => cmpI op a b c d
  | _, _ => none

def aBin (op : BinOp) (t : TypeId) (x y : Operand) (vx vy : Value) : Option Value :=
  match ground vx, ground vy with
  | true, true => match pureRun P (do eqGuard op t x y vx vy; binOp op t vx vy) with
    | some v => match ground v with | true => some v | false => none
    | none => none
  | _, _ => match cmpA op vx vy with
    | some b => some (.bool b)
    | none => match op with
      | .eql => match eqA P t vx vy with
        | some b => some (.bool b)
        | none => none
      | .neq => match eqA P t vx vy with
        | some b => some (.bool (!b))
        | none => none
      | _ => none

def aLen (argTypes : Array TypeId) (ty : TypeId) (x : Value) (h : AH) : Option Value :=
  match ground x with
  | true => match pureRun P (Builtin.len_ argTypes ty #[x]) with
    | some v => match ground v with | true => some v | false => none
    | none => none
  | false => match argTypes[0]? with
    | some t => match P.underlying t, x with
      | some (.slice _), .slice _ n _ => some (.int .i64 (.ofNat n))
      | some (.map _ _), .map (some n) => match h.tbl.get n with
        | some (.map l _) => some (.int .i64 (.ofNat l.length))
        | _ => none
      | some (.array n _), _ => some (.int .i64 (.ofNat n))
      | _, _ => none
    | none => none

def aCap (argTypes : Array TypeId) (ty : TypeId) (x : Value) : Option Value :=
  match ground x with
  | true => match pureRun P (Builtin.cap_ argTypes ty #[x]) with
    | some v => match ground v with | true => some v | false => none
    | none => none
  | false => match argTypes[0]? with
    | some t => match P.underlying t, x with
      | some (.slice _), .slice (some ⟨_, _, none⟩) _ n => match Nat.beq n capRest with
        | true => none
        | false => some (.int .i64 (.ofNat n))
      | _, _ => none
    | none => none

def aTypeAssert (x : Value) (asserted : TypeId) (ok : Bool) : Option Value :=
  match P.underlying asserted with
  | some (.interface _) => none
  | some _ => match x with
    | .nilIface => match ok, zeroA P asserted with
      | true, some z => some (.tuple ⟨[z, .bool false]⟩)
      | _, _ => none
    | .iface t v => match Nat.beq t asserted with
      | true => some (match ok with | true => .tuple ⟨[v, .bool true]⟩ | false => v)
      | false => match ok, zeroA P asserted with
        | true, some z => some (.tuple ⟨[z, .bool false]⟩)
        | _, _ => none
    | _ => none
  | none => none

def grd : Option Value → Option Value
  | some v => match ground v with | true => some v | false => none
  | none => none

def byteL : List Value → Option (List Int)
  | [] => some []
  | .int .u8 n :: l => match byteL l with
    | some m => some (n :: m)
    | none => none
  | _ :: _ => none

/-- A conversion: what is ground, and bytes to a string. -/
def aConvert (src dst : TypeId) (v : Value) (h : AH) : Option Value :=
  match ground v with
  | true => grd (pureRun P (convert src dst v))
  | false => match P.underlying src, P.underlying dst with
    | some (.slice el), some .string => match P.underlying el with
      | some (.int .u8) => match v with
        | .slice (some ⟨n, off, none⟩) len _ => match h.tbl.get n with
          | some (.cells c _ _) => match Nat.ble (off + len) c.length, byteL ((c.drop off).take len) with
            | true, some ns => some (.string (ns.foldl (fun r n => r.push (UInt8.ofNat n.toNat)) ByteArray.empty))
            | _, _ => none
          | _ => none
        | _ => none
      | _ => none
    | _, _ => none

def notIface (t : TypeId) : Bool := match P.underlying t with
  | some (.interface _) => false
  | some _ => true
  | none => false

def nextVal : Option Next → Option Value
  | some (.value v) => match ground v with | true => some v | false => none
  | _ => none

def optGround : Option Value → Bool
  | some v => ground v
  | none => true

def evCall (G : Prg) (tmps : List Value) (h : AH) (c : Call) (ty : TypeId) : Option OpRes :=
  match evalArgs tmps c.args.toList with
  | none => none
  | some args => match c.callee with
    | .builtin b => match b, args with
      | .append, [s, x] => match aAppend G.P c.argTypes s x h with
        | some (v, h') => some (.val v h')
        | none => none
      | .len, [x] => match aLen G.P c.argTypes ty x h with
        | some v => some (.val v h)
        | none => none
      | .cap, [x] => match aCap G.P c.argTypes ty x with
        | some v => some (.val v h)
        | none => none
      | .delete, [m, k] => match aDelete G.P c.argTypes m k h with
        | some h' => some (.val (.tuple ⟨[]⟩) h')
        | none => none
      | .recover, [] => some .recover
      | .min, args => match args.all ground, nextVal (pureRun G.P (builtin .min c.argTypes ty #[] ⟨args⟩)) with
        | true, some v => some (.val v h)
        | _, _ => none
      | .max, args => match args.all ground, nextVal (pureRun G.P (builtin .max c.argTypes ty #[] ⟨args⟩)) with
        | true, some v => some (.val v h)
        | _, _ => none
      | .panic, [.iface t v] => some (.panic (.iface t v))
      | _, _ => none
    | .value f => match evalA tmps f with
      | some (.func (.func g) ⟨first⟩ ⟨cap⟩) => match G.ok g with
        | true => some (.call g (first ++ args ++ cap))
        | false => match (first ++ args ++ cap).all ground, nextVal (pureRun G.P (callFunc g ⟨first ++ args ++ cap⟩)) with
          | true, some v => some (.val v h)
          | _, _ => none
      | _ => none
    | .invoke _ _ => none

def opMove (G : Prg) (tmps : List Value) (h : AH) (x : Operand) : Option OpRes :=
  match evalA tmps x with | some v => some (.val v h) | none => none

def opAssign (G : Prg) (tmps : List Value) (h : AH) (x : Operand) : Option OpRes :=
  match evalA tmps x with | some v => some (.val v h) | none => none

def opPick (G : Prg) (tmps : List Value) (h : AH) (c : Operand) (a : Operand) (b : Operand) : Option OpRes :=
  match evalA tmps c with
    | some (.bool true) => match evalA tmps a with | some v => some (.val v h) | none => none
    | some (.bool false) => match evalA tmps b with | some v => some (.val v h) | none => none
    | _ => none

def opAlloc (G : Prg) (tmps : List Value) (h : AH) (el : TypeId) : Option OpRes :=
  match zeroA G.P el with
    | some z => match aNew el z h with | some (p, h') => some (.val p h') | none => none
    | none => none

def opBox (G : Prg) (tmps : List Value) (h : AH) (el : TypeId) (x : Operand) : Option OpRes :=
  match evalA tmps x with
    | some v => match aNew el v h with | some (p, h') => some (.val p h') | none => none
    | none => none

def opBuild (G : Prg) (tmps : List Value) (h : AH) (t : TypeId) (parts : Array (Nat × Operand)) : Option OpRes :=
  match evalParts tmps parts.toList with
    | some ps => match aBuild G.P t ps with | some v => some (.val v h) | none => none
    | none => none

def opBuildSlice (G : Prg) (tmps : List Value) (h : AH) (t : TypeId) (len : Nat) (parts : Array (Nat × Operand)) : Option OpRes :=
  match evalParts tmps parts.toList with
    | some ps => match aBuildSlice G.P t len ps h with | some (v, h') => some (.val v h') | none => none
    | none => none

def opLoad (G : Prg) (tmps : List Value) (h : AH) (t : TypeId) (x : Operand) : Option OpRes :=
  match evalA tmps x with
    | some v => match aLoad G.P t v h with | some r => some (.val r h) | none => none
    | none => none

def opStore (G : Prg) (tmps : List Value) (h : AH) (t : TypeId) (x : Operand) (y : Operand) : Option OpRes :=
  match evalA tmps x, evalA tmps y with
    | some vx, some vy => match aStore G.P t vx vy h with | some h' => some (.val (.tuple ⟨[]⟩) h') | none => none
    | _, _ => none

def opNilCheck (G : Prg) (tmps : List Value) (h : AH) (x : Operand) : Option OpRes :=
  match evalA tmps x with
    | some (.pointer (some a)) => some (.val (.pointer (some a)) h)
    | some (.func (.func g) f c) => some (.val (.func (.func g) f c) h)
    | _ => none

def opBinOp (G : Prg) (tmps : List Value) (h : AH) (op : BinOp) (t : TypeId) (x : Operand) (y : Operand) : Option OpRes :=
  match evalA tmps x, evalA tmps y with
    | some vx, some vy => match aBin G.P op t x y vx vy with | some v => some (.val v h) | none => none
    | _, _ => none

def opUnOp (G : Prg) (tmps : List Value) (h : AH) (op : UnOp) (x : Operand) : Option OpRes :=
  match evalA tmps x with
    | some v => match ground v, grd (pureRun G.P (Op.unary op v)) with | true, some r => some (.val r h) | _, _ => none
    | none => none

def opConvert (G : Prg) (tmps : List Value) (h : AH) (src : TypeId) (dst : TypeId) (x : Operand) : Option OpRes :=
  match evalA tmps x with
    | some v => match aConvert G.P src dst v h with | some r => some (.val r h) | none => none
    | none => none

def opMakeInterface (G : Prg) (tmps : List Value) (h : AH) (t : TypeId) (x : Operand) : Option OpRes :=
  match evalA tmps x, notIface G.P t with
    | some v, true => some (.val (.iface t v) h)
    | _, _ => none

def opMakeFunc (G : Prg) (tmps : List Value) (h : AH) (fn : Fn) (first : Array Operand) (cap : Array Operand) : Option OpRes :=
  match evalArgs tmps first.toList, evalArgs tmps cap.toList with
    | some f, some c => some (.val (.func fn ⟨f⟩ ⟨c⟩) h)
    | _, _ => none

def opMakeMap (G : Prg) (tmps : List Value) (h : AH) (r : Option Operand) : Option OpRes :=
  match r with
    | none => match h.new (.map [] 0) with | some h' => some (.val (.map (some h.next)) h') | none => none
    | some _ => none

def opMakeSlice (G : Prg) (tmps : List Value) (h : AH) (t : TypeId) (l : Operand) (c : Operand) : Option OpRes :=
  match evalA tmps l, evalA tmps c with
    | some vl, some vc => match aMakeSlice G.P t vl vc h with | some (v, h') => some (.val v h') | none => none
    | _, _ => none

def opSlice (G : Prg) (tmps : List Value) (h : AH) (t : TypeId) (x : Operand) (lo : Option Operand) (hi : Option Operand) (mx : Option Operand) : Option OpRes :=
  match evalA tmps x, evalOpt tmps lo, evalOpt tmps hi, evalOpt tmps mx with
    | some v, some l, some hh, some m => match ground v with
      | true => match optGround l && optGround hh && optGround m, grd (pureRun G.P (Instr.sliceAt t v l hh m)) with | true, some r => some (.val r h) | _, _ => none
      | false => match aSlice G.P t v l hh m h with | some r => some (.val r h) | none => none
    | _, _, _, _ => none

def opFieldAddr (G : Prg) (tmps : List Value) (h : AH) (s : TypeId) (x : Operand) (f : Nat) : Option OpRes :=
  match evalA tmps x with
    | some v => match aFieldAddr G.P s v f with | some r => some (.val r h) | none => none
    | none => none

def opField (G : Prg) (tmps : List Value) (h : AH) (t : TypeId) (x : Operand) (f : Nat) : Option OpRes :=
  match evalA tmps x with
    | some v => match aField G.P t v f with | some r => some (.val r h) | none => none
    | none => none

def opIndexAddr (G : Prg) (tmps : List Value) (h : AH) (t : TypeId) (x : Operand) (ix : Operand) : Option OpRes :=
  match evalA tmps x, evalA tmps ix with
    | some v, some i => match aIndexAddr G.P t v i with | some r => some (.val r h) | none => none
    | _, _ => none

def opIndex (G : Prg) (tmps : List Value) (h : AH) (t : TypeId) (x : Operand) (ix : Operand) : Option OpRes :=
  match evalA tmps x, evalA tmps ix with
    | some v, some i => match ground v, ground i with
      | true, true => match grd (pureRun G.P (Instr.index t v i)) with | some r => some (.val r h) | none => none
      | _, _ => match aIndexAgg G.P t v i with | some r => some (.val r h) | none => none
    | _, _ => none

def opLookup (G : Prg) (tmps : List Value) (h : AH) (t : TypeId) (x : Operand) (k : Operand) (ok : Bool) : Option OpRes :=
  match evalA tmps x, evalA tmps k with
    | some v, some kv => match aLookup G.P t v kv ok h with | some r => some (.val r h) | none => none
    | _, _ => none

def opMapUpdate (G : Prg) (tmps : List Value) (h : AH) (t : TypeId) (m : Operand) (k : Operand) (x : Operand) : Option OpRes :=
  match evalA tmps m, evalA tmps k, evalA tmps x with
    | some vm, some vk, some vx => match aMapUpdate G.P t vm vk vx h with | some h' => some (.val (.tuple ⟨[]⟩) h') | none => none
    | _, _, _ => none

def opTypeAssert (G : Prg) (tmps : List Value) (h : AH) (x : Operand) (asserted : TypeId) (ok : Bool) : Option OpRes :=
  match evalA tmps x with
    | some v => match aTypeAssert G.P v asserted ok with | some r => some (.val r h) | none => none
    | none => none

def opExtract (G : Prg) (tmps : List Value) (h : AH) (x : Operand) (i : Nat) : Option OpRes :=
  match evalA tmps x with
    | some (.tuple ⟨vs⟩) => match vs[i]? with | some v => some (.val v h) | none => none
    | _ => none

def opDefer (G : Prg) (tmps : List Value) (h : AH) (c : Call) : Option OpRes :=
  match evalArgs tmps c.args.toList, c.callee with
    | some args, .value f => match evalA tmps f with
      | some (.func (.func g) ⟨first⟩ ⟨cap⟩) => some (.defer g cap (first ++ args))
      | _ => none
    | _, _ => none

def opPanic (G : Prg) (tmps : List Value) (h : AH) (x : Operand) : Option OpRes :=
  match evalA tmps x with
    | some (.iface t v) => some (.panic (.iface t v))
    | _ => none

def evOp (G : Prg) (tmps : List Value) (h : AH) (o : Oper) : Option OpRes :=
  match o.op with
  | .move x => opMove G tmps h x
  | .assign x => opAssign G tmps h x
  | .pick c a b => opPick G tmps h c a b
  | .alloc el => opAlloc G tmps h el
  | .box el x => opBox G tmps h el x
  | .build t parts => opBuild G tmps h t parts
  | .buildSlice t len parts => opBuildSlice G tmps h t len parts
  | .load t x => opLoad G tmps h t x
  | .store t x y => opStore G tmps h t x y
  | .nilCheck x => opNilCheck G tmps h x
  | .binOp op t x y _ => opBinOp G tmps h op t x y
  | .unOp op _ x => opUnOp G tmps h op x
  | .convert src dst x => opConvert G tmps h src dst x
  | .makeInterface t x => opMakeInterface G tmps h t x
  | .makeFunc fn first cap => opMakeFunc G tmps h fn first cap
  | .makeMap _ r => opMakeMap G tmps h r
  | .makeSlice t l c => opMakeSlice G tmps h t l c
  | .slice t x lo hi mx => opSlice G tmps h t x lo hi mx
  | .fieldAddr s x f => opFieldAddr G tmps h s x f
  | .field t x f => opField G tmps h t x f
  | .indexAddr t x ix => opIndexAddr G tmps h t x ix
  | .index t x ix => opIndex G tmps h t x ix
  | .lookup t x k ok => opLookup G tmps h t x k ok
  | .mapUpdate t m k x => opMapUpdate G tmps h t m k x
  | .typeAssert x _ asserted ok => opTypeAssert G tmps h x asserted ok
  | .extract x i => opExtract G tmps h x i
  | .call c => evCall G tmps h c o.type
  | .defer c => opDefer G tmps h c
  | .panic x => opPanic G tmps h x
  | _ => none

end
end Go.Ab
