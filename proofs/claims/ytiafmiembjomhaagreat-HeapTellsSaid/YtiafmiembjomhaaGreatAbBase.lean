/- The abstract memory: values whose block numbers are names, heaps of names, and what they stand for. -/
import Derived.Below
import Derived.Recover
set_option linter.unusedSimpArgs false
set_option linter.unusedVariables false
set_option linter.unusedSectionVars false
set_option linter.unnecessarySimpa false
namespace Go.Ab
noncomputable section
open Go Go.RowKit

/-- Places of a list, in few steps of the kernel's. -/
noncomputable def getL {α : Type} (l : List α) : Nat → Option α :=
  List.rec (motive := fun _ => Nat → Option α) (fun _ => none) (fun a _ ih n => Bool.rec (ih (Nat.sub n 1)) (some a) (Nat.beq n 0)) l

theorem getL_eq {α : Type} : ∀ (l : List α) (n : Nat), getL l n = l[n]?
  | [], n => by simp [getL]
  | a :: l, 0 => by simp [getL]
  | a :: l, n + 1 => by
    have := getL_eq l n
    rw [List.getElem?_cons_succ, ← this]; rfl

noncomputable def setL {α : Type} (l : List α) : Nat → α → List α :=
  List.rec (motive := fun _ => Nat → α → List α) (fun _ _ => []) (fun a l ih n v => Bool.rec (a :: ih (Nat.sub n 1) v) (v :: l) (Nat.beq n 0)) l

theorem setL_eq {α : Type} : ∀ (l : List α) (n : Nat) (v : α), setL l n v = l.set n v
  | [], n, v => by simp [setL]
  | a :: l, 0, v => by simp [setL]
  | a :: l, n + 1, v => by
    have := setL_eq l n v
    rw [List.set_cons_succ, ← this]; rfl

/-- The capacity of a slice that goes to the end of its block. -/
def capRest : Nat := 18446744073709551616

def scalar : Value → Bool
  | .bool _ => true
  | .int _ _ => true
  | .float _ _ => true
  | .complex _ _ _ => true
  | .string _ => true
  | .pointer none => true
  | .slice none 0 0 => true
  | .map none => true
  | .chan none => true
  | .nilFunc => true
  | .nilIface => true
  | .func _ f c => match f, c with | ⟨[]⟩, ⟨[]⟩ => true | _, _ => false
  | _ => false

def ground : Value → Bool
  | .agg ⟨cs⟩ => cs.all scalar
  | .tuple ⟨cs⟩ => cs.all scalar
  | v => scalar v

def Value.isBool : Value → Bool
  | .bool _ => true
  | _ => false

def one : Value → Bool
  | .agg _ => false
  | .tuple _ => false
  | _ => true

/-- The bounds that the number of an unknown value tells, each lifted by 2 ^ 63: of an int; none: of any value. -/
def boundsOf (j : Nat) : Option (Nat × Nat) := match Nat.beq (j / 1048576 % 2) 1 with
  | true => some (j / 2097152 % 36893488147419103232, j / 2097152 / 36893488147419103232)
  | false => none

def lift (n : Nat) : Int := Int.subNatNat n 9223372036854775808

/-- What an unknown value of a number may be. -/
def tokOk (j : Nat) (v : Value) : Prop :=
  one v = true ∧ Value.isBool v = false ∧ ∀ lo hi, boundsOf j = some (lo, hi) → ∃ n, v = .int .i64 n ∧ lift lo ≤ n ∧ n ≤ lift hi

/-- The unknown values, and the world at the start. -/
structure Sym where
  W : World
  val : Nat → Option Value
  ok : ∀ j v, val j = some v → tokOk j v

/-- What a name stands for: a block, how many cells it has, how many cells an element has. -/
structure Env where
  nm : Nat → Option (Nat × Nat × Nat)
  S : Sym

instance : CoeFun Env fun _ => Nat → Option (Nat × Nat × Nat) := ⟨Env.nm⟩

def Env.le (e e' : Env) : Prop := (∀ n x, e n = some x → e' n = some x) ∧ e'.S = e.S

theorem Env.le_refl (e : Env) : e.le e := ⟨fun _ _ h => h, rfl⟩
theorem Env.le_trans {a b c : Env} (h : a.le b) (k : b.le c) : a.le c := ⟨fun n x q => k.1 n x (h.1 n x q), k.2.trans h.2⟩

mutual
inductive Rv (e : Env) : Value → Value → Prop
  | sc (v : Value) (h : scalar v = true) : Rv e v v
  | opq (j : Nat) (v : Value) (h : e.S.val j = some v) : Rv e (.chan (some j)) v
  | ptr (n off b sz es : Nat) (h : e n = some (b, sz, es)) : Rv e (.pointer (some ⟨n, off, none⟩)) (.pointer (some ⟨b, off, none⟩))
  | slice (n off len cap b sz es cap' : Nat) (h : e n = some (b, sz, es)) (hk : cap ≠ capRest → cap' = cap) (hr : cap = capRest → off + cap' * es = sz) (hl : len ≤ cap') :
      Rv e (.slice (some ⟨n, off, none⟩) len cap) (.slice (some ⟨b, off, none⟩) len cap')
  | empt (b off cap : Nat) : Rv e (.slice (some ⟨0, 0, some 0⟩) 0 0) (.slice (some ⟨b, off, none⟩) 0 cap)
  | map (n b sz es : Nat) (h : e n = some (b, sz, es)) : Rv e (.map (some n)) (.map (some b))
  | func (fn : Fn) (f c f' c' : List Value) (hf : Rl e f f') (hc : Rl e c c') : Rv e (.func fn ⟨f⟩ ⟨c⟩) (.func fn ⟨f'⟩ ⟨c'⟩)
  | iface (t : TypeId) (v v' : Value) (h : Rv e v v') : Rv e (.iface t v) (.iface t v')
  | agg (c c' : List Value) (h : Rl e c c') : Rv e (.agg ⟨c⟩) (.agg ⟨c'⟩)
  | tuple (c c' : List Value) (h : Rl e c c') : Rv e (.tuple ⟨c⟩) (.tuple ⟨c'⟩)
inductive Rl (e : Env) : List Value → List Value → Prop
  | nil : Rl e [] []
  | cons (v v' : Value) (l l' : List Value) (h : Rv e v v') (hl : Rl e l l') : Rl e (v :: l) (v' :: l')
end

mutual
theorem Rv.mono {e e' : Env} (he : e.le e') : ∀ {v v' : Value}, Rv e v v' → Rv e' v v'
  | _, _, .sc v h => .sc v h
  | _, _, .opq j v h => .opq j v (by rw [he.2]; exact h)
  | _, _, .ptr n off b sz es h => .ptr n off b sz es (he.1 _ _ h)
  | _, _, .slice n off len cap b sz es cap' h hk hr hl => .slice n off len cap b sz es cap' (he.1 _ _ h) hk hr hl
  | _, _, .empt b off cap => .empt b off cap
  | _, _, .map n b sz es h => .map n b sz es (he.1 _ _ h)
  | _, _, .func fn f c f' c' hf hc => .func fn f c f' c' (Rl.mono he hf) (Rl.mono he hc)
  | _, _, .iface t v v' h => .iface t v v' (Rv.mono he h)
  | _, _, .agg c c' h => .agg c c' (Rl.mono he h)
  | _, _, .tuple c c' h => .tuple c c' (Rl.mono he h)
theorem Rl.mono {e e' : Env} (he : e.le e') : ∀ {v v' : List Value}, Rl e v v' → Rl e' v v'
  | _, _, .nil => .nil
  | _, _, .cons v v' l l' h hl => .cons v v' l l' (Rv.mono he h) (Rl.mono he hl)
end

theorem Rl.length {e : Env} : ∀ {l l' : List Value}, Rl e l l' → l.length = l'.length
  | _, _, .nil => rfl
  | _, _, .cons _ _ _ _ _ h => by simp [Rl.length h]

theorem Rl.of_scalars {e : Env} : ∀ (l : List Value), l.all scalar = true → Rl e l l
  | [], _ => .nil
  | v :: l, h => by
    simp only [List.all_cons, Bool.and_eq_true] at h
    exact .cons _ _ _ _ (.sc v h.1) (Rl.of_scalars l h.2)

theorem Rv.of_ground {e : Env} (v : Value) (h : ground v = true) : Rv e v v := by
  unfold ground at h
  split at h
  · exact .agg _ _ (Rl.of_scalars _ h)
  · exact .tuple _ _ (Rl.of_scalars _ h)
  · exact .sc _ h

theorem Rl.get {e : Env} : ∀ {l l' : List Value}, Rl e l l' → ∀ {i : Nat} {v : Value}, l[i]? = some v → ∃ v', l'[i]? = some v' ∧ Rv e v v'
  | _, _, .nil, i, v, h => by simp at h
  | _, _, .cons v v' l l' h hl, 0, x, hx => by
    simp at hx; subst hx; exact ⟨v', rfl, h⟩
  | _, _, .cons v v' l l' h hl, i + 1, x, hx => by
    simp at hx; simpa using Rl.get hl hx

theorem Rl.get' {e : Env} : ∀ {l l' : List Value}, Rl e l l' → ∀ {i : Nat} {v' : Value}, l'[i]? = some v' → ∃ v, l[i]? = some v ∧ Rv e v v'
  | _, _, .nil, i, v, h => by simp at h
  | _, _, .cons v v' l l' h hl, 0, x, hx => by
    simp at hx; subst hx; exact ⟨v, rfl, h⟩
  | _, _, .cons v v' l l' h hl, i + 1, x, hx => by
    simp at hx; simpa using Rl.get' hl hx

theorem Rl.append {e : Env} : ∀ {l l' m m' : List Value}, Rl e l l' → Rl e m m' → Rl e (l ++ m) (l' ++ m')
  | _, _, _, _, .nil, h => h
  | _, _, _, _, .cons v v' l l' h hl, k => .cons _ _ _ _ h (Rl.append hl k)

theorem Rl.take {e : Env} : ∀ {l l' : List Value} (n : Nat), Rl e l l' → Rl e (l.take n) (l'.take n)
  | _, _, 0, _ => by simpa using Rl.nil
  | _, _, n + 1, .nil => by simpa using Rl.nil
  | _, _, n + 1, .cons _ _ _ _ h hl => by simpa using Rl.cons _ _ _ _ h (Rl.take n hl)

theorem Rl.drop {e : Env} : ∀ {l l' : List Value} (n : Nat), Rl e l l' → Rl e (l.drop n) (l'.drop n)
  | _, _, 0, h => by simpa using h
  | _, _, n + 1, .nil => by simpa using Rl.nil
  | _, _, n + 1, .cons _ _ _ _ h hl => by simpa using Rl.drop n hl

theorem Rl.set {e : Env} : ∀ {l l' : List Value} (n : Nat) {v v' : Value}, Rl e l l' → Rv e v v' → Rl e (l.set n v) (l'.set n v')
  | _, _, _, _, _, .nil, _ => by simpa using Rl.nil
  | _, _, 0, _, _, .cons _ _ _ _ h hl, k => by simpa using Rl.cons _ _ _ _ k hl
  | _, _, n + 1, _, _, .cons _ _ _ _ h hl, k => by simpa using Rl.cons _ _ _ _ h (Rl.set n hl k)

theorem Rl.replicate {e : Env} {v v' : Value} (h : Rv e v v') : ∀ n, Rl e (List.replicate n v) (List.replicate n v')
  | 0 => .nil
  | n + 1 => .cons _ _ _ _ h (Rl.replicate h n)

/-- Inversions. -/
theorem Rv.scalar_inv {e : Env} {v v' : Value} (h : Rv e v v') (hs : scalar v = true) : v' = v := by
  cases h with
  | sc => rfl
  | func fn f c f' c' hf hc =>
    cases f with
    | nil => cases c with
      | nil => cases hf; cases hc; rfl
      | cons => simp [Ab.scalar] at hs
    | cons => simp [Ab.scalar] at hs
  | _ => simp [Ab.scalar] at hs

theorem Rl.scalars_inv {e : Env} : ∀ {l l' : List Value}, Rl e l l' → l.all scalar = true → l' = l
  | _, _, .nil, _ => rfl
  | _, _, .cons v v' l l' h hl, hs => by
    simp only [List.all_cons, Bool.and_eq_true] at hs
    rw [Rv.scalar_inv h hs.1, Rl.scalars_inv hl hs.2]

theorem Rv.agg_inv {e : Env} {c : List Value} {v' : Value} (h : Rv e (.agg ⟨c⟩) v') : ∃ c', v' = .agg ⟨c'⟩ ∧ Rl e c c' := by
  cases h with
  | sc _ h => simp [Ab.scalar] at h
  | agg _ c' h => exact ⟨c', rfl, h⟩

theorem Rv.tuple_inv {e : Env} {c : List Value} {v' : Value} (h : Rv e (.tuple ⟨c⟩) v') : ∃ c', v' = .tuple ⟨c'⟩ ∧ Rl e c c' := by
  cases h with
  | sc _ h => simp [Ab.scalar] at h
  | tuple _ c' h => exact ⟨c', rfl, h⟩

theorem Rv.ground_inv {e : Env} {v v' : Value} (h : Rv e v v') (hs : ground v = true) : v' = v := by
  unfold ground at hs
  split at hs
  · obtain ⟨c', rfl, hl⟩ := h.agg_inv
    rw [Rl.scalars_inv hl hs]
  · obtain ⟨c', rfl, hl⟩ := h.tuple_inv
    rw [Rl.scalars_inv hl hs]
  · exact h.scalar_inv hs

theorem Rv.ptr_inv {e : Env} {n off : Nat} {sp : Option Nat} {v' : Value} (h : Rv e (.pointer (some ⟨n, off, sp⟩)) v') :
    sp = none ∧ ∃ b sz es, e n = some (b, sz, es) ∧ v' = .pointer (some ⟨b, off, none⟩) := by
  cases h with
  | sc _ h => simp [Ab.scalar] at h
  | ptr _ _ b sz es h => exact ⟨rfl, b, sz, es, h, rfl⟩

theorem Rv.slice_inv {e : Env} {n off len cap : Nat} {v' : Value} (h : Rv e (.slice (some ⟨n, off, none⟩) len cap) v') :
    (none : Option Nat) = none ∧ ∃ b sz es cap', e n = some (b, sz, es) ∧ (cap ≠ capRest → cap' = cap) ∧ (cap = capRest → off + cap' * es = sz) ∧ len ≤ cap' ∧ v' = .slice (some ⟨b, off, none⟩) len cap' := by
  cases h with
  | sc _ h => simp [Ab.scalar] at h
  | slice _ _ _ _ b sz es cap' h hk hr hl => exact ⟨rfl, b, sz, es, cap', h, hk, hr, hl, rfl⟩

theorem Rv.slice_any {e : Env} {a : Addr} {len cap : Nat} {v' : Value} (h : Rv e (.slice (some a) len cap) v') : ∃ b off cap', v' = .slice (some ⟨b, off, none⟩) len cap' := by
  cases h with
  | sc _ h => simp [Ab.scalar] at h
  | slice n off _ _ b sz es cap' h hk hr hl => exact ⟨b, off, cap', rfl⟩
  | empt b off cap => exact ⟨b, off, cap, rfl⟩

theorem Rv.map_inv {e : Env} {n : Nat} {v' : Value} (h : Rv e (.map (some n)) v') : ∃ b sz es, e n = some (b, sz, es) ∧ v' = .map (some b) := by
  cases h with
  | sc _ h => simp [Ab.scalar] at h
  | map _ b sz es h => exact ⟨b, sz, es, h, rfl⟩

theorem Rv.iface_inv {e : Env} {t : TypeId} {v v' : Value} (h : Rv e (.iface t v) v') : ∃ u, v' = .iface t u ∧ Rv e v u := by
  cases h with
  | sc _ h => simp [Ab.scalar] at h
  | iface _ _ u h => exact ⟨u, rfl, h⟩

theorem Rv.func_inv {e : Env} {fn : Fn} {f c : List Value} {v' : Value} (h : Rv e (.func fn ⟨f⟩ ⟨c⟩) v') : ∃ f' c', v' = .func fn ⟨f'⟩ ⟨c'⟩ ∧ Rl e f f' ∧ Rl e c c' := by
  cases h with
  | sc _ h =>
    cases f with
    | nil => cases c with
      | nil => exact ⟨[], [], rfl, .nil, .nil⟩
      | cons => simp [Ab.scalar] at h
    | cons => simp [Ab.scalar] at h
  | func _ _ _ f' c' hf hc => exact ⟨f', c', rfl, hf, hc⟩

theorem Rv.bool_inv {e : Env} {b : Bool} {v' : Value} (h : Rv e (.bool b) v') : v' = .bool b := h.scalar_inv rfl
theorem Rv.int_inv {e : Env} {k : IntKind} {n : Int} {v' : Value} (h : Rv e (.int k n) v') : v' = .int k n := h.scalar_inv rfl

theorem Rv.bool_inv' {e : Env} {b : Bool} {v : Value} (h : Rv e v (.bool b)) : v = .bool b := by
  cases h with
  | sc => rfl
  | opq j _ h => exact absurd (e.S.ok _ _ h).2.1 (by simp [Value.isBool])

theorem Rv.one_eq {e : Env} {v v' : Value} (h : Rv e v v') : one v' = one v := by
  cases h with
  | opq j _ h => exact (e.S.ok _ _ h).1
  | _ => rfl

/-- `undef` stands for itself. -/
theorem Rv.undef {e : Env} : Rv e Go.undef Go.undef := .tuple [] [] .nil

end
end Go.Ab
