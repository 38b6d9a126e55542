/- Operations on names (1): operands, loads, stores, addresses, new blocks. -/
import Derived.Test.YtiafmiembjomhaaGreatAbMem
set_option linter.unusedSimpArgs false
set_option linter.unusedVariables false
set_option linter.unusedSectionVars false
set_option linter.unnecessarySimpa false
namespace Go.Ab
noncomputable section
open Go Go.RowKit
variable {S0 : Sym}

def evalA (tmps : List Value) : Operand → Option Value
  | .tmp t => some (match getL tmps t with | some v => v | none => undef)
  | .const v => match ground v with | true => some v | false => none
  | .func f => some (.func (.func f) ⟨[]⟩ ⟨[]⟩)
  | .global _ => none

theorem evalA_sound {e : Env} {tmps : List Value} {a : Act} (hr : Rl e tmps a.tmps.toList) {x : Operand} {v : Value} (h : evalA tmps x = some v) : Rv e v (a.eval x) := by
  cases x with
  | tmp t =>
    simp only [evalA, getL_eq, Option.some.injEq] at h
    subst h
    simp only [Act.eval]
    cases ht : tmps[t]? with
    | some v =>
      obtain ⟨v', h1, h2⟩ := hr.get ht
      have : a.tmps.getD t undef = v' := by
        rw [Array.getElem?_toList] at h1
        simp [Array.getD_eq_getD_getElem?, h1]
      rw [this]; exact h2
    | none =>
      have h1 : a.tmps[t]? = none := by
        have := hr.length
        simp at ht ⊢
        simpa [this] using ht
      have : a.tmps.getD t undef = undef := by simp [Array.getD_eq_getD_getElem?, h1]
      rw [this]; exact Rv.undef
  | const v' =>
    simp only [evalA] at h
    split at h
    · rename_i hg; cases h; exact Rv.of_ground _ hg
    · cases h
  | func f =>
    simp only [evalA, getL_eq, Option.some.injEq] at h
    subst h
    exact .func _ [] [] [] [] .nil .nil
  | global g => cases h

/-- A computation that asks nothing of the world. -/
def pureRun {α : Type} (P : Program) : Sem α → Option α
  | .pure a => some a
  | .program k => pureRun P (k P)
  | .mark _ k => pureRun P k
  | _ => none

theorem pureRun_sound {α : Type} (P : Program) (s : Sem α) {x : α} : pureRun P s = some x → ∀ w, s.run P w = .ok x w := by
  induction s with
  | pure a => intro h w; simp only [pureRun, Option.some.injEq] at h; subst h; rfl
  | program k ih => intro h w; exact ih P h w
  | mark m k ih => intro h w; exact ih h w
  | _ => intro h; cases h

def cellsL : Value → List Value
  | .agg ⟨c⟩ => c
  | v => [v]

theorem cellsL_rel {e : Env} {v v' : Value} (h : Rv e v v') : Rl e (cellsL v) v'.cells.toList := by
  cases h with
  | agg c c' h => exact h
  | opq j _ h =>
    have h1 := (e.S.ok _ _ h).1
    cases v' <;> first | exact .cons _ _ _ _ (.opq _ _ h) .nil | simp [one] at h1
  | sc v hs => cases v <;> first | exact .cons _ _ _ _ (.sc _ hs) .nil | simp [scalar] at hs
  | ptr n off b sz es h => exact .cons _ _ _ _ (.ptr _ _ _ _ _ h) .nil
  | slice n off len cap b sz es cap' h hk hr hl => exact .cons _ _ _ _ (.slice _ _ _ _ _ _ _ _ h hk hr hl) .nil
  | empt b off cap => exact .cons _ _ _ _ (.empt _ _ _) .nil
  | map n b sz es h => exact .cons _ _ _ _ (.map _ _ _ _ h) .nil
  | func fn f c f' c' hf hc => exact .cons _ _ _ _ (.func _ _ _ _ _ hf hc) .nil
  | iface t v v' h => exact .cons _ _ _ _ (.iface _ _ _ h) .nil
  | tuple c c' h => exact .cons _ _ _ _ (.tuple _ _ h) .nil

theorem cells_array {v' : Value} : v'.cells = ⟨v'.cells.toList⟩ := rfl

variable (P : Program)

def isAggA (t : TypeId) : Option Bool :=
  match P.underlying t with
  | some (.struct _) => some true
  | some (.array _ _) => some true
  | some _ => some false
  | none => none

theorem isAggA_sound {t : TypeId} {b : Bool} (h : isAggA P t = some b) (w : World) : (isAgg t).run P w = .ok b w := by
  unfold isAggA at h
  unfold isAgg
  split at h <;> (try cases h) <;> rename_i d hd <;> (try rename_i hd') <;> simp_all [run_underlying, Sem.run_bind] <;> rfl

def sizeA (t : TypeId) : Option Nat := match P.info? t with | some i => some i.size | none => none

theorem sizeA_sound {t : TypeId} {n : Nat} (h : sizeA P t = some n) (w : World) : (sizeOf t).run P w = .ok n w := by
  unfold sizeA at h; split at h
  · rename_i i hi; cases h; simp [sizeOf, typeInfo, hi, Sem.run_bind]
  · cases h

theorem sizeA_cellsOf {t : TypeId} {n : Nat} (h : sizeA P t = some n) : P.cellsOf t = n := by
  unfold sizeA at h; split at h
  · rename_i i hi; cases h; simp [Program.cellsOf, hi]
  · cases h

def aLoad (t : TypeId) (x : Value) (h : AH) : Option Value :=
  match x with
  | .pointer (some ⟨n, off, none⟩) => match h.tbl.get n with
    | some (.cells c _ _) => match isAggA P t with
      | some true => match sizeA P t with
        | some k => match Nat.ble (off + k) c.length with
          | true => some (.agg ⟨(c.drop off).take k⟩)
          | false => none
        | none => none
      | some false => getL c off
      | none => none
    | _ => none
  | _ => none

variable {P}
variable {e : Env} {h : AH} {w0 : Bs S0} {w : World}

theorem aLoad_sound (hw : Rw P e h w0 w) {t : TypeId} {x x' v : Value} (hx : Rv e x x') (ha : aLoad P t x h = some v) :
    ∃ v', Rv e v v' ∧ (Instr.loadAt t x').run P w = .ok v' w := by
  unfold aLoad at ha
  split at ha
  · rename_i n off
    obtain ⟨_, b, sz, es, he, rfl⟩ := hx.ptr_inv
    split at ha
    · rename_i c el sp hg
      split at ha
      · rename_i hagg
        split at ha
        · rename_i k hk
          split at ha
          · rename_i hle
            cases ha
            obtain ⟨l', hl, hr⟩ := hw.load_cells hg he off k (Nat.le_of_ble_eq_true hle)
            refine ⟨.agg ⟨l'⟩, .agg _ _ hl, ?_⟩
            simp [Instr.loadAt, Instr.sureAddr, loadVar, Sem.run_bind, isAggA_sound P hagg, sizeA_sound P hk, hr]
          · cases ha
        · cases ha
      · rename_i hagg
        obtain ⟨c', r, h1, h2, h3, hc, hsz, hr⟩ := hw.cells_of hg he
        obtain ⟨v', hv1, hv2⟩ := hc.get ((getL_eq _ _).symm.trans ha)
        refine ⟨v', hv2, ?_⟩
        have hcell : w.cell? ⟨b, off, none⟩ = some v' := by
          rw [cell_of h3, List.getElem?_append_left (List.getElem?_eq_some_iff.1 hv1).1]; exact hv1
        simp [Instr.loadAt, Instr.sureAddr, loadVar, Sem.run_bind, isAggA_sound P hagg, load, Sem.run, hcell]
      · cases ha
    · cases ha
  · cases ha

variable (P)
def aStore (t : TypeId) (x v : Value) (h : AH) : Option AH :=
  match x with
  | .pointer (some ⟨n, off, none⟩) => match h.tbl.get n with
    | some (.cells c el sp) => match sizeA P t with
      | some k => match Nat.beq (cellsL v).length k, (cellsL v).all one, Nat.ble (off + k) c.length with
        | true, true, true => h.put n (some (.cells (over c off (cellsL v)) el sp))
        | _, _, _ => none
      | none => none
    | _ => none
  | _ => none
variable {P}

theorem aStore_sound (hw : Rw P e h w0 w) {t : TypeId} {x x' v v' : Value} (hx : Rv e x x') (hv : Rv e v v') {h' : AH} (ha : aStore P t x v h = some h') :
    ∃ w', (Instr.storeAt t x' v').run P w = .ok () w' ∧ Rw P e h' w0 w' := by
  unfold aStore at ha
  split at ha
  · rename_i n off
    obtain ⟨_, b, sz, es, he, rfl⟩ := hx.ptr_inv
    split at ha
    · rename_i c el sp hg
      split at ha
      · rename_i k hk
        split at ha
        · rename_i h1 h2 h3
          have hlen := Nat.eq_of_beq_eq_true h1
          have hle := Nat.le_of_ble_eq_true h3
          have hcl := cellsL_rel hv
          have hsz := (hw.size_ge hg he).1
          obtain ⟨w', hr, hw'⟩ := hw.store_cells hg he off hcl h2 (by omega) (by omega) ha
          refine ⟨w', ?_, hw'⟩
          have hs : v'.cells.size = k := by rw [← hlen, hcl.length, Array.length_toList]
          simp [Instr.storeAt, Instr.sureAddr, storeVar, Sem.run_bind, sizeA_sound P hk, hs, hr]
        · cases ha
      · cases ha
    · cases ha
  · cases ha

variable (P)
def aFieldAddr (s : TypeId) (x : Value) (f : Nat) : Option Value :=
  match x with
  | .pointer (some ⟨n, off, none⟩) => match P.underlying s with
    | some (.struct fields) => match fields[f]? with
      | some fd => match sizeA P fd.type with
        | some (_ + 1) => some (.pointer (some ⟨n, off + fd.offset, none⟩))
        | _ => none
      | none => none
    | _ => none
  | _ => none
variable {P}

theorem aFieldAddr_sound {s : TypeId} {x x' v : Value} {f : Nat} (hx : Rv e x x') (ha : aFieldAddr P s x f = some v) (w : World) :
    ∃ v', Rv e v v' ∧ (Instr.fieldAt s x' f).run P w = .ok v' w := by
  unfold aFieldAddr at ha
  split at ha
  · rename_i n off
    obtain ⟨_, b, sz, es, he, rfl⟩ := hx.ptr_inv
    split at ha
    · rename_i fields hu
      split at ha
      · rename_i fd hf
        split at ha
        · rename_i k hk
          cases ha
          refine ⟨_, .ptr _ _ _ _ _ he, ?_⟩
          simp [Instr.fieldAt, Instr.sureAddr, fieldPlace, Sem.run_bind, run_underlying hu, hf, sizeA_sound P hk, add_lit]
        · cases ha
      · cases ha
    · cases ha
  · cases ha

/-- An index in range. -/
def idx (i : Int) (len : Nat) : Option Nat := match i with
  | .ofNat k => match Nat.blt k len with | true => some k | false => none
  | .negSucc _ => none

theorem idx_sound {i : Int} {len k : Nat} (h : idx i len = some k) : i = (k : Int) ∧ k < len := by
  unfold idx at h; split at h
  · split at h
    · rename_i hb; cases h; exact ⟨rfl, Nat.le_of_ble_eq_true hb⟩
    · cases h
  · cases h

variable (P)
def aIndexAddr (t : TypeId) (x ix : Value) : Option Value :=
  match ix with
  | .int _ i => match P.underlying t with
    | some (.slice el) => match x with
      | .slice (some ⟨n, off, none⟩) len _ => match idx i len, sizeA P el with
        | some j, some k => some (.pointer (some ⟨n, off + j * k, none⟩))
        | _, _ => none
      | _ => none
    | some (.array len el) => match x with
      | .pointer (some ⟨n, off, none⟩) => match idx i len, sizeA P el with
        | some j, some k => some (.pointer (some ⟨n, off + j * k, none⟩))
        | _, _ => none
      | _ => none
    | _ => none
  | _ => none
variable {P}

theorem aIndexAddr_sound {t : TypeId} {x x' ix ix' v : Value} (hx : Rv e x x') (hi : Rv e ix ix') (ha : aIndexAddr P t x ix = some v) (w : World) :
    ∃ v', Rv e v v' ∧ (Instr.indexAt t x' ix').run P w = .ok v' w := by
  unfold aIndexAddr at ha
  split at ha
  · rename_i kk i
    obtain rfl := hi.int_inv
    split at ha
    · rename_i el hu
      split at ha
      · rename_i n off len cap
        obtain ⟨_, b, sz, es, cap', he, _, _, _, rfl⟩ := hx.slice_inv
        split at ha
        · rename_i j k hj hk
          cases ha
          obtain ⟨rfl, hlt⟩ := idx_sound hj
          refine ⟨_, .ptr _ _ _ _ _ he, ?_⟩
          simp [Instr.indexAt, asIntOf, Sem.run_bind, run_underlying hu, sizeA_sound P hk, add_lit, hlt]
        · cases ha
      · cases ha
    · rename_i len el hu
      split at ha
      · rename_i n off
        obtain ⟨_, b, sz, es, he, rfl⟩ := hx.ptr_inv
        split at ha
        · rename_i j k hj hk
          cases ha
          obtain ⟨rfl, hlt⟩ := idx_sound hj
          refine ⟨_, .ptr _ _ _ _ _ he, ?_⟩
          simp [Instr.indexAt, Instr.sureAddr, asIntOf, Sem.run_bind, run_underlying hu, sizeA_sound P hk, add_lit, hlt]
        · cases ha
      · cases ha
    · cases ha
  · cases ha

variable (P)
/-- A part of a struct or an array. -/
def partA (t : TypeId) (cs : List Value) (off : Nat) : Option Value :=
  match isAggA P t with
  | some true => match sizeA P t with
    | some k => some (.agg ⟨(cs.drop off).take k⟩)
    | none => none
  | some false => getL cs off
  | none => none
variable {P}

theorem partA_sound {t : TypeId} {cs cs' : List Value} {off : Nat} {v : Value} (hc : Rl e cs cs') (ha : partA P t cs off = some v) (w : World) :
    ∃ v', Rv e v v' ∧ (part t ⟨cs'⟩ off).run P w = .ok v' w := by
  unfold partA at ha
  split at ha
  · rename_i hagg
    split at ha
    · rename_i k hk
      cases ha
      refine ⟨_, .agg _ _ ((hc.drop off).take k), ?_⟩
      simp only [part, Sem.run_bind, isAggA_sound P hagg, Result.andThen_ok, if_true, sizeA_sound P hk]
      have : (⟨cs'⟩ : Array Value).extract off (off + k) = ⟨(cs'.drop off).take k⟩ := by
        apply Array.ext'
        simp [List.extract_eq_take_drop]
      rw [this]; rfl
    · cases ha
  · rename_i hagg
    obtain ⟨v', h1, h2⟩ := hc.get ((getL_eq _ _).symm.trans ha)
    refine ⟨v', h2, ?_⟩
    simp [part, Sem.run_bind, isAggA_sound P hagg, h1]
  · cases ha

variable (P)
def aField (t : TypeId) (x : Value) (f : Nat) : Option Value :=
  match x with
  | .agg ⟨cs⟩ => match P.underlying t with
    | some (.struct fields) => match fields[f]? with
      | some fd => partA P fd.type cs fd.offset
      | none => none
    | _ => none
  | _ => none

def aIndexAgg (t : TypeId) (x ix : Value) : Option Value :=
  match x, ix with
  | .agg ⟨cs⟩, .int _ i => match P.underlying t with
    | some (.array len el) => match idx i len, sizeA P el with
      | some j, some k => partA P el cs (j * k)
      | _, _ => none
    | _ => none
  | _, _ => none
variable {P}

theorem aField_sound {t : TypeId} {x x' v : Value} {f : Nat} (hx : Rv e x x') (ha : aField P t x f = some v) (w : World) :
    ∃ v', Rv e v v' ∧ (Instr.field t x' f).run P w = .ok v' w := by
  unfold aField at ha
  split at ha
  · rename_i cs
    obtain ⟨cs', rfl, hc⟩ := hx.agg_inv
    split at ha
    · rename_i fields hu
      split at ha
      · rename_i fd hf
        obtain ⟨v', h1, h2⟩ := partA_sound hc ha w
        exact ⟨v', h1, by simp [Instr.field, Sem.run_bind, run_underlying hu, hf, asAgg, h2]⟩
      · cases ha
    · cases ha
  · cases ha

theorem aIndexAgg_sound {t : TypeId} {x x' ix ix' v : Value} (hx : Rv e x x') (hi : Rv e ix ix') (ha : aIndexAgg P t x ix = some v) (w : World) :
    ∃ v', Rv e v v' ∧ (Instr.index t x' ix').run P w = .ok v' w := by
  unfold aIndexAgg at ha
  split at ha
  · rename_i cs kk i
    obtain ⟨cs', rfl, hc⟩ := hx.agg_inv
    obtain rfl := hi.int_inv
    split at ha
    · rename_i len el hu
      split at ha
      · rename_i j k hj hk
        obtain ⟨rfl, hlt⟩ := idx_sound hj
        obtain ⟨v', h1, h2⟩ := partA_sound hc ha w
        exact ⟨v', h1, by simp [Instr.index, asIntOf, Sem.run_bind, run_underlying hu, sizeA_sound P hk, hlt, h2]⟩
      · cases ha
    · cases ha
  · cases ha

variable (P)
def zeroA (t : TypeId) : Option Value :=
  match P.info? t with
  | some i => match i.zero with
    | some z => match ground z with | true => some z | false => none
    | none => none
  | none => none
variable {P}

theorem zeroA_sound {t : TypeId} {z : Value} (h : zeroA P t = some z) (w : World) : (zeroValue t).run P w = .ok z w ∧ ∀ e : Env, Rv e z z := by
  unfold zeroA at h
  split at h
  · rename_i i hi
    split at h
    · rename_i z' hz
      split at h
      · rename_i hg; cases h
        exact ⟨by simp [zeroValue, typeInfo, hi, hz, Sem.run_bind], fun e => Rv.of_ground _ hg⟩
      · cases h
    · cases h
  · cases h

def aNew (t : TypeId) (v : Value) (h : AH) : Option (Value × AH) :=
  match h.new (.cells (cellsL v) t false) with
  | some h' => some (.pointer (some ⟨h.next, 0, none⟩), h')
  | none => none

theorem aNew_sound (hw : Rw P e h w0 w) {t : TypeId} {v v' p : Value} (hv : Rv e v v') {h' : AH} (ha : aNew t v h = some (p, h')) :
    ∃ e' p' w', e.le e' ∧ Rv e' p (.pointer (some p')) ∧ (newVar t v').run P w = .ok p' w' ∧ Rw P e' h' w0 w' := by
  unfold aNew at ha
  split at ha
  · rename_i h1 hn
    cases ha
    obtain ⟨e', hle, he', hw'⟩ := hw.new_cells (cellsL_rel hv) t hn
    exact ⟨e', ⟨w.heap.size, 0, none⟩, _, hle, .ptr _ _ _ _ _ he', rfl, hw'⟩
  · cases ha

end
end Go.Ab
