/- Operations on names (2): aggregates, slices made of parts, make, slicing. -/
import Derived.Test.YtiafmiembjomhaaGreatAbOps1
import Derived.Laws.Tables
set_option linter.unusedSimpArgs false
set_option linter.unusedVariables false
set_option linter.unusedSectionVars false
set_option linter.unnecessarySimpa false
namespace Go.Ab
noncomputable section
open Go Go.RowKit
variable {S0 : Sym}

inductive Rp (e : Env) : List (Nat × Value) → List (Nat × Value) → Prop
  | nil : Rp e [] []
  | cons (i : Nat) (v v' : Value) (l l' : List (Nat × Value)) (h : Rv e v v') (hl : Rp e l l') : Rp e ((i, v) :: l) ((i, v') :: l')

def fillA (place : Nat → Option (Nat × Nat)) : List Value → List (Nat × Value) → Option (List Value)
  | cells, [] => some cells
  | cells, (i, v) :: rest => match place i with
    | none => none
    | some (off, size) => match Nat.beq (cellsL v).length size, Nat.ble (off + (cellsL v).length) cells.length with
      | true, true => fillA place (over cells off (cellsL v)) rest
      | _, _ => none

theorem foldl_over (off : Nat) : ∀ (l : List Value) (k : Nat) (cs : Array Value), off + k + l.length ≤ cs.size →
    ((l.zipIdx k).foldl (fun cs (x : Value × Nat) => cs.setIfInBounds (off + x.2) x.1) cs).toList = over cs.toList (off + k) l
  | [], k, cs, h => by simp [over]
  | v :: l, k, cs, h => by
    simp only [List.zipIdx_cons, List.foldl_cons]
    rw [foldl_over off l (k + 1) _ (by simp at h ⊢; omega)]
    simp only [Array.toList_setIfInBounds, over]
    apply List.ext_getElem?
    intro j
    simp at h
    rw [show off + (k + 1) = off + k + 1 by omega]
    simp only [List.getElem?_append, List.length_take, List.length_set, List.length_cons, List.getElem?_take, List.getElem?_set, List.getElem?_drop, List.getElem?_cons, Array.length_toList]
    have hm1 : min (off + k + 1) cs.size = off + k + 1 := by omega
    have hm2 : min (off + k) cs.size = off + k := by omega
    rw [hm1, hm2]
    by_cases h1 : j < off + k
    · simp [h1, show j < off + k + 1 by omega, show ¬ off + k = j by omega]
    · by_cases h2 : j = off + k
      · subst h2; simp; omega
      · have h3 : ¬ j < off + k + 1 := by omega
        simp only [h1, h3, if_false]
        by_cases h4 : j - (off + k + 1) < l.length
        · have : j - (off + k) < l.length + 1 := by omega
          have h5 : ¬ j - (off + k) = 0 := by omega
          simp only [h4, this, if_true, h5, if_false]
          congr 1
        · have h5 : ¬ j - (off + k) < l.length + 1 := by omega
          simp only [h4, h5, if_false]
          have h6 : ¬ off + k = off + k + 1 + l.length + (j - (off + k + 1) - l.length) := by omega
          simp only [h6, if_false]
          congr 1; omega

theorem over_rel {e : Env} {c c' vs vs' : List Value} (off : Nat) (hc : Rl e c c') (hv : Rl e vs vs') : Rl e (over c off vs) (over c' off vs') := by
  unfold over; rw [hv.length]; exact (hc.take off).append (hv.append (hc.drop _))

theorem fillA_sound {e : Env} {place : Nat → Option (Nat × Nat)} : ∀ {parts parts' : List (Nat × Value)} {cells cells' out : List Value}, Rp e parts parts' → Rl e cells cells' →
    fillA place cells parts = some out → ∃ out', Instr.fill place ⟨cells'⟩ parts' = some ⟨out'⟩ ∧ Rl e out out'
  | _, _, cells, cells', out, .nil, hc, h => by
    simp only [fillA, Option.some.injEq] at h; subst h; exact ⟨cells', rfl, hc⟩
  | _, _, cells, cells', out, .cons i v v' l l' hv hl, hc, h => by
    simp only [fillA] at h
    split at h
    · cases h
    · rename_i off size hp
      split at h
      · rename_i h1 h2
        have h1 := Nat.eq_of_beq_eq_true h1
        have h2 := Nat.le_of_ble_eq_true h2
        have hcl := cellsL_rel hv
        obtain ⟨out', ho, hr⟩ := fillA_sound hl (over_rel off hc hcl) h
        refine ⟨out', ?_, hr⟩
        have hlen : v'.cells.size = size := by rw [← h1, hcl.length, Array.length_toList]
        have hfit : off + v'.cells.size ≤ cells'.length := by rw [hlen, ← h1, ← hc.length]; exact h2
        have hf := foldl_over off v'.cells.toList 0 ⟨cells'⟩ (by simpa using hfit)
        simp only [Instr.fill, hp, hlen, ne_eq, not_true_eq_false, decide_false, Bool.false_or]
        rw [if_neg (by simp; rw [hlen] at hfit; exact hfit)]
        rw [← ho]
        congr 1
        apply Array.ext'
        rw [← Array.foldl_toList, Array.toList_zipIdx]
        simpa using hf
      · cases h

variable (P : Program)

def placesA : List Field → Option (List (Nat × Nat))
  | [] => some []
  | f :: fs => match sizeA P f.type, placesA fs with
    | some k, some l => some ((f.offset, k) :: l)
    | _, _ => none

theorem placesA_eq : ∀ {fs : List Field} {l : List (Nat × Nat)}, placesA P fs = some l → fs.mapM (fun f => (P.info? f.type).map fun i => (f.offset, i.size)) = some l
  | [], l, h => by simp only [placesA, Option.some.injEq] at h; subst h; rfl
  | f :: fs, l, h => by
    simp only [placesA] at h
    split at h
    · rename_i k l' hk hl
      cases h
      unfold sizeA at hk
      split at hk
      · rename_i i hi; cases hk
        simp [List.mapM_cons, hi, placesA_eq hl]
      · cases hk
    · cases h

def aBuild (t : TypeId) (parts : List (Nat × Value)) : Option Value :=
  match zeroA P t with
  | some z => match P.underlying t with
    | some (.struct fields) => match placesA P fields.toList with
      | some places => match fillA (fun i => places[i]?) (cellsL z) parts with
        | some l => some (.agg ⟨l⟩)
        | none => none
      | none => none
    | some (.array _ el) => match sizeA P el with
      | some k => match fillA (fun i => some (i * k, k)) (cellsL z) parts with
        | some l => some (.agg ⟨l⟩)
        | none => none
      | none => none
    | _ => none
  | none => none
variable {P}
variable {e : Env} {h : AH} {w0 : Bs S0} {w : World}

theorem aBuild_sound {t : TypeId} {parts parts' : List (Nat × Value)} {v : Value} (hp : Rp e parts parts') (ha : aBuild P t parts = some v) (w : World) :
    ∃ v', Rv e v v' ∧ (Instr.build t ⟨parts'⟩).run P w = .ok v' w := by
  unfold aBuild at ha
  split at ha
  · rename_i z hz
    have hzr := (zeroA_sound hz w).2 e
    have hzc := cellsL_rel hzr
    unfold zeroA at hz
    split at hz
    · rename_i it hit
      split at hz
      · rename_i z' hz'
        split at hz
        · cases hz
          split at ha
          · rename_i fields hu
            split at ha
            · rename_i places hpl
              split at ha
              · rename_i l hf
                cases ha
                obtain ⟨out', ho, hr⟩ := fillA_sound hp hzc hf
                refine ⟨.agg ⟨out'⟩, .agg _ _ hr, run_build w t ⟨parts'⟩ ⟨out'⟩ ?_⟩
                simp only [Program.built, hit, hu, hz', placesA_eq P hpl]
                rw [← ho, show (fun i => places.toArray[i]?) = fun i => places[i]? from funext fun i => by simp]
              · cases ha
            · cases ha
          · rename_i n el hu
            split at ha
            · rename_i k hk
              split at ha
              · rename_i l hf
                cases ha
                obtain ⟨out', ho, hr⟩ := fillA_sound hp hzc hf
                refine ⟨.agg ⟨out'⟩, .agg _ _ hr, run_build w t ⟨parts'⟩ ⟨out'⟩ ?_⟩
                unfold sizeA at hk
                split at hk
                · rename_i ie hie; cases hk
                  simp only [Program.built, hit, hu, hz', hie]
                  rw [← ho]
                · cases hk
              · cases ha
            · cases ha
          · cases ha
        · cases hz
      · cases hz
    · cases hz
  · cases ha

/-- So many zero elements. -/
def zerosL (z : List Value) (n : Nat) : List Value := (List.range n).map fun j => match z[j % z.length]? with | some v => v | none => default

theorem zerosL_eq (z : List Value) (n : Nat) : (Array.range n).map (fun j => (⟨z⟩ : Array Value)[j % (⟨z⟩ : Array Value).size]!) = ⟨zerosL z n⟩ := by
  apply Array.ext'
  simp only [Array.toList_map, Array.toList_range, zerosL]
  apply List.map_congr_left
  intro j _
  show (⟨z⟩ : Array Value)[j % z.length]! = _
  rw [getElem!_def]
  simp only [List.getElem?_toArray]
  cases z[j % z.length]? <;> rfl

theorem zerosL_length (z : List Value) (n : Nat) : (zerosL z n).length = n := by simp [zerosL]

theorem zerosL_rel {e : Env} {z z' : List Value} (hz : Rl e z z') (n : Nat) (h0 : n = 0 ∨ 0 < z.length) : Rl e (zerosL z n) (zerosL z' n) := by
  unfold zerosL
  have : ∀ l : List Nat, (l = [] ∨ 0 < z.length) → Rl e (l.map fun j => match z[j % z.length]? with | some v => v | none => default) (l.map fun j => match z'[j % z'.length]? with | some v => v | none => default) := by
    intro l hl
    induction l with
    | nil => exact .nil
    | cons j l ih =>
      have hpos : 0 < z.length := by rcases hl with h | h; cases h; exact h
      refine .cons _ _ _ _ ?_ (ih (.inr hpos))
      have hj : j % z.length < z.length := Nat.mod_lt _ hpos
      obtain ⟨v', h1, h2⟩ := hz.get (List.getElem?_eq_getElem hj)
      rw [hz.length] at h1 ⊢
      simp only [h1]
      rw [List.getElem?_eq_getElem (by rw [hz.length]; rw [← hz.length]; exact hj)]
      simp only [hz.length] at h2
      exact h2
  refine this _ ?_
  rcases h0 with rfl | h0
  · exact .inl rfl
  · exact .inr h0

variable (P)
def aBuildSlice (t : TypeId) (len : Nat) (parts : List (Nat × Value)) (h : AH) : Option (Value × AH) :=
  match P.underlying t with
  | some (.slice el) => match sizeA P el, zeroA P el with
    | some (k + 1), some z => match Nat.ble (len * (k + 1)) 16777216, Nat.ble 1 (cellsL z).length with
      | true, true => match fillA (fun i => some (i * (k + 1), k + 1)) (zerosL (cellsL z) (len * (k + 1))) parts with
        | some l => match h.new (.cells l el false) with
          | some h' => some (.slice (some ⟨h.next, 0, none⟩) len len, h')
          | none => none
        | none => none
      | _, _ => none
    | _, _ => none
  | _ => none
variable {P}

theorem fillA_length {place : Nat → Option (Nat × Nat)} : ∀ {parts : List (Nat × Value)} {cells out : List Value}, fillA place cells parts = some out → out.length = cells.length
  | [], cells, out, h => by simp only [fillA, Option.some.injEq] at h; subst h; rfl
  | (i, v) :: parts, cells, out, h => by
    simp only [fillA] at h
    split at h
    · cases h
    · split at h
      · rename_i h1 h2
        have h2 := Nat.le_of_ble_eq_true h2
        rw [fillA_length h]; unfold over; simp; omega
      · cases h

theorem capNe {n : Nat} (h : n ≤ 16777216) : n ≠ capRest := by unfold capRest; omega

theorem aBuildSlice_sound (hw : Rw P e h w0 w) {t : TypeId} {len : Nat} {parts parts' : List (Nat × Value)} {v : Value} {h' : AH} (hp : Rp e parts parts') (ha : aBuildSlice P t len parts h = some (v, h')) :
    ∃ e' v' w', e.le e' ∧ Rv e' v v' ∧ (Instr.buildSlice t len ⟨parts'⟩).run P w = .ok v' w' ∧ Rw P e' h' w0 w' := by
  unfold aBuildSlice at ha
  split at ha
  · rename_i el hu
    split at ha
    · rename_i k z hk hz
      split at ha
      · rename_i h1 h2
        have h1 := Nat.le_of_ble_eq_true h1
        have h2 := Nat.le_of_ble_eq_true h2
        obtain ⟨hz1, hz2⟩ := zeroA_sound hz w
        have hzc := cellsL_rel (hz2 e)
        split at ha
        · rename_i l hf
          split at ha
          · rename_i h2' hn
            cases ha
            obtain ⟨out', ho, hr⟩ := fillA_sound hp (zerosL_rel hzc (len * (k + 1)) (.inr (by omega))) hf
            obtain ⟨e', hle, he', hw'⟩ := hw.new_cells hr el hn
            have hle1 : len ≤ 16777216 := by
              have : len * 1 ≤ len * (k + 1) := Nat.mul_le_mul_left _ (by omega)
              omega
            refine ⟨e', .slice (some ⟨w.heap.size, 0, none⟩) len len, _, hle, .slice _ _ _ _ _ _ _ _ he' (fun _ => rfl) (fun hc => absurd hc (capNe hle1)) (Nat.le_refl _), ?_, hw'⟩
            have hnz : ¬ 2 ^ 24 < len * (k + 1) := by omega
            have hb := zerosL_eq z.cells.toList (len * (k + 1))
            by_cases hl0 : len = 0
            · subst hl0
              have ho' : Instr.fill (fun i => some (i * (k + 1), k + 1)) #[] parts' = some ⟨out'⟩ := by simpa [zerosL] using ho
              have hr0 : ∀ f : Nat → Value, (Array.range 0).map f = #[] := fun f => by simp
              simp [Instr.buildSlice, Sem.run_bind, run_underlying hu, sizeA_sound P hk, hr0, ho']
              rfl
            · have hne : ¬ (len * (k + 1) = 0) := by rw [Nat.mul_eq_zero]; omega
              have ho' : Instr.fill (fun i => some (i * (k + 1), k + 1)) ((Array.range (len * (k + 1))).map fun j => z.cells[j % z.cells.size]!) parts' = some ⟨out'⟩ := by
                rw [← ho]; congr 1
              simp [Instr.buildSlice, Sem.run_bind, run_underlying hu, sizeA_sound P hk, hnz, hne, hz1, ho']
              rfl
          · cases ha
        · cases ha
      · cases ha
    · cases ha
  · cases ha

end
end Go.Ab
