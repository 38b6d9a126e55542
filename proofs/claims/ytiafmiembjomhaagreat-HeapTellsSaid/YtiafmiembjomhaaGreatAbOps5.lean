/- Operations on names (5): maps, comparisons with nil, type assertions. -/
import Derived.Test.YtiafmiembjomhaaGreatAbOps4
set_option linter.unusedSimpArgs false
set_option linter.unusedVariables false
set_option linter.unusedSectionVars false
set_option linter.unnecessarySimpa false
namespace Go.Ab
noncomputable section
open Go Go.RowKit
variable {S0 : Sym}

variable {P : Program} {e : Env} {h : AH} {w0 : Bs S0} {w : World}

theorem sameNow_scalar {d : TypeDesc} {k x : Value} {b : Bool} (h : Instr.sameNow d k x = some b) : scalar k = true ∧ scalar x = true := by
  unfold Instr.sameNow at h
  split at h <;> first | exact ⟨rfl, rfl⟩ | cases h

theorem findNow_sound {d : TypeDesc} {k k' : Value} (hk : Rv e k k') : ∀ {es es' : List MapEntry} (i : Nat) {r : Option (Nat × Value)}, Re e es es' → Instr.findNow d k es i = some r →
    (r = none ∧ Instr.findNow d k' es' i = some none) ∨ ∃ j v v', r = some (i + j, v) ∧ Instr.findNow d k' es' i = some (some (i + j, v')) ∧ Rv e v v' ∧
      ∃ en en', es[j]? = some en ∧ es'[j]? = some en' ∧ en.val = v ∧ en'.val = v' ∧ scalar en.key = true ∧ en'.key = en.key ∧ scalar k = true
  | _, _, i, r, .nil, h => by
    simp only [Instr.findNow, Option.some.injEq] at h; subst h; exact .inl ⟨rfl, rfl⟩
  | _, _, i, r, .cons x x' l l' hkx hvx hb hl, h => by
    rw [Instr.findNow] at h
    cases hs : Instr.sameNow d k x.key with
    | none => rw [hs] at h; cases h
    | some b =>
      rw [hs] at h
      obtain ⟨s1, s2⟩ := sameNow_scalar hs
      have e1 := hk.scalar_inv s1
      have e2 := hkx.scalar_inv s2
      cases b with
      | true =>
        simp only [Option.some.injEq] at h
        subst h
        refine .inr ⟨0, x.val, x'.val, rfl, ?_, hvx, x, x', rfl, rfl, rfl, rfl, s2, e2, s1⟩
        rw [Instr.findNow, e1, e2, hs]
        rfl
      | false =>
        simp only at h
        rcases findNow_sound hk (i + 1) hl h with ⟨h1, h2⟩ | ⟨j, v, v', h1, h2, h3, en, en', h4, h5, h6⟩
        · refine .inl ⟨h1, ?_⟩
          rw [Instr.findNow, e1, e2, hs]; rw [e1] at h2; exact h2
        · refine .inr ⟨j + 1, v, v', ?_, ?_, h3, en, en', by simpa using h4, by simpa using h5, h6⟩
          · rw [h1]; congr 2; omega
          · rw [Instr.findNow, e1, e2, hs]; rw [e1] at h2; rw [show i + (j + 1) = i + 1 + j by omega]; exact h2

theorem Re.length {e : Env} : ∀ {l l' : List MapEntry}, Re e l l' → l.length = l'.length
  | _, _, .nil => rfl
  | _, _, .cons _ _ _ _ _ _ _ h => by simp [Re.length h]

theorem Re.append {e : Env} : ∀ {l l' m m' : List MapEntry}, Re e l l' → Re e m m' → Re e (l ++ m) (l' ++ m')
  | _, _, _, _, .nil, h => h
  | _, _, _, _, .cons x x' l l' hk hv hb hl, k => .cons _ _ _ _ hk hv hb (Re.append hl k)

theorem Re.set {e : Env} : ∀ {l l' : List MapEntry} (n : Nat) {v v' : MapEntry}, Re e l l' → Rv e v.key v'.key → Rv e v.val v'.val → v'.born = v.born → Re e (l.set n v) (l'.set n v')
  | _, _, _, _, _, .nil, _, _, _ => by simpa using Re.nil
  | _, _, 0, _, _, .cons x x' l l' hk hv hb hl, k1, k2, k3 => by simpa using Re.cons _ _ _ _ k1 k2 k3 hl
  | _, _, n + 1, _, _, .cons x x' l l' hk hv hb hl, k1, k2, k3 => by simpa using Re.cons _ _ _ _ hk hv hb (Re.set n hl k1 k2 k3)

theorem Re.eraseIdx {e : Env} : ∀ {l l' : List MapEntry} (n : Nat), Re e l l' → Re e (l.eraseIdx n) (l'.eraseIdx n)
  | _, _, _, .nil => by simpa using Re.nil
  | _, _, 0, .cons x x' l l' hk hv hb hl => by simpa using hl
  | _, _, n + 1, .cons x x' l l' hk hv hb hl => by simpa using Re.cons _ _ _ _ hk hv hb (Re.eraseIdx n hl)

theorem Re.get {e : Env} : ∀ {l l' : List MapEntry}, Re e l l' → ∀ {i : Nat} {v : MapEntry}, l[i]? = some v → ∃ v', l'[i]? = some v' ∧ Rv e v.key v'.key ∧ Rv e v.val v'.val ∧ v'.born = v.born
  | _, _, .nil, i, v, h => by simp at h
  | _, _, .cons x x' l l' hk hv hb hl, 0, y, hx => by
    simp at hx; subst hx; exact ⟨x', rfl, hk, hv, hb⟩
  | _, _, .cons x x' l l' hk hv hb hl, i + 1, y, hx => by
    simp at hx; simpa using Re.get hl hx

theorem Rw.map_of (hw : Rw P e h w0 w) {n : Nat} {l : List MapEntry} {clock : Nat} (hg : h.tbl.get n = some (.map l clock)) {b sz es : Nat} (he : e n = some (b, sz, es)) :
    ∃ l', w0.w.heap.size ≤ b ∧ w.heap[b]? = some (.map ⟨l'⟩ clock) ∧ Re e l l' := by
  obtain ⟨h2, o, h3, h4⟩ := hw.live n _ _ _ _ hg he
  cases h4 with
  | map _ l' _ hl => exact ⟨l', h2, h3, hl⟩

variable (P)
def keyOk (empty : Bool) (kt : TypeId) (k : Value) : Bool :=
  match ground k, pureRun P (Instr.checkKey empty 10000 kt k) with
  | true, some _ => true
  | _, _ => false
variable {P}

theorem keyOk_sound {empty : Bool} {kt : TypeId} {k k' : Value} (hk : Rv e k k') (h : keyOk P empty kt k = true) (w : World) : k' = k ∧ (Instr.checkKey empty 10000 kt k).run P w = .ok () w := by
  unfold keyOk at h
  split at h
  · rename_i u h1 h2
    exact ⟨hk.ground_inv h1, pureRun_sound P _ h2 w⟩
  · cases h

variable (P)
def aLookup (t : TypeId) (x k : Value) (ok : Bool) (h : AH) : Option Value :=
  match P.underlying t with
  | some (.map kt el) => match P.underlying kt, (match x with
      | .map none => some []
      | .map (some n) => match h.tbl.get n with
        | some (.map l _) => some l
        | _ => none
      | _ => none) with
    | some kd, some l => match keyOk P l.isEmpty kt k, Instr.findNow kd k l 0 with
      | true, some (some (_, v)) => some (match ok with | true => .tuple ⟨[v, .bool true]⟩ | false => v)
      | true, some none => match zeroA P el with
        | some z => some (match ok with | true => .tuple ⟨[z, .bool false]⟩ | false => z)
        | none => none
      | _, _ => none
    | _, _ => none
  | _ => none
variable {P}

theorem aLookup_sound (hw : Rw P e h w0 w) {t : TypeId} {x x' k k' v : Value} {ok : Bool} (hx : Rv e x x') (hk : Rv e k k') (ha : aLookup P t x k ok h = some v) :
    ∃ v', Rv e v v' ∧ (Instr.lookup t x' k' ok).run P w = .ok v' w := by
  unfold aLookup at ha
  split at ha
  · rename_i kt el hu
    split at ha
    · rename_i kd l hkd hl
      have hL : ∃ l', Re e l l' ∧ ((x' = .map none ∧ l' = []) ∨ ∃ b clock, x' = .map (some b) ∧ (getObj b).run P w = .ok (.map ⟨l'⟩ clock) w) := by
        split at hl
        · cases hl
          obtain rfl := hx.scalar_inv rfl
          exact ⟨[], .nil, .inl ⟨rfl, rfl⟩⟩
        · rename_i n
          split at hl
          · rename_i l2 clock hg
            cases hl
            obtain ⟨b, sz, es, h1, rfl⟩ := hx.map_inv
            obtain ⟨l', h2, h3, h4⟩ := hw.map_of hg h1
            exact ⟨l', h4, .inr ⟨b, clock, rfl, by simp [getObj, Sem.run, h3]⟩⟩
          · cases hl
        · cases hl
      obtain ⟨l', hre, hrun⟩ := hL
      have hemp : l.isEmpty = l'.isEmpty := by
        have := hre.length
        cases l <;> cases l' <;> simp_all
      split at ha
      · rename_i i v1 hko hf
        obtain ⟨rfl, hck⟩ := keyOk_sound hk hko w
        rcases findNow_sound (Rv.of_ground (e := e) k' (by unfold keyOk at hko; split at hko; assumption; cases hko)) 0 hre hf with ⟨h1, _⟩ | ⟨j, v2, v', h1, h2, h3, _⟩
        · cases h1
        · cases h1
          have hfk : (Instr.findKey kt k' l').run P w = .ok (some (0 + j, v')) w := by simp [Instr.findKey, Sem.run_bind, run_underlying hkd, h2]
          cases ha
          cases ok with
          | true =>
            refine ⟨.tuple ⟨[v', .bool true]⟩, .tuple _ _ (.cons _ _ _ _ h3 (.cons _ _ _ _ (.sc _ rfl) .nil)), ?_⟩
            simp [hemp] at hck
            rcases hrun with ⟨rfl, rfl⟩ | ⟨b, clock, rfl, hgo⟩
            · simp [Instr.lookup, Sem.run_bind, run_underlying hu] at hck hfk ⊢
              simp [hck, hfk]
            · simp [Instr.lookup, Sem.run_bind, run_underlying hu, hgo, hck, hfk]
          | false =>
            refine ⟨v', h3, ?_⟩
            simp [hemp] at hck
            rcases hrun with ⟨rfl, rfl⟩ | ⟨b, clock, rfl, hgo⟩
            · simp [Instr.lookup, Sem.run_bind, run_underlying hu] at hck hfk ⊢
              simp [hck, hfk]
            · simp [Instr.lookup, Sem.run_bind, run_underlying hu, hgo, hck, hfk]
      · rename_i hko hf
        obtain ⟨rfl, hck⟩ := keyOk_sound hk hko w
        rcases findNow_sound (Rv.of_ground (e := e) k' (by unfold keyOk at hko; split at hko; assumption; cases hko)) 0 hre hf with ⟨_, h2⟩ | ⟨j, v2, v', h1, _⟩
        · have hfk : (Instr.findKey kt k' l').run P w = .ok none w := by simp [Instr.findKey, Sem.run_bind, run_underlying hkd, h2]
          split at ha
          · rename_i z hz
            obtain ⟨hz1, hz2⟩ := zeroA_sound hz w
            cases ha
            cases ok with
            | true =>
              refine ⟨.tuple ⟨[z, .bool false]⟩, .tuple _ _ (.cons _ _ _ _ (hz2 e) (.cons _ _ _ _ (.sc _ rfl) .nil)), ?_⟩
              simp [hemp] at hck
              rcases hrun with ⟨rfl, rfl⟩ | ⟨b, clock, rfl, hgo⟩
              · simp [Instr.lookup, Sem.run_bind, run_underlying hu] at hck hfk ⊢
                simp [hck, hfk, hz1]
              · simp [Instr.lookup, Sem.run_bind, run_underlying hu, hgo, hck, hfk, hz1]
            | false =>
              refine ⟨z, hz2 e, ?_⟩
              simp [hemp] at hck
              rcases hrun with ⟨rfl, rfl⟩ | ⟨b, clock, rfl, hgo⟩
              · simp [Instr.lookup, Sem.run_bind, run_underlying hu] at hck hfk ⊢
                simp [hck, hfk, hz1]
              · simp [Instr.lookup, Sem.run_bind, run_underlying hu, hgo, hck, hfk, hz1]
          · cases ha
        · cases h1
      · cases ha
    · cases ha
  · cases ha

variable (P)
def aMapUpdate (t : TypeId) (m k v : Value) (h : AH) : Option AH :=
  match P.underlying t, m with
  | some (.map kt _), .map (some n) => match P.underlying kt, h.tbl.get n with
    | some kd, some (.map l clock) => match keyOk P false kt k, Instr.findNow kd k l 0 with
      | true, some (some (i, _)) => match l[i]? with
        | some en => match Instr.sameBits 10000 en.key k with
          | true => h.put n (some (.map (l.set i ⟨k, v, en.born⟩) clock))
          | false => none
        | none => none
      | true, some none => h.put n (some (.map (l ++ [⟨k, v, clock⟩]) (clock + 1)))
      | _, _ => none
    | _, _ => none
  | _, _ => none

def aDelete (argTypes : Array TypeId) (m k : Value) (h : AH) : Option AH :=
  match argTypes[0]?, m with
  | some t, .map (some n) => match P.underlying t with
    | some (.map kt _) => match P.underlying kt, h.tbl.get n with
      | some kd, some (.map l clock) => match keyOk P l.isEmpty kt k, Instr.findNow kd k l 0 with
        | true, some (some (i, _)) => h.put n (some (.map (l.eraseIdx i) clock))
        | true, some none => h.put n (some (.map l clock))
        | _, _ => none
      | _, _ => none
    | _ => none
  | _, _ => none
variable {P}

theorem Upd.setObj {b : Nat} (hb : b < w.heap.size) (o : Obj) : Upd b o w { w with heap := w.heap.setIfInBounds b o } :=
  ⟨rfl, rfl, rfl, by simp, by simp [hb], fun k hk => by simp [Array.getElem?_setIfInBounds, Ne.symm hk]⟩

theorem aMapUpdate_sound (hw : Rw P e h w0 w) {t : TypeId} {m m' k k' v v' : Value} {h' : AH} (hm : Rv e m m') (hk : Rv e k k') (hv : Rv e v v') (ha : aMapUpdate P t m k v h = some h') :
    ∃ w', (Instr.mapUpdate t m' k' v').run P w = .ok () w' ∧ Rw P e h' w0 w' := by
  unfold aMapUpdate at ha
  split at ha
  · rename_i kt el n hu
    split at ha
    · rename_i kd l clock hkd hg
      obtain ⟨b, sz, es, h1, rfl⟩ := hm.map_inv
      obtain ⟨l', h2, h3, hre⟩ := hw.map_of hg h1
      have hlt : b < w.heap.size := (Array.getElem?_eq_some_iff.1 h3).1
      split at ha
      · rename_i i v1 hko hf
        obtain ⟨rfl, hck⟩ := keyOk_sound hk hko w
        have hgk : ground k' = true := by unfold keyOk at hko; split at hko; assumption; cases hko
        rcases findNow_sound (Rv.of_ground (e := e) k' hgk) 0 hre hf with ⟨h1', _⟩ | ⟨j, v2, v3, h1', h2', h3', en, en', h4, h5, h6, h7, h8, h9, h10⟩
        · cases h1'
        · cases h1'
          simp only [Nat.zero_add] at ha h2'
          rw [h4] at ha
          simp only at ha
          split at ha
          · rename_i hsb
            have hfk : (Instr.findKey kt k' l').run P w = .ok (some (j, en'.val)) w := by simp [Instr.findKey, Sem.run_bind, run_underlying hkd, h2', h7]
            obtain ⟨en2, hen2, _, _, hborn⟩ := hre.get h4
            rw [h5] at hen2; cases hen2
            have hmodl : (l'.modify j fun e => { e with key := k', val := v' }) = l'.set j ⟨k', v', en.born⟩ := by
              apply List.ext_getElem?
              intro q
              rw [List.getElem?_modify, List.getElem?_set]
              by_cases hq : j = q
              · subst hq
                rw [h5]; simp [hborn, (List.getElem?_eq_some_iff.1 h5).1]
              · simp [hq]
            refine ⟨_, ?_, hw.upd hg h1 (Upd.setObj hlt (.map ⟨l'.set j ⟨k', v', en.born⟩⟩ clock)) (.map _ _ _ (hre.set (v := ⟨k', v, en.born⟩) (v' := ⟨k', v', en.born⟩) j (Rv.of_ground _ hgk) hv rfl)) ha⟩
            simp only [Instr.mapUpdate, Sem.run_bind, run_underlying hu, Result.andThen_ok]
            have hgo : (getObj b).run P w = .ok (.map ⟨l'⟩ clock) w := by simp [getObj, Sem.run, h3]
            have hkk : (((⟨l'⟩ : Array MapEntry)[j]?).map (·.key)).getD k' = en.key := by simp [h5, h9]
            simp only [hgo, Result.andThen_ok, Sem.run_bind, hck, hfk, hkk, Instr.keyThatStays, hsb, if_true]
            simp [hmodl, setObj, Sem.run, h3]
          · cases ha
      · rename_i hko hf
        obtain ⟨rfl, hck⟩ := keyOk_sound hk hko w
        have hgk : ground k' = true := by unfold keyOk at hko; split at hko; assumption; cases hko
        rcases findNow_sound (Rv.of_ground (e := e) k' hgk) 0 hre hf with ⟨_, h2'⟩ | ⟨j, v2, v3, h1', _⟩
        · have hfk : (Instr.findKey kt k' l').run P w = .ok none w := by simp [Instr.findKey, Sem.run_bind, run_underlying hkd, h2']
          refine ⟨_, ?_, hw.upd hg h1 (Upd.setObj hlt (.map ⟨l' ++ [⟨k', v', clock⟩]⟩ (clock + 1))) (.map _ _ _ (hre.append (.cons ⟨k', v, clock⟩ ⟨k', v', clock⟩ _ _ (Rv.of_ground _ hgk) hv rfl .nil))) ha⟩
          have hgo : (getObj b).run P w = .ok (.map ⟨l'⟩ clock) w := by simp [getObj, Sem.run, h3]
          simp only [Instr.mapUpdate, Sem.run_bind, run_underlying hu, Result.andThen_ok, hgo, hck, hfk]
          simp [setObj, Sem.run, h3]
        · cases h1'
      · cases ha
    · cases ha
  · cases ha

theorem aDelete_sound (hw : Rw P e h w0 w) {argTypes : Array TypeId} {ty : TypeId} {m m' k k' : Value} {h' : AH} (hm : Rv e m m') (hk : Rv e k k') (ha : aDelete P argTypes m k h = some h') :
    ∃ w', (Builtin.delete_ argTypes ty #[m', k']).run P w = .ok (.tuple #[]) w' ∧ Rw P e h' w0 w' := by
  unfold aDelete at ha
  split at ha
  · rename_i t n hat
    split at ha
    · rename_i kt el hu
      split at ha
      · rename_i kd l clock hkd hg
        obtain ⟨b, sz, es, h1, rfl⟩ := hm.map_inv
        obtain ⟨l', h2, h3, hre⟩ := hw.map_of hg h1
        have hlt : b < w.heap.size := (Array.getElem?_eq_some_iff.1 h3).1
        have hemp : l.isEmpty = l'.isEmpty := by
          have := hre.length
          cases l <;> cases l' <;> simp_all
        have hgo : (getObj b).run P w = .ok (.map ⟨l'⟩ clock) w := by simp [getObj, Sem.run, h3]
        split at ha
        · rename_i i v1 hko hf
          obtain ⟨rfl, hck⟩ := keyOk_sound hk hko w
          have hgk : ground k' = true := by unfold keyOk at hko; split at hko; assumption; cases hko
          rcases findNow_sound (Rv.of_ground (e := e) k' hgk) 0 hre hf with ⟨h1', _⟩ | ⟨j, v2, v3, h1', h2', h3', en, en', h4, h5, h6, h7, h8, h9, h10⟩
          · cases h1'
          · cases h1'
            simp only [Nat.zero_add] at ha h2'
            have hfk : (Instr.findKey kt k' l').run P w = .ok (some (j, en'.val)) w := by simp [Instr.findKey, Sem.run_bind, run_underlying hkd, h2', h7]
            have hj : j < l'.length := (List.getElem?_eq_some_iff.1 h5).1
            have her : (⟨l'⟩ : Array MapEntry).eraseIdxIfInBounds j = ⟨l'.eraseIdx j⟩ := by
              simp [Array.eraseIdxIfInBounds, hj]
            refine ⟨_, ?_, hw.upd hg h1 (Upd.setObj hlt (.map ⟨l'.eraseIdx j⟩ clock)) (.map _ _ _ (hre.eraseIdx j)) ha⟩
            simp [hemp] at hck
            simp [Builtin.delete_, hat, Sem.run_bind, run_underlying hu, hgo, hck, hfk, her, setObj, Sem.run, h3]
        · rename_i hko hf
          obtain ⟨rfl, hck⟩ := keyOk_sound hk hko w
          have hgk : ground k' = true := by unfold keyOk at hko; split at hko; assumption; cases hko
          rcases findNow_sound (Rv.of_ground (e := e) k' hgk) 0 hre hf with ⟨_, h2'⟩ | ⟨j, v2, v3, h1', _⟩
          · have hfk : (Instr.findKey kt k' l').run P w = .ok none w := by simp [Instr.findKey, Sem.run_bind, run_underlying hkd, h2']
            refine ⟨_, ?_, hw.upd hg h1 (Upd.setObj hlt (.map ⟨l'⟩ clock)) (.map _ _ _ hre) ha⟩
            simp [hemp] at hck
            simp [Builtin.delete_, hat, Sem.run_bind, run_underlying hu, hgo, hck, hfk, setObj, Sem.run, h3]
          · cases h1'
        · cases ha
      · cases ha
    · cases ha
  · cases ha

end
end Go.Ab
