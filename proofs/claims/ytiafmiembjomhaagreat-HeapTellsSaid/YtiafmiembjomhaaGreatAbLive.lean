/- The keys of a map of processes, sorted: the hook, and what its contract must be. -/
import Derived.Test.YtiafmiembjomhaaGreatAbEv5
import Derived.Maps.Own
import Derived.Lib.SlKeysI
set_option linter.unusedSimpArgs false
set_option linter.unusedVariables false
set_option linter.unusedSectionVars false
set_option linter.unnecessarySimpa false
namespace Go.Ab
noncomputable section
open Go Go.RowKit Go.Maps
variable {S0 : Sym}

/-- 'Live' of a struct whose map of ints stands at a place: the one key in a new slice. -/
def liveHook (fLive place : Nat) (el : TypeId) : Hook := fun f args h =>
  match Nat.beq f fLive with
  | true => match args with
    | [.pointer (some ⟨n, 0, none⟩)] => match h.tbl.get n with
      | some (.cells c _ _) => match c[place]? with
        | some (.map (some m)) => match h.tbl.get m with
          | some (.map [] _) => some (.ret (.slice none 0 0) h)
          | some (.map [en] clock) => match en.key with
            | .int .i64 (.ofNat k) => match Nat.ble k 1000000, Nat.blt en.born clock with
              | true, true => match h.new (.cells [.int .i64 (.ofNat k)] el true) with
                | some h' => some (.ret (.slice (some ⟨h.next, 0, none⟩) 1 capRest) h')
                | none => none
              | _, _ => none
            | _ => none
          | _ => none
        | _ => none
      | _ => none
    | _ => none
  | false => none

/-- What the function's contract must say. -/
def LiveSaid (P : Program) (fLive place : Nat) (el : TypeId) : Prop :=
  ∀ (bh b nn : Nat) (D0 : DataW Unit) (R : Value → Option (DataW Unit × List MemPlace)) (w : World), w.cell? ⟨bh, place, none⟩ = some (.map (some b)) → w.ownsMap P el R b nn D0 → Maps.size D0 ≤ maxLen → Maps.size D0 * 8 ≤ 140737488355328 →
    Calls P fLive #[.pointer (some ⟨bh, 0, none⟩)] w fun e w' => ∃ (v : Value) (ss : List Int), e = .returned v ∧ ss.Perm (intKeys D0) ∧
      w'.ownsRow (w.heap.size + 1) el 1 v ss.length ((ss.mergeSort (fun x y => decide (x ≤ y))).map (Value.int .i64)) ∧ (v = .slice none 0 0 ↔ ss = []) ∧ Below w.heap.size w w'

theorem Rw.grown {P : Program} {e : Env} {h : AH} {w0 : Bs S0} {w w' : World} (hw : Rw P e h w0 w) (hb : Below w.heap.size w w') : Rw P e h w0 w' := by
  refine ⟨hw.below.trans (hb.mono hw.below.size), hw.base, ?_, hw.inj, hw.fresh, hw.prot⟩
  intro n ob b sz es hg he
  obtain ⟨h1, o, h2, h3⟩ := hw.live n ob b sz es hg he
  exact ⟨h1, o, by rw [hb.block b (hw.lt hg he)]; exact h2, h3⟩

/-- A block that no name stands for comes to stand for a new one. -/
theorem Rw.bind {P : Program} {e : Env} {h h' : AH} {w0 : Bs S0} {w w' : World} (hw : Rw P e h w0 w) (hbl : Below w.heap.size w w') {g sz es : Nat} {ob : AB} {o : Obj} (hg : w.heap.size ≤ g) (ho : w'.heap[g]? = some o)
    (hb : Rb P e sz es ob o) (hp : h.new ob = some h') : e.le (e.ext h.next (g, sz, es)) ∧ Rw P (e.ext h.next (g, sz, es)) h' w0 w' := by
  have hfr := hw.fresh h.next (Nat.le_refl _)
  have hle : e.le (e.ext h.next (g, sz, es)) := Env.le_ext hfr _
  have hw' := hw.grown hbl
  have hnx := AH.new_next hp
  refine ⟨hle, hw'.below, hw'.base, ?_, ?_, ?_, ?_⟩
  · intro m obm b1 s1 e1 hm h1
    rw [AH.new_get hp] at hm
    by_cases hmn : m = h.next
    · subst hmn
      rw [if_pos rfl] at hm; cases hm
      rw [Env.ext_self] at h1; cases h1
      exact ⟨Nat.le_trans hw.below.size hg, o, ho, hb.mono hle⟩
    · rw [if_neg hmn] at hm
      rw [Env.ext_ne _ _ hmn] at h1
      obtain ⟨h2, o1, h3, h4⟩ := hw'.live m obm _ _ _ hm h1
      exact ⟨h2, o1, h3, h4.mono hle⟩
  · intro m k obm obk b1 s1 e1 s2 e2 hm hk h1 h2
    rw [AH.new_get hp] at hm hk
    by_cases hmn : m = h.next
    · by_cases hkn : k = h.next
      · rw [hmn, hkn]
      · rw [if_neg hkn] at hk
        subst hmn
        rw [Env.ext_self] at h1
        rw [Env.ext_ne _ _ hkn] at h2
        cases h1
        have := hw.lt hk h2; omega
    · rw [if_neg hmn] at hm
      rw [Env.ext_ne _ _ hmn] at h1
      by_cases hkn : k = h.next
      · subst hkn
        rw [Env.ext_self] at h2
        cases h2
        have := hw.lt hm h1; omega
      · rw [if_neg hkn] at hk
        rw [Env.ext_ne _ _ hkn] at h2
        exact hw.inj m k _ _ _ _ _ _ _ hm hk h1 h2
  · intro m hm
    rw [Env.ext_ne _ _ (by omega)]
    exact hw.fresh m (by omega)
  · intro m hm
    obtain ⟨g1, g2⟩ := hw.prot m hm
    refine ⟨by omega, ?_⟩
    rw [Env.ext_ne _ _ (by omega)]; exact g2

end
end Go.Ab
