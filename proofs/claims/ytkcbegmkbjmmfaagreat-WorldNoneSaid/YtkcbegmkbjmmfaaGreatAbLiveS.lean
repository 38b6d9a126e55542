/- The hook for 'Live' is sound, given its contract. -/
import Derived.Test.YtkcbegmkbjmmfaaGreatAbLive
set_option linter.unusedSimpArgs false
set_option linter.unusedVariables false
set_option linter.unusedSectionVars false
set_option linter.unnecessarySimpa false
namespace Go.Ab
noncomputable section
open Go Go.RowKit Go.Maps

variable {P : Program}

theorem own_one {el : TypeId} (hu : P.underlying el = some (.int .i64)) {w : World} {b k clock born : Nat} {val : Value} (hk : k ≤ 1000000) (hb : born < clock) (hm : w.heap[b]? = some (.map ⟨[⟨.int .i64 (k : Int), val, born⟩]⟩ clock)) :
    w.ownsMap (H := Unit) P el (fun _ => some (DataW.nil, [])) b 1 (.map [(Lit.int .i64 (k : Int), DataW.nil)]) := by
  have hwf : (Lit.int .i64 (k : Int)).wf = true := by simp [Lit.wf, IntKind.has, IntKind.min, IntKind.max, IntKind.signed, IntKind.bits]; omega
  have hkey : keyOf P el (.int .i64 (k : Int)) = some (.int .i64 (k : Int)) := by simp [keyOf, mapKey, hu, hwf]
  have hrd : WideElems.rd P el (fun _ => some ((DataW.nil : DataW Unit), [])) ⟨.int .i64 (k : Int), val, born⟩ = some (Lit.int .i64 (k : Int), DataW.nil) := by simp [WideElems.rd, hkey]
  refine ⟨⟨[⟨.int .i64 (k : Int), val, born⟩]⟩, clock, hm, ⟨?_, ?_, ?_⟩, ?_, ?_⟩
  · simp [maxLen]
  · exact ⟨by simpa using hb, by simp, by simp⟩
  · intro x hx
    simp at hx; subst hx
    exact ⟨_, hrd⟩
  · simp
  · simp [WideElems.rg, hrd, DataW.insert]

theorem own_none {el : TypeId} {w : World} {b clock : Nat} (hm : w.heap[b]? = some (.map ⟨[]⟩ clock)) : w.ownsMap (H := Unit) P el (fun _ => some (DataW.nil, [])) b 1 (.map []) :=
  ⟨⟨[]⟩, clock, hm, ⟨by simp [maxLen], ⟨by simp, by simp, by simp⟩, by simp⟩, by simp, by simp⟩

theorem liveHook_sound {fLive place : Nat} {el : TypeId} (hu : P.underlying el = some (.int .i64)) (hsz : P.cellsOf el = 1) (hL : LiveSaid P fLive place el) : ∀ f args h r, liveHook fLive place el f args h = some r →
    ∀ e w0 w args', Rw P e h w0 w → Rl e args args' → Calls P f ⟨args'⟩ w fun en w' => match r with
      | .ret v h' => ∃ e' v', e.le e' ∧ en = .returned v' ∧ Rv e' v v' ∧ Rw P e' h' w0 w'
      | .panic ch h' => ∃ e' ch', e.le e' ∧ en = .panicked ch' ∧ Rc e' ch ch' ∧ Rw P e' h' w0 w' := by
  intro f args h r hr e w0 w args' hw ha
  unfold liveHook at hr
  split at hr
  · rename_i hf
    obtain rfl := Nat.eq_of_beq_eq_true hf
    split at hr
    · rename_i n
      obtain ⟨v', m', rfl, hv, hn⟩ := ha.cons_inv
      obtain rfl := hn.nil_inv
      obtain ⟨_, b, sz, es, he, rfl⟩ := hv.ptr_inv
      split at hr
      · rename_i c el' sp hg
        obtain ⟨c', rr, hes, hbB, hblk, hc, hcs, hsp⟩ := hw.cells_of hg he
        split at hr
        · rename_i m hcm
          obtain ⟨v2, hc2, hv2⟩ := hc.get hcm
          obtain ⟨mb, sz2, es2, he2, rfl⟩ := hv2.map_inv
          have hcell : w.cell? ⟨b, place, none⟩ = some (.map (some mb)) := by
            rw [cell_of hblk, List.getElem?_append_left (List.getElem?_eq_some_iff.1 hc2).1]; exact hc2
          split at hr
          · rename_i clock hgm
            cases hr
            obtain ⟨l', _, hmb, hre⟩ := hw.map_of hgm he2
            cases hre
            refine (hL b mb 1 _ _ w hcell (own_none hmb) (by simp [Maps.size, maxLen]) (by simp [Maps.size])).mono ?_
            rintro en w' ⟨v, ss, rfl, hperm, hrow, hnil, hbl⟩
            have hss : ss = [] := by simpa [intKeys] using hperm
            have hvn := hnil.2 hss
            subst hvn
            exact ⟨e, .slice none 0 0, e.le_refl, rfl, .sc _ rfl, hw.grown hbl⟩
          · rename_i en clock hgm
            obtain ⟨l', _, hmb, hre⟩ := hw.map_of hgm he2
            cases hre with
            | cons _ en' _ l2 hk hvv hborn hl2 =>
              cases hl2
              split at hr
              · rename_i k hkey
                split at hr
                · rename_i h1 h2
                  have h1 := Nat.le_of_ble_eq_true h1
                  have h2 : en.born < clock := Nat.le_of_ble_eq_true h2
                  split at hr
                  · rename_i h' hn
                    cases hr
                    obtain ⟨key', val', born'⟩ := en'
                    simp only at hk hborn hvv
                    rw [hkey] at hk
                    have hk2 : key' = .int .i64 (k : Int) := hk.int_inv
                    subst hk2
                    subst hborn
                    refine (hL b mb 1 _ _ w hcell (own_one hu h1 h2 hmb) (by simp [Maps.size, maxLen]) (by simp [Maps.size])).mono ?_
                    rintro en2 w' ⟨v, ss, rfl, hperm, hrow, hnil, hbl⟩
                    have hss : ss = [(k : Int)] := by
                      have hp := hperm
                      simp [intKeys] at hp
                      exact hp
                    subst hss
                    obtain ⟨hlen, hcase⟩ := hrow
                    rcases hcase with ⟨_, h0⟩ | ⟨g, cap, cur, rfl, hg1, hg2, hg3, hg4, hg5, hg6⟩
                    · simp at h0
                    · obtain ⟨curl⟩ := cur
                      simp only [List.length_cons, List.length_nil, Nat.zero_add, Nat.one_mul, Nat.mul_one, List.mergeSort, List.map_cons, List.map_nil] at hg3 hg5 hg6
                      have hsplit : curl = [Value.int .i64 (k : Int)] ++ curl.drop 1 := by
                        rw [← hg6]; exact (List.take_append_drop 1 curl).symm
                      have hb : Rb P e cap (P.cellsOf el) (.cells [.int .i64 (.ofNat k)] el true) (.cells ⟨curl⟩ el (0, 0)) := by
                        rw [hsplit]
                        refine .cells _ [Value.int .i64 (k : Int)] (curl.drop 1) el true rfl (.cons _ _ _ _ (.sc _ rfl) .nil) ?_ (fun h => by cases h)
                        rw [← hsplit]; simpa using hg5
                      obtain ⟨hle, hw'⟩ := hw.bind hbl (show w.heap.size ≤ g by omega) hg2 hb hn
                      refine ⟨_, _, hle, rfl, .slice _ _ _ _ _ _ _ _ (Env.ext_self _ _ _) (fun hc => absurd rfl hc) (fun _ => by rw [hsz]; omega) hg3, hw'⟩
                  · cases hr
                · cases hr
              · cases hr
          · cases hr
        · cases hr
      · cases hr
    · cases hr
  · cases hr

theorem liveHook_call {G : Prg} {fLive place : Nat} {el : TypeId} (hu : G.P.underlying el = some (.int .i64)) (hsz : G.P.cellsOf el = 1) (hL : LiveSaid G.P fLive place el) : CallSound G (liveHook fLive place el) := by
  intro f args h r hr e w0 w args' hw ha
  refine (liveHook_sound hu hsz hL f args h r hr e w0 w args' hw ha).mono ?_
  intro en w' hh
  cases r with
  | ret v h' => exact hh
  | panic ch h' => exact hh

end
end Go.Ab
