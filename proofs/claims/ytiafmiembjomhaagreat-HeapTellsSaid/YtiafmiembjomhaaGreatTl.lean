/- The law's answer, for any input. -/
import Derived.Test.YtiafmiembjomhaaGreatHk
import Derived.Test.YtiafmiembjomhaaGreatRunA
import Derived.Test.YtiafmiembjomhaaGreatRunB
import Derived.Test.YtiafmiembjomhaaGreatRunC
import Derived.Test.YtiafmiembjomhaaGreatRunD
import Derived.Test.YtiafmiembjomhaaGreatRunE
import Derived.Test.YtiafmiembjomhaaGreatRunF
import Derived.Test.YtiafmiembjomhaaGreatRunG
namespace Go.Proofs
open Go Go.Ab Go.RowKit Go.Proofs.Rd

theorem tellHook_sound {S : Sym} {t : Tm} {vm va : Value} {A B : Option Addr} {a1 a2 b1 b2 : Nat} (hvm : vm = .slice A a1 a2) (hva : va = .slice B b1 b2) (hT : HasT S t vm va) (ht : TmW (zOf S.W) (tmCells t vm va) t)
    {I : Int} (h1 : S.val 1 = some (.int .i64 I)) (hI : I64 I) {ans : Bool} (hans : decide ((400 : Int) < ptsL [t] 0 400) = ans) {hook : Hook} (hs : CallSound S prgT hook) : CallSound S prgT (tellHook ans hook) := by
  intro f args h r hr e w0 w args' hw ha
  unfold tellHook at hr
  have hS := hw.base
  have hb := hw.below
  split at hr
  · rename_i hf
    obtain rfl := Nat.eq_of_beq_eq_true hf
    split at hr
    · rename_i tv nv
      split at hr
      · rename_i hc
        cases hr
        rw [Bool.and_eq_true] at hc
        obtain ⟨b, rfl⟩ := isTerm_eq hc.1
        obtain rfl := isInt_eq hc.2
        obtain ⟨t', l, rfl, g1, ha⟩ := ha.cons_inv
        obtain ⟨n', l, rfl, g2, ha⟩ := ha.cons_inv
        obtain rfl := ha.nil_inv
        rw [term_inv hS.1 hT g1, g2.int_inv]
        have hz : (zOf S.W).In w := by rw [hS.2]; exact (zOf_in _).below hb
        refine (great_says (zOf S.W) (withNeg t b) vm va 400 w (withNeg_W ht b) (by unfold I64; omega) hz).mono ?_
        rintro en w' ⟨rfl, hbl⟩
        rw [pts_neg, hans]
        exact ⟨e, .bool ans, e.le_refl, rfl, .sc _ rfl, hw.grown hbl⟩
      · cases hr
    · cases hr
  · split at hr
    · rename_i hf
      obtain rfl := Nat.eq_of_beq_eq_true hf
      split at hr
      · rename_i i tv
        split at hr
        · rename_i hc
          cases hr
          rw [Bool.and_eq_true] at hc
          obtain rfl := isTok_eq hc.1
          obtain ⟨b, rfl⟩ := isTerm_eq hc.2
          obtain ⟨p', l, rfl, g0, ha⟩ := ha.cons_inv
          obtain ⟨i', l, rfl, g1, ha⟩ := ha.cons_inv
          obtain ⟨t', l, rfl, g2, ha⟩ := ha.cons_inv
          obtain rfl := ha.nil_inv
          have h1' := tok_inv g1
          rw [hS.1, h1] at h1'
          cases h1'
          rw [term_inv hS.1 hT g2, g0.scalar_inv rfl]
          refine (set_nil (t := withNeg t b) hvm hva I hI w).mono ?_
          rintro en w' ⟨rfl, hbl⟩
          exact ⟨e, .int .i64 1, e.le_refl, rfl, .sc _ rfl, hw.grown hbl⟩
        · cases hr
      · cases hr
    · exact hs f args h r hr e w0 w args' hw ha

theorem awake_sound (S : Sym) : CallSound S prgT (awakeHook 5 noHook) :=
  awakeHook_sound (G := prgT) (fun w => calls_true (G := prgT) Tryz.checked.mixed (fun S => noHook_sound _) runAwake w) (noHook_sound _)

def SaysTrue (w : World) (e : Ending) (w' : World) : Prop := e = .returned (.bool true) ∧ Below w.heap.size w w'

theorem law_calls {S : Sym} {t : Tm} {vm va : Value} {A B : Option Addr} {a1 a2 b1 b2 : Nat} (hvm : vm = .slice A a1 a2) (hva : va = .slice B b1 b2) (hT : HasT S t vm va) (ht : TmW (zOf S.W) (tmCells t vm va) t)
    {I dO J K : Int} (h1 : S.val 1 = some (.int .i64 I)) (hI : I64 I) {ans : Bool} (hans : decide ((400 : Int) < ptsL [t] 0 400) = ans)
    (h8 : S.val 8 = some (.int .i64 dO)) (h9 : S.val 9 = some (.int .i64 J)) (h10 : S.val 10 = some (.int .i64 K)) {c c' : List Value} (hc : Rl (Env.start S) c c')
    (hr : retTrue (evF prgT (tellHook ans (awakeHook 5 noHook)) 1000 60 3 [.agg ⟨c⟩, actV t.neg] AH.empty) = true) :
    Calls Tryz.prog 3 ⟨[.agg ⟨c'⟩, .agg ⟨.int .i64 dO :: .int .i64 I :: .int .i64 J :: .int .i64 K :: tmCells t vm va⟩]⟩ S.W (SaysTrue S.W) := by
  have hact : Rv (Env.start S) (actV t.neg) (.agg ⟨.int .i64 dO :: .int .i64 I :: .int .i64 J :: .int .i64 K :: tmCells t vm va⟩) :=
    .agg _ _ (.cons _ _ _ _ (.opq _ _ h8) (.cons _ _ _ _ (.opq _ _ h1) (.cons _ _ _ _ (.opq _ _ h9) (.cons _ _ _ _ (.opq _ _ h10)
      (.cons _ _ _ _ (.opq _ _ hT.v5) (.cons _ _ _ _ (.opq _ _ hT.v6) (.cons _ _ _ _ (.sc _ rfl) (.cons _ _ _ _ (.opq _ _ hT.v2) (.cons _ _ _ _ (.opq _ _ hT.v7) (.cons _ _ _ _ (.opq _ _ hT.v3) (.cons _ _ _ _ (.opq _ _ hT.v4) .nil)))))))))))
  exact calls_sym (G := prgT) Tryz.checked.mixed S (tellHook_sound hvm hva hT ht h1 hI hans (awake_sound S)) (.cons _ _ _ _ (.agg _ _ hc) (.cons _ _ _ _ hact .nil)) hr

section
variable {W : World} {t : Tm} {vm va : Value} {A B : Option Addr} {a1 a2 b1 b2 : Nat} {I dO J K Bu Sz Sw : Int}

theorem law_tok (hvm : vm = .slice A a1 a2) (hva : va = .slice B b1 b2) (ht : TmW (zOf W) (tmCells t vm va) t) (hI : I64 I) {ans : Bool} (hans : decide ((400 : Int) < ptsL [t] 0 400) = ans)
    (i j k : Nat) (hi : tokOk i (.int .i64 Bu)) (hj : tokOk j (.int .i64 Sz)) (hk : tokOk k (.int .i64 Sw)) (hd : (10 < i ∧ 10 < j ∧ 10 < k) ∧ i ≠ j ∧ i ≠ k ∧ j ≠ k) (c : List Value)
    (hc : ∀ S : Sym, S.val i = some (.int .i64 Bu) → S.val j = some (.int .i64 Sz) → S.val k = some (.int .i64 Sw) → Rl (Env.start S) c [.int .i64 Bu, .int .i64 Sz, .int .i64 Sw])
    (hr : retTrue (evF prgT (tellHook ans (awakeHook 5 noHook)) 1000 60 3 [.agg ⟨c⟩, actV t.neg] AH.empty) = true) :
    Calls Tryz.prog 3 ⟨[.agg ⟨[.int .i64 Bu, .int .i64 Sz, .int .i64 Sw]⟩, .agg ⟨.int .i64 dO :: .int .i64 I :: .int .i64 J :: .int .i64 K :: tmCells t vm va⟩]⟩ W (SaysTrue W) := by
  have hsmall : ∀ i, i < 1048576 → boundsOf i = none := fun i hi => by
    unfold boundsOf
    have : i / 1048576 = 0 := Nat.div_eq_of_lt hi
    rw [this]
  let S := symL W [(1, .int .i64 I), (2, vm), (3, .string t.bytes), (4, va), (5, .int .i64 t.k), (6, .int .i64 t.n), (7, .int .u64 t.bits), (8, .int .i64 dO), (9, .int .i64 J), (10, .int .i64 K), (i, .int .i64 Bu), (j, .int .i64 Sz), (k, .int .i64 Sw)] (by
    intro p hp
    simp only [List.mem_cons, List.not_mem_nil, or_false] at hp
    rcases hp with rfl | rfl | rfl | rfl | rfl | rfl | rfl | rfl | rfl | rfl | rfl | rfl | rfl
    · exact tokOk_any rfl rfl (hsmall _ (by show _ < 1048576; simp only []; decide))
    · exact tokOk_any (by rw [hvm]; rfl) (by rw [hvm]; rfl) (hsmall _ (by show _ < 1048576; simp only []; decide))
    · exact tokOk_any rfl rfl (hsmall _ (by show _ < 1048576; simp only []; decide))
    · exact tokOk_any (by rw [hva]; rfl) (by rw [hva]; rfl) (hsmall _ (by show _ < 1048576; simp only []; decide))
    · exact tokOk_any rfl rfl (hsmall _ (by show _ < 1048576; simp only []; decide))
    · exact tokOk_any rfl rfl (hsmall _ (by show _ < 1048576; simp only []; decide))
    · exact tokOk_any rfl rfl (hsmall _ (by show _ < 1048576; simp only []; decide))
    · exact tokOk_any rfl rfl (hsmall _ (by show _ < 1048576; simp only []; decide))
    · exact tokOk_any rfl rfl (hsmall _ (by show _ < 1048576; simp only []; decide))
    · exact tokOk_any rfl rfl (hsmall _ (by show _ < 1048576; simp only []; decide))
    · exact hi
    · exact hj
    · exact hk)
  have hT : HasT S t vm va := ⟨rfl, rfl, rfl, rfl, rfl, rfl⟩
  have hne : ∀ x n, 10 < x → n ≤ 10 → (x == n) = false := fun x n h1 h2 => by simp; omega
  have vi : S.val i = some (.int .i64 Bu) := by
    show List.lookup i _ = _
    simp [List.lookup_cons, hne i _ hd.1.1]
  have vj : S.val j = some (.int .i64 Sz) := by
    show List.lookup j _ = _
    have h1 : (j == i) = false := by simp; exact fun h => hd.2.1 h.symm
    simp [List.lookup_cons, hne j _ hd.1.2.1, h1]
  have vk : S.val k = some (.int .i64 Sw) := by
    show List.lookup k _ = _
    have h1 : (k == i) = false := by simp; exact fun h => hd.2.2.1 h.symm
    have h2 : (k == j) = false := by simp; exact fun h => hd.2.2.2 h.symm
    simp [List.lookup_cons, hne k _ hd.1.2.2, h1, h2]
  exact law_calls (S := S) hvm hva hT ht rfl hI hans rfl rfl rfl (hc S vi vj vk) hr
end
end Go.Proofs
