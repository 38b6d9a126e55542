/- The hooks of the runs keep to the program. -/
import Derived.Test.YtiafmiembjomhaaGreatRun0
import Derived.Test.YtiafmiembjomhaaGreatGt
import Derived.Test.YtiafmiembjomhaaGreatRg
import Derived.Test.YtiafmiembjomhaaGreatChecked
namespace Go.Proofs
open Go Go.Ab Go.RowKit Go.Proofs.Rd

theorem mem_lookup : ∀ {l : List (Nat × Value)} {j : Nat} {v : Value}, l.lookup j = some v → (j, v) ∈ l
  | [], _, _, h => by simp at h
  | (a, b) :: l, j, v, h => by
    rw [List.lookup_cons] at h
    split at h
    · rename_i hj
      cases h
      have : j = a := by simpa using hj
      subst this
      exact List.mem_cons_self ..
    · exact List.mem_cons_of_mem _ (mem_lookup h)

noncomputable def symL (w : World) (l : List (Nat × Value)) (h : ∀ p ∈ l, tokOk p.1 p.2) : Sym :=
  ⟨w, fun j => l.lookup j, fun j v hj => h (j, v) (mem_lookup hj)⟩

theorem tok_inv {e : Env} {j : Nat} {v' : Value} (h : Rv e (.chan (some j)) v') : e.S.val j = some v' := by
  cases h with
  | sc _ h => cases h
  | opq _ _ h => exact h

theorem isTok_eq {v : Value} {i : Nat} (h : isTok v i = true) : v = .chan (some i) := by
  unfold isTok at h
  split at h
  · rw [Nat.eq_of_beq_eq_true h]
  · cases h
theorem isInt_eq {v : Value} {i : Int} (h : isInt v i = true) : v = .int .i64 i := by
  unfold isInt at h
  split at h
  · rw [of_decide_eq_true h]
  · cases h
theorem isTerm_eq {v : Value} (h : isTerm v = true) : ∃ b, v = termV b := by
  unfold isTerm at h
  split at h
  · rename_i a b n c d e f
    simp only [Bool.and_eq_true] at h
    obtain ⟨h1, h2, h3, h4, h5, h6⟩ := h
    rw [isTok_eq h1, isTok_eq h2, isTok_eq h3, isTok_eq h4, isTok_eq h5, isTok_eq h6]
    exact ⟨n, rfl⟩
  · cases h

/-- A term whose sign is another. -/
def withNeg (t : Tm) (b : Bool) : Tm := .mk t.k t.n b t.mag t.bits t.bytes t.args
theorem withNeg_W {Z : Fz} {t : Tm} {vm va : Value} (h : TmW Z (tmCells t vm va) t) (b : Bool) : TmW Z (tmCells (withNeg t b) vm va) (withNeg t b) := by
  obtain ⟨vm', va', hcs, ok, hm, css, h1, h2⟩ := h.open
  simp only [tmCells, List.cons.injEq, and_true, true_and] at hcs
  obtain ⟨rfl, rfl⟩ := hcs
  exact .mk (withNeg t b) vm va css ⟨ok.k, ok.n, ok.bits, ok.mag, ok.bytes⟩ hm h1 h2
theorem pts_neg (t : Tm) (b : Bool) (n m : Int) : ptsL [withNeg t b] n m = ptsL [t] n m := by cases t; rfl

theorem calls_ret1 {G : Prg} (hm : G.P.follows .mixedOrders = true) {hook : Hook} (S : Sym) (hh : CallSound S G hook) {lf n f : Nat} {args args' : List Value} (ha : Rl (Env.start S) args args') (ht : ret1 (evF G hook lf n f args AH.empty) = true) :
    Calls G.P f ⟨args'⟩ S.W fun e w' => e = .returned (.int .i64 1) ∧ Below S.W.heap.size S.W w' := by
  cases hr : evF G hook lf n f args AH.empty with
  | none => rw [hr] at ht; cases ht
  | some r =>
    rw [hr] at ht
    refine (evF_sound hm hh n f args AH.empty r hr (Env.start S) ⟨S.W, fun _ => False⟩ S.W args' (Rw.empty S) ha).mono ?_
    intro e w' h
    unfold ret1 at ht
    split at ht
    · rename_i n hh2 heq
      cases heq
      obtain ⟨e', v', _, rfl, hv, hw⟩ := h
      have := of_decide_eq_true ht
      subst this
      exact ⟨by rw [hv.int_inv], hw.below⟩
    · cases ht

/-- The cells of a term, and a number, as tokens. -/
structure HasT (S : Sym) (t : Tm) (vm va : Value) : Prop where
  v2 : S.val 2 = some vm
  v3 : S.val 3 = some (.string t.bytes)
  v4 : S.val 4 = some va
  v5 : S.val 5 = some (.int .i64 t.k)
  v6 : S.val 6 = some (.int .i64 t.n)
  v7 : S.val 7 = some (.int .u64 t.bits)

theorem term_inv {e : Env} {S : Sym} (he : e.S = S) {t : Tm} {vm va : Value} (h : HasT S t vm va) {b : Bool} {v' : Value} (hv : Rv e (termV b) v') : v' = .agg ⟨tmCells (withNeg t b) vm va⟩ := by
  obtain ⟨c', rfl, hl⟩ := hv.agg_inv
  obtain ⟨w0, l0, rfl, g0, hl⟩ := hl.cons_inv
  obtain ⟨w1, l1, rfl, g1, hl⟩ := hl.cons_inv
  obtain ⟨w2, l2, rfl, g2, hl⟩ := hl.cons_inv
  obtain ⟨w3, l3, rfl, g3, hl⟩ := hl.cons_inv
  obtain ⟨w4, l4, rfl, g4, hl⟩ := hl.cons_inv
  obtain ⟨w5, l5, rfl, g5, hl⟩ := hl.cons_inv
  obtain ⟨w6, l6, rfl, g6, hl⟩ := hl.cons_inv
  obtain rfl := hl.nil_inv
  have h0 := tok_inv g0
  have h1 := tok_inv g1
  have h3 := tok_inv g3
  have h4 := tok_inv g4
  have h5 := tok_inv g5
  have h6 := tok_inv g6
  subst he
  rw [h.v5] at h0; cases h0
  rw [h.v6] at h1; cases h1
  rw [h.v2] at h3; cases h3
  rw [h.v7] at h4; cases h4
  rw [h.v3] at h5; cases h5
  rw [h.v4] at h6; cases h6
  rw [g2.bool_inv]
  rfl

theorem term_mk {S : Sym} {t : Tm} {vm va : Value} (h : HasT S t vm va) : Rv (Env.start S) (termV t.neg) (.agg ⟨tmCells t vm va⟩) :=
  .agg _ _ (.cons _ _ _ _ (.opq _ _ h.v5) (.cons _ _ _ _ (.opq _ _ h.v6) (.cons _ _ _ _ (.sc _ rfl) (.cons _ _ _ _ (.opq _ _ h.v2) (.cons _ _ _ _ (.opq _ _ h.v7) (.cons _ _ _ _ (.opq _ _ h.v3) (.cons _ _ _ _ (.opq _ _ h.v4) .nil)))))))

theorem one_slice (A : Option Addr) (n m : Nat) : one (.slice A n m) = true := rfl
theorem tokOk_any {j : Nat} {v : Value} (h1 : one v = true) (h2 : Value.isBool v = false) (h : boundsOf j = none) : tokOk j v := ⟨h1, h2, fun lo hi hb => by rw [h] at hb; cases hb⟩
theorem tokOk_int {j lo hi : Nat} {n : Int} (h : boundsOf j = some (lo, hi)) (h1 : lift lo ≤ n) (h2 : n ≤ lift hi) : tokOk j (.int .i64 n) :=
  ⟨rfl, rfl, fun lo' hi' hb => by rw [h] at hb; cases hb; exact ⟨n, rfl, h1, h2⟩⟩

/-- 'Set' of none. -/
theorem set_nil {t : Tm} {vm va : Value} {A B : Option Addr} {a1 a2 b1 b2 : Nat} (hvm : vm = .slice A a1 a2) (hva : va = .slice B b1 b2) (I : Int) (hI : I64 I) (w : World) :
    Calls Tryz.prog 12 ⟨[.pointer none, .int .i64 I, .agg ⟨tmCells t vm va⟩]⟩ w fun e w' => e = .returned (.int .i64 1) ∧ Below w.heap.size w w' := by
  have hsmall : ∀ i, i < 1048576 → boundsOf i = none := fun i hi => by
    unfold boundsOf
    have : i / 1048576 = 0 := Nat.div_eq_of_lt hi
    rw [this]
  have go : ∀ j lo hi, boundsOf j = some (lo, hi) → lift lo ≤ I → I ≤ lift hi → (1048576 ≤ j) → ret1 (setV t.neg j) = true →
      Calls Tryz.prog 12 ⟨[.pointer none, .int .i64 I, .agg ⟨tmCells t vm va⟩]⟩ w fun e w' => e = .returned (.int .i64 1) ∧ Below w.heap.size w w' := by
    intro j lo hi hb h1 h2 hj hr
    let S := symL w [(2, vm), (3, .string t.bytes), (4, va), (5, .int .i64 t.k), (6, .int .i64 t.n), (7, .int .u64 t.bits), (j, .int .i64 I)] (by
      intro p hp
      simp only [List.mem_cons, List.not_mem_nil, or_false] at hp
      rcases hp with rfl | rfl | rfl | rfl | rfl | rfl | rfl
      · exact tokOk_any (by rw [hvm]; rfl) (by rw [hvm]; rfl) (hsmall _ (by show _ < 1048576; simp only []; decide))
      · exact tokOk_any rfl rfl (hsmall _ (by show _ < 1048576; simp only []; decide))
      · exact tokOk_any (by rw [hva]; rfl) (by rw [hva]; rfl) (hsmall _ (by show _ < 1048576; simp only []; decide))
      · exact tokOk_any rfl rfl (hsmall _ (by show _ < 1048576; simp only []; decide))
      · exact tokOk_any rfl rfl (hsmall _ (by show _ < 1048576; simp only []; decide))
      · exact tokOk_any rfl rfl (hsmall _ (by show _ < 1048576; simp only []; decide))
      · exact tokOk_int hb h1 h2)
    have hT : HasT S t vm va := ⟨rfl, rfl, rfl, rfl, rfl, rfl⟩
    have hj2 : S.val j = some (.int .i64 I) := by
      show List.lookup j _ = _
      simp only [List.lookup_cons]
      have : ∀ i, i < 1048576 → (j == i) = false := fun i hi => by simp; omega
      rw [this 2 (by decide), this 3 (by decide), this 4 (by decide), this 5 (by decide), this 6 (by decide), this 7 (by decide)]
      simp
    exact calls_ret1 (G := prgT) Tryz.checked.mixed S (noHook_sound _) (.cons _ _ _ _ (.sc _ rfl) (.cons _ _ _ _ (.opq _ _ hj2) (.cons _ _ _ _ (term_mk hT) .nil))) hr
  unfold I64 at hI
  by_cases h1 : I < 0
  · exact go _ 0 9223372036854775807 (show boundsOf (tokI 1 0 9223372036854775807) = _ by kernel_rfl) (by rw [show lift 0 = -9223372036854775808 by kernel_rfl]; omega) (by rw [show lift 9223372036854775807 = -1 by kernel_rfl]; omega) (by decide) (setN t.neg)
  · by_cases h2 : I ≤ 63
    · exact go _ 9223372036854775808 9223372036854775871 (show boundsOf (tokI 1 9223372036854775808 9223372036854775871) = _ by kernel_rfl) (by rw [show lift 9223372036854775808 = 0 by kernel_rfl]; omega) (by rw [show lift 9223372036854775871 = 63 by kernel_rfl]; omega) (by decide) (setM t.neg)
    · exact go _ 9223372036854775872 18446744073709551615 (show boundsOf (tokI 1 9223372036854775872 18446744073709551615) = _ by kernel_rfl) (by rw [show lift 9223372036854775872 = 64 by kernel_rfl]; omega) (by rw [show lift 18446744073709551615 = 9223372036854775807 by kernel_rfl]; omega) (by decide) (setB t.neg)
end Go.Proofs
