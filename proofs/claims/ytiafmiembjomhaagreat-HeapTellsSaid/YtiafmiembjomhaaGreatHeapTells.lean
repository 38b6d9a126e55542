/- HeapTells holds: for every configuration and every act the law returns true, and changes nothing that was there. Without conditions. -/
import Derived.Test.YtiafmiembjomhaaGreatRows
import Derived.Test.YtiafmiembjomhaaGreatCs
import Derived.WalkKit
import Derived.ProofKit
import Derived.Carry
import Derived.OpenShut
import Derived.Lib.SmallJoins
import Derived.ChangeSame
import Derived.KernelRfl
namespace Go.Proofs.YtiafmiembjomhaaGreat.heapTells
open Go.ChangeShapes Go.Joins Go.WideShapes Go.ChangeAt Go.RowKit Go.Ab Go.Proofs.Rd
set_option linter.unusedVariables false

theorem own : ownKnob Tryz.prog.godebug = none := by kernel_rfl
theorem laidOut : laidOutB Tryz.prog = true := by kernel_rfl
theorem cells23 : Tryz.prog.cellsOf 23 = 3 := by kernel_rfl
theorem cells32 : Tryz.prog.cellsOf 32 = 11 := by kernel_rfl

section
variable {H : Type} {enc : TypeId × Value → H} {P : Program}
theorem post_of_below {f : Func} {s : ChangeSpec} {apart fresh handsOn again : Bool} {W W' : World} {args : Array Value} {v : Value} {ds gs : List (DataW H)} {before pa pv : List MemPlace}
    (hW : DataW.Whole enc P f.params.toList s.vars apart W args.toList ds gs before)
    (hres : ∀ (b : Nat) (sp : Nat → Bool) (hd : Bool), DataW.TrodAll enc P W' b sp hd f.resultTypes.toList (v.resultList f.resultTypes.size) (s.fn H (ds ++ gs)).results [])
    (hargs : ∀ sp : Nat → Bool, (∀ p ∈ before, sp p.block = true) → DataW.TrodAll enc P W' 0 sp true f.params.toList args.toList (s.fn H (ds ++ gs)).args pa)
    (hvars : ∀ sp : Nat → Bool, (∀ p ∈ before, sp p.block = true) → DataW.TrodVars enc P W' sp s.vars (s.fn H (ds ++ gs)).vars pv)
    (hps : before = pa ++ pv) (hb : Below W.heap.size W W')
    (hok : ∀ (j : Nat) (t : TypeId) (r : Value), f.resultTypes[j]? = some t → (v.resultList f.resultTypes.size)[j]? = some r → Value.okWide P W' .any 0 t r) :
    s.post enc P f apart fresh handsOn again W args v W' := by
  have hlt : ∀ p ∈ before, p.block < W.heap.size := fun p hp => hW.lt p hp
  have hold : ∀ p ∈ before, (fun b => decide (b < W.heap.size)) p.block = true := fun p hp => by simpa using hlt p hp
  refine ⟨ds, gs, before, [], pa, pv, hW, hres _ _ _, hargs _ hold, hvars _ hold, World.keptBut_mono (fun p hp => ⟨hp, ?_⟩) (hb.frame (· ∈ before)), fun _ => ?_⟩
  · rw [hps, List.mem_append] at hp
    exact Or.inr hp
  · obtain ⟨_, _, _, _, _, hz, hn⟩ := hW
    refine ⟨hok, _, _, ([] ++ pa) ++ pv, ⟨[] ++ pa, pv, trodAll_append (hargs _ (fun _ _ => rfl)) (hres _ _ _), hvars _ (fun _ _ => rfl), rfl, ?_, ?_⟩, ?_⟩
    · intro b off hp
      have hin : MemPlace.cell b off ∈ before := by rw [hps]; simpa using hp
      rw [hb.frozen (hlt _ hin)]
      exact hz b off hin
    · intro ha
      have := hn ha
      rw [hps] at this
      simpa using this
    · intro p hp _
      rw [hps]
      simpa using hp
end

section
variable {H : Type} {enc : TypeId × Value → H} {w : World} {sp : Nat → Bool}

/-- A value of so many cells, more than one, is a struct of them. -/
theorem agg_of {v : Value} {n : Nat} (h : v.cells.toList.length = n) (hn : n ≠ 1) : ∃ l : List Value, v = .agg ⟨l⟩ ∧ v.cells.toList = l ∧ l.length = n := by
  cases v with
  | agg c => exact ⟨c.toList, rfl, rfl, h⟩
  | _ => exact absurd h.symm hn

theorem list3 {α : Type} {l : List α} (h : l.length = 3) : ∃ a b c, l = [a, b, c] := by
  rcases l with _ | ⟨a, _ | ⟨b, _ | ⟨c, _ | ⟨d, l⟩⟩⟩⟩ <;> simp at h
  exact ⟨_, _, _, rfl⟩
theorem list4 {α : Type} {l : List α} {n : Nat} (h : l.length = n + 4) : ∃ a b c d m, l = a :: b :: c :: d :: m ∧ m.length = n := by
  rcases l with _ | ⟨a, _ | ⟨b, _ | ⟨c, _ | ⟨d, l⟩⟩⟩⟩
  · simp at h
  · simp at h
  · simp at h
  · simp at h
  · simp at h; exact ⟨_, _, _, _, l, rfl, h⟩

theorem conf_of {v : Value} {d : DataW H} {p : List MemPlace} (h : DataW.Trod enc Tryz.prog w 0 sp true 23 v d p) : ∃ a b c : Int, v = .agg ⟨[.int .i64 a, .int .i64 b, .int .i64 c]⟩ ∧ I64 a ∧ I64 b ∧ I64 c := by
  obtain ⟨n, h⟩ := h
  cases n with
  | zero => simp [DataW.trod] at h
  | succ n =>
    rw [DataW.trod.eq_def] at h
    simp only [Tryz.underlying23, cells23] at h
    split at h
    · rename_i hl
      obtain ⟨l, rfl, hcl, hl2⟩ := agg_of hl (by decide)
      rw [hcl] at h
      obtain ⟨c0, c1, c2, rfl⟩ := list3 hl2
      obtain ⟨xs, hxs, _⟩ := Option.map_eq_some_iff.1 h
      have hxl := mapM_some_length hxs
      have hx : ∀ k, k < 3 → ∃ y, xs[k]? = some y := fun k hk => by
        have : k < xs.length := by rw [hxl]; simpa using hk
        exact ⟨_, List.getElem?_eq_getElem this⟩
      obtain ⟨y0, e0⟩ := hx 0 (by decide)
      obtain ⟨y1, e1⟩ := hx 1 (by decide)
      obtain ⟨y2, e2⟩ := hx 2 (by decide)
      have g0 := mapM_some_get hxs 0 _ rfl
      have g1 := mapM_some_get hxs 1 _ rfl
      have g2 := mapM_some_get hxs 2 _ rfl
      rw [e0] at g0
      rw [e1] at g1
      rw [e2] at g2
      simp only [Tryz.cells3, List.drop, List.take] at g0 g1 g2
      obtain ⟨a, ha, ha2⟩ := int_of g0
      obtain ⟨b, hb, hb2⟩ := int_of g1
      obtain ⟨c, hc, hc2⟩ := int_of g2
      simp only [List.cons.injEq, and_true] at ha hb hc
      subst ha hb hc
      exact ⟨a, b, c, rfl, ha2, hb2, hc2⟩
    · cases h

theorem act_of {v : Value} {d : DataW H} {p : List MemPlace} (h : DataW.Trod enc Tryz.prog w 0 sp true 32 v d p) :
    ∃ (dO I J K : Int) (t : Tm) (A B : Option Addr) (a1 a2 b1 b2 : Nat), v = .agg ⟨.int .i64 dO :: .int .i64 I :: .int .i64 J :: .int .i64 K :: tmCells t (.slice A a1 a2) (.slice B b1 b2)⟩ ∧ I64 I ∧ TmW (zOf w) (tmCells t (.slice A a1 a2) (.slice B b1 b2)) t := by
  obtain ⟨n, h⟩ := h
  cases n with
  | zero => simp [DataW.trod] at h
  | succ n =>
    rw [DataW.trod.eq_def] at h
    simp only [Tryz.underlying32, cells32] at h
    split at h
    · rename_i hl
      obtain ⟨l, rfl, hcl, hl2⟩ := agg_of hl (by decide)
      rw [hcl] at h
      obtain ⟨c0, c1, c2, c3, m, rfl, hm⟩ := list4 (n := 7) hl2
      obtain ⟨xs, hxs, _⟩ := Option.map_eq_some_iff.1 h
      have hxl := mapM_some_length hxs
      have hx : ∀ k, k < 5 → ∃ y, xs[k]? = some y := fun k hk => by
        have : k < xs.length := by rw [hxl]; simpa using hk
        exact ⟨_, List.getElem?_eq_getElem this⟩
      obtain ⟨y0, e0⟩ := hx 0 (by decide)
      obtain ⟨y1, e1⟩ := hx 1 (by decide)
      obtain ⟨y2, e2⟩ := hx 2 (by decide)
      obtain ⟨y3, e3⟩ := hx 3 (by decide)
      obtain ⟨y4, e4⟩ := hx 4 (by decide)
      have g0 := mapM_some_get hxs 0 _ rfl
      have g1 := mapM_some_get hxs 1 _ rfl
      have g2 := mapM_some_get hxs 2 _ rfl
      have g3 := mapM_some_get hxs 3 _ rfl
      have g4 := mapM_some_get hxs 4 _ rfl
      rw [e0] at g0
      rw [e1] at g1
      rw [e2] at g2
      rw [e3] at g3
      rw [e4] at g4
      simp only [Tryz.cells3, Tryz.cells30, List.drop, List.take] at g0 g1 g2 g3 g4
      rw [List.take_of_length_le (by omega)] at g4
      obtain ⟨a, ha, ha2⟩ := int_of g0
      obtain ⟨b, hb, hb2⟩ := int_of g1
      obtain ⟨c, hc, hc2⟩ := int_of g2
      obtain ⟨dd, hd, hd2⟩ := int_of g3
      simp only [List.cons.injEq, and_true] at ha hb hc hd
      subst ha hb hc hd
      obtain ⟨t, ht⟩ := term_of _ g4
      obtain ⟨vm, va, rfl, ok, ⟨A, d, rfl, hA1, hA2, hA3⟩, hva⟩ := ht.open
      obtain ⟨B, d2, rfl, hB1, hB2, -⟩ := hva.open
      exact ⟨a, b, c, dd, t, A, B, _, _, _, _, rfl, hb2, ht⟩
    · cases h
end

/-! ### THE ROW's STEP: WRITTEN OUT -/
set_option maxRecDepth 100000 in
theorem lifted (os : Os) (started : os.Started) (H : Type) (enc : TypeId × Value → H) :
    ReturnsInHanded {} Tryz.checked os 3 .any (Rows.heapTellsSpec.pre6 enc Tryz.prog Tryz.f3 Rows.heapTellsRow.domain false) (Rows.heapTellsSpec.post enc Tryz.prog Tryz.f3 false true false false) := by
  refine returnsInHanded_of_change (C := Tryz.checked) own started (by kernel_rfl) Tryz.func3
    (ChangeSpec.witness6 (enc := enc) (C := Tryz.checked) false ⟨#[], #[.agg #[.int .i64 0, .int .i64 0, .int .i64 0], .agg #[.int .i64 0, .int .i64 0, .int .i64 0, .int .i64 0, .int .i64 0, .int .i64 0, .bool false, .slice none 0 0, .int .u64 0, .string ⟨#[]⟩, .slice none 0 0]], []⟩ 8 (by kernel_rfl) (by kernel_rfl) (by kernel_rfl) (by kernel_rfl)) ?_
  intro W base args ds gs before hval0 hW hcnd _
  have hW' := hW
  obtain ⟨p, q, hA0, hV, rfl, hfz, hnd⟩ := hW
  have hA : DataW.TrodAll enc Tryz.prog W 0 (fun _ => true) true Tryz.f3.params.toList args.toList ds p := hA0
  rw [Tryz.params3] at hA
  obtain ⟨v0, v1, d0, d1, p0, p1, rfl, rfl, rfl, h0, h1⟩ := trodAll_two hA
  obtain ⟨rfl, rfl⟩ := trodVars_none hV
  obtain ⟨Bu, Sz, Sw, rfl, hB, hS, hSw⟩ := conf_of h0
  obtain ⟨dO, I, J, K, t, A, B, a1, a2, b1, b2, rfl, hI, ht⟩ := act_of h1
  clear hA0 hval0
  have hlt : ∀ x ∈ (p0 ++ p1) ++ [], x.block < W.heap.size := fun x hx => hW'.lt x hx
  simp only [List.append_nil] at hW'
  refine (law_all (vm := .slice A a1 a2) (va := .slice B b1 b2) (dO := dO) (J := J) (K := K) rfl rfl ht hI hB hS hSw).mono fun e W' ⟨he, hg⟩ => ?_
  subst he
  have stays0 : ∀ sp : Nat → Bool, (∀ x ∈ p0 ++ p1, sp x.block = true) → DataW.Trod enc Tryz.prog W' 0 sp true 23 (.agg ⟨[.int .i64 Bu, .int .i64 Sz, .int .i64 Sw]⟩) d0 p0 := fun sp hs =>
    WideElems.Trod_stays laidOut (by kernel_rfl) (of_decide_eq_true (by kernel_rfl)) h0 (fun x hx => hg.same (hlt x (by simp [hx]))) (fun x hx => hs x (by simp [hx]))
  have stays1 : ∀ sp : Nat → Bool, (∀ x ∈ p0 ++ p1, sp x.block = true) → DataW.Trod enc Tryz.prog W' 0 sp true 32 (.agg ⟨.int .i64 dO :: .int .i64 I :: .int .i64 J :: .int .i64 K :: tmCells t (.slice A a1 a2) (.slice B b1 b2)⟩) d1 p1 := fun sp hs =>
    WideElems.Trod_stays laidOut (by kernel_rfl) (of_decide_eq_true (by kernel_rfl)) h1 (fun x hx => hg.same (hlt x (by simp [hx]))) (fun x hx => hs x (by simp [hx]))
  exact ⟨_, rfl, post_of_below (pa := p0 ++ p1) (pv := []) hW' (fun _ _ _ => (trodAll_cons_mk (shut_bool Tryz.underlying4 _) trodAll_mk0)) (fun sp hs => trodAll_mk2 (stays0 sp hs) (stays1 sp hs)) (fun _ _ => rfl) (by simp)
    hg (ok_one (by kernel_rfl) rfl (okWide_bool_mk Tryz.underlying4 _))⟩

set_option maxHeartbeats 40000000 in
/-- The facts of the row, each by the kernel for itself. -/
theorem closed : joinedFacts Tryz.prog 3 Tryz.f3 Rows.heapTellsSpec Rows.heapTellsRow = true := by
  unfold joinedFacts
  simp only [Bool.and_eq_true]
  and_intros
  all_goals (as_aux_lemma => kernel_rfl)

set_option maxHeartbeats 40000000 in
theorem over : Rows.heapTellsRow.holds Tryz.pinned (OpenSpec.ofChange Rows.heapTellsSpec) :=
  OpenClaim.holds_of_wide 3 Tryz.f3 rfl rfl rfl rfl rfl rfl rfl ⟨rfl, rfl, rfl, rfl, rfl⟩ rfl rfl rfl rfl rfl (by as_aux_lemma => kernel_rfl) Tryz.func3 closed
    (of_decide_eq_true (by as_aux_lemma => kernel_rfl)) (by unfold Func.isWrapper; first | (rw [if_pos (by decide +kernel)]; kernel_rfl) | (rw [if_neg (by decide +kernel)]; exact ⟨rfl, rfl⟩))
    (fun os started H enc _ => lifted os started H enc)

/-- THE STATEMENT -/
theorem proved : Rows.HeapTellsSaid :=
  over
#print axioms proved
end Go.Proofs.YtiafmiembjomhaaGreat.heapTells
