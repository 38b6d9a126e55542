/- WorldNone holds: for every event the law returns true, and changes nothing that was there. Without conditions. -/
import Derived.Test.YtkcbegmkbjmmfaaGreatRows
import Derived.Test.YtkcbegmkbjmmfaaGreatAbGo
import Derived.Test.YtkcbegmkbjmmfaaGreatAbLiveS
import Derived.Test.YtkcbegmkbjmmfaaGreatAbAwake
import Derived.Test.YtkcbegmkbjmmfaaGreatWorldAwake
import Derived.Test.YtkcbegmkbjmmfaaGreatLiveA
import Derived.WalkKit
import Derived.ProofKit
import Derived.OpenShut
import Derived.Lib.SmallJoins
import Derived.ChangeSame
import Derived.KernelRfl
namespace Go.Proofs.YtkcbegmkbjmmfaaGreat.worldNone
open Go.ChangeShapes Go.Joins Go.WideShapes Go.ChangeAt Go.RowKit Go.Ab
set_option linter.unusedVariables false

theorem cells43 : Tryz.prog.cellsOf 43 = 3 := by kernel_rfl
theorem own : ownKnob Tryz.prog.godebug = none := by kernel_rfl

section
variable {H : Type} {enc : TypeId × Value → H} {P : Program}
theorem post_of_below {f : Func} {s : ChangeSpec} {apart fresh handsOn again : Bool} {W W' : World} {args : Array Value} {v : Value} {ds gs : List (DataW H)} {before pa pv : List MemPlace}
    (hW : DataW.Whole enc P f.params.toList s.vars apart W args.toList ds gs before)
    (hres : ∀ (b : Nat) (sp : Nat → Bool) (hd : Bool), DataW.TrodAll enc P W' b sp hd f.resultTypes.toList (v.resultList f.resultTypes.size) (s.fn H (ds ++ gs)).results [])
    (hargs : ∀ sp : Nat → Bool, (∀ p ∈ before, sp p.block = true) → DataW.TrodAll enc P W' 0 sp true f.params.toList args.toList (s.fn H (ds ++ gs)).args pa)
    (hvars : ∀ sp : Nat → Bool, (∀ p ∈ before, sp p.block = true) → DataW.TrodVars enc P W' sp s.vars (s.fn H (ds ++ gs)).vars pv)
    (hps : before = pa ++ pv) (hb : Below W.heap.size W W')
    (hok : ∀ (j : Nat) (t : TypeId) (r : Value), f.resultTypes[j]? = some t → (v.resultList f.resultTypes.size)[j]? = some r → Value.okWide P W' .any 0 t r) :
    s.post enc P f apart fresh handsOn again W args v W' := by
  have hlt : ∀ p ∈ before, p.block < W.heap.size := fun p hp => hW.lt p hp
  have hold : ∀ p ∈ before, (fun b => decide (b < W.heap.size)) p.block = true := fun p hp => by simpa using hlt p hp
  refine ⟨ds, gs, before, [], pa, pv, hW, hres _ _ _, hargs _ hold, hvars _ hold, World.keptBut_mono (fun p hp => ⟨hp, ?_⟩) (hb.frame (· ∈ before)), fun _ => ?_⟩
  · rw [hps, List.mem_append] at hp
    exact Or.inr hp
  · obtain ⟨_, _, _, _, _, hz, hn⟩ := hW
    refine ⟨hok, _, _, ([] ++ pa) ++ pv, ⟨[] ++ pa, pv, trodAll_append (hargs _ (fun _ _ => rfl)) (hres _ _ _), hvars _ (fun _ _ => rfl), rfl, ?_, ?_⟩, ?_⟩
    · intro b off hp
      have hin : MemPlace.cell b off ∈ before := by rw [hps]; simpa using hp
      rw [hb.frozen (hlt _ hin)]
      exact hz b off hin
    · intro ha
      have := hn ha
      rw [hps] at this
      simpa using this
    · intro p hp _
      rw [hps]
      simpa using hp
end

/-- The contract of 'Live' that the evaluator leans on. -/
theorem liveSaid : LiveSaid Tryz.prog 17 7 3 := fun bh b nn D0 R w hc ho hm hb => Tryz.live bh b nn D0 R w hc ho hm hb

theorem hooks : CallSound (prgOf Tryz.prog) (liveHook 17 7 3) :=
  liveHook_call (G := prgOf Tryz.prog) Tryz.underlying3 (by kernel_rfl) liveSaid

theorem hooks2 : CallSound (prgOf Tryz.prog) (awakeHook 25 (liveHook 17 7 3)) :=
  awakeHook_sound (G := prgOf Tryz.prog) (fun w => calls_args (G := prgOf Tryz.prog) Tryz.checked.mixed hooks rfl awakeRun w) hooks

set_option maxRecDepth 100000 in
/-- The run, by the kernel. -/
theorem run (a0 a1 a2 : Int) : retTrue (evF (prgOf Tryz.prog) (awakeHook 25 (liveHook 17 7 3)) 1000 60 9 [.agg #[.int .i64 a0, .int .i64 a1, .int .i64 a2]] AH.empty) = true := by kernel_rfl

theorem walk (a0 a1 a2 : Int) (w : World) :
    Calls Tryz.prog 9 #[.agg #[.int .i64 a0, .int .i64 a1, .int .i64 a2]] w fun e w' => e = .returned (.bool true) ∧ Below w.heap.size w w' :=
  calls_args (G := prgOf Tryz.prog) Tryz.checked.mixed hooks2 rfl (run a0 a1 a2) w

/-! ### THE ROW's STEP: WRITTEN OUT -/
set_option maxRecDepth 100000 in
theorem lifted (os : Os) (started : os.Started) (H : Type) (enc : TypeId × Value → H) :
    ReturnsInHanded {} Tryz.checked os 9 .any (Rows.worldNoneSpec.pre6 enc Tryz.prog Tryz.f9 Rows.worldNoneRow.domain false) (Rows.worldNoneSpec.post enc Tryz.prog Tryz.f9 false true false false) := by
  refine returnsInHanded_of_change (C := Tryz.checked) own started (by kernel_rfl) Tryz.func9
    (ChangeSpec.witness6 (enc := enc) (C := Tryz.checked) false ⟨#[], #[.agg #[.int .i64 0, .int .i64 0, .int .i64 0]], []⟩ 8 (by kernel_rfl) (by kernel_rfl) (by kernel_rfl) (by kernel_rfl)) ?_
  intro W base args ds gs before hval0 hW hcnd _
  have hval : ∀ (j : Nat) t v, Tryz.f9.params[j]? = some t → args[j]? = some v → Value.okWide Tryz.prog W .any base t v := hval0
  have hW' := hW
  obtain ⟨p, q, hA0, hV, rfl, hfz, hnd⟩ := hW
  have hA : DataW.TrodAll enc Tryz.prog W 0 (fun _ => true) true Tryz.f9.params.toList args.toList ds p := hA0
  rw [Tryz.params9] at hA hval
  obtain ⟨v0, vs0, d0, ds0, p0, q0, hargs, rfl, rfl, h0, r0⟩ := trodAll_cons hA
  obtain ⟨rfl, rfl, rfl⟩ := trodAll_nil r0
  obtain rfl : args = #[v0] := by cases args; simp_all
  obtain ⟨rfl, rfl⟩ := trodVars_none hV
  obtain ⟨c0, c1, c2, y0, y1, y2, m, rfl, rfl, rfl, hy0, hy1, hy2⟩ := open_agg3 Tryz.underlying43 (by kernel_rfl) cells43 (hval 0 43 v0 rfl rfl) h0
  obtain ⟨a0, e0, rfl, w0⟩ := DataW.trod_int Tryz.underlying3 hy0
  obtain ⟨a1, e1, rfl, w1⟩ := DataW.trod_int Tryz.underlying3 hy1
  obtain ⟨a2, e2, rfl, w2⟩ := DataW.trod_int Tryz.underlying3 hy2
  simp at e0 e1 e2; subst e0 e1 e2
  clear hA0 hval0
  simp only [List.append_nil] at hW'
  have structReads : ∀ (W' : World) (sp : Nat → Bool), DataW.Trod enc Tryz.prog W' 0 sp true 43 (.agg #[.int .i64 a0, .int .i64 a1, .int .i64 a2]) (.agg [.lit (.int .i64 a0), .lit (.int .i64 a1), .lit (.int .i64 a2)]) [] := fun W' sp =>
    shut_agg3 (y0 := (.lit (.int .i64 a0), [])) (y1 := (.lit (.int .i64 a1), [])) (y2 := (.lit (.int .i64 a2), [])) Tryz.underlying43 (by kernel_rfl) cells43
      ⟨1, by simp [DataW.trod, Tryz.underlying3, w0]⟩ ⟨1, by simp [DataW.trod, Tryz.underlying3, w1]⟩ ⟨1, by simp [DataW.trod, Tryz.underlying3, w2]⟩
  refine (walk a0 a1 a2 W).mono fun e W' ⟨he, hg⟩ => ?_
  subst he
  exact ⟨_, rfl, post_of_below (pa := []) (pv := []) hW' (fun _ _ _ => (trodAll_cons_mk (shut_bool Tryz.underlying4 _) trodAll_mk0)) (fun sp _ => (trodAll_cons_mk (structReads _ sp) trodAll_mk0)) (fun _ _ => rfl) rfl
    hg (ok_one (by kernel_rfl) rfl (okWide_bool_mk Tryz.underlying4 _))⟩

set_option maxHeartbeats 40000000 in
/-- The facts of the row, each by the kernel for itself. -/
theorem closed : joinedFacts Tryz.prog 9 Tryz.f9 Rows.worldNoneSpec Rows.worldNoneRow = true := by
  unfold joinedFacts
  simp only [Bool.and_eq_true]
  and_intros
  all_goals (as_aux_lemma => kernel_rfl)

set_option maxHeartbeats 40000000 in
theorem over : Rows.worldNoneRow.holds Tryz.pinned (OpenSpec.ofChange Rows.worldNoneSpec) :=
  OpenClaim.holds_of_wide 9 Tryz.f9 rfl rfl rfl rfl rfl rfl rfl ⟨rfl, rfl, rfl, rfl, rfl⟩ rfl rfl rfl rfl rfl (by as_aux_lemma => kernel_rfl) Tryz.func9 closed
    (of_decide_eq_true (by as_aux_lemma => kernel_rfl)) (by unfold Func.isWrapper; first | (rw [if_pos (by decide +kernel)]; kernel_rfl) | (rw [if_neg (by decide +kernel)]; exact ⟨rfl, rfl⟩))
    (fun os started H enc _ => lifted os started H enc)

/-- THE STATEMENT -/
theorem proved : Rows.WorldNoneSaid :=
  over
#print axioms proved
end Go.Proofs.YtkcbegmkbjmmfaaGreat.worldNone
