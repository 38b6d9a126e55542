/- One operation on names: the model does the same. -/
import Derived.Test.YtiafmiembjomhaaGreatAbOps6
import Derived.Laws.BytesString
set_option linter.unusedSimpArgs false
set_option linter.unusedVariables false
set_option linter.unusedSectionVars false
set_option linter.unnecessarySimpa false
namespace Go.Ab
noncomputable section
open Go Go.RowKit
variable {S0 : Sym}

variable {G : Prg} {e : Env} {h : AH} {w0 : Bs S0} {w : World}

def OpGood (G : Prg) (e : Env) (w0 : Bs S0) (w : World) (o : Oper) (a : Act) : OpRes → Prop
  | .val v h' => ∃ e' v' w', e.le e' ∧ Rv e' v v' ∧ Rw G.P e' h' w0 w' ∧ ((execOp a.eval o).run G.P w = .ok (.value v') w' ∨ ((execOp a.eval o).run G.P w = .ok .skip w' ∧ v' = undef))
  | .call f args => ∃ args', Rl e args args' ∧ (execOp a.eval o).run G.P w = .ok (.enter f ⟨args'⟩) w
  | .defer f cap args => ∃ cap' args', Rl e cap cap' ∧ Rl e args args' ∧ (execOp a.eval o).run G.P w = .ok (.defer { target := .fn (.func f) ⟨cap'⟩, args := ⟨args'⟩ }) w
  | .panic v => ∃ v', Rv e v v' ∧ (execOp a.eval o).run G.P w = .halt (.panic v') w
  | .recover => (execOp a.eval o).run G.P w = .ok .recover w

theorem good_val {o : Oper} {a : Act} {v v' : Value} (hw : Rw G.P e h w0 w) (hv : Rv e v v') (hr : (execOp a.eval o).run G.P w = .ok (.value v') w) : OpGood G e w0 w o a (.val v h) :=
  ⟨e, v', w, e.le_refl, hv, hw, .inl hr⟩

theorem nextVal_some {x : Option Next} {v : Value} (h : nextVal x = some v) : x = some (.value v) ∧ ground v = true := by
  unfold nextVal at h; split at h
  · split at h
    · rename_i hg; cases h; exact ⟨rfl, hg⟩
    · cases h
  · cases h

theorem grd_some {x : Option Value} {v : Value} (h : grd x = some v) : x = some v ∧ ground v = true := by
  unfold grd at h; split at h
  · split at h
    · rename_i hg; cases h; exact ⟨rfl, hg⟩
    · cases h
  · cases h

theorem beq_nat (a b : Nat) : Nat.beq a b = decide (a = b) := by
  by_cases h : a = b
  · rw [beq_yes h]; simp [h]
  · rw [beq_no h]; simp [h]

theorem eqA_sound {t : TypeId} {x y x' y' : Value} {b : Bool} (hx : Rv e x x') (hy : Rv e y y') (h : eqA G.P t x y = some b) (w : World) : (Op.equal t x' y').run G.P w = .ok b w := by
  suffices hs : ∀ d, (Op.equalIn (d + 1) t x' y').run G.P w = .ok b w from hs 9999
  intro d
  unfold eqA at h
  split at h
  · rename_i el hu
    split at h
    · cases h; obtain rfl := hx.scalar_inv rfl
      rename_i a; obtain ⟨n, off, sp⟩ := a
      obtain ⟨rfl, b, sz, es, he, rfl⟩ := hy.ptr_inv
      simp [Op.equalIn, Sem.run_bind, run_underlying hu]
    · cases h; obtain rfl := hy.scalar_inv rfl
      rename_i a; obtain ⟨n, off, sp⟩ := a
      obtain ⟨rfl, b, sz, es, he, rfl⟩ := hx.ptr_inv
      simp [Op.equalIn, Sem.run_bind, run_underlying hu]
    · rename_i n off m off'
      obtain ⟨_, b1, sz1, es1, he1, rfl⟩ := hx.ptr_inv
      obtain ⟨_, b2, sz2, es2, he2, rfl⟩ := hy.ptr_inv
      split at h
      · rename_i k hnm hk
        obtain rfl := Nat.eq_of_beq_eq_true hnm
        rw [he1] at he2; cases he2
        cases h
        simp [Op.equalIn, Sem.run_bind, run_underlying hu, sizeA_sound G.P hk, sameAddr, beq_nat]
        by_cases ho : off = off' <;> simp [ho]
      · cases h
    · cases h
  · rename_i el hu
    split at h
    · cases h
      rename_i l1 c1 a l2 c2
      cases hx with
      | sc _ hs =>
        obtain ⟨b, off, cap', rfl⟩ := hy.slice_any
        simp [Op.equalIn, Sem.run_bind, run_underlying hu]
    · cases h
      rename_i a l1 c1 l2 c2
      cases hy with
      | sc _ hs =>
        obtain ⟨b, off, cap', rfl⟩ := hx.slice_any
        simp [Op.equalIn, Sem.run_bind, run_underlying hu]
    · cases h
  · rename_i kt el hu
    split at h
    · cases h; obtain rfl := hx.scalar_inv rfl
      obtain ⟨b, sz, es, he, rfl⟩ := hy.map_inv
      simp [Op.equalIn, Sem.run_bind, run_underlying hu]
    · cases h; obtain rfl := hy.scalar_inv rfl
      obtain ⟨b, sz, es, he, rfl⟩ := hx.map_inv
      simp [Op.equalIn, Sem.run_bind, run_underlying hu]
    · cases h
  · rename_i p1 p2 p3 hu
    split at h
    · cases h; obtain rfl := hx.scalar_inv rfl
      rename_i fn f c
      obtain ⟨f', c', rfl, _, _⟩ := Rv.func_inv (f := f.toList) (c := c.toList) hy
      simp [Op.equalIn, Sem.run_bind, run_underlying hu]
    · cases h; obtain rfl := hy.scalar_inv rfl
      rename_i fn f c
      obtain ⟨f', c', rfl, _, _⟩ := Rv.func_inv (f := f.toList) (c := c.toList) hx
      simp [Op.equalIn, Sem.run_bind, run_underlying hu]
    · cases h
  · rename_i ms hu
    split at h
    · cases h; obtain rfl := hx.scalar_inv rfl
      obtain ⟨u, rfl, _⟩ := hy.iface_inv
      simp [Op.equalIn, Sem.run_bind, run_underlying hu]
    · cases h; obtain rfl := hy.scalar_inv rfl
      obtain ⟨u, rfl, _⟩ := hx.iface_inv
      simp [Op.equalIn, Sem.run_bind, run_underlying hu]
    · cases h
  · cases h

/-- Neither side is one that the guard or the other operators look into. -/
theorem bin_eq_run {t : TypeId} {x y : Operand} {vx vy x' y' : Value} {b : Bool} (hx : Rv e vx x') (hy : Rv e vy y') (h : eqA G.P t vx vy = some b) (w : World) :
    ((do eqGuard .eql t x y x' y'; binOp .eql t x' y' : Sem Value)).run G.P w = .ok (.bool b) w ∧ ((do eqGuard .neq t x y x' y'; binOp .neq t x' y' : Sem Value)).run G.P w = .ok (.bool (!b)) w := by
  have he := eqA_sound hx hy h w
  unfold eqA at h
  split at h
  · split at h
    · obtain rfl := hx.scalar_inv rfl
      rename_i a; obtain ⟨n, off, sp⟩ := a
      obtain ⟨rfl, _, _, _, _, rfl⟩ := hy.ptr_inv
      constructor <;> simp [eqGuard, binOp, Sem.run_bind, he]
    · obtain rfl := hy.scalar_inv rfl
      rename_i a; obtain ⟨n, off, sp⟩ := a
      obtain ⟨rfl, _, _, _, _, rfl⟩ := hx.ptr_inv
      constructor <;> simp [eqGuard, binOp, Sem.run_bind, he]
    · obtain ⟨_, _, _, _, _, rfl⟩ := hx.ptr_inv
      obtain ⟨_, _, _, _, _, rfl⟩ := hy.ptr_inv
      constructor <;> simp [eqGuard, binOp, Sem.run_bind, he]
    · cases h
  · split at h
    · cases hx with
      | sc _ hs =>
        obtain ⟨_, _, _, rfl⟩ := hy.slice_any
        constructor <;> simp [eqGuard, binOp, Sem.run_bind, he]
    · cases hy with
      | sc _ hs =>
        obtain ⟨_, _, _, rfl⟩ := hx.slice_any
        constructor <;> simp [eqGuard, binOp, Sem.run_bind, he]
    · cases h
  · split at h
    · obtain rfl := hx.scalar_inv rfl
      obtain ⟨_, _, _, _, rfl⟩ := hy.map_inv
      constructor <;> simp [eqGuard, binOp, Sem.run_bind, he]
    · obtain rfl := hy.scalar_inv rfl
      obtain ⟨_, _, _, _, rfl⟩ := hx.map_inv
      constructor <;> simp [eqGuard, binOp, Sem.run_bind, he]
    · cases h
  · split at h
    · obtain rfl := hx.scalar_inv rfl
      rename_i fn f c
      obtain ⟨f', c', rfl, _, _⟩ := Rv.func_inv (f := f.toList) (c := c.toList) hy
      constructor <;> simp [eqGuard, binOp, Sem.run_bind, he]
    · obtain rfl := hy.scalar_inv rfl
      rename_i fn f c
      obtain ⟨f', c', rfl, _, _⟩ := Rv.func_inv (f := f.toList) (c := c.toList) hx
      constructor <;> simp [eqGuard, binOp, Sem.run_bind, he]
    · cases h
  · split at h
    · obtain rfl := hx.scalar_inv rfl
      obtain ⟨u, rfl, _⟩ := hy.iface_inv
      constructor <;> simp [eqGuard, binOp, Sem.run_bind, he]
    · obtain rfl := hy.scalar_inv rfl
      obtain ⟨u, rfl, _⟩ := hx.iface_inv
      constructor <;> simp [eqGuard, binOp, Sem.run_bind, he]
    · cases h
  · cases h

theorem rangeA_sound {v v' : Value} {a b : Int} (hv : Rv e v v') (h : rangeA v = some (a, b)) : ∃ n, v' = .int .i64 n ∧ a ≤ n ∧ n ≤ b := by
  unfold rangeA at h
  split at h
  · rename_i n
    cases h
    exact ⟨_, hv.int_inv, Int.le_refl _, Int.le_refl _⟩
  · rename_i j
    split at h
    · rename_i lo hi hb
      cases h
      cases hv with
      | sc _ hs => simp [scalar] at hs
      | opq _ _ hj => exact (e.S.ok _ _ hj).2.2 _ _ hb
    · cases h
  · cases h

theorem cmpA_run {op : BinOp} {t : TypeId} {x y : Operand} {vx vy x' y' : Value} {b : Bool} (hx : Rv e vx x') (hy : Rv e vy y') (h : cmpA op vx vy = some b) (w : World) :
    ((do eqGuard op t x y x' y'; binOp op t x' y' : Sem Value)).run G.P w = .ok (.bool b) w := by
  unfold cmpA at h
  split at h
  · rename_i a1 b1 c1 d1 h1 h2
    obtain ⟨n, rfl, n1, n2⟩ := rangeA_sound hx h1
    obtain ⟨m, rfl, m1, m2⟩ := rangeA_sound hy h2
    unfold cmpI at h
    split at h <;> (try cases h) <;> (split at h <;> (try cases h)) <;> simp_all [eqGuard, binOp, Op.intCmp, Sem.run_bind] <;> omega
  · cases h

theorem aBin_sound {op : BinOp} {t : TypeId} {x y : Operand} {vx vy x' y' v : Value} (hx : Rv e vx x') (hy : Rv e vy y') (h : aBin G.P op t x y vx vy = some v) (w : World) :
    ∃ v', Rv e v v' ∧ ((do eqGuard op t x y x' y'; binOp op t x' y' : Sem Value)).run G.P w = .ok v' w := by
  unfold aBin at h
  split at h
  · rename_i g1 g2
    obtain rfl := hx.ground_inv g1
    obtain rfl := hy.ground_inv g2
    split at h
    · rename_i v2 hg
      split at h
      · cases h
        exact ⟨v, Rv.of_ground _ (by assumption), pureRun_sound G.P _ hg w⟩
      · cases h
    · cases h
  · split at h
    · rename_i b hb
      cases h
      exact ⟨_, .sc _ rfl, cmpA_run hx hy hb w⟩
    · split at h
      · split at h
        · rename_i b hb; cases h
          exact ⟨_, .sc _ rfl, (bin_eq_run hx hy hb w).1⟩
        · cases h
      · split at h
        · rename_i b hb; cases h
          exact ⟨_, .sc _ rfl, (bin_eq_run hx hy hb w).2⟩
        · cases h
      · cases h

theorem aLen_sound (hw : Rw G.P e h w0 w) {argTypes : Array TypeId} {ty : TypeId} {x x' v : Value} (hx : Rv e x x') (ha : aLen G.P argTypes ty x h = some v) :
    ∃ v', Rv e v v' ∧ (Builtin.len_ argTypes ty #[x']).run G.P w = .ok v' w := by
  unfold aLen at ha
  split at ha
  · rename_i hg
    obtain rfl := hx.ground_inv hg
    split at ha
    · rename_i v2 hp
      split at ha
      · cases ha
        exact ⟨v, Rv.of_ground _ (by assumption), pureRun_sound G.P _ hp w⟩
      · cases ha
    · cases ha
  · split at ha
    · rename_i t ht
      split at ha
      · rename_i el a n cap hu _
        cases ha
        cases a with
        | none =>
          cases hx with
          | sc _ hs => exact ⟨_, .sc _ rfl, by simp [Builtin.len_, ht, Sem.run_bind, run_underlying hu, goInt]⟩
        | some a =>
          obtain ⟨b, off, cap', rfl⟩ := hx.slice_any
          exact ⟨_, .sc _ rfl, by simp [Builtin.len_, ht, Sem.run_bind, run_underlying hu, goInt]⟩
      · rename_i kt el n hu _
        split at ha
        · rename_i l clock hg
          cases ha
          obtain ⟨b, sz, es, h1, rfl⟩ := hx.map_inv
          obtain ⟨l', h2, h3, hre⟩ := hw.map_of hg h1
          exact ⟨_, .sc _ rfl, by simp [Builtin.len_, ht, Sem.run_bind, run_underlying hu, goInt, getObj, Sem.run, h3, hre.length]⟩
        · cases ha
      · rename_i n el hu _
        cases ha
        exact ⟨_, .sc _ rfl, by simp [Builtin.len_, ht, Sem.run_bind, run_underlying hu, goInt]⟩
      · cases ha
    · cases ha

theorem aCap_sound {argTypes : Array TypeId} {ty : TypeId} {x x' v : Value} (hx : Rv e x x') (ha : aCap G.P argTypes ty x = some v) (w : World) :
    ∃ v', Rv e v v' ∧ (Builtin.cap_ argTypes ty #[x']).run G.P w = .ok v' w := by
  unfold aCap at ha
  split at ha
  · rename_i hg
    obtain rfl := hx.ground_inv hg
    split at ha
    · rename_i v2 hp
      split at ha
      · cases ha
        exact ⟨v, Rv.of_ground _ (by assumption), pureRun_sound G.P _ hp w⟩
      · cases ha
    · cases ha
  · split at ha
    · rename_i t ht
      split at ha
      · rename_i el n off len cap hu _
        split at ha
        · cases ha
        · rename_i hcap
          cases ha
          obtain ⟨_, b, sz, es, cap', he, hck, _, _, rfl⟩ := hx.slice_inv
          have hne : cap ≠ capRest := fun hc => by rw [beq_yes hc] at hcap; cases hcap
          obtain rfl := hck hne
          exact ⟨_, .sc _ rfl, by simp [Builtin.cap_, ht, Sem.run_bind, run_underlying hu, goInt]⟩
      · cases ha
    · cases ha

theorem byteL_rel {e : Env} : ∀ {l l' : List Value} {ns : List Int}, Rl e l l' → byteL l = some ns → l' = ns.map (Value.int .u8)
  | _, _, ns, .nil, h => by simp only [byteL, Option.some.injEq] at h; subst h; rfl
  | _, _, ns, .cons v v' l l' hv hl, h => by
    cases v with
    | int k n =>
      cases k with
      | u8 =>
        simp only [byteL] at h
        split at h
        · rename_i m hm; cases h
          rw [hv.int_inv, byteL_rel hl hm]; rfl
        · cases h
      | _ => simp [byteL] at h
    | _ => simp [byteL] at h

theorem aConvert_sound (hw : Rw G.P e h w0 w) {src dst : TypeId} {x x' v : Value} (hx : Rv e x x') (ha : aConvert G.P src dst x h = some v) :
    ∃ v', Rv e v v' ∧ (convert src dst x').run G.P w = .ok v' w := by
  unfold aConvert at ha
  split at ha
  · rename_i hg
    obtain ⟨h1, h2⟩ := grd_some ha
    obtain rfl := hx.ground_inv hg
    exact ⟨v, Rv.of_ground _ h2, pureRun_sound G.P _ h1 w⟩
  · split at ha
    · rename_i el hs hd
      split at ha
      · rename_i he
        split at ha
        · rename_i n off len cap _
          obtain ⟨_, b, sz, es, cap', hen, _, _, _, rfl⟩ := hx.slice_inv
          split at ha
          · rename_i c el' sp hg
            split at ha
            · rename_i ns hle hb
              cases ha
              obtain ⟨l', hl, hr⟩ := hw.load_cells hg hen off len (Nat.le_of_ble_eq_true hle)
              have hl' := byteL_rel hl hb
              subst hl'
              refine ⟨_, .sc _ rfl, ?_⟩
              rw [run_convert_bytes_string w src dst el _ _ _ hs he hd, run_bytesToString w _ _ _ ns hr]
            · cases ha
          · cases ha
        · cases ha
      · cases ha
    · cases ha

theorem aTypeAssert_sound {x x' v : Value} {xt asserted : TypeId} {ok : Bool} (hx : Rv e x x') (ha : aTypeAssert G.P x asserted ok = some v) (w : World) :
    ∃ v', Rv e v v' ∧ (Instr.typeAssert x' xt asserted ok).run G.P w = .ok v' w := by
  unfold aTypeAssert at ha
  split at ha
  · cases ha
  · rename_i d hni hu
    have hni : ∀ ms, d ≠ .interface ms := hni
    split at ha
    · obtain rfl := hx.scalar_inv rfl
      split at ha
      · rename_i z hz
        cases ha
        obtain ⟨hz1, hz2⟩ := zeroA_sound hz w
        refine ⟨.tuple ⟨[z, .bool false]⟩, .tuple _ _ (.cons _ _ _ _ (hz2 e) (.cons _ _ _ _ (.sc _ rfl) .nil)), ?_⟩
        cases d <;> first | exact absurd rfl (hni _) | simp [Instr.typeAssert, Sem.run_bind, run_underlying hu, hz1]
      · cases ha
    · rename_i t u
      obtain ⟨u', rfl, hu'⟩ := hx.iface_inv
      split at ha
      · rename_i hb
        obtain rfl := Nat.eq_of_beq_eq_true hb
        cases ha
        cases ok with
        | true =>
          refine ⟨.tuple ⟨[u', .bool true]⟩, .tuple _ _ (.cons _ _ _ _ hu' (.cons _ _ _ _ (.sc _ rfl) .nil)), ?_⟩
          cases d <;> first | exact absurd rfl (hni _) | simp [Instr.typeAssert, Sem.run_bind, run_underlying hu]
        | false =>
          refine ⟨u', hu', ?_⟩
          cases d <;> first | exact absurd rfl (hni _) | simp [Instr.typeAssert, Sem.run_bind, run_underlying hu]
      · rename_i hb
        have hne : ¬ t = asserted := fun hq => by rw [beq_yes hq] at hb; cases hb
        split at ha
        · rename_i z hz
          cases ha
          obtain ⟨hz1, hz2⟩ := zeroA_sound hz w
          refine ⟨.tuple ⟨[z, .bool false]⟩, .tuple _ _ (.cons _ _ _ _ (hz2 e) (.cons _ _ _ _ (.sc _ rfl) .nil)), ?_⟩
          cases d <;> first | exact absurd rfl (hni _) | simp [Instr.typeAssert, Sem.run_bind, run_underlying hu, hz1, hne]
        · cases ha
    · cases ha
  · cases ha

theorem Rl.ground_inv {e : Env} : ∀ {l l' : List Value}, Rl e l l' → l.all ground = true → l' = l
  | _, _, .nil, _ => rfl
  | _, _, .cons v v' l l' h hl, hs => by
    simp only [List.all_cons, Bool.and_eq_true] at hs
    rw [h.ground_inv hs.1, Rl.ground_inv hl hs.2]

theorem Rl.nil_inv {e : Env} {l' : List Value} (h : Rl e [] l') : l' = [] := by cases h; rfl
theorem Rl.cons_inv {e : Env} {v : Value} {l l' : List Value} (h : Rl e (v :: l) l') : ∃ v' m, l' = v' :: m ∧ Rv e v v' ∧ Rl e l m := by
  cases h with
  | cons _ v' _ m h hl => exact ⟨v', m, rfl, h, hl⟩

theorem toArr {l : List Operand} {f : Operand → Value} (c : Array Operand) (h : c.toList = l) : c.map f = ⟨l.map f⟩ := by
  apply Array.ext'; simp [h]

end
end Go.Ab
