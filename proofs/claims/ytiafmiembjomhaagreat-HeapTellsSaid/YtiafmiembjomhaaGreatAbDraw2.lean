/- Regions that draw their order (2): what is checked, and that it suffices. -/
import Derived.Test.YtiafmiembjomhaaGreatAbDraw
set_option linter.unusedSimpArgs false
set_option linter.unusedVariables false
set_option linter.unusedSectionVars false
set_option linter.unnecessarySimpa false
namespace Go.Ab
noncomputable section
open Go Go.RowKit

/-! ### What stands ahead of what -/

def maskOf (o : Oper) (acc : List Nat) : Nat :=
  o.after.toList.foldl (fun s e => match Region.binds .any e with
    | true => s ||| (2 ^ e.on ||| (match acc[e.on]? with | some m => m | none => 0))
    | false => s) 0

def masks : List Oper → List Nat → List Nat
  | [], acc => acc
  | o :: rest, acc => masks rest (acc ++ [maskOf o acc])

def Closed (ops : List Oper) (D : Nat → Bool) : Prop := ∀ (j : Nat) (o : Oper), ops[j]? = some o → D j = true → ∀ e ∈ o.after.toList, Region.binds .any e = true → D e.on = true

theorem mask_bit (acc : List Nat) (i : Nat) : ∀ (l : List Edge) (s : Nat), (l.foldl (fun s e => match Region.binds .any e with
    | true => s ||| (2 ^ e.on ||| (match acc[e.on]? with | some m => m | none => 0))
    | false => s) s).testBit i = true → s.testBit i = true ∨ ∃ e ∈ l, Region.binds .any e = true ∧ (i = e.on ∨ ∃ m, acc[e.on]? = some m ∧ m.testBit i = true)
  | [], s, h => .inl h
  | e :: l, s, h => by
    rw [List.foldl_cons] at h
    rcases mask_bit acc i l _ h with h | ⟨e', he', h'⟩
    · split at h
      · rename_i hb
        rw [Nat.testBit_or, Nat.testBit_or, Bool.or_eq_true, Bool.or_eq_true] at h
        rcases h with h | h | h
        · exact .inl h
        · rw [Nat.testBit_two_pow] at h
          exact .inr ⟨e, List.mem_cons_self .., hb, .inl (by simpa using (of_decide_eq_true h).symm)⟩
        · split at h
          · rename_i m hm; exact .inr ⟨e, List.mem_cons_self .., hb, .inr ⟨m, hm, h⟩⟩
          · simp at h
      · exact .inl h
    · exact .inr ⟨e', List.mem_cons_of_mem _ he', h'⟩

theorem masks_closed (ops : List Oper) (D : Nat → Bool) (hD : Closed ops D) : ∀ (rest : List Oper) (acc : List Nat), ops.drop acc.length = rest → (∀ j m, acc[j]? = some m → ∀ i, m.testBit i = true → D j = true → D i = true) →
    ∀ j m, (masks rest acc)[j]? = some m → ∀ i, m.testBit i = true → D j = true → D i = true
  | [], acc, _, h => h
  | o :: rest, acc, hr, h => by
    rw [masks]
    have ho : ops[acc.length]? = some o := by
      have : (ops.drop acc.length)[0]? = some o := by rw [hr]; rfl
      simpa using this
    refine masks_closed ops D hD rest (acc ++ [maskOf o acc]) ?_ ?_
    · rw [List.length_append, List.length_singleton, ← List.drop_drop, hr]; rfl
    · intro j m hj i hi hDj
      rw [List.getElem?_append] at hj
      split at hj
      · exact h j m hj i hi hDj
      · rename_i hlt
        have hj0 : j = acc.length := by
          have := (List.getElem?_eq_some_iff.1 hj).1
          simp at this; omega
        subst hj0
        simp at hj
        subst hj
        unfold maskOf at hi
        rcases mask_bit acc i _ 0 hi with h0 | ⟨e, he, hb, h1⟩
        · simp at h0
        · have hDe := hD _ o ho hDj e he hb
          rcases h1 with rfl | ⟨m, hm, hbit⟩
          · exact hDe
          · exact h _ m hm i hbit hDe

/-! ### The checks -/

def opdL : Op → List Operand
  | .move x => [x] | .assign x => [x] | .box _ x => [x] | .load _ x => [x] | .nilCheck x => [x] | .unOp _ _ x => [x] | .convert _ _ x => [x]
  | .sliceToArrayPointer _ x => [x] | .makeInterface _ x => [x] | .makeChan _ x => [x] | .fieldAddr _ x _ => [x] | .field _ x _ => [x] | .range _ x => [x] | .next x _ => [x]
  | .entry x => [x] | .typeAssert x _ _ _ => [x] | .extract x _ => [x] | .panic x => [x] | .recv _ x _ => [x]
  | .alloc _ => [] | .ready _ => [] | .waits _ => []
  | .pick c a b => [c, a, b]
  | .build _ ps => ps.toList.map (·.2)
  | .buildSlice _ _ ps => ps.toList.map (·.2)
  | .store _ a v => [a, v] | .binOp _ _ a v _ => [a, v] | .makeSlice _ a v => [a, v] | .indexAddr _ a v => [a, v] | .index _ a v => [a, v] | .lookup _ a v _ => [a, v]
  | .mapEntry _ a v => [a, v] | .send a v => [a, v]
  | .makeFunc _ f c => f.toList ++ c.toList
  | .makeMap _ r => match r with | some x => [x] | none => []
  | .slice _ x l h m => x :: ((match l with | some y => [y] | none => []) ++ ((match h with | some y => [y] | none => []) ++ (match m with | some y => [y] | none => [])))
  | .mapUpdate _ m k v => [m, k, v] | .entryStore _ m k v => [m, k, v] | .insert _ m k v => [m, k, v]
  | .call c => (match c.callee with | .value f => [f] | .invoke r _ => [r] | .builtin _ => []) ++ c.args.toList
  | .go c => (match c.callee with | .value f => [f] | .invoke r _ => [r] | .builtin _ => []) ++ c.args.toList
  | .defer c => (match c.callee with | .value f => [f] | .invoke r _ => [r] | .builtin _ => []) ++ c.args.toList
  | .select cs _ => cs.toList.flatMap fun c => c.chan :: (match c.send with | some y => [y] | none => [])

theorem opdL_mem (o : Op) : ∀ x ∈ o.operands.toList, x ∈ opdL o := by
  intro x hx
  cases o with
  | slice t y l h m => cases l <;> cases h <;> cases m <;> simpa [Op.operands, opdL] using hx
  | makeMap t r => cases r <;> simpa [Op.operands, opdL] using hx
  | call c => cases hc : c.callee <;> simpa [Op.operands, Call.operands, opdL, hc] using hx
  | go c => cases hc : c.callee <;> simpa [Op.operands, Call.operands, opdL, hc] using hx
  | defer c => cases hc : c.callee <;> simpa [Op.operands, Call.operands, opdL, hc] using hx
  | select cs b =>
    simp [Op.operands, opdL] at hx ⊢
    obtain ⟨c, hc, hx⟩ := hx
    refine ⟨c, hc, ?_⟩
    cases hs : c.send <;> simp_all [eq_comm]
  | _ => simpa [Op.operands, opdL] using hx

def names (ops : Array Oper) (o : Oper) : List Tmp :=
  (match o.dst with | some d => [d] | none => []) ++ ((opdL o.op).flatMap tmpsOf ++
    (match o.guard with
      | some (g, _) => match ops.toList[g]? with
        | some og => match og.dst with | some d => [d] | none => []
        | none => []
      | none => []))

def notIn (d : Option Tmp) (l : List Tmp) : Bool := match d with
  | some d => l.all fun t => match Nat.beq d t with | true => false | false => true
  | none => true

theorem notIn_sound {d : Tmp} {l : List Tmp} (h : notIn (some d) l = true) : d ∉ l := by
  intro hd
  simp only [notIn, List.all_eq_true] at h
  have := h d hd
  rw [beq_yes rfl] at this; cases this

def chkEdges : List Oper → Nat → Bool
  | [], _ => true
  | o :: rest, i => match o.after.toList.all fun e => match Region.binds .any e with | true => Nat.blt e.on i | false => true with
    | true => chkEdges rest (i + 1)
    | false => false

theorem chkEdges_sound : ∀ (l : List Oper) (i : Nat), chkEdges l i = true → ∀ (p : Nat) (o : Oper), l[p]? = some o → ∀ e ∈ o.after.toList, Region.binds .any e = true → e.on < i + p
  | [], i, _, p, o, h => by simp at h
  | o0 :: rest, i, hc, p, o, h => by
    rw [chkEdges] at hc
    split at hc
    · rename_i hall
      cases p with
      | zero =>
        simp at h; subst h
        intro e he hb
        rw [List.all_eq_true] at hall
        have := hall e he
        rw [hb] at this
        exact Nat.le_of_ble_eq_true this
      | succ p =>
        intro e he hb
        have := chkEdges_sound rest (i + 1) hc p o (by simpa using h) e he hb
        omega
    · cases hc

def noConf (ni nj : List Tmp) (ei ej : Ent) : Bool := match ei.act, ej.act with
  | true, true => false
  | _, _ => match notIn ei.o.dst nj with
    | true => notIn ej.o.dst ni
    | false => false

def chkRow (m : Nat) (nj : List Tmp) (ej : Ent) : List (Ent × List Tmp) → Nat → Bool
  | [], _ => true
  | (ei, ni) :: rest, i => match m.testBit i with
    | true => chkRow m nj ej rest (i + 1)
    | false => match noConf ni nj ei ej with
      | true => chkRow m nj ej rest (i + 1)
      | false => false

def chkPairs : List (Ent × List Tmp) → List (Ent × List Tmp) → List Nat → Bool
  | _, [], _ => true
  | before, (ej, nj) :: rest, m :: ms => match chkRow m nj ej before 0 with
    | true => chkPairs (before ++ [(ej, nj)]) rest ms
    | false => false
  | _, _ :: _, [] => false

theorem chkRow_sound {m : Nat} {nj : List Tmp} {ej : Ent} : ∀ (l : List (Ent × List Tmp)) (i : Nat), chkRow m nj ej l i = true → ∀ p ei ni, l[p]? = some (ei, ni) → m.testBit (i + p) = true ∨ noConf ni nj ei ej = true
  | [], i, _, p, ei, ni, h => by simp at h
  | (e0, n0) :: rest, i, hc, p, ei, ni, h => by
    rw [chkRow] at hc
    have hstep : chkRow m nj ej rest (i + 1) = true ∧ (m.testBit i = true ∨ noConf n0 nj e0 ej = true) := by
      split at hc
      · rename_i hb; exact ⟨hc, .inl hb⟩
      · split at hc
        · rename_i hn; exact ⟨hc, .inr hn⟩
        · cases hc
    cases p with
    | zero => simp at h; obtain ⟨rfl, rfl⟩ := h; exact hstep.2
    | succ p =>
      have := chkRow_sound rest (i + 1) hstep.1 p ei ni (by simpa using h)
      rw [show i + (p + 1) = i + 1 + p by omega]; exact this

theorem chkPairs_sound : ∀ (rest before : List (Ent × List Tmp)) (ms : List Nat), chkPairs before rest ms = true →
    ∀ i j ei ni ej nj, i < j → before.length ≤ j → (before ++ rest)[i]? = some (ei, ni) → (before ++ rest)[j]? = some (ej, nj) → ∃ m, ms[j - before.length]? = some m ∧ (m.testBit i = true ∨ noConf ni nj ei ej = true)
  | [], before, ms, _, i, j, ei, ni, ej, nj, hij, hbj, _, hj => by
    have := (List.getElem?_eq_some_iff.1 hj).1
    simp at this; omega
  | (e0, n0) :: rest, before, [], hc, _, _, _, _, _, _, _, _, _, _ => by cases hc
  | (e0, n0) :: rest, before, m :: ms, hc, i, j, ei, ni, ej, nj, hij, hbj, hi, hj => by
    rw [chkPairs] at hc
    split at hc
    · rename_i hrow
      rcases Nat.lt_or_ge before.length j with h | h
      · have := chkPairs_sound rest (before ++ [(e0, n0)]) ms hc i j ei ni ej nj hij (by simp; omega) (by simpa using hi) (by simpa using hj)
        obtain ⟨m', h1, h2⟩ := this
        refine ⟨m', ?_, h2⟩
        rw [List.length_append, List.length_singleton] at h1
        rw [show j - before.length = (j - (before.length + 1)) + 1 by omega]
        simpa using h1
      · obtain rfl : j = before.length := by omega
        rw [List.getElem?_append_right (Nat.le_refl _)] at hj
        simp at hj
        obtain ⟨rfl, rfl⟩ := hj
        rw [List.getElem?_append_left hij] at hi
        have := chkRow_sound before 0 hrow i ei ni hi
        simp only [Nat.zero_add] at this
        exact ⟨m, by simp, this⟩
    · cases hc

/-- The operations that may turn memory, each with its rank. -/
def actsR : List Ent → Nat → Nat → List (Nat × Nat)
  | [], _, _ => []
  | en :: es, i, r => match en.act with
    | true => (i, r) :: actsR es (i + 1) (r + 1)
    | false => actsR es (i + 1) r

def nact (es : List Ent) (p : Nat) : Nat := (es.take p).countP (·.act)

theorem actsR_mem : ∀ (es : List Ent) (i r : Nat) (a q : Nat), (a, q) ∈ actsR es i r → ∃ p en, a = i + p ∧ es[p]? = some en ∧ en.act = true ∧ q = r + nact es p
  | [], i, r, a, q, h => by cases h
  | en :: es, i, r, a, q, h => by
    rw [actsR] at h
    split at h
    · rename_i hact
      rcases List.mem_cons.1 h with h | h
      · cases h; exact ⟨0, en, rfl, rfl, hact, by simp [nact]⟩
      · obtain ⟨p, en', h1, h2, h3, h4⟩ := actsR_mem es (i + 1) (r + 1) a q h
        exact ⟨p + 1, en', by omega, by simpa using h2, h3, by simp [nact, List.countP_cons, hact] at h4 ⊢; omega⟩
    · rename_i hact
      obtain ⟨p, en', h1, h2, h3, h4⟩ := actsR_mem es (i + 1) r a q h
      exact ⟨p + 1, en', by omega, by simpa using h2, h3, by simp [nact, List.countP_cons, hact] at h4 ⊢; omega⟩

def maskAt (ms : List Nat) (i : Nat) : Nat := match ms[i]? with | some m => m | none => 0

def allowed (ms : List Nat) (acts : List (Nat × Nat)) (j k : Nat) : Bool :=
  acts.all fun (a, r) => match Nat.blt r k with
    | true => match (maskAt ms a).testBit j with | true => false | false => true
    | false => match (maskAt ms j).testBit a with | true => false | false => true

/-- Does a fresh variable, or map, stand there? -/
def freshAt (P : Program) (k : Option TypeId) (ob : Option AB) : Bool := match k with
  | some el => match ob, zeroA P el with
    | some (.cells c el' false), some z => match Nat.beq el' el with
      | true => leq veq c (cellsL z)
      | false => false
    | _, _ => false
  | none => match ob with
    | some (.map [] 0) => true
    | _ => false

theorem freshAt_sound {P : Program} {k : Option TypeId} {ob : Option AB} (h : freshAt P k ob = true) : (∃ el z, k = some el ∧ zeroA P el = some z ∧ ob = some (.cells (cellsL z) el false)) ∨ (k = none ∧ ob = some (.map [] 0)) := by
  unfold freshAt at h
  split at h
  · rename_i el
    split at h
    · rename_i c el' z hz
      split at h
      · rename_i hb
        have := Nat.eq_of_beq_eq_true hb
        subst this
        exact .inl ⟨el', z, rfl, hz, by rw [leq_eq (fun _ _ => veq_eq) h]⟩
      · cases h
    · cases h
  · split at h
    · exact .inr ⟨rfl, rfl⟩
    · cases h

/-- The operation gives the same in that memory. -/
def sameAt (G : Prg) (cf : FuncId → List Value → AH → Option CRes) (en : Ent) (h : AH) : Bool := match allocOf en.o.op with
  | some k => freshAt G.P k (h.tbl.get en.nm)
  | none => match evQ G cf en.T h en.o with
    | some v => veq v en.v
    | none => false

/-- The operation gives the same wherever it may be done. -/
def chkAt (G : Prg) (cf : FuncId → List Value → AH → Option CRes) (ms : List Nat) (acts : List (Nat × Nat)) (en : Ent) (j : Nat) : List AH → Nat → Bool
  | [], _ => true
  | h :: hs, k => match allowed ms acts j k with
    | false => chkAt G cf ms acts en j hs (k + 1)
    | true => match sameAt G cf en h with
      | true => chkAt G cf ms acts en j hs (k + 1)
      | false => false

def chkQ (G : Prg) (cf : FuncId → List Value → AH → Option CRes) (ms : List Nat) (acts : List (Nat × Nat)) (hs : List AH) : List Ent → Nat → Bool
  | [], _ => true
  | en :: es, j => match en.want, en.act with
    | true, false => match chkAt G cf ms acts en j hs 0 with
      | true => chkQ G cf ms acts hs es (j + 1)
      | false => false
    | _, _ => chkQ G cf ms acts hs es (j + 1)

theorem chkAt_sound {G : Prg} {cf : FuncId → List Value → AH → Option CRes} {ms : List Nat} {acts : List (Nat × Nat)} {en : Ent} {j : Nat} : ∀ (hs : List AH) (k0 : Nat), chkAt G cf ms acts en j hs k0 = true →
    ∀ k h, hs[k]? = some h → allowed ms acts j (k0 + k) = true → sameAt G cf en h = true
  | [], k0, _, k, h, hk, _ => by simp at hk
  | h0 :: hs, k0, hc, k, h, hk, hal => by
    rw [chkAt] at hc
    cases k with
    | zero =>
      simp at hk; subst hk
      simp only [Nat.add_zero] at hal
      rw [hal] at hc
      simp only at hc
      split at hc
      · assumption
      · cases hc
    | succ k =>
      have hrest : chkAt G cf ms acts en j hs (k0 + 1) = true := by
        split at hc
        · exact hc
        · split at hc
          · exact hc
          · cases hc
      exact chkAt_sound hs (k0 + 1) hrest k h (by simpa using hk) (by rw [show k0 + 1 + k = k0 + (k + 1) by omega]; exact hal)

theorem chkQ_sound {G : Prg} {cf : FuncId → List Value → AH → Option CRes} {ms : List Nat} {acts : List (Nat × Nat)} {hs : List AH} : ∀ (es : List Ent) (j0 : Nat), chkQ G cf ms acts hs es j0 = true → ∀ p en, es[p]? = some en → en.want = true → en.act = false → chkAt G cf ms acts en (j0 + p) hs 0 = true
  | [], j0, _, p, en, h, _, _ => by simp at h
  | e0 :: es, j0, hc, p, en, h, hw, ha => by
    rw [chkQ] at hc
    cases p with
    | zero =>
      simp at h; subst h
      rw [hw, ha] at hc
      simp only at hc
      split at hc
      · rename_i hq; simpa using hq
      · cases hc
    | succ p =>
      have hrest : chkQ G cf ms acts hs es (j0 + 1) = true := by
        split at hc
        · split at hc
          · exact hc
          · cases hc
        · exact hc
      have := chkQ_sound es (j0 + 1) hrest p en (by simpa using h) hw ha
      rw [show j0 + (p + 1) = j0 + 1 + p by omega]; exact this

end
end Go.Ab
