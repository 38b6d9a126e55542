/- Regions that draw their order (3): every schedule comes to the same. -/
import Derived.Test.YtiafmiembjomhaaGreatAbDraw2
set_option linter.unusedSimpArgs false
set_option linter.unusedVariables false
set_option linter.unusedSectionVars false
set_option linter.unnecessarySimpa false
namespace Go.Ab
noncomputable section
open Go Go.RowKit

def T0f : Nat → Bool := fun _ => false

theorem tdo_shift {D : Nat → Bool} : ∀ (es : List Ent) (i : Nat) (T : List Value), tdo D es (i + 1) T = tdo (fun j => D (j + 1)) es i T
  | [], _, _ => rfl
  | en :: es, i, T => by rw [tdo, tdo, tdo_shift es (i + 1)]

theorem tdo_none {D : Nat → Bool} : ∀ (es : List Ent) (i : Nat) (T : List Value), (∀ j, D j = false) → tdo D es i T = T
  | [], _, _, _ => rfl
  | en :: es, i, T, h => by rw [tdo, h i]; exact tdo_none es (i + 1) T h

theorem nact_cons (en : Ent) (es : List Ent) (p : Nat) : nact (en :: es) (p + 1) = nact es p + (if en.act = true then 1 else 0) := by
  simp [nact, List.countP_cons]

def nal (es : List Ent) (p : Nat) : Nat := (es.take p).countP fun en => (allocOf en.o.op).isSome

theorem nal_cons (en : Ent) (es : List Ent) (p : Nat) : nal (en :: es) (p + 1) = nal es p + (if (allocOf en.o.op).isSome = true then 1 else 0) := by
  simp [nal, List.countP_cons]

/-- What is known of the way through the text. -/
structure TxtOk (G : Prg) (cf : FuncId → List Value → AH → Option CRes) (ops : Array Oper) (l : List Oper) (nx : Nat) (T : List Value) (h : AH) (es : List Ent) (hs : List AH) (Tf : List Value) : Prop where
  os : es.map (·.o) = l
  first : hs[0]? = some h
  len : hs.length = nact es es.length + 1
  last : Tf = tdo (fun _ => true) es 0 T
  nm : ∀ p en, es[p]? = some en → en.nm = nx + nal es p
  at_ : ∀ p en, es[p]? = some en → en.T = tdo (fun i => decide (i < p)) es 0 T ∧ en.want = wantedL ops en.T en.o ∧ (en.want = false → en.v = undef ∧ en.act = false) ∧ (en.want = true → en.act = match allocOf en.o.op with | some _ => false | none => !quietC G en.o.op) ∧
    (en.act = true → ∃ h1 h2, hs[nact es p]? = some h1 ∧ hs[nact es p + 1]? = some h2 ∧ evAct G cf en.T h1 en.o = some (en.v, h2)) ∧ (en.want = true → ∀ k, allocOf en.o.op = some k → en.v = ptrTo k en.nm)

theorem txt_ok {G : Prg} {cf : FuncId → List Value → AH → Option CRes} {ops : Array Oper} : ∀ (l : List Oper) (nx : Nat) (T : List Value) (h : AH) (es : List Ent) (hs : List AH) (Tf : List Value),
    txt G cf ops l nx T h = some (es, hs, Tf) → TxtOk G cf ops l nx T h es hs Tf
  | [], nx, T, h, es, hs, Tf, ht => by
    simp only [txt, Option.some.injEq, Prod.mk.injEq] at ht
    obtain ⟨rfl, rfl, rfl⟩ := ht
    exact ⟨rfl, rfl, rfl, rfl, fun p en hp => by simp at hp, fun p en hp => by simp at hp⟩
  | o :: rest, nx, T, h, es, hs, Tf, ht => by
    rw [txt] at ht
    have build : ∀ (en : Ent) (es' : List Ent) (hs' : List AH) (h' : AH), en.o = o → en.T = T → en.nm = nx → en.want = wantedL ops T o → (en.want = false → en.v = undef ∧ en.act = false) → (en.want = true → en.act = match allocOf o.op with | some _ => false | none => !quietC G o.op) →
        (en.act = false → hs = hs' ∧ h' = h) → (en.act = true → hs = h :: hs' ∧ evAct G cf T h o = some (en.v, h')) → (en.want = true → ∀ k, allocOf o.op = some k → en.v = ptrTo k nx) → es = en :: es' → TxtOk G cf ops rest (bump o nx) (putL T o.dst en.v) h' es' hs' Tf → TxtOk G cf ops (o :: rest) nx T h es hs Tf := by
      intro en es' hs' h' ho hT hnm hwant hw1 hw2 ha1 ha2 hal hes ok
      subst hes
      refine ⟨by simp [ho, ok.os], ?_, ?_, ?_, ?_, ?_⟩
      · cases hact : en.act with
        | false => obtain ⟨rfl, rfl⟩ := ha1 hact; exact ok.first
        | true => obtain ⟨rfl, _⟩ := ha2 hact; rfl
      · rw [List.length_cons, nact_cons]
        cases hact : en.act with
        | false => obtain ⟨rfl, rfl⟩ := ha1 hact; simp [ok.len]
        | true => obtain ⟨rfl, _⟩ := ha2 hact; simp [ok.len]
      · rw [tdo, tdo_shift]; simp only [ho]; exact ok.last
      · intro p e hp
        cases p with
        | zero => simp at hp; subst hp; simp [nal, hnm]
        | succ p =>
          have := ok.nm p e (by simpa using hp)
          rw [this, nal_cons, ho]
          unfold bump
          cases allocOf o.op with
          | none => simp
          | some el => simp; omega
      · intro p e hp
        cases p with
        | zero =>
          simp at hp; subst hp
          refine ⟨?_, by rw [hT, ho]; exact hwant, hw1, by rw [ho]; exact hw2, ?_, by rw [ho, hnm]; exact hal⟩
          · rw [hT, tdo_none _ _ _ (by simp)]
          · intro hact
            obtain ⟨rfl, hev⟩ := ha2 hact
            refine ⟨h, h', by simp [nact], ?_, by rw [hT, ho]; exact hev⟩
            simpa [nact] using ok.first
        | succ p =>
          obtain ⟨h1, h2, h3, h4, h5, h6⟩ := ok.at_ p e (by simpa using hp)
          refine ⟨?_, h2, h3, h4, ?_, h6⟩
          · rw [h1, tdo, tdo_shift]
            simp [ho]
          · intro hact
            obtain ⟨g1, g2, g3, g4, g5⟩ := h5 hact
            refine ⟨g1, g2, ?_, ?_, g5⟩
            · rw [nact_cons]
              cases ha : en.act with
              | false => obtain ⟨rfl, rfl⟩ := ha1 ha; simpa using g3
              | true => obtain ⟨rfl, _⟩ := ha2 ha; simpa using g3
            · rw [nact_cons]
              cases ha : en.act with
              | false => obtain ⟨rfl, rfl⟩ := ha1 ha; simpa using g4
              | true => obtain ⟨rfl, _⟩ := ha2 ha; simpa using g4
    split at ht
    · rename_i hwf
      split at ht
      · rename_i es' hs' T' hrec
        cases ht
        exact build ⟨o, undef, false, false, T, nx⟩ es' hs h rfl rfl rfl hwf.symm (fun _ => ⟨rfl, rfl⟩) (fun hx => by cases hx) (fun _ => ⟨rfl, rfl⟩) (fun hx => by cases hx) (fun hx => by cases hx) rfl (txt_ok rest _ _ _ _ _ _ hrec)
      · cases ht
    · rename_i hwt
      split at ht
      · rename_i el hel
        split at ht
        · rename_i es' hs' T' hrec
          cases ht
          exact build ⟨o, ptrTo el nx, true, false, T, nx⟩ es' hs h rfl rfl rfl hwt.symm (fun hx => by cases hx) (fun _ => by rw [hel]) (fun _ => ⟨rfl, rfl⟩) (fun hx => by cases hx) (fun _ k hk => by rw [hel] at hk; cases hk; rfl) rfl (txt_ok rest _ _ _ _ _ _ hrec)
        · cases ht
      · rename_i hel
        split at ht
        · rename_i hq
          split at ht
          · rename_i v hev
            split at ht
            · rename_i es' hs' T' hrec
              cases ht
              exact build ⟨o, v, true, false, T, nx⟩ es' hs h rfl rfl rfl hwt.symm (fun hx => by cases hx) (fun _ => by rw [hel, hq]; rfl) (fun _ => ⟨rfl, rfl⟩) (fun hx => by cases hx) (fun _ k hx => by rw [hel] at hx; cases hx) rfl (txt_ok rest _ _ _ _ _ _ hrec)
            · cases ht
          · cases ht
        · rename_i hq
          split at ht
          · rename_i v h' hev
            split at ht
            · rename_i es' hs' T' hrec
              cases ht
              exact build ⟨o, v, true, true, T, nx⟩ es' hs' h' rfl rfl rfl hwt.symm (fun hx => by cases hx) (fun _ => by rw [hel, hq]; rfl) (fun hx => by cases hx) (fun _ => ⟨rfl, hev⟩) (fun _ k hx => by rw [hel] at hx; cases hx) rfl (txt_ok rest _ _ _ _ _ _ hrec)
            · cases ht
          · cases ht

theorem nal_lt {es : List Ent} {p q : Nat} {en : Ent} (h : es[p]? = some en) (ha : (allocOf en.o.op).isSome = true) (hpq : p < q) : nal es p < nal es q := by
  unfold nal
  have h1 : (es.take (p + 1)).countP (fun en => (allocOf en.o.op).isSome) = (es.take p).countP (fun en => (allocOf en.o.op).isSome) + 1 := by
    rw [List.take_add_one, h]
    simp [List.countP_append, List.countP_cons, ha]
  have h2 : (es.take (p + 1)).countP (fun en => (allocOf en.o.op).isSome) ≤ (es.take q).countP (fun en => (allocOf en.o.op).isSome) := by
    have : es.take (p + 1) = (es.take q).take (p + 1) := by rw [List.take_take, Nat.min_eq_left (show p + 1 ≤ q from hpq)]
    rw [this]
    exact (List.take_sublist _ _).countP_le
  omega

theorem preA_ok {P : Program} : ∀ (l : List Oper) (h h0 : AH), preA P l h = some h0 → h0.next = h.next + l.countP (fun o => (allocOf o.op).isSome) ∧ ∀ m, m < h.next → h0.tbl.get m = h.tbl.get m
  | [], h, h0, hp => by simp only [preA, Option.some.injEq] at hp; subst hp; exact ⟨rfl, fun _ _ => rfl⟩
  | o :: rest, h, h0, hp => by
    rw [preA] at hp
    split at hp
    · rename_i el hel
      split at hp
      · split at hp
        · rename_i h' hn
          obtain ⟨h1, h2⟩ := preA_ok rest h' h0 hp
          have hnx := AH.new_next hn
          refine ⟨by rw [h1, hnx, List.countP_cons_of_pos (by simp [hel])]; omega, fun m hm => ?_⟩
          rw [h2 m (by omega), AH.new_get hn, if_neg (by omega)]
        · cases hp
      · cases hp
    · rename_i hel
      obtain ⟨h1, h2⟩ := preA_ok rest h h0 hp
      exact ⟨by rw [h1, List.countP_cons_of_neg (by simp [hel])], h2⟩

theorem nact_mono (es : List Ent) {p q : Nat} (h : p ≤ q) : nact es p ≤ nact es q := by
  unfold nact
  have : es.take p = (es.take q).take p := by rw [List.take_take, Nat.min_eq_left h]
  rw [this]
  exact (List.take_sublist p _).countP_le

theorem nact_succ {es : List Ent} {p : Nat} {en : Ent} (h : es[p]? = some en) : nact es (p + 1) = nact es p + (if en.act = true then 1 else 0) := by
  unfold nact
  rw [List.take_add_one, h]
  simp [List.countP_append, List.countP_cons]

theorem nact_lt {es : List Ent} {p q : Nat} {en : Ent} (h : es[p]? = some en) (ha : en.act = true) (hpq : p < q) : nact es p < nact es q := by
  have h1 := nact_succ h
  rw [ha] at h1
  have h2 := nact_mono es (show p + 1 ≤ q from hpq)
  simp at h1; omega

theorem nact_prev {es : List Ent} : ∀ (j : Nat), j ≤ es.length → 0 < nact es j → ∃ p en, p < j ∧ es[p]? = some en ∧ en.act = true ∧ nact es p + 1 = nact es j
  | 0, _, h => by simp [nact] at h
  | j + 1, hj, h => by
    have hlt : j < es.length := by omega
    have hen : es[j]? = some es[j] := by simp [hlt]
    have hs := nact_succ hen
    cases ha : es[j].act with
    | true => exact ⟨j, es[j], by omega, hen, ha, by rw [hs, ha]; simp⟩
    | false =>
      rw [ha] at hs
      simp at hs
      obtain ⟨p, en, h1, h2, h3, h4⟩ := nact_prev (es := es) j (by omega) (by omega)
      exact ⟨p, en, by omega, h2, h3, by omega⟩

end
end Go.Ab
