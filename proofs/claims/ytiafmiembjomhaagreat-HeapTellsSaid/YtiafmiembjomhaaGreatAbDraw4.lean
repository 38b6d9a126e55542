/- Regions that draw their order (4). -/
import Derived.Test.YtiafmiembjomhaaGreatAbDraw3
set_option linter.unusedSimpArgs false
set_option linter.unusedVariables false
set_option linter.unusedSectionVars false
set_option linter.unnecessarySimpa false
namespace Go.Ab
noncomputable section
open Go Go.RowKit
variable {S0 : Sym}

def withNames (ops : Array Oper) (es : List Ent) : List (Ent × List Tmp) := es.map fun en => (en, names ops en.o)

def lastH : List AH → Option AH
  | [] => none
  | [h] => some h
  | _ :: l => lastH l

theorem lastH_eq : ∀ (l : List AH), lastH l = l[l.length - 1]?
  | [] => rfl
  | [h] => rfl
  | h :: k :: l => by rw [lastH, lastH_eq (k :: l)]; simp; intro hx; cases hx

/-- The region, by its way through the text; none where that does not speak for all orders. -/
def evDraw (G : Prg) (cf : FuncId → List Value → AH → Option CRes) (ops : Array Oper) (s : St) : Option (AExit × St) :=
  match preA G.P ops.toList s.h with
  | some h0 => match txt G cf ops ops.toList s.h.next s.tmps h0 with
    | some (es, hs, Tf) => match chkEdges ops.toList 0, chkPairs [] (withNames ops es) (masks ops.toList []), chkQ G cf (masks ops.toList []) (actsR es 0 0) hs es 0, lastH hs with
      | true, true, true, some h => some (.normal, ⟨Tf, s.defers, h⟩)
      | _, _, _, _ => none
    | none => none
  | none => none

theorem mem_names_op {ops : Array Oper} {o : Oper} {t : Tmp} (h : t ∈ opTmps o.op) : t ∈ names ops o := by
  unfold names
  unfold opTmps at h
  obtain ⟨x, hx, ht⟩ := List.mem_flatMap.1 h
  refine List.mem_append_right _ (List.mem_append_left _ (List.mem_flatMap.2 ⟨x, opdL_mem _ x hx, ht⟩))

theorem mem_names_dst {ops : Array Oper} {o : Oper} {t : Tmp} (h : o.dst = some t) : t ∈ names ops o := by
  unfold names; rw [h]; simp

theorem wantedL_cong {ops : Array Oper} {T T' : List Value} {o : Oper} (h : ∀ t ∈ names ops o, T[t]? = T'[t]?) : wantedL ops T o = wantedL ops T' o := by
  unfold wantedL
  cases hg : o.guard with
  | none => rfl
  | some g =>
    obtain ⟨j, want⟩ := g
    have : yieldedL ops T j = yieldedL ops T' j := by
      unfold yieldedL; simp only [getL_eq]
      cases hj : ops.toList[j]? with
      | none => rfl
      | some og =>
        cases hd : og.dst with
        | none => simp [hd]
        | some d =>
          simp only [hd]
          rw [h d (by unfold names; rw [hg]; simp [hj, hd])]
    simp only [this]

structure DrawCtx (G : Prg) (cf : FuncId → List Value → AH → Option CRes) (ops : Array Oper) (nx : Nat) (T0 : List Value) (h0 : AH) (es : List Ent) (hs : List AH) (Tf : List Value) : Prop where
  ok : TxtOk G cf ops ops.toList nx T0 h0 es hs Tf
  edges : chkEdges ops.toList 0 = true
  pairs : chkPairs [] (withNames ops es) (masks ops.toList []) = true
  q : chkQ G cf (masks ops.toList []) (actsR es 0 0) hs es 0 = true

variable {G : Prg} {cf : FuncId → List Value → AH → Option CRes} {ops : Array Oper} {nx : Nat} {T0 : List Value} {h0 : AH} {es : List Ent} {hs : List AH} {Tf : List Value}

theorem DrawCtx.op_at (c : DrawCtx G cf ops nx T0 h0 es hs Tf) {i : Nat} {en : Ent} (h : es[i]? = some en) : ops.toList[i]? = some en.o := by
  rw [← c.ok.os, List.getElem?_map, h]; rfl

theorem DrawCtx.ent_at (c : DrawCtx G cf ops nx T0 h0 es hs Tf) {i : Nat} {o : Oper} (h : ops.toList[i]? = some o) : ∃ en, es[i]? = some en ∧ en.o = o := by
  rw [← c.ok.os, List.getElem?_map] at h
  cases he : es[i]? with
  | none => rw [he] at h; cases h
  | some en => rw [he] at h; simp at h; exact ⟨en, rfl, h⟩

theorem DrawCtx.pair (c : DrawCtx G cf ops nx T0 h0 es hs Tf) {i j : Nat} {ei ej : Ent} (hij : i < j) (hi : es[i]? = some ei) (hj : es[j]? = some ej) :
    (maskAt (masks ops.toList []) j).testBit i = true ∨ noConf (names ops ei.o) (names ops ej.o) ei ej = true := by
  obtain ⟨m, h1, h2⟩ := chkPairs_sound (withNames ops es) [] (masks ops.toList []) c.pairs i j ei (names ops ei.o) ej (names ops ej.o) hij (Nat.zero_le _) (by simp [withNames, hi]) (by simp [withNames, hj])
  simp at h1
  unfold maskAt
  rw [h1]; exact h2

theorem DrawCtx.before (c : DrawCtx G cf ops nx T0 h0 es hs Tf) {D : Nat → Bool} (hD : Closed ops.toList D) {i j : Nat} (hb : (maskAt (masks ops.toList []) j).testBit i = true) (hj : D j = true) : D i = true := by
  unfold maskAt at hb
  split at hb
  · rename_i m hm
    exact masks_closed ops.toList D hD ops.toList [] rfl (fun j m h => by simp at h) j m hm i hb hj
  · simp at hb

theorem noConf_act {ni nj : List Tmp} {ei ej : Ent} (h : noConf ni nj ei ej = true) : ¬ (ei.act = true ∧ ej.act = true) := by
  rintro ⟨h1, h2⟩
  rw [noConf, h1, h2] at h; cases h

theorem noConf_dst {ni nj : List Tmp} {ei ej : Ent} (h : noConf ni nj ei ej = true) : (∀ d, ei.o.dst = some d → d ∉ nj) ∧ (∀ d, ej.o.dst = some d → d ∉ ni) := by
  unfold noConf at h
  split at h
  · cases h
  · split at h
    · rename_i h1
      exact ⟨fun d hd => notIn_sound (by rw [← hd]; exact h1), fun d hd => notIn_sound (by rw [← hd]; exact h)⟩
    · cases h

/-- An operation that may come next finds in its slots what the way through the text found. -/
theorem DrawCtx.reads (c : DrawCtx G cf ops nx T0 h0 es hs Tf) {D : Nat → Bool} {i : Nat} {en : Ent} (hi : es[i]? = some en) (hDi : D i = false) (hD : Closed ops.toList D) (hD' : Closed ops.toList (updD D i)) {t : Tmp} (ht : t ∈ names ops en.o) :
    (tdo D es 0 T0)[t]? = en.T[t]? := by
  rw [(c.ok.at_ i en hi).1, tdo_get, tdo_get]
  refine lastv_cong es 0 _ fun p ep hp hd => ?_
  rw [Nat.zero_add]
  rcases Nat.lt_trichotomy p i with h | h | h
  · rw [decide_eq_true h]
    rcases c.pair h hp hi with hb | hn
    · have := c.before hD' hb (by simp [updD])
      simpa [updD, show p ≠ i by omega] using this
    · exact absurd ht ((noConf_dst hn).1 t hd)
  · subst h; rw [hDi]; simp
  · rw [decide_eq_false (by omega)]
    rcases c.pair h hi hp with hb | hn
    · cases hDp : D p with
      | false => rfl
      | true => have := c.before hD hb hDp; rw [hDi] at this; cases this
    · exact absurd ht ((noConf_dst hn).2 t hd)

theorem DrawCtx.writes (c : DrawCtx G cf ops nx T0 h0 es hs Tf) {D : Nat → Bool} {i : Nat} {en : Ent} (hi : es[i]? = some en) (hDi : D i = false) (hD : Closed ops.toList D) :
    tdo (updD D i) es 0 T0 = putL (tdo D es 0 T0) en.o.dst en.v := by
  apply List.ext_getElem?
  intro t
  rw [tdo_get, putL_get, tdo_get]
  have := lastv_upd (D := D) (t := t) es 0 i en (T0[t]?) hi (by simpa using hDi) (fun hd p ep hip hp hdp => by
    rw [Nat.zero_add]
    rcases c.pair hip hi hp with hb | hn
    · cases hDp : D p with
      | false => rfl
      | true => have := c.before hD hb hDp; rw [hDi] at this; cases this
    · exact absurd (mem_names_dst hdp) ((noConf_dst hn).1 t hd))
  simpa using this

/-- Where the operations of D that may turn memory are the first k. -/
def Pre (es : List Ent) (D : Nat → Bool) (k : Nat) : Prop := ∀ p en, es[p]? = some en → en.act = true → (D p = true ↔ nact es p < k)

theorem DrawCtx.rank (c : DrawCtx G cf ops nx T0 h0 es hs Tf) {D : Nat → Bool} {k : Nat} (hk : Pre es D k) {i : Nat} {en : Ent} (hi : es[i]? = some en) (ha : en.act = true) (hDi : D i = false) (hD' : Closed ops.toList (updD D i)) : nact es i = k := by
  have h1 : ¬ nact es i < k := fun h => by
    have := (hk i en hi ha).2 h
    rw [hDi] at this; cases this
  rcases Nat.eq_zero_or_pos (nact es i) with h0 | hpos
  · omega
  · obtain ⟨p, ep, hpi, hp, hap, hq⟩ := nact_prev i (Nat.le_of_lt (List.getElem?_eq_some_iff.1 hi).1) hpos
    have : D p = true := by
      rcases c.pair hpi hp hi with hb | hn
      · have := c.before hD' hb (by simp [updD])
        simpa [updD, show p ≠ i by omega] using this
      · exact absurd ⟨hap, ha⟩ (noConf_act hn)
    have := (hk p ep hp hap).1 this
    omega

theorem DrawCtx.allowed (c : DrawCtx G cf ops nx T0 h0 es hs Tf) {D : Nat → Bool} {k : Nat} (hk : Pre es D k) {i : Nat} (hDi : D i = false) (hD : Closed ops.toList D) (hD' : Closed ops.toList (updD D i)) (hna : ∀ en, es[i]? = some en → en.act = false) :
    Ab.allowed (masks ops.toList []) (actsR es 0 0) i k = true := by
  unfold Ab.allowed
  rw [List.all_eq_true]
  rintro ⟨a, r⟩ hm
  obtain ⟨p, en, h1, h2, h3, h4⟩ := actsR_mem es 0 0 a r hm
  simp only [Nat.zero_add] at h1 h4
  subst h1
  subst h4
  have hpi : a ≠ i := fun h => by subst h; rw [hna en h2] at h3; cases h3
  cases hb : Nat.blt (nact es a) k with
  | true =>
    have hlt : nact es a < k := Nat.le_of_ble_eq_true hb
    have hDa := (hk a en h2 h3).2 hlt
    simp only [hb]
    cases ht : (maskAt (masks ops.toList []) a).testBit i with
    | false => rfl
    | true => have := c.before hD ht hDa; rw [hDi] at this; cases this
  | false =>
    simp only [hb]
    cases ht : (maskAt (masks ops.toList []) i).testBit a with
    | false => rfl
    | true =>
      have := c.before hD' ht (by simp [updD])
      have hDa : D a = true := by simpa [updD, hpi] using this
      have hlt := (hk a en h2 h3).1 hDa
      have : Nat.blt (nact es a) k = true := Nat.ble_eq_true_of_le hlt
      rw [this] at hb; cases hb

theorem pre_upd {D : Nat → Bool} {k i : Nat} {en : Ent} (hk : Pre es D k) (hi : es[i]? = some en) (hr : en.act = true → nact es i = k) : Pre es (updD D i) (if en.act = true then k + 1 else k) := by
  intro p ep hp ha
  by_cases hpi : p = i
  · subst hpi
    rw [hi] at hp; cases hp
    rw [if_pos ha]
    simp [updD, hr ha]
  · have hu : updD D i p = D p := by simp [updD, hpi]
    rw [hu, hk p ep hp ha]
    cases hact : en.act with
    | false => simp
    | true =>
      have hri := hr hact
      simp only [if_true]
      constructor
      · intro h; omega
      · intro h
        rcases Nat.lt_or_ge p i with hlt | hge
        · have := nact_lt hp ha hlt; omega
        · have := nact_lt hi hact (show i < p by omega); omega

/-- The names of the variables that D has not made. -/
def Zd (w0 : Bs S0) (es : List Ent) (D : Nat → Bool) : Bs S0 :=
  ⟨w0.w, fun n => w0.Z n ∨ ∃ p en, es[p]? = some en ∧ (allocOf en.o.op).isSome = true ∧ D p = false ∧ n = en.nm⟩

theorem Rw.weaken {P : Program} {e : Env} {h : AH} {w0 w1 : Bs S0} {w : World} (hw : Rw P e h w0 w) (h1 : w1.w = w0.w) (h2 : ∀ n, w1.Z n → w0.Z n) : Rw P e h w1 w := by
  obtain ⟨a, Z⟩ := w1
  simp only at h1
  subst h1
  exact ⟨hw.below, hw.base, hw.live, hw.inj, hw.fresh, fun n hn => hw.prot n (h2 n hn)⟩

theorem Zd_upd (w0 : Bs S0) (es : List Ent) (D : Nat → Bool) (i : Nat) : ∀ n, (Zd w0 es (updD D i)).Z n → (Zd w0 es D).Z n := by
  rintro n (h | ⟨p, en, h1, h2, h3, h4⟩)
  · exact .inl h
  · refine .inr ⟨p, en, h1, h2, ?_, h4⟩
    unfold updD at h3
    split at h3
    · cases h3
    · exact h3

theorem DrawCtx.go (c : DrawCtx G cf ops nx T0 h0 es hs Tf) (hcf : CallSound S0 G cf) {w0 : Bs S0} (hZ : ∀ n, w0.Z n → n < nx) {df : List ADef} {hl : AH} (hlast : lastH hs = some hl) {Q : Exit → Act → World → Prop} :
    ∀ (l : List Nat) (D : Nat → Bool) (k : Nat) (e : Env) (a : Act) (w : World) (hk : AH), Lin ops.toList D l → Closed ops.toList D → Pre es D k → hs[k]? = some hk → Rs G e (Zd w0 es D) ⟨tdo D es 0 T0, df, hk⟩ a w →
      Meets G e w0 .normal ⟨Tf, df, hl⟩ Q → wpOps G.P ops Q l a w := by
  intro l
  induction l with
  | nil =>
    intro D k e a w hk hlin hD hpre hhk hrs hQ
    cases hlin with
    | nil _ hall =>
      have hlen : es.length = ops.toList.length := by rw [← c.ok.os]; simp
      have hT : tdo D es 0 T0 = Tf := by
        rw [c.ok.last]
        apply List.ext_getElem?
        intro t
        rw [tdo_get, tdo_get]
        refine lastv_cong es 0 _ fun p ep hp _ => ?_
        rw [Nat.zero_add]
        exact hall p (by rw [← hlen]; exact (List.getElem?_eq_some_iff.1 hp).1)
      have hkm : k = hs.length - 1 := by
        have h1 : k < hs.length := (List.getElem?_eq_some_iff.1 hhk).1
        have h2 := c.ok.len
        rcases Nat.eq_zero_or_pos (nact es es.length) with hz | hpos
        · omega
        · obtain ⟨p, ep, hpl, hp, hap, hq⟩ := nact_prev es.length (Nat.le_refl _) hpos
          have := (hpre p ep hp hap).1 (hall p (by rw [← hlen]; exact hpl))
          omega
      rw [lastH_eq, ← hkm, hhk] at hlast
      cases hlast
      rw [hT] at hrs
      exact hQ e .normal a w e.le_refl rfl ⟨hrs.tmps, hrs.defers, hrs.w.weaken rfl (fun n hn => .inl hn)⟩
  | cons i rest ih =>
    intro D k e a w hk hlin hD hpre hhk hrs hQ
    cases hlin with
    | cons _ _ _ o ho hDi hpreds hl' =>
      obtain ⟨en, hen, heo⟩ := c.ent_at ho
      obtain ⟨hT, hwant, hw1, hw2, hact, halv⟩ := c.ok.at_ i en hen
      have hD' : Closed ops.toList (updD D i) := by
        intro j o' hj hDj e' he' hb
        by_cases hji : j = i
        · subst hji
          rw [ho] at hj; cases hj
          have := hpreds e' he' hb
          simp only [updD]; split <;> first | rfl | exact this
        · have hDj' : D j = true := by simpa [updD, hji] using hDj
          have := hD j o' hj hDj' e' he' hb
          simp only [updD]; split <;> first | rfl | exact this
      have hreads : ∀ t ∈ names ops en.o, (tdo D es 0 T0)[t]? = en.T[t]? := fun t ht => c.reads hen hDi hD hD' ht
      have hwr := c.writes hen hDi hD
      have hoa : ops[i]? = some o := by simpa using ho
      rw [wpOps, hoa]
      simp only
      rw [wanted_eq hrs.tmps]
      have hwc : wantedL ops (tdo D es 0 T0) o = en.want := by rw [hwant, ← heo]; exact wantedL_cong hreads
      rw [hwc]
      have hcong : ∀ h, evOp G (tdo D es 0 T0) h o = evOp G en.T h en.o := fun h => by
        rw [← heo]; exact evOp_cong fun t ht => hreads t (mem_names_op ht)
      have hweak : ∀ {e : Env} {h : AH} {w : World}, Rw G.P e h (Zd w0 es D) w → Rw G.P e h (Zd w0 es (updD D i)) w := fun hw => hw.weaken rfl (Zd_upd w0 es D i)
      cases hwt : en.want with
      | false =>
        simp only [Bool.false_eq_true, if_false]
        obtain ⟨hv, ha⟩ := hw1 hwt
        have hp' := pre_upd hpre hen (fun h => by rw [ha] at h; cases h)
        rw [ha] at hp'
        simp only [Bool.false_eq_true, if_false] at hp'
        refine ih (updD D i) k e (a.put o.dst undef) w hk hl' hD' hp' hhk ⟨?_, by rw [put_defers]; exact hrs.defers, hweak hrs.w⟩ hQ
        simp only
        rw [hwr, hv, heo]
        exact putL_rel hrs.tmps _ Rv.undef
      | true =>
        simp only [if_true]
        refine .inl ?_
        cases ha : en.act with
        | false =>
          have hal := c.allowed hpre hDi hD hD' (fun en' h => by rw [hen] at h; cases h; exact ha)
          have hcq := chkQ_sound es 0 c.q i en hen hwt ha
          rw [Nat.zero_add] at hcq
          have hsame := chkAt_sound hs 0 hcq k hk hhk (by rw [Nat.zero_add]; exact hal)
          have hp' := pre_upd hpre hen (fun h => by rw [ha] at h; cases h)
          rw [ha] at hp'
          simp only [Bool.false_eq_true, if_false] at hp'
          unfold sameAt at hsame
          split at hsame
          · -- a variable, or a map, is made
            rename_i kd hel
            have hnm := hrs.w.prot en.nm (.inr ⟨i, en, hen, by rw [hel]; rfl, hDi, rfl⟩)
            have hnz : ¬ (Zd w0 es (updD D i)).Z en.nm := by
              rintro (hz0 | ⟨p, ep, hp, hap, hDp, hpe⟩)
              · have := hZ _ hz0
                have := c.ok.nm i en hen
                omega
              · have h1 := c.ok.nm i en hen
                have h2 := c.ok.nm p ep hp
                have hpi : p ≠ i := fun h => by subst h; simp [updD] at hDp
                rcases Nat.lt_or_ge p i with hlt | hge
                · have := nal_lt hp hap hlt; omega
                · have := nal_lt hen (by rw [hel]; rfl) (show i < p by omega); omega
            rcases freshAt_sound hsame with ⟨el, z, rfl, hz, hob⟩ | ⟨rfl, hob⟩
            · obtain ⟨hz1, hz2⟩ := zeroA_sound hz w
              have hoop : o.op = .alloc el := by
                rw [← heo]
                unfold allocOf at hel
                split at hel
                · rename_i el' hq; cases hel; exact hq
                · cases hel
                · cases hel
              have hzc := cellsL_rel (hz2 e)
              have hb : Rb G.P e z.cells.toList.length (G.P.cellsOf el) (.cells (cellsL z) el false) (.cells z.cells el (0, 0)) := by
                have := Rb.cells (P := G.P) (e := e) (sz := z.cells.toList.length) (es := G.P.cellsOf el) (cellsL z) z.cells.toList [] el false rfl hzc (by simp) (fun _ => rfl)
                simpa using this
              obtain ⟨hle, hw'⟩ := (hweak hrs.w).extend (n := en.nm) (h' := hk) hnm.2 hob (fun _ _ => rfl) (Nat.le_refl _) hnm.1 hnz hb
              have hrun : (execOp a.eval o).run G.P w = .ok (.value (.pointer (some ⟨w.heap.size, 0, none⟩))) (w.alloc (.cells z.cells el)) := by
                simp [execOp, hoop, Instr.alloc, Sem.run_bind, hz1, newVar, newRow, newObj, Sem.run]
              unfold Oper.wp
              rw [hrun]
              refine ih (updD D i) k _ (a.put o.dst _) _ hk hl' hD' hp' hhk ⟨?_, by rw [put_defers]; exact hrs.defers.mono hle, hw'⟩ (hQ.mono hle)
              simp only
              rw [hwr, heo, halv hwt _ hel]
              exact putL_rel (hrs.tmps.mono hle) _ (.ptr _ _ _ _ _ (Env.ext_self _ _ _))
            · have hoop : ∃ t, o.op = .makeMap t none := by
                rw [← heo]
                unfold allocOf at hel
                split at hel
                · cases hel
                · rename_i t hq; exact ⟨t, hq⟩
                · cases hel
              obtain ⟨t, hoop⟩ := hoop
              obtain ⟨hle, hw'⟩ := (hweak hrs.w).extend (n := en.nm) (h' := hk) (sz := 0) (es := 0) hnm.2 hob (fun _ _ => rfl) (Nat.le_refl _) hnm.1 hnz (.map [] [] 0 .nil)
              have hrun : (execOp a.eval o).run G.P w = .ok (.value (.map (some w.heap.size))) (w.alloc (.map #[] 0)) := by
                simp [execOp, hoop, Instr.makeMap, Sem.run_bind, newObj, Sem.run]
              unfold Oper.wp
              rw [hrun]
              refine ih (updD D i) k _ (a.put o.dst _) _ hk hl' hD' hp' hhk ⟨?_, by rw [put_defers]; exact hrs.defers.mono hle, hw'⟩ (hQ.mono hle)
              simp only
              rw [hwr, heo, halv hwt _ hel]
              exact putL_rel (hrs.tmps.mono hle) _ (.map _ _ _ _ (Env.ext_self _ _ _))
          · rename_i hel
            have hfin : ∀ e' v' w', e.le e' → Rv e' en.v v' → Rw G.P e' hk (Zd w0 es D) w' → wpOps G.P ops Q rest (a.put o.dst v') w' := by
              intro e' v' w' hle hv hw'
              refine ih (updD D i) k e' (a.put o.dst v') w' hk hl' hD' hp' hhk ⟨?_, by rw [put_defers]; exact hrs.defers.mono hle, hweak hw'⟩ (hQ.mono hle)
              simp only
              rw [hwr, heo]
              exact putL_rel (hrs.tmps.mono hle) _ hv
            split at hsame
            · rename_i v hevq
              obtain rfl := veq_eq hsame
              unfold evQ at hevq
              split at hevq
              · rename_i hq
                split at hevq
                · rename_i v h' hev
                  cases hevq
                  rw [← hcong] at hev
                  rw [heo] at hq
                  have hh := quiet_heap hq hev
                  subst hh
                  obtain ⟨e', v', w', hle, hv, hw', hrun⟩ := evOp_sound hrs.w hrs.tmps hev
                  unfold Oper.wp
                  rcases hrun with hrun | ⟨hrun, rfl⟩
                  · rw [hrun]; exact hfin e' v' w' hle hv hw'
                  · rw [hrun]; exact hfin e' undef w' hle hv hw'
                · cases hevq
              · split at hevq
                · rename_i f args hop
                  rw [← hcong] at hop
                  split at hevq
                  · rename_i v h' hcfr
                    split at hevq
                    · rename_i hh
                      cases hevq
                      obtain rfl := heq_eq hh
                      unfold Oper.wp
                      obtain ⟨args', hargs, hrun⟩ := evOp_sound hrs.w hrs.tmps hop
                      rw [hrun]
                      refine (hcf f args hk _ hcfr e _ w args' hrs.w hargs).mono ?_
                      rintro en' w' ⟨e', v', hle, rfl, hv, hw'⟩
                      exact hfin e' v' w' hle hv hw'
                    · cases hevq
                  · cases hevq
                · cases hevq
            · cases hsame
        | true =>
          have hrk := c.rank hpre hen ha hDi hD'
          obtain ⟨h1, h2, g1, g2, hev⟩ := hact ha
          rw [hrk] at g1 g2
          rw [hhk] at g1; cases g1
          have hp' := pre_upd hpre hen (fun _ => hrk)
          rw [ha] at hp'
          simp only [if_true] at hp'
          have hfin : ∀ e' v' w', e.le e' → Rv e' en.v v' → Rw G.P e' h2 (Zd w0 es D) w' → wpOps G.P ops Q rest (a.put o.dst v') w' := by
            intro e' v' w' hle hv hw'
            refine ih (updD D i) (k + 1) e' (a.put o.dst v') w' h2 hl' hD' hp' g2 ⟨?_, by rw [put_defers]; exact hrs.defers.mono hle, hweak hw'⟩ (hQ.mono hle)
            simp only
            rw [hwr, heo]
            exact putL_rel (hrs.tmps.mono hle) _ hv
          unfold evAct at hev
          rw [← hcong] at hev
          unfold Oper.wp
          split at hev
          · rename_i v h' hop
            cases hev
            obtain ⟨e', v', w', hle, hv, hw', hrun⟩ := evOp_sound hrs.w hrs.tmps hop
            rcases hrun with hrun | ⟨hrun, rfl⟩
            · rw [hrun]; exact hfin e' v' w' hle hv hw'
            · rw [hrun]; exact hfin e' undef w' hle hv hw'
          · rename_i f args hop
            obtain ⟨args', hargs, hrun⟩ := evOp_sound hrs.w hrs.tmps hop
            rw [hrun]
            split at hev
            · rename_i v h' hc
              cases hev
              refine (hcf f args hk _ hc e _ w args' hrs.w hargs).mono ?_
              rintro en' w' ⟨e', v', hle, rfl, hv, hw'⟩
              exact hfin e' v' w' hle hv hw'
            · cases hev
          · cases hev

theorem evDraw_sound (hm : G.P.follows .mixedOrders = true) (hcf : CallSound S0 G cf) {id : Nat} {w0 : Bs S0} {e : Env} {s : St} {a : Act} {w : World} {x : AExit} {s' : St} {Q : Exit → Act → World → Prop} (hs : Rs G e w0 s a w)
    (h : evDraw G cf ops s = some (x, s')) (hQ : Meets G e w0 x s' Q) : (Code.region id ops true).wp G.P Q a w := by
  unfold evDraw at h
  split at h
  · rename_i h0 hpre
    obtain ⟨hpn, hpg⟩ := preA_ok _ _ _ hpre
    split at h
    · rename_i es hs' Tf htxt
      split at h
      · rename_i hl h1 h2 h3 h4
        cases h
        have ok := txt_ok _ _ _ _ _ _ _ htxt
        have c : DrawCtx G cf ops s.h.next s.tmps h0 es hs' Tf := ⟨ok, h1, h2, h3⟩
        refine wp_region_draw fun t => ?_
        have hlin := lin_schedule G.P hm ops (fun i o ho e he hb => by have := chkEdges_sound ops.toList 0 h1 i o ho e he hb; omega) t
        have hw0 := hs.w
        refine c.go hcf (fun n hn => (hs.w.prot n hn).1) h4 _ _ 0 e a _ h0 hlin (fun j o _ hD => by cases hD) (fun p en _ _ => by simp) ok.first ⟨?_, hs.defers, Rw.drawn ?_ _⟩ hQ
        · simp only
          rw [tdo_none _ _ _ (fun _ => rfl)]
          exact hs.tmps
        · have hold : ∀ n x, e n = some x → n < s.h.next := fun n x hx => by
            refine Nat.lt_of_not_le fun hge => ?_
            rw [hw0.fresh n hge] at hx; cases hx
          refine ⟨hw0.below, hw0.base, ?_, ?_, ?_, ?_⟩
          · intro n ob b sz es' hg he
            rw [hpg n (hold n _ he)] at hg
            exact hw0.live n ob b sz es' hg he
          · intro n m ob ob' b sz es' sz' es2 hg hg' he he'
            rw [hpg n (hold n _ he)] at hg
            rw [hpg m (hold m _ he')] at hg'
            exact hw0.inj n m ob ob' b sz es' sz' es2 hg hg' he he'
          · intro n hn; exact hw0.fresh n (by have hn : h0.next ≤ n := hn; omega)
          · show ∀ n, _ → n < h0.next ∧ _
            rintro n (hn | ⟨p, en, hp, hap, _, rfl⟩)
            · have := hw0.prot n hn; exact ⟨by omega, this.2⟩
            · have h5 := ok.nm p en hp
              refine ⟨?_, hw0.fresh _ (by omega)⟩
              have h6 : nal es p < es.countP (fun en => (allocOf en.o.op).isSome) := by
                have := nal_lt hp hap (show p < es.length from (List.getElem?_eq_some_iff.1 hp).1)
                have h7 : nal es es.length = es.countP (fun en => (allocOf en.o.op).isSome) := by unfold nal; rw [List.take_length]
                omega
              have h8 : es.countP (fun en => (allocOf en.o.op).isSome) = ops.toList.countP (fun o => (allocOf o.op).isSome) := by
                rw [← ok.os, List.countP_map]; rfl
              omega
      · cases h
    · cases h
  · cases h

end
end Go.Ab
