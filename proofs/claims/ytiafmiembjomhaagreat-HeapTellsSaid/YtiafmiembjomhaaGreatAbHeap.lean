/- Heaps of names, and the worlds that they stand for. -/
import Derived.Test.YtiafmiembjomhaaGreatAbBase
set_option linter.unusedSimpArgs false
set_option linter.unusedVariables false
set_option linter.unusedSectionVars false
set_option linter.unnecessarySimpa false
namespace Go.Ab
noncomputable section
open Go Go.RowKit
variable {S0 : Sym}

inductive AB where
  | cells (c : List Value) (elem : TypeId) (spare : Bool)
  | map (es : List MapEntry) (clock : Nat)

inductive Tr where
  | lf
  | nd (l : Tr) (v : Option AB) (r : Tr)

def Tr.get : Tr → Nat → Option AB
  | .lf, _ => none
  | .nd l v r, n => match Nat.beq n 0 with
    | true => v
    | false => match Nat.beq (n % 2) 1 with
      | true => l.get (n / 2)
      | false => r.get (n / 2 - 1)

def Tr.set : Nat → Tr → Nat → Option AB → Option Tr
  | 0, _, _, _ => none
  | f + 1, t, n, x => match Nat.beq n 0 with
    | true => some (match t with | .lf => .nd .lf x .lf | .nd l _ r => .nd l x r)
    | false => match Nat.beq (n % 2) 1 with
      | true => match t with
        | .lf => match Tr.set f .lf (n / 2) x with | some l => some (.nd l none .lf) | none => none
        | .nd l v r => match Tr.set f l (n / 2) x with | some l => some (.nd l v r) | none => none
      | false => match t with
        | .lf => match Tr.set f .lf (n / 2 - 1) x with | some r => some (.nd .lf none r) | none => none
        | .nd l v r => match Tr.set f r (n / 2 - 1) x with | some r => some (.nd l v r) | none => none

theorem beq_no {n k : Nat} (h : n ≠ k) : Nat.beq n k = false := by
  cases hb : Nat.beq n k with
  | false => rfl
  | true => exact absurd (Nat.eq_of_beq_eq_true hb) h
theorem beq_yes {n k : Nat} (h : n = k) : Nat.beq n k = true := by subst h; exact Nat.beq_refl n

theorem Tr.get_nd (l : Tr) (v : Option AB) (r : Tr) (n : Nat) :
    (Tr.nd l v r).get n = if n = 0 then v else if n % 2 = 1 then l.get (n / 2) else r.get (n / 2 - 1) := by
  rw [Tr.get]
  by_cases h : n = 0
  · subst h; rfl
  · rw [if_neg h, beq_no h]
    by_cases h2 : n % 2 = 1
    · rw [if_pos h2, beq_yes h2]
    · rw [if_neg h2, beq_no h2]

theorem Tr.get_set : ∀ (f : Nat) (t : Tr) (n : Nat) (x : Option AB) (t' : Tr), Tr.set f t n x = some t' → ∀ m, t'.get m = if m = n then x else t.get m := by
  intro f
  induction f with
  | zero => intro t n x t' h; simp [Tr.set] at h
  | succ f ih =>
    intro t n x t' h m
    unfold Tr.set at h
    by_cases h0 : n = 0
    · subst h0
      simp only [show Nat.beq 0 0 = true from rfl, Option.some.injEq] at h
      subst h
      cases t with
      | lf => rw [Tr.get_nd]; by_cases hm : m = 0 <;> simp [hm, Tr.get]
      | nd l v r => rw [Tr.get_nd]; by_cases hm : m = 0 <;> simp [hm, Tr.get_nd]
    · simp only [beq_no h0] at h
      by_cases h1 : n % 2 = 1
      · simp only [beq_yes h1] at h
        cases t with
        | lf =>
          simp only at h
          split at h
          · rename_i l hl
            obtain rfl := Option.some.inj h
            rw [Tr.get_nd]
            have hi := ih _ _ _ _ hl (m / 2)
            by_cases hm : m = 0
            · subst hm; simp [Tr.get]; omega
            · rw [if_neg hm]
              by_cases hm2 : m % 2 = 1
              · rw [if_pos hm2, hi]
                by_cases he : m = n
                · subst he; simp
                · rw [if_neg he, if_neg (by omega)]; simp [Tr.get]
              · rw [if_neg hm2, if_neg (by intro e; subst e; omega)]; simp [Tr.get]
          · cases h
        | nd l v r =>
          simp only at h
          split at h
          · rename_i l' hl
            obtain rfl := Option.some.inj h
            rw [Tr.get_nd, Tr.get_nd]
            have hi := ih _ _ _ _ hl (m / 2)
            by_cases hm : m = 0
            · subst hm; rw [if_pos rfl, if_neg (by omega), if_pos rfl]
            · rw [if_neg hm, if_neg hm]
              by_cases hm2 : m % 2 = 1
              · rw [if_pos hm2, if_pos hm2, hi]
                by_cases he : m = n
                · subst he; simp
                · rw [if_neg he, if_neg (by omega)]
              · rw [if_neg hm2, if_neg hm2, if_neg (by intro e; subst e; omega)]
          · cases h
      · simp only [beq_no h1] at h
        cases t with
        | lf =>
          simp only at h
          split at h
          · rename_i r hr
            obtain rfl := Option.some.inj h
            rw [Tr.get_nd]
            have hi := ih _ _ _ _ hr (m / 2 - 1)
            by_cases hm : m = 0
            · subst hm; simp [Tr.get]; omega
            · rw [if_neg hm]
              by_cases hm2 : m % 2 = 1
              · rw [if_pos hm2, if_neg (by intro e; subst e; omega)]; simp [Tr.get]
              · rw [if_neg hm2, hi]
                by_cases he : m = n
                · subst he; simp
                · rw [if_neg he, if_neg (by omega)]; simp [Tr.get]
          · cases h
        | nd l v r =>
          simp only at h
          split at h
          · rename_i r' hr
            obtain rfl := Option.some.inj h
            rw [Tr.get_nd, Tr.get_nd]
            have hi := ih _ _ _ _ hr (m / 2 - 1)
            by_cases hm : m = 0
            · subst hm; rw [if_pos rfl, if_neg (by omega), if_pos rfl]
            · rw [if_neg hm, if_neg hm]
              by_cases hm2 : m % 2 = 1
              · rw [if_pos hm2, if_pos hm2, if_neg (by intro e; subst e; omega)]
              · rw [if_neg hm2, if_neg hm2, hi]
                by_cases he : m = n
                · subst he; simp
                · rw [if_neg he, if_neg (by omega)]
          · cases h

structure AH where
  next : Nat
  tbl : Tr

def AH.empty : AH := ⟨0, .lf⟩

def AH.put (h : AH) (n : Nat) (x : Option AB) : Option AH := match h.tbl.set 40 n x with | some t => some ⟨h.next, t⟩ | none => none
def AH.new (h : AH) (x : AB) : Option AH := match h.tbl.set 40 h.next (some x) with | some t => some ⟨h.next + 1, t⟩ | none => none

theorem AH.put_next {h h' : AH} {n : Nat} {x : Option AB} (hp : h.put n x = some h') : h'.next = h.next := by
  unfold AH.put at hp; split at hp
  · cases hp; rfl
  · cases hp
theorem AH.put_get {h h' : AH} {n : Nat} {x : Option AB} (hp : h.put n x = some h') (m : Nat) : h'.tbl.get m = if m = n then x else h.tbl.get m := by
  unfold AH.put at hp; split at hp
  · rename_i t ht; cases hp; exact Tr.get_set _ _ _ _ _ ht m
  · cases hp
theorem AH.new_next {h h' : AH} {x : AB} (hp : h.new x = some h') : h'.next = h.next + 1 := by
  unfold AH.new at hp; split at hp
  · cases hp; rfl
  · cases hp
theorem AH.new_get {h h' : AH} {x : AB} (hp : h.new x = some h') (m : Nat) : h'.tbl.get m = if m = h.next then some x else h.tbl.get m := by
  unfold AH.new at hp; split at hp
  · rename_i t ht; cases hp; exact Tr.get_set _ _ _ _ _ ht m
  · cases hp

/-- Map entries. -/
inductive Re (e : Env) : List MapEntry → List MapEntry → Prop
  | nil : Re e [] []
  | cons (x x' : MapEntry) (l l' : List MapEntry) (hk : Rv e x.key x'.key) (hv : Rv e x.val x'.val) (hb : x'.born = x.born) (hl : Re e l l') : Re e (x :: l) (x' :: l')

theorem Re.mono {e e' : Env} (he : e.le e') : ∀ {l l' : List MapEntry}, Re e l l' → Re e' l l'
  | _, _, .nil => .nil
  | _, _, .cons x x' l l' hk hv hb hl => .cons x x' l l' (hk.mono he) (hv.mono he) hb (Re.mono he hl)

inductive Rb (P : Program) (e : Env) (sz es : Nat) : AB → Obj → Prop
  | cells (c : List Value) (c' r : List Value) (el : TypeId) (spare : Bool) (hes : es = P.cellsOf el) (hc : Rl e c c') (hsz : (c' ++ r).length = sz) (hr : spare = false → r = []) :
      Rb P e sz es (.cells c el spare) (.cells ⟨c' ++ r⟩ el (0, 0))
  | map (l l' : List MapEntry) (clock : Nat) (hl : Re e l l') : Rb P e sz es (.map l clock) (.map ⟨l'⟩ clock)

theorem Rb.mono {P : Program} {e e' : Env} {sz es : Nat} (he : e.le e') {ob : AB} {o : Obj} : Rb P e sz es ob o → Rb P e' sz es ob o
  | .cells c c' r el spare hes hc hsz hr => .cells c c' r el spare hes (hc.mono he) hsz hr
  | .map l l' clock hl => .map l l' clock (hl.mono he)

/-- The world in which it began, and the names that are set aside: no block bears them yet. -/
structure Bs (S0 : Sym) where
  w : World
  Z : Nat → Prop

structure Rw (P : Program) (e : Env) (h : AH) (w0 : Bs S0) (w : World) : Prop where
  below : Below w0.w.heap.size w0.w w
  base : e.S = S0 ∧ S0.W = w0.w
  live : ∀ n ob b sz es, h.tbl.get n = some ob → e n = some (b, sz, es) → w0.w.heap.size ≤ b ∧ ∃ o, w.heap[b]? = some o ∧ Rb P e sz es ob o
  inj : ∀ n m ob ob' b sz es sz' es', h.tbl.get n = some ob → h.tbl.get m = some ob' → e n = some (b, sz, es) → e m = some (b, sz', es') → n = m
  fresh : ∀ n, h.next ≤ n → e n = none
  prot : ∀ n, w0.Z n → n < h.next ∧ e n = none

def Env.start (S : Sym) : Env := ⟨fun _ => none, S⟩

theorem Rw.empty {P : Program} (S : Sym) : Rw P (Env.start S) AH.empty (⟨S.W, fun _ => False⟩ : Bs S) S.W :=
  ⟨Below.refl _ _, ⟨rfl, rfl⟩, fun n ob b sz es h => by simp [AH.empty, Tr.get] at h, fun n m ob ob' b sz es sz' es' h => by simp [AH.empty, Tr.get] at h, fun _ _ => rfl, fun _ h => h.elim⟩

/-- w' is w but for block b, which holds o. -/
structure Upd (b : Nat) (o : Obj) (w w' : World) : Prop where
  os : w'.os = w.os
  tape : w'.tape = w.tape
  output : w'.output = w.output
  size : w'.heap.size = w.heap.size
  at_ : w'.heap[b]? = some o
  ne : ∀ k, k ≠ b → w'.heap[k]? = w.heap[k]?

theorem Upd.below {b : Nat} {o : Obj} {w w' : World} (h : Upd b o w w') (B : Nat) (hb : B ≤ b) : Below B w w' :=
  ⟨h.os, h.tape, h.output, by rw [h.size]; exact Nat.le_refl _, fun k hk => h.ne k (by omega)⟩

theorem Rw.upd {P : Program} {e : Env} {h h' : AH} {w0 : Bs S0} {w w' : World} (hw : Rw P e h w0 w) {n : Nat} {ob ob' : AB} {b sz es : Nat} {o : Obj}
    (hg : h.tbl.get n = some ob) (he : e n = some (b, sz, es)) (hu : Upd b o w w') (hb : Rb P e sz es ob' o) (hp : h.put n (some ob') = some h') : Rw P e h' w0 w' := by
  have hbB : w0.w.heap.size ≤ b := (hw.live n ob _ _ _ hg he).1
  refine ⟨hw.below.trans (hu.below _ hbB), hw.base, ?_, ?_, ?_, ?_⟩
  · intro m obm b1 sz1 es1 hm h1
    rw [AH.put_get hp] at hm
    by_cases hmn : m = n
    · subst hmn
      rw [if_pos rfl] at hm; cases hm
      rw [he] at h1; cases h1
      exact ⟨hbB, o, hu.at_, hb⟩
    · rw [if_neg hmn] at hm
      obtain ⟨h2, o1, h3, h4⟩ := hw.live m obm _ _ _ hm h1
      refine ⟨h2, o1, ?_, h4⟩
      rw [hu.ne b1 ?_]; exact h3
      intro hb1; subst hb1
      exact hmn (hw.inj m n obm ob _ _ _ _ _ hm hg h1 he)
  · intro m k obm obk b1 s1 e1 s2 e2 hm hk h1 h2
    rw [AH.put_get hp] at hm hk
    have gm : ∃ x, h.tbl.get m = some x := by
      by_cases hmn : m = n
      · subst hmn; exact ⟨_, hg⟩
      · rw [if_neg hmn] at hm; exact ⟨_, hm⟩
    have gk : ∃ x, h.tbl.get k = some x := by
      by_cases hmn : k = n
      · subst hmn; exact ⟨_, hg⟩
      · rw [if_neg hmn] at hk; exact ⟨_, hk⟩
    obtain ⟨x, gm⟩ := gm
    obtain ⟨y, gk⟩ := gk
    exact hw.inj m k x y _ _ _ _ _ gm gk h1 h2
  · intro m hm; exact hw.fresh m (by rw [← AH.put_next hp]; exact hm)
  · intro m hm; rw [AH.put_next hp]; exact hw.prot m hm

def Env.ext (e : Env) (n : Nat) (x : Nat × Nat × Nat) : Env := ⟨fun m => if m = n then some x else e m, e.S⟩

theorem Env.le_ext {e : Env} {n : Nat} (h : e n = none) (x : Nat × Nat × Nat) : e.le (e.ext n x) := by
  refine ⟨?_, rfl⟩
  intro m y hm
  show (if m = n then some x else e m) = some y
  by_cases hmn : m = n
  · subst hmn; rw [h] at hm; cases hm
  · rw [if_neg hmn]; exact hm

theorem Env.ext_self (e : Env) (n : Nat) (x : Nat × Nat × Nat) : e.ext n x n = some x := by simp [Env.ext]
theorem Env.ext_ne (e : Env) {n m : Nat} (x : Nat × Nat × Nat) (h : m ≠ n) : e.ext n x m = e m := by simp [Env.ext, h]

theorem Rw.lt {P : Program} {e : Env} {h : AH} {w0 : Bs S0} {w : World} (hw : Rw P e h w0 w) {m b1 s1 e1 : Nat} {obm : AB} (hm : h.tbl.get m = some obm) (he : e m = some (b1, s1, e1)) : b1 < w.heap.size := by
  obtain ⟨_, o2, h3, _⟩ := hw.live m obm _ _ _ hm he
  exact (Array.getElem?_eq_some_iff.1 h3).1

/-- A block comes to stand for a name that had none. -/
theorem Rw.extend {P : Program} {e : Env} {h h' : AH} {w0 : Bs S0} {w : World} (hw : Rw P e h w0 w) {n : Nat} {ob : AB} {o : Obj} {sz es : Nat}
    (hen : e n = none) (hg : h'.tbl.get n = some ob) (hsub : ∀ m, m ≠ n → h'.tbl.get m = h.tbl.get m) (hnx : h.next ≤ h'.next) (hn : n < h'.next) (hZ : ¬ w0.Z n) (hb : Rb P e sz es ob o) :
    e.le (e.ext n (w.heap.size, sz, es)) ∧ Rw P (e.ext n (w.heap.size, sz, es)) h' w0 (w.alloc o) := by
  have hle : e.le (e.ext n (w.heap.size, sz, es)) := Env.le_ext hen _
  refine ⟨hle, hw.below.alloc hw.below.size _, hw.base, ?_, ?_, ?_, ?_⟩
  · intro m obm b1 s1 e1 hm h1
    by_cases hmn : m = n
    · subst hmn
      rw [hg] at hm; cases hm
      rw [Env.ext_self] at h1; cases h1
      exact ⟨hw.below.size, o, by show (w.heap.push o)[_]? = _; simp, hb.mono hle⟩
    · rw [hsub m hmn] at hm
      rw [Env.ext_ne _ _ hmn] at h1
      obtain ⟨h2, o1, h3, h4⟩ := hw.live m obm _ _ _ hm h1
      refine ⟨h2, o1, ?_, h4.mono hle⟩
      rw [Below.heap_alloc _ _ _ (hw.lt hm h1)]; exact h3
  · intro m k obm obk b1 s1 e1 s2 e2 hm hk h1 h2
    by_cases hmn : m = n
    · by_cases hkn : k = n
      · rw [hmn, hkn]
      · rw [hsub k hkn] at hk
        subst hmn
        rw [Env.ext_self] at h1
        rw [Env.ext_ne _ _ hkn] at h2
        cases h1
        exact absurd (hw.lt hk h2) (Nat.lt_irrefl _)
    · rw [hsub m hmn] at hm
      rw [Env.ext_ne _ _ hmn] at h1
      by_cases hkn : k = n
      · subst hkn
        rw [Env.ext_self] at h2
        cases h2
        exact absurd (hw.lt hm h1) (Nat.lt_irrefl _)
      · rw [hsub k hkn] at hk
        rw [Env.ext_ne _ _ hkn] at h2
        exact hw.inj m k _ _ _ _ _ _ _ hm hk h1 h2
  · intro m hm
    rw [Env.ext_ne _ _ (by omega)]
    exact hw.fresh m (by omega)
  · intro m hm
    obtain ⟨h1, h2⟩ := hw.prot m hm
    refine ⟨by omega, ?_⟩
    rw [Env.ext_ne _ _ (by intro hmn; subst hmn; exact hZ hm)]; exact h2

theorem Rw.alloc {P : Program} {e : Env} {h h' : AH} {w0 : Bs S0} {w : World} (hw : Rw P e h w0 w) {ob : AB} {o : Obj} {sz es : Nat}
    (hb : Rb P e sz es ob o) (hp : h.new ob = some h') :
    e.le (e.ext h.next (w.heap.size, sz, es)) ∧ Rw P (e.ext h.next (w.heap.size, sz, es)) h' w0 (w.alloc o) := by
  have hnx := AH.new_next hp
  refine hw.extend (hw.fresh h.next (Nat.le_refl _)) (by rw [AH.new_get hp, if_pos rfl]) (fun m hm => by rw [AH.new_get hp, if_neg hm]) (by omega) (by omega) (fun hz => ?_) hb
  have := (hw.prot _ hz).1; omega

theorem Rw.drop {P : Program} {e : Env} {h h' : AH} {w0 : Bs S0} {w : World} (hw : Rw P e h w0 w) {n : Nat} (hp : h.put n none = some h') : Rw P e h' w0 w := by
  have hsub : ∀ m x, h'.tbl.get m = some x → h.tbl.get m = some x := by
    intro m x hm
    rw [AH.put_get hp] at hm
    by_cases hmn : m = n
    · rw [if_pos hmn] at hm; cases hm
    · rw [if_neg hmn] at hm; exact hm
  exact ⟨hw.below, hw.base, fun m x b sz es hm => hw.live m x b sz es (hsub m x hm), fun m k x y b s1 e1 s2 e2 hm hk => hw.inj m k x y b s1 e1 s2 e2 (hsub _ _ hm) (hsub _ _ hk),
    fun m hm => hw.fresh m (by rw [← AH.put_next hp]; exact hm), fun m hm => by rw [AH.put_next hp]; exact hw.prot m hm⟩

/-- The same block under a new name: the old one is gone. -/
theorem Rw.move {P : Program} {e : Env} {h h1 h' : AH} {w0 : Bs S0} {w w' : World} (hw : Rw P e h w0 w) {n : Nat} {ob ob' : AB} {b sz es : Nat} {o : Obj}
    (hg : h.tbl.get n = some ob) (he : e n = some (b, sz, es)) (hu : Upd b o w w') (hb : Rb P e sz es ob' o) (hp : h.put n none = some h1) (hn : h1.new ob' = some h') :
    e.le (e.ext h.next (b, sz, es)) ∧ Rw P (e.ext h.next (b, sz, es)) h' w0 w' := by
  have hfr := hw.fresh h.next (Nat.le_refl _)
  have hle : e.le (e.ext h.next (b, sz, es)) := Env.le_ext hfr _
  have hnx : h1.next = h.next := AH.put_next hp
  have hbB : w0.w.heap.size ≤ b := (hw.live n ob _ _ _ hg he).1
  have hsub : ∀ m x, h'.tbl.get m = some x → m ≠ h.next → h.tbl.get m = some x ∧ m ≠ n := by
    intro m x hm hne
    rw [AH.new_get hn, hnx, if_neg hne, AH.put_get hp] at hm
    by_cases hmn : m = n
    · rw [if_pos hmn] at hm; cases hm
    · rw [if_neg hmn] at hm; exact ⟨hm, hmn⟩
  refine ⟨hle, hw.below.trans (hu.below _ hbB), hw.base, ?_, ?_, ?_, ?_⟩
  · intro m obm b1 sz1 es1 hm h1
    by_cases hmn : m = h.next
    · subst hmn
      rw [AH.new_get hn, hnx, if_pos rfl] at hm; cases hm
      rw [Env.ext_self] at h1; cases h1
      exact ⟨hbB, o, hu.at_, hb.mono hle⟩
    · obtain ⟨hm', hne⟩ := hsub m obm hm hmn
      rw [Env.ext_ne _ _ hmn] at h1
      obtain ⟨h2, o1, h3, h4⟩ := hw.live m obm _ _ _ hm' h1
      refine ⟨h2, o1, ?_, h4.mono hle⟩
      rw [hu.ne b1 ?_]; exact h3
      intro hb1; subst hb1
      exact hne (hw.inj m n obm ob _ _ _ _ _ hm' hg h1 he)
  · intro m k obm obk b1 s1 e1 s2 e2 hm hk h1 h2
    by_cases hmn : m = h.next
    · by_cases hkn : k = h.next
      · rw [hmn, hkn]
      · obtain ⟨hk', hne⟩ := hsub k obk hk hkn
        subst hmn
        rw [Env.ext_self] at h1
        rw [Env.ext_ne _ _ hkn] at h2
        cases h1
        exact absurd (hw.inj k n obk ob _ _ _ _ _ hk' hg h2 he) hne
    · obtain ⟨hm', hne⟩ := hsub m obm hm hmn
      rw [Env.ext_ne _ _ hmn] at h1
      by_cases hkn : k = h.next
      · subst hkn
        rw [Env.ext_self] at h2
        cases h2
        exact absurd (hw.inj m n obm ob _ _ _ _ _ hm' hg h1 he) hne
      · obtain ⟨hk', _⟩ := hsub k obk hk hkn
        rw [Env.ext_ne _ _ hkn] at h2
        exact hw.inj m k _ _ _ _ _ _ _ hm' hk' h1 h2
  · intro m hm
    have := AH.new_next hn
    rw [Env.ext_ne _ _ (by omega)]
    exact hw.fresh m (by omega)
  · intro m hm
    have := AH.new_next hn
    obtain ⟨g1, g2⟩ := hw.prot m hm
    refine ⟨by omega, ?_⟩
    rw [Env.ext_ne _ _ (by omega)]; exact g2

theorem Rw.drawn {P : Program} {e : Env} {h : AH} {w0 : Bs S0} {w : World} (hw : Rw P e h w0 w) (k : Nat) : Rw P e h w0 { w with drawn := k } :=
  ⟨hw.below.trans ⟨rfl, rfl, rfl, Nat.le_refl _, fun _ _ => rfl⟩, hw.base, hw.live, hw.inj, hw.fresh, hw.prot⟩

end
end Go.Ab
