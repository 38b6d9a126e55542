/- Reading and writing cells through names. -/
import Derived.Test.YtiafmiembjomhaaGreatAbHeap
import Derived.Laws.CopyRow
import Derived.Laws.AppendOwn
set_option linter.unusedSimpArgs false
set_option linter.unusedVariables false
set_option linter.unusedSectionVars false
set_option linter.unnecessarySimpa false
namespace Go.Ab
noncomputable section
open Go Go.RowKit
variable {S0 : Sym}

theorem one_eq' (v : Value) : v.oneCell' = one v := by cases v <;> rfl

theorem add_lit (b off k : Nat) : (⟨b, off, none⟩ : Addr).add k = ⟨b, off + k, none⟩ := by unfold Addr.add; split <;> simp_all

theorem cell_of {w : World} {b off : Nat} {c : List Value} {el : TypeId} {fr : Nat × Nat} (h : w.heap[b]? = some (.cells ⟨c⟩ el fr)) : w.cell? ⟨b, off, none⟩ = c[off]? := by
  simp [World.cell?, h]

variable {P : Program} {e : Env} {h : AH} {w0 : Bs S0} {w : World}

theorem Rw.cells_of (hw : Rw P e h w0 w) {n : Nat} {c : List Value} {el : TypeId} {sp : Bool} (hg : h.tbl.get n = some (.cells c el sp)) {b sz es : Nat} (he : e n = some (b, sz, es)) :
    ∃ c' r, es = P.cellsOf el ∧ w0.w.heap.size ≤ b ∧ w.heap[b]? = some (.cells ⟨c' ++ r⟩ el (0, 0)) ∧ Rl e c c' ∧ (c' ++ r).length = sz ∧ (sp = false → r = []) := by
  obtain ⟨h2, o, h3, h4⟩ := hw.live n _ _ _ _ hg he
  cases h4 with
  | cells _ c' r _ _ hes hc hsz hr => exact ⟨c', r, hes, h2, h3, hc, hsz, hr⟩

theorem Rw.load_cells (hw : Rw P e h w0 w) {n : Nat} {c : List Value} {el : TypeId} {sp : Bool} (hg : h.tbl.get n = some (.cells c el sp)) {b sz es : Nat} (he : e n = some (b, sz, es))
    (off k : Nat) (hk : off + k ≤ c.length) :
    ∃ l', Rl e ((c.drop off).take k) l' ∧ (loadCells ⟨b, off, none⟩ k).run P w = .ok ⟨l'⟩ w := by
  obtain ⟨c', r, hes, h2, h3, hc, hsz, hr⟩ := hw.cells_of hg he
  have hl : Rl e ((c.drop off).take k) ((c'.drop off).take k) := (hc.drop off).take k
  refine ⟨_, hl, ?_⟩
  have hlen : ((c'.drop off).take k).length = k := by
    have := hc.length
    simp; omega
  have := run_loadCells_list (P := P) w ⟨b, off, none⟩ ((c'.drop off).take k) (fun j v hj => by
    rw [add_lit, cell_of h3]
    have hj' : j < k := by
      have := (List.getElem?_eq_some_iff.1 hj).1
      rw [hlen] at this; exact this
    rw [List.getElem?_take_of_lt hj', List.getElem?_drop] at hj
    rw [List.getElem?_append_left (by have := (List.getElem?_eq_some_iff.1 hj).1; exact this)]
    exact hj)
  rw [hlen] at this
  exact this

theorem Upd.setRow {b : Nat} {old : Array Value} {el : TypeId} {fr : Nat × Nat} (hg : w.heap[b]? = some (.cells old el fr)) (cs : Array Value) : Upd b (.cells cs el fr) w (w.setRow b cs) :=
  ⟨rfl, rfl, rfl, by simp, setRow_heap w b old cs el fr hg, fun k hk => setRow_other w b k cs hk⟩

theorem Rl.all_one {e : Env} : ∀ {l l' : List Value}, Rl e l l' → l.all one = true → ∀ v ∈ l', v.oneCell' = true
  | _, _, .nil, _ => by simp
  | _, _, .cons v v' l l' hv hl, ha => by
    simp only [List.all_cons, Bool.and_eq_true] at ha
    intro x hx
    rcases List.mem_cons.1 hx with rfl | hx
    · rw [one_eq', hv.one_eq]; exact ha.1
    · exact Rl.all_one hl ha.2 x hx

/-- What a block holds behind a store of some cells from a place on. -/
def over (c : List Value) (off : Nat) (vs : List Value) : List Value := c.take off ++ (vs ++ c.drop (off + vs.length))

theorem Rw.store_upd (hw : Rw P e h w0 w) {n : Nat} {c : List Value} {el : TypeId} {sp : Bool} (hg : h.tbl.get n = some (.cells c el sp)) {b sz es : Nat} (he : e n = some (b, sz, es))
    (off : Nat) {vs vs' : List Value} (hv : Rl e vs vs') (h1 : vs.all one = true) (ho : off ≤ c.length) (hfit : off + vs.length ≤ sz) :
    ∃ w' o, (storeCells ⟨b, off, none⟩ vs').run P w = .ok () w' ∧ Upd b o w w' ∧ Rb P e sz es (.cells (over c off vs) el sp) o := by
  obtain ⟨c', r, hes, h3, h4, hc, hsz, hr⟩ := hw.cells_of hg he
  subst hes
  have hlen := hv.length
  have hclen := hc.length
  have hst := run_storeCells_at P b off el vs' 0 ⟨c' ++ r⟩ w h4 (by simp at hsz ⊢; omega) (hv.all_one h1)
  refine ⟨_, _, hst, Upd.setRow h4 _, ?_⟩
  simp only [Nat.add_zero]
  have hsz2 : c'.length + r.length = sz := by simpa using hsz
  have key : (c' ++ r).take off ++ vs' ++ (c' ++ r).drop (off + vs'.length) = over c' off vs' ++ r.drop (off + vs'.length - c'.length) := by
    unfold over
    rw [List.take_append_of_le_length (by omega), List.drop_append]
    simp [List.append_assoc]
  rw [key]
  refine .cells _ (over c' off vs') (r.drop (off + vs'.length - c'.length)) el sp rfl ?_ ?_ ?_
  · unfold over
    rw [hlen]
    exact (hc.take off).append (hv.append (hc.drop _))
  · unfold over; simp; omega
  · intro hs; rw [hr hs]; simp

theorem Rw.store_cells (hw : Rw P e h w0 w) {n : Nat} {c : List Value} {el : TypeId} {sp : Bool} (hg : h.tbl.get n = some (.cells c el sp)) {b sz es : Nat} (he : e n = some (b, sz, es))
    (off : Nat) {vs vs' : List Value} (hv : Rl e vs vs') (h1 : vs.all one = true) (ho : off ≤ c.length) (hfit : off + vs.length ≤ sz) {h' : AH} (hp : h.put n (some (.cells (over c off vs) el sp)) = some h') :
    ∃ w', (storeCells ⟨b, off, none⟩ vs').run P w = .ok () w' ∧ Rw P e h' w0 w' := by
  obtain ⟨w', o, hr, hu, hb⟩ := hw.store_upd hg he off hv h1 ho hfit
  exact ⟨w', hr, hw.upd hg he hu hb hp⟩

theorem Rw.size_ge (hw : Rw P e h w0 w) {n : Nat} {c : List Value} {el : TypeId} {sp : Bool} (hg : h.tbl.get n = some (.cells c el sp)) {b sz es : Nat} (he : e n = some (b, sz, es)) : c.length ≤ sz ∧ es = P.cellsOf el := by
  obtain ⟨c', r, hes, h3, h4, hc, hsz, hr⟩ := hw.cells_of hg he
  subst hes
  have := hc.length
  simp at hsz
  exact ⟨by omega, rfl⟩

/-- A new block of known cells. -/
theorem Rw.new_cells (hw : Rw P e h w0 w) {c c' : List Value} (hc : Rl e c c') (el : TypeId) {h' : AH} (hp : h.new (.cells c el false) = some h') :
    ∃ e' : Env, e.le e' ∧ e' h.next = some (w.heap.size, c'.length, P.cellsOf el) ∧ Rw P e' h' w0 (w.alloc (.cells ⟨c'⟩ el)) := by
  have hb : Rb P e c'.length (P.cellsOf el) (.cells c el false) (.cells ⟨c'⟩ el (0, 0)) := by
    have := Rb.cells (P := P) (e := e) (sz := c'.length) (es := P.cellsOf el) c c' [] el false rfl hc (by simp) (fun _ => rfl)
    simpa using this
  obtain ⟨h1, h2⟩ := hw.alloc hb hp
  exact ⟨_, h1, Env.ext_self _ _ _, h2⟩

/-- A new block of known cells, others behind them. -/
theorem Rw.new_spare (hw : Rw P e h w0 w) {c c' : List Value} (r : List Value) (hc : Rl e c c') (el : TypeId) {h' : AH} (hp : h.new (.cells c el true) = some h') :
    ∃ e' : Env, e.le e' ∧ e' h.next = some (w.heap.size, (c' ++ r).length, P.cellsOf el) ∧ Rw P e' h' w0 (w.alloc (.cells ⟨c' ++ r⟩ el)) := by
  have hb : Rb P e (c' ++ r).length (P.cellsOf el) (.cells c el true) (.cells ⟨c' ++ r⟩ el (0, 0)) :=
    Rb.cells c c' r el true rfl hc rfl (fun h => by cases h)
  obtain ⟨h1, h2⟩ := hw.alloc hb hp
  exact ⟨_, h1, Env.ext_self _ _ _, h2⟩

end
end Go.Ab
