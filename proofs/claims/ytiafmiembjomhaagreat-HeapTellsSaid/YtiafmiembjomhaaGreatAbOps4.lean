/- Operations on names (4): append, copy, bytes to a string. -/
import Derived.Test.YtiafmiembjomhaaGreatAbOps3
set_option linter.unusedSimpArgs false
set_option linter.unusedVariables false
set_option linter.unusedSectionVars false
set_option linter.unnecessarySimpa false
namespace Go.Ab
noncomputable section
open Go Go.RowKit
variable {S0 : Sym}

/-- The cells that an append or a copy reads. -/
def srcA (k : Nat) (x : Value) (h : AH) : Option (Nat × List Value) :=
  match x with
  | .slice none 0 0 => some (0, [])
  | .slice (some ⟨0, 0, some 0⟩) 0 0 => some (0, [])
  | .slice (some ⟨n, off, none⟩) len _ => match h.tbl.get n with
    | some (.cells c _ _) => match Nat.ble (off + len * k) c.length, ((c.drop off).take (len * k)).all one with
      | true, true => some (len, (c.drop off).take (len * k))
      | _, _ => none
    | _ => none
  | _ => none

variable {P : Program} {e : Env} {h : AH} {w0 : Bs S0} {w : World}

theorem srcA_sound (hw : Rw P e h w0 w) {k n : Nat} {x x' : Value} {l : List Value} (hx : Rv e x x') (ha : srcA k x h = some (n, l)) :
    (x' = .slice none 0 0 ∧ n = 0 ∧ l = []) ∨
    (∃ b off cap l', x' = .slice (some ⟨b, off, none⟩) n cap ∧ Rl e l l' ∧ l.all one = true ∧ l'.length = n * k ∧ ∀ j v, l'[j]? = some v → w.cell? ((⟨b, off, none⟩ : Addr).add j) = some v) := by
  unfold srcA at ha
  split at ha
  · cases ha; exact .inl ⟨hx.scalar_inv rfl, rfl, rfl⟩
  · cases ha
    obtain ⟨b, off, cap, rfl⟩ := hx.slice_any
    exact .inr ⟨b, off, cap, [], rfl, .nil, rfl, by simp, fun j v hj => by simp at hj⟩
  · rename_i m off len cap
    obtain ⟨_, b, sz, es, cap', he, hck, hcr, hlc, rfl⟩ := hx.slice_inv
    split at ha
    · rename_i c el sp hg
      split at ha
      · rename_i h1 h2
        have h1 := Nat.le_of_ble_eq_true h1
        cases ha
        obtain ⟨c', r, g1, g2, g3, hc, hsz, hr⟩ := hw.cells_of hg he
        have hcl := hc.length
        refine .inr ⟨b, off, cap', (c'.drop off).take (n * k), rfl, (hc.drop off).take _, h2, by simp; omega, ?_⟩
        intro j v hj
        rw [add_lit, cell_of g3]
        have hj' : j < n * k := by
          have := (List.getElem?_eq_some_iff.1 hj).1
          simp at this; omega
        rw [List.getElem?_take_of_lt hj', List.getElem?_drop] at hj
        rw [List.getElem?_append_left (List.getElem?_eq_some_iff.1 hj).1]
        exact hj
      · cases ha
    · cases ha
  · cases ha

variable (P)
/-- A new block for what an append makes. -/
def growA (el : TypeId) (l : List Value) (need : Nat) (h : AH) : Option (Value × AH) :=
  match h.new (.cells l el true) with
  | some h' => some (.slice (some ⟨h.next, 0, none⟩) need capRest, h')
  | none => none

def isSl (t : TypeId) : Bool := match P.underlying t with | some (.slice _) => true | _ => false

/-- To nil so many zero values are appended. -/
def aAppendZ (t' el : TypeId) (s x : Value) (h : AH) : Option (Value × AH) :=
  match P.underlying t' with
  | some (.int _) => match s, x with
    | .slice none 0 0, .int .i64 (.ofNat n) => match P.info? el, zeroA P el with
      | some i, some z => match Nat.ble 1 i.size, Nat.beq (cellsL z).length i.size, Nat.ble 1 n, Nat.ble (n * i.bytes) 140737488355328, Nat.ble n 140737488355328 with
        | true, true, true, true, true => growA el (zerosL (cellsL z) (n * i.size)) n h
        | _, _, _, _, _ => none
      | _, _ => none
    | _, _ => none
  | _ => none

def aAppend (argTypes : Array TypeId) (s x : Value) (h : AH) : Option (Value × AH) :=
  match argTypes with
  | ⟨[t, t']⟩ => match isSl P t', P.underlying t with
    | true, some (.slice el) => match P.info? el, zeroA P el with
      | some i, some z => match Nat.ble 1 i.size, Nat.beq (cellsL z).length i.size, srcA i.size x h with
        | true, true, some (n, news) => match s with
          | .slice none 0 0 => match n with
            | 0 => some (s, h)
            | n + 1 => match Nat.ble ((n + 1) * i.bytes) 140737488355328, Nat.ble (n + 1) 140737488355328 with
              | true, true => growA el news (n + 1) h
              | _, _ => none
          | .slice (some ⟨nm, off, none⟩) slen cap => match h.tbl.get nm with
            | some (.cells c el' sp) => match Nat.beq el' el, Nat.ble (off + slen * i.size) c.length, ((c.drop off).take (slen * i.size)).all one with
              | true, true, true => match Nat.ble ((slen + n) * i.bytes) 140737488355328, Nat.ble (slen + n) 140737488355328 with
                | true, true => match Nat.ble (off + (slen + n) * i.size) c.length, Nat.beq cap capRest with
                  | fits, false => match Nat.ble (slen + n) cap with
                    | true => match fits with
                      | true => match h.put nm (some (.cells (over c (off + slen * i.size) news) el' sp)) with
                        | some h' => some (.slice (some ⟨nm, off, none⟩) (slen + n) cap, h')
                        | none => none
                      | false => none
                    | false => growA el ((c.drop off).take (slen * i.size) ++ news) (slen + n) h
                  | true, true => match h.put nm (some (.cells (over c (off + slen * i.size) news) el' sp)) with
                    | some h' => some (.slice (some ⟨nm, off, none⟩) (slen + n) capRest, h')
                    | none => none
                  | false, true => match off with
                    | 0 => match h.put nm none with
                      | some h1 => growA el (c.take (slen * i.size) ++ news) (slen + n) h1
                      | none => none
                    | _ + 1 => none
                | _, _ => none
              | _, _, _ => none
            | _ => none
          | _ => none
        | _, _, _ => none
      | _, _ => none
    | false, some (.slice el) => aAppendZ P t' el s x h
    | _, _ => none
  | _ => none
variable {P}

theorem growA_sound (hw : Rw P e h w0 w) {el : TypeId} {l l' r : List Value} {need cap k : Nat} {v : Value} {h' : AH} (hl : Rl e l l') (hk : P.cellsOf el = k) (hlen : l'.length + r.length = cap * k) (hn : need ≤ cap)
    (ha : growA el l need h = some (v, h')) :
    ∃ e' : Env, e.le e' ∧ Rv e' v (.slice (some ⟨w.heap.size, 0, none⟩) need cap) ∧ Rw P e' h' w0 (w.alloc (.cells ⟨l' ++ r⟩ el)) := by
  unfold growA at ha
  split at ha
  · rename_i h2 hnw
    cases ha
    obtain ⟨e', hle, he', hw'⟩ := hw.new_spare r hl el hnw
    exact ⟨e', hle, .slice _ _ _ _ _ _ _ _ he' (fun hc => absurd rfl hc) (fun _ => by rw [hk]; simp; omega) hn, hw'⟩
  · cases ha

theorem all_one_of {e : Env} {l l' : List Value} (hl : Rl e l l') (h : l.all one = true) : ∀ u ∈ l', u.oneCell' = true := hl.all_one h

theorem run_room {t ty el : TypeId} {i : TypeInfo} (ht : P.underlying t = some (.slice el)) (hi : P.info? el = some i) (g off sLen sCap : Nat) (cur : Array Value) (fe : TypeId) (hg : w.heap[g]? = some (.cells cur fe (0, 0)))
    (x : Value) (m : Nat) (news : List Value) (hlen : (Builtin.lenOf x).run P w = .ok m w) (hnews : (Builtin.firstCells i.size m x).run P w = .ok ⟨news⟩ w) (h1 : ∀ u ∈ news, u.oneCell' = true)
    (hroom : sLen + m ≤ sCap) (hfit : off + sLen * i.size + news.length ≤ cur.size) :
    (Builtin.append_ #[t, t] ty #[.slice (some ⟨g, off, none⟩) sLen sCap, x]).run P w =
      .ok (.slice (some ⟨g, off, none⟩) (sLen + m) sCap) (w.setRow g (cur.toList.take (off + sLen * i.size) ++ news ++ cur.toList.drop (off + sLen * i.size + news.length)).toArray) := by
  have hst := run_storeCells_at P g (off + sLen * i.size) fe news 0 cur w hg (by simpa using hfit) h1
  simp only [Nat.add_zero] at hst
  simp [Builtin.append_, run_underlying ht, sizeOf, typeInfo, hi, hlen, hroom, hnews, add_lit, hst]

theorem src_runs {k n : Nat} {x' : Value} {l' : List Value} (hx : (x' = .slice none 0 0 ∧ n = 0 ∧ l' = []) ∨
    (∃ b off cap, x' = .slice (some ⟨b, off, none⟩) n cap ∧ l'.length = n * k ∧ ∀ j v, l'[j]? = some v → w.cell? ((⟨b, off, none⟩ : Addr).add j) = some v)) :
    (Builtin.lenOf x').run P w = .ok n w ∧ (Builtin.firstCells k n x').run P w = .ok ⟨l'⟩ w := by
  rcases hx with ⟨rfl, rfl, rfl⟩ | ⟨b, off, cap, rfl, hl, hc⟩
  · exact ⟨rfl, rfl⟩
  · refine ⟨rfl, ?_⟩
    have := run_firstCells_some (P := P) w k n ⟨b, off, none⟩ n cap l' hl hc
    simpa using this

theorem append_types {t t' ty el el' : TypeId} (ht : P.underlying t = some (.slice el)) (ht' : P.underlying t' = some (.slice el')) (args : Array Value) (w : World) :
    (Builtin.append_ #[t, t'] ty args).run P w = (Builtin.append_ #[t, t] ty args).run P w := by
  unfold Builtin.append_
  cases h0 : args[0]? with
  | none => rfl
  | some s =>
    cases h1 : args[1]? with
    | none => rfl
    | some x =>
      simp only [List.getElem?_toArray, List.getElem?_cons_zero, List.getElem?_cons_succ, Sem.run_bind, run_underlying ht, run_underlying ht', Result.andThen_ok]
      cases s <;> first | rfl | simp [Sem.run_bind, run_underlying ht, run_underlying ht']

theorem run_append_made {t ti ty el : TypeId} {i : TypeInfo} {z : Value} {k : IntKind} (ht : P.underlying t = some (.slice el)) (hti : P.underlying ti = some (.int k)) (hi : P.info? el = some i) (hz : i.zero = some z)
    (n : Nat) (h0 : 0 < n) (hs : 0 < i.size) (h48 : n * i.bytes ≤ 140737488355328) (h63 : n ≤ 140737488355328) :
    (Builtin.append_ ⟨[t, ti]⟩ ty #[.slice none 0 0, .int .i64 (n : Int)]).run P w =
      .ok (.slice (some ⟨w.heap.size, 0, none⟩) n (grownCap w n 0 el)) (w.drew.alloc (.cells (Builtin.zeroCells z.cells n ++ Builtin.zeroCells z.cells (grownCap w n 0 el - n)) el)) := by
  have hn : n ≠ 0 := by omega
  have hwrap : IntKind.i64.wrap (n : Int) = (n : Int) := by
    rw [IntKind.wrap_i64]; omega
  have hmax : max (n : Int) 0 = (n : Int) := by omega
  have hle : ¬ ((n : Int) ≤ 0) := by omega
  have h63' : ¬ (9223372036854775807 < (n : Int)) := by omega
  have hneg : ¬ ((n : Int) < 0) := by omega
  have hb : ¬ ((281474976710656 : Int) < (n : Int) * (i.bytes : Int)) := by
    have h1 : ((n * i.bytes : Nat) : Int) ≤ ((140737488355328 : Nat) : Int) := Int.ofNat_le.2 h48
    rw [Int.natCast_mul] at h1; omega
  have h48' : ¬ (281474976710656 < Builtin.nextslicecap n 0 * i.bytes) := by rw [nextslicecap_zero h0]; omega
  have hs' : i.size ≠ 0 := by omega
  simp [Builtin.append_, run_underlying ht, run_underlying hti, sizeOf, typeInfo, zeroValue, hi, hz, asInt, asIntOf, hwrap, hmax, hle, hneg, hb, hn, hs', h63', h48', Question.forced, run_firstCells_none, newRow, grownCap]
  intro hq
  exact absurd hq (Nat.mul_ne_zero hn hs')

theorem aAppend_sound (hw : Rw P e h w0 w) {argTypes : Array TypeId} {ty : TypeId} {s s' x x' v : Value} {h' : AH} (hs : Rv e s s') (hx : Rv e x x') (ha : aAppend P argTypes s x h = some (v, h')) :
    ∃ e' v' w', e.le e' ∧ Rv e' v v' ∧ (Builtin.append_ argTypes ty #[s', x']).run P w = .ok v' w' ∧ Rw P e' h' w0 w' := by
  unfold aAppend at ha
  split at ha
  · rename_i t t'
    split at ha
    · rename_i el htt hu
      obtain ⟨elt, htt⟩ : ∃ elt, P.underlying t' = some (.slice elt) := by
        unfold isSl at htt
        split at htt
        · rename_i elt hq; exact ⟨elt, hq⟩
        · cases htt
      have htypes : ∀ args : Array Value, (Builtin.append_ ⟨[t, t']⟩ ty args).run P w = (Builtin.append_ ⟨[t, t]⟩ ty args).run P w := fun args => append_types hu htt args w
      rw [htypes]
      split at ha
      · rename_i i z hi hz
        have hzz := zeroA_zero hz hi
        have hz2 := (zeroA_sound hz w).2
        have hzc := cellsL_rel (hz2 e)
        have hsz : sizeA P el = some i.size := by simp [sizeA, hi]
        have hcof := sizeA_cellsOf P hsz
        split at ha
        · rename_i n news h1 h2 hsrc
          have h1 := Nat.le_of_ble_eq_true h1
          have h2 := Nat.eq_of_beq_eq_true h2
          have hzl : z.cells.size = i.size := by rw [← h2, hzc.length, Array.length_toList]
          have S := srcA_sound hw hx hsrc
          split at ha
          · obtain rfl := hs.scalar_inv rfl
            split at ha
            · cases ha
              -- nothing is appended to nil
              refine ⟨e, .slice none 0 0, w, e.le_refl, .sc _ rfl, ?_, hw⟩
              rcases S with ⟨rfl, _, rfl⟩ | ⟨b, off, cap, l', rfl, hl, hone, hlen, hc⟩
              · simp [Builtin.append_, run_underlying hu, sizeOf, typeInfo, hi, Builtin.lenOf, Builtin.firstCells]
              · have hf := run_firstCells_some (P := P) w i.size 0 ⟨b, off, none⟩ 0 cap l' hlen hc
                simp [Builtin.append_, run_underlying hu, sizeOf, typeInfo, hi, Builtin.lenOf, hf]
            · rename_i n
              split at ha
              · rename_i h3 h4
                have h3 := Nat.le_of_ble_eq_true h3
                have h4 := Nat.le_of_ble_eq_true h4
                rcases S with ⟨_, hq, _⟩ | ⟨b, off, cap, l', rfl, hl, hone, hlen, hc⟩
                · cases hq
                · have hr := run_append_nil (P := P) w t ty el i z hu hi hzz ⟨b, off, none⟩ (n + 1) cap l' hlen hc (by omega) (by omega) (by omega)
                  have hge : n + 1 ≤ grownCap w (n + 1) 0 el := grownCap_ge w (n + 1) 0 el
                  obtain ⟨e', hle, hv, hw'⟩ := growA_sound (hw.drawn (w.drawn + 1)) (r := (Builtin.zeroCells z.cells (grownCap w (n + 1) 0 el - (n + 1))).toList) (cap := grownCap w (n + 1) 0 el) hl hcof (by
                    rw [hlen, Array.length_toList, size_zeroCells, hzl, ← Nat.add_mul]; congr 1; omega) hge ha
                  refine ⟨e', _, _, hle, hv, ?_, hw'⟩
                  rw [hr]
                  congr 2
                  congr 1
                  apply Array.ext'
                  simp
              · cases ha
          · rename_i nm off slen cap
            obtain ⟨_, b, sz, es, cap', he, hck, hcr, hlc, rfl⟩ := hs.slice_inv
            split at ha
            · rename_i c el' sp hg
              have hsz2 := hw.size_ge hg he
              split at ha
              · rename_i g1 g2 g3
                obtain rfl := Nat.eq_of_beq_eq_true g1
                have g2 := Nat.le_of_ble_eq_true g2
                split at ha
                · rename_i h3 h4
                  have h3 := Nat.le_of_ble_eq_true h3
                  have h4 := Nat.le_of_ble_eq_true h4
                  obtain ⟨c', r, k1, k2, k3, hcc, ksz, kr⟩ := hw.cells_of hg he
                  have hccl := hcc.length
                  have hnl : ∃ news', Rl e news news' ∧ news.all one = true ∧ news'.length = n * i.size ∧ ∀ w2 : World, (∀ k : Nat, w2.heap[k]? = w.heap[k]?) → ((Builtin.lenOf x').run P w2 = .ok n w2 ∧ (Builtin.firstCells i.size n x').run P w2 = .ok ⟨news'⟩ w2) := by
                    rcases S with ⟨rfl, rfl, rfl⟩ | ⟨b2, off2, cap2, l2, rfl, hl2, hone2, hlen2, hc2⟩
                    · exact ⟨[], .nil, rfl, by simp, fun w2 _ => ⟨rfl, rfl⟩⟩
                    · refine ⟨l2, hl2, hone2, hlen2, fun w2 hw2 => src_runs (.inr ⟨b2, off2, cap2, rfl, hlen2, fun j v hj => ?_⟩)⟩
                      have := hc2 j v hj
                      simp only [World.cell?, hw2] at this ⊢
                      exact this
                  obtain ⟨news', hnr, hno, hnlen, hnrun⟩ := hnl
                  have hnewsl : news.length = n * i.size := by rw [hnr.length, hnlen]
                  obtain ⟨hrl, hrf⟩ := hnrun w (fun _ => rfl)
                  -- what stands in place
                  have inplace : ∀ (cap0 : Nat) (h2 : AH), Nat.ble (off + (slen + n) * i.size) c.length = true → slen + n ≤ cap' → Rv e (.slice (some ⟨nm, off, none⟩) (slen + n) cap0) (.slice (some ⟨b, off, none⟩) (slen + n) cap') →
                      h.put nm (some (.cells (over c (off + slen * i.size) news) el' sp)) = some h2 →
                      ∃ e' v' w', e.le e' ∧ Rv e' (.slice (some ⟨nm, off, none⟩) (slen + n) cap0) v' ∧ (Builtin.append_ ⟨[t, t]⟩ ty #[.slice (some ⟨b, off, none⟩) slen cap', x']).run P w = .ok v' w' ∧ Rw P e' h2 w0 w' := by
                    intro cap0 h2 hfit hroom hrv hput
                    have hfit := Nat.le_of_ble_eq_true hfit
                    rw [Nat.add_mul] at hfit
                    obtain ⟨w1, o1, hst, hupd, hb1⟩ := hw.store_upd hg he (off + slen * i.size) hnr hno (by omega) (by omega)
                    have hrr := run_room (P := P) (w := w) (t := t) (ty := ty) hu hi b off slen cap' ⟨c' ++ r⟩ el' k3 x' n news' hrl hrf (hnr.all_one hno) hroom (by simp at ksz ⊢; omega)
                    refine ⟨e, _, _, e.le_refl, hrv, hrr, ?_⟩
                    have hst2 := run_storeCells_at P b (off + slen * i.size) el' news' 0 ⟨c' ++ r⟩ w k3 (by simp at ksz ⊢; omega) (hnr.all_one hno)
                    rw [hst2] at hst
                    cases hst
                    simp only [Nat.add_zero] at hupd
                    exact hw.upd hg he hupd hb1 hput
                  -- a new block
                  have grows : ∀ (h1' h2 : AH) (v : Value) (old : List Value), Rw P e h1' w0 (w.drew) → cap' < slen + n → old = (c.drop off).take (slen * i.size) → growA el' (old ++ news) (slen + n) h1' = some (v, h2) →
                      ∃ e' v' w', e.le e' ∧ Rv e' v v' ∧ (Builtin.append_ ⟨[t, t]⟩ ty #[.slice (some ⟨b, off, none⟩) slen cap', x']).run P w = .ok v' w' ∧ Rw P e' h2 w0 w' := by
                    intro h1' h2 v old hw1 hgt hold hgr
                    subst hold
                    have hor : Rl e ((c.drop off).take (slen * i.size)) ((c'.drop off).take (slen * i.size)) := (hcc.drop off).take _
                    have holen : ((c'.drop off).take (slen * i.size)).length = slen * i.size := by simp; omega
                    have hocell : ∀ j v, ((c'.drop off).take (slen * i.size))[j]? = some v → w.cell? ((⟨b, off, none⟩ : Addr).add j) = some v := by
                      intro j v hj
                      rw [add_lit, cell_of k3]
                      have hj' : j < slen * i.size := by
                        have := (List.getElem?_eq_some_iff.1 hj).1
                        rw [holen] at this; exact this
                      rw [List.getElem?_take_of_lt hj', List.getElem?_drop] at hj
                      rw [List.getElem?_append_left (List.getElem?_eq_some_iff.1 hj).1]
                      exact hj
                    have hnp : 0 < n := by omega
                    rcases S with ⟨_, hq, _⟩ | ⟨b2, off2, cap2, l2, rfl, hl2, hone2, hlen2, hc2⟩
                    · omega
                    have hr := run_append_grow (P := P) w t ty el' i z hu hi hzz ⟨b, off, none⟩ slen cap' _ holen hocell ⟨b2, off2, none⟩ n cap2 l2 hlen2 hc2 hgt (by omega) (growslice_fits hgt h3)
                    have hge : slen + n ≤ grownCap w (slen + n) cap' el' := grownCap_ge w (slen + n) cap' el'
                    obtain ⟨e', hle, hv, hw'⟩ := growA_sound hw1 (r := (Builtin.zeroCells z.cells (grownCap w (slen + n) cap' el' - (slen + n))).toList) (cap := grownCap w (slen + n) cap' el') (hor.append hl2) hcof (by
                      rw [List.length_append, holen, hlen2, Array.length_toList, size_zeroCells, hzl, ← Nat.add_mul, ← Nat.add_mul]; congr 1; omega) hge hgr
                    refine ⟨e', _, _, hle, hv, ?_, hw'⟩
                    rw [hr]
                    congr 2
                    congr 1
                    apply Array.ext'
                    simp
                  split at ha
                  · rename_i fits hcap
                    have hcap : cap ≠ capRest := fun hc => by rw [beq_yes hc] at hcap; cases hcap
                    obtain rfl := hck hcap
                    split at ha
                    · rename_i hroom
                      have hroom := Nat.le_of_ble_eq_true hroom
                      split at ha
                      · rename_i hfit
                        split at ha
                        · rename_i h2 hput
                          cases ha
                          exact inplace cap' _ hfit hroom (.slice _ _ _ _ _ _ _ _ he (fun _ => rfl) (fun hc => absurd hc hcap) hroom) hput
                        · cases ha
                      · cases ha
                    · rename_i hroom
                      have hgt : cap' < slen + n := by
                        refine Nat.lt_of_not_le fun hle => ?_
                        rw [Nat.ble_eq_true_of_le hle] at hroom; cases hroom
                      exact grows h h' v _ (hw.drawn (w.drawn + 1)) hgt rfl ha
                  · rename_i hfit hcap
                    have hcap : cap = capRest := Nat.eq_of_beq_eq_true hcap
                    split at ha
                    · rename_i h2 hput
                      cases ha
                      have hreal := hcr hcap
                      rw [hsz2.2, hcof] at hreal
                      have hfit2 := Nat.le_of_ble_eq_true hfit
                      have hroom : slen + n ≤ cap' := by
                        have : (slen + n) * i.size ≤ cap' * i.size := by omega
                        exact Nat.le_of_mul_le_mul_right this h1
                      exact inplace capRest _ hfit hroom (.slice _ _ _ _ _ _ _ _ he (fun hc => absurd rfl hc) (fun _ => hcr hcap) hroom) hput
                    · cases ha
                  · rename_i hfit hcap
                    have hcap : cap = capRest := Nat.eq_of_beq_eq_true hcap
                    split at ha
                    · split at ha
                      · rename_i h1' hput
                        by_cases hroom : slen + n ≤ cap'
                        · -- in place: the block under a new name
                          have hreal := hcr hcap
                          rw [hsz2.2, hcof] at hreal
                          have hfit3 : (slen + n) * i.size ≤ sz := by
                            have : (slen + n) * i.size ≤ cap' * i.size := Nat.mul_le_mul_right _ hroom
                            omega
                          rw [Nat.add_mul] at hfit3
                          obtain ⟨w1, o1, hst, hupd, hb1⟩ := hw.store_upd hg he (0 + slen * i.size) hnr hno (by omega) (by omega)
                          have hrr := run_room (P := P) (w := w) (t := t) (ty := ty) hu hi b 0 slen cap' ⟨c' ++ r⟩ el' k3 x' n news' hrl hrf (hnr.all_one hno) hroom (by simp at ksz ⊢; omega)
                          have hst2 := run_storeCells_at P b (0 + slen * i.size) el' news' 0 ⟨c' ++ r⟩ w k3 (by simp at ksz ⊢; omega) (hnr.all_one hno)
                          rw [hst2] at hst
                          cases hst
                          unfold growA at ha
                          split at ha
                          · rename_i h2 hnw
                            cases ha
                            have hov : over c (0 + slen * i.size) news = c.take (slen * i.size) ++ news := by
                              unfold over
                              rw [List.drop_eq_nil_of_le]
                              · simp
                              · rw [hnewsl]
                                refine Nat.le_of_not_lt fun hlt => ?_
                                rw [Nat.ble_eq_true_of_le (by rw [Nat.add_mul]; omega)] at hfit; cases hfit
                            rw [hov] at hb1
                            have hsp : sp = true := by
                              cases sp with
                              | true => rfl
                              | false =>
                                exfalso
                                have := kr rfl
                                subst this
                                simp at ksz
                                rw [Nat.ble_eq_true_of_le (by rw [Nat.add_mul]; omega)] at hfit; cases hfit
                            subst hsp
                            simp only [Nat.add_zero] at hupd
                            obtain ⟨hle, hw'⟩ := hw.move hg he hupd hb1 hput hnw
                            refine ⟨_, _, _, hle, .slice _ _ _ _ b sz es cap' ?_ (fun hc => absurd rfl hc) (fun _ => ?_) hroom, hrr, hw'⟩
                            · rw [AH.put_next hput]; exact Env.ext_self _ _ _
                            · rw [hsz2.2, hcof]; exact hreal
                          · cases ha
                        · exact grows h1' h' v _ ((hw.drop hput).drawn (w.drawn + 1)) (Nat.lt_of_not_le hroom) (by simp) ha
                      · cases ha
                    · cases ha
                · cases ha
              · cases ha
            · cases ha
          · cases ha
        · cases ha
      · cases ha
    · rename_i el hns hu
      unfold aAppendZ at ha
      split at ha
      · rename_i k hk
        split at ha
        · rename_i n
          obtain rfl := hs.scalar_inv rfl
          obtain rfl := hx.int_inv
          split at ha
          · rename_i i z hi hz
            have hzz := zeroA_zero hz hi
            have hz2 := (zeroA_sound hz w).2
            have hzc := cellsL_rel (hz2 e)
            have hsz : sizeA P el = some i.size := by simp [sizeA, hi]
            have hcof := sizeA_cellsOf P hsz
            split at ha
            · rename_i h1 h2 h3 h4 h5
              have h1 := Nat.le_of_ble_eq_true h1
              have h2 := Nat.eq_of_beq_eq_true h2
              have h3 := Nat.le_of_ble_eq_true h3
              have h4 := Nat.le_of_ble_eq_true h4
              have h5 := Nat.le_of_ble_eq_true h5
              have hzl : z.cells.size = i.size := by rw [← h2, hzc.length, Array.length_toList]
              have hr := run_append_made (P := P) (w := w) (ty := ty) hu hk hi hzz n (by omega) (by omega) h4 h5
              have hge : n ≤ grownCap w n 0 el := grownCap_ge w n 0 el
              have hzero : Builtin.zeroCells z.cells n = ⟨zerosL z.cells.toList (n * i.size)⟩ := by
                have hq := zerosL_eq z.cells.toList (n * i.size)
                rw [← hzl] at hq ⊢
                exact hq
              obtain ⟨e', hle, hv, hw'⟩ := growA_sound (hw.drawn (w.drawn + 1)) (r := (Builtin.zeroCells z.cells (grownCap w n 0 el - n)).toList) (cap := grownCap w n 0 el) (zerosL_rel hzc (n * i.size) (.inr (by omega))) hcof (by
                rw [zerosL_length, Array.length_toList, size_zeroCells, hzl, ← Nat.add_mul]; congr 1; omega) hge ha
              refine ⟨e', _, _, hle, hv, ?_, hw'⟩
              refine hr.trans ?_
              congr 2
              congr 1
              rw [hzero]
              apply Array.ext'
              simp
            · cases ha
          · cases ha
        · cases ha
      · cases ha
    · cases ha
  · cases ha

end
end Go.Ab
