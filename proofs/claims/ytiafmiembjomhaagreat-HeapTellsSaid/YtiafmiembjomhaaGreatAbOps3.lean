/- Operations on names (3): make, slicing, append, copy. -/
import Derived.Test.YtiafmiembjomhaaGreatAbOps2
import Derived.Laws.MakeOwn
set_option linter.unusedSimpArgs false
set_option linter.unusedVariables false
set_option linter.unusedSectionVars false
set_option linter.unnecessarySimpa false
namespace Go.Ab
noncomputable section
open Go Go.RowKit
variable {S0 : Sym}

variable (P : Program)
def aMakeSlice (t : TypeId) (len cap : Value) (h : AH) : Option (Value × AH) :=
  match len, cap with
  | .int _ (.ofNat l), .int _ (.ofNat c) => match P.underlying t with
    | some (.slice el) => match P.info? el, zeroA P el with
      | some i, some z => match Nat.ble l c, Nat.ble c 1073741824, Nat.ble (i.bytes * c) 140737488355328, Nat.ble 1 (cellsL z).length with
        | true, true, true, true => match h.new (.cells (zerosL (cellsL z) (c * i.size)) el false) with
          | some h' => some (.slice (some ⟨h.next, 0, none⟩) l c, h')
          | none => none
        | _, _, _, _ => none
      | _, _ => none
    | _ => none
  | _, _ => none
variable {P}
variable {e : Env} {h : AH} {w0 : Bs S0} {w : World}

theorem zeroA_zero {t : TypeId} {z : Value} {i : TypeInfo} (h : zeroA P t = some z) (hi : P.info? t = some i) : i.zero = some z := by
  unfold zeroA at h
  rw [hi] at h
  simp only at h
  split at h
  · rename_i z' hz
    split at h
    · cases h; exact hz
    · cases h
  · cases h

theorem aMakeSlice_sound (hw : Rw P e h w0 w) {t : TypeId} {len cap len' cap' v : Value} {h' : AH} (hl : Rv e len len') (hc : Rv e cap cap') (ha : aMakeSlice P t len cap h = some (v, h')) :
    ∃ e' v' w', e.le e' ∧ Rv e' v v' ∧ (Instr.makeSlice t len' cap').run P w = .ok v' w' ∧ Rw P e' h' w0 w' := by
  unfold aMakeSlice at ha
  split at ha
  · rename_i k1 l k2 c
    obtain rfl := hl.int_inv
    obtain rfl := hc.int_inv
    split at ha
    · rename_i el hu
      split at ha
      · rename_i i z hi hz
        split at ha
        · rename_i h1 h2 h3 h4
          have h1 := Nat.le_of_ble_eq_true h1
          have h2 := Nat.le_of_ble_eq_true h2
          have h3 := Nat.le_of_ble_eq_true h3
          have h4 := Nat.le_of_ble_eq_true h4
          have hz2 := (zeroA_sound hz w).2
          have hzc := cellsL_rel (hz2 e)
          split at ha
          · rename_i h2' hn
            cases ha
            obtain ⟨e', hle, he', hw'⟩ := hw.new_cells (zerosL_rel hzc (c * i.size) (.inr (by omega))) el hn
            refine ⟨e', .slice (some ⟨w.heap.size, 0, none⟩) l c, _, hle, .slice _ _ _ _ _ _ _ _ he' (fun _ => rfl) (fun hc => by unfold capRest at hc; omega) h1, ?_, hw'⟩
            have hb := zerosL_eq z.cells.toList (c * i.size)
            have hr := run_make (P := P) w t el i z hu hi (zeroA_zero hz hi) k1 k2 (l : Int) (c : Int) (by omega) (by omega)
              (by have : (i.bytes : Int) * (c : Int) = ((i.bytes * c : Nat) : Int) := by simp
                  rw [this]; omega) (by omega)
            simp only [Int.toNat_natCast] at hr
            have hm : madeCells z.cells (c * i.size) = ⟨zerosL z.cells.toList (c * i.size)⟩ := by
              rw [← hb]; rfl
            rw [hm] at hr
            exact hr
          · cases ha
        · cases ha
      · cases ha
    · cases ha
  · cases ha

/-- A bound of a slice expression. -/
def optIdx (v : Option Value) (dflt lim : Nat) : Option Nat := match v with
  | none => some dflt
  | some (.int _ (.ofNat k)) => match Nat.ble k lim with | true => some k | false => none
  | _ => none

inductive Ro (e : Env) : Option Value → Option Value → Prop
  | none : Ro e none none
  | some (v v' : Value) (h : Rv e v v') : Ro e (some v) (some v')

theorem optIdx_bound {v v' : Option Value} {d lim k : Nat} (hv : Ro e v v') (h : optIdx v d lim = some k) :
    (v' = none ∧ k = d) ∨ (∃ kd, v' = some (.int kd (k : Int)) ∧ k ≤ lim) := by
  cases hv with
  | none => simp only [optIdx, Option.some.injEq] at h; exact .inl ⟨rfl, h.symm⟩
  | some v v' hv =>
    unfold optIdx at h
    split at h
    · rename_i hq; cases hq
    · rename_i kd j hq
      cases hq
      obtain rfl := hv.int_inv
      split at h
      · rename_i hb; cases h; exact .inr ⟨kd, rfl, Nat.le_of_ble_eq_true hb⟩
      · cases h
    · cases h

theorem run_bound (kd : IntKind) (k y : Nat) (code : BoundsCode) (hk : k ≤ y) (w : World) : (Instr.sliceBound (.int kd (k : Int)) y code).run P w = .ok k w := by
  simp [Instr.sliceBound, asIntOf, Sem.run_bind, hk]

/-- The three bounds: low, high, max. -/
theorem run_bounds (isSlice : Bool) (len cap lim lim' : Nat) {lo hi mx lo' hi' mx' : Option Value} {l hh m : Nat} (hlo : Ro e lo lo') (hhi : Ro e hi hi') (hmx : Ro e mx mx')
    (hlim : lim ≤ cap) (hlen : len ≤ lim) (hm : optIdx mx cap lim = some m) (hmn : mx = none → lim' = lim) (hms : ∀ v, mx = some v → lim' = m ∧ hi ≠ none) (hh' : optIdx hi len lim' = some hh) (hl : optIdx lo 0 hh = some l) (w : World) :
    (Instr.sliceBounds isSlice len cap lo' hi' mx').run P w = .ok (l, hh, m) w := by
  have hL := optIdx_bound hlo hl
  have hH := optIdx_bound hhi hh'
  have hM := optIdx_bound hmx hm
  have step1 : ∀ (c : BoundsCode), (match lo' with | some v => Instr.sliceBound v hh c | none => pure 0 : Sem Nat).run P w = .ok l w := by
    intro c
    rcases hL with ⟨rfl, rfl⟩ | ⟨kd, rfl, hle⟩
    · rfl
    · exact run_bound _ _ _ _ hle w
  cases hmx with
  | none =>
    simp only [optIdx, Option.some.injEq] at hm
    subst hm
    obtain rfl := hmn rfl
    rcases hH with ⟨rfl, rfl⟩ | ⟨kd, rfl, hle⟩
    · simp only [Instr.sliceBounds, Sem.run_bind]
      simp
      cases hlo with
      | none => simpa using step1 .sliceB
      | some v v' hv => have := step1 .sliceB; simp at this; simp [this]
    · have h2 := run_bound (P := P) kd hh cap (if isSlice = true then BoundsCode.sliceAcap else BoundsCode.sliceAlen) (Nat.le_trans hle hlim) w
      simp only [Instr.sliceBounds, Sem.run_bind]
      simp [h2]
      cases hlo with
      | none => simpa using step1 .sliceB
      | some v v' hv => have := step1 .sliceB; simp at this; simp [this]
  | some v v' hv =>
    obtain ⟨rfl, hne⟩ := hms _ rfl
    rcases hM with ⟨hq, _⟩ | ⟨kd, hq, hle⟩
    · cases hq
    · cases hq
      rcases hH with ⟨rfl, rfl⟩ | ⟨kd2, rfl, hle2⟩
      · cases hhi; exact absurd rfl hne
      · have h1 := run_bound (P := P) kd lim' cap (if isSlice = true then BoundsCode.slice3Acap else BoundsCode.slice3Alen) (Nat.le_trans hle hlim) w
        have h2 := run_bound (P := P) kd2 hh lim' .slice3B hle2 w
        simp only [Instr.sliceBounds, Sem.run_bind]
        simp [h1, h2]
        cases hlo with
        | none => simpa using step1 .slice3C
        | some v v' hv => have := step1 .slice3C; simp at this; simp [this]

variable (P)
/-- Where the bounds of a slice expression lie: low, high, max (the capacity, unless it is given). -/
def boundsA (len cap lim : Nat) (lo hi mx : Option Value) : Option (Nat × Nat × Nat) :=
  match mx with
  | none => match optIdx hi len lim with
    | some hh => match optIdx lo 0 hh with
      | some l => some (l, hh, cap)
      | none => none
    | none => none
  | some _ => match hi with
    | none => none
    | some _ => match optIdx mx cap lim with
      | some m => match optIdx hi len m with
        | some hh => match optIdx lo 0 hh with
          | some l => some (l, hh, m)
          | none => none
        | none => none
      | none => none

def aSlice (t : TypeId) (x : Value) (lo hi mx : Option Value) (h : AH) : Option Value :=
  match P.underlying t, x with
  | some (.slice el), .slice (some ⟨n, off, none⟩) len cap => match sizeA P el with
    | some k => match Nat.beq cap capRest with
      | false => match Nat.blt cap capRest, Nat.ble len cap, boundsA len cap cap lo hi mx with
        | true, true, some (l, hh, m) => match Nat.ble m cap with
          | true => some (.slice (some ⟨n, if m = l then off else off + l * k, none⟩) (hh - l) (m - l))
          | false => none
        | _, _, _ => none
      | true => match h.tbl.get n with
        | some (.cells _ el' _) => match Nat.beq (P.cellsOf el') k, Nat.blt len capRest, boundsA len cap len lo hi mx with
          | true, true, some (l, hh, m) => match mx with
            | none => match Nat.beq l 0, Nat.blt l len with
              | false, false => some (.slice (some ⟨0, 0, some 0⟩) 0 0)
              | _, _ => some (.slice (some ⟨n, off + l * k, none⟩) (hh - l) capRest)
            | some _ => some (.slice (some ⟨n, if m = l then off else off + l * k, none⟩) (hh - l) (m - l))
          | _, _, _ => none
        | _ => none
    | none => none
  | some (.array len el), .pointer (some ⟨n, off, none⟩) => match sizeA P el with
    | some k => match Nat.blt len capRest, boundsA len len len lo hi mx with
      | true, some (l, hh, m) => match Nat.ble m len with
        | true => some (.slice (some ⟨n, if m = l then off else off + l * k, none⟩) (hh - l) (m - l))
        | false => none
      | _, _ => none
    | none => none
  | _, _ => none
variable {P}

theorem optIdx_le {v : Option Value} {d lim k : Nat} (h : optIdx v d lim = some k) (hd : d ≤ lim) : k ≤ lim := by
  unfold optIdx at h
  split at h
  · cases h; exact hd
  · split at h
    · rename_i hb; cases h; exact Nat.le_of_ble_eq_true hb
    · cases h
  · cases h

theorem optIdx_some (v : Value) (d d' lim : Nat) : optIdx (some v) d lim = optIdx (some v) d' lim := by
  cases v <;> try rfl
  case int k n => cases n <;> rfl

theorem boundsA_sound (isSlice : Bool) {len cap cap' lim : Nat} {lo hi mx lo' hi' mx' : Option Value} {l hh m : Nat} (hlo : Ro e lo lo') (hhi : Ro e hi hi') (hmx : Ro e mx mx')
    (hlim : lim ≤ cap') (hlen : len ≤ lim) (h : boundsA len cap lim lo hi mx = some (l, hh, m)) (w : World) :
    ∃ m', (Instr.sliceBounds isSlice len cap' lo' hi' mx').run P w = .ok (l, hh, m') w ∧ l ≤ hh ∧ hh ≤ m' ∧ m' ≤ cap' ∧ (mx = none → m' = cap' ∧ m = cap ∧ hh ≤ lim) ∧ (mx ≠ none → m' = m ∧ m ≤ lim) := by
  unfold boundsA at h
  split at h
  · split at h
    · rename_i hh' hq
      split at h
      · rename_i l' hl
        cases h
        have h1 := optIdx_le hq hlen
        have h2 := optIdx_le hl (Nat.zero_le _)
        exact ⟨cap', run_bounds isSlice len cap' lim lim hlo hhi hmx hlim hlen rfl (fun _ => rfl) (fun v hv => by cases hv) hq hl w, h2, by omega, Nat.le_refl _, fun _ => ⟨rfl, rfl, h1⟩, fun hn => absurd rfl hn⟩
      · cases h
    · cases h
  · rename_i vm
    split at h
    · cases h
    · rename_i vh
      split at h
      · rename_i m' hm
        split at h
        · rename_i hh' hq
          split at h
          · rename_i l' hl
            cases h
            have hm2 : m ≤ lim := by
              unfold optIdx at hm
              split at hm
              · rename_i hq; cases hq
              · split at hm
                · rename_i hb; cases hm; exact Nat.le_of_ble_eq_true hb
                · cases hm
              · cases hm
            have hm' : optIdx (some vm) cap' lim = some m := by rw [optIdx_some _ _ cap]; exact hm
            have hqm : hh ≤ m := by
              unfold optIdx at hq
              split at hq
              · rename_i hq'; cases hq'
              · split at hq
                · rename_i hb; cases hq; exact Nat.le_of_ble_eq_true hb
                · cases hq
              · cases hq
            have h2 := optIdx_le hl (Nat.zero_le _)
            exact ⟨m, run_bounds isSlice len cap' lim m hlo hhi hmx hlim hlen hm' (fun hn => by cases hn) (fun v _ => ⟨rfl, by simp⟩) hq hl w, h2, hqm, by omega, (fun hn => by cases hn), (fun _ => ⟨rfl, hm2⟩)⟩
          · cases h
        · cases h
      · cases h

theorem aSlice_sound (hw : Rw P e h w0 w) {t : TypeId} {x x' v : Value} {lo hi mx lo' hi' mx' : Option Value} (hx : Rv e x x') (hlo : Ro e lo lo') (hhi : Ro e hi hi') (hmx : Ro e mx mx')
    (ha : aSlice P t x lo hi mx h = some v) : ∃ v', Rv e v v' ∧ (Instr.sliceAt t x' lo' hi' mx').run P w = .ok v' w := by
  unfold aSlice at ha
  split at ha
  · rename_i el n off len cap hu
    obtain ⟨_, b, sz, es, cap', he, hck, hcr, hlc, rfl⟩ := hx.slice_inv
    split at ha
    · rename_i k hk
      split at ha
      · rename_i hcap
        have hcap : cap ≠ capRest := fun hc => by rw [beq_yes hc] at hcap; cases hcap
        obtain rfl := hck hcap
        split at ha
        · rename_i l hh m h1 h2 hb
          have h1 : cap' < capRest := Nat.le_of_ble_eq_true h1
          have h2 := Nat.le_of_ble_eq_true h2
          split at ha
          · rename_i hm
            have hm := Nat.le_of_ble_eq_true hm
            cases ha
            obtain ⟨m', hr, hl1, hl2, hl3, hmn, hms⟩ := boundsA_sound (P := P) true (cap' := cap') hlo hhi hmx (Nat.le_refl _) h2 hb w
            have hmm : m' = m := by
              by_cases hq : mx = none
              · rw [(hmn hq).1, (hmn hq).2.1]
              · exact (hms hq).1
            subst hmm
            refine ⟨.slice (some ⟨b, if m' = l then off else off + l * k, none⟩) (hh - l) (m' - l), .slice _ _ _ _ _ _ _ _ he (fun _ => rfl) (fun hc => by omega) (by omega), ?_⟩
            simp only [Instr.sliceAt, Sem.run_bind, run_underlying hu, Result.andThen_ok, Instr.slice, hr, sizeA_sound P hk]
            by_cases hml : m' = l <;> simp [hml, add_lit]
          · cases ha
        · cases ha
      · rename_i hcap
        have hcap : cap = capRest := Nat.eq_of_beq_eq_true hcap
        split at ha
        · rename_i c el' sp hg
          have hes := (hw.size_ge hg he).2
          split at ha
          · rename_i l hh m h1 h1' hb
            have h1' : len < capRest := Nat.le_of_ble_eq_true h1'
            have h1 := Nat.eq_of_beq_eq_true h1
            obtain ⟨m', hr, hl1, hl2, hl3, hmn, hms⟩ := boundsA_sound (P := P) true (cap' := cap') hlo hhi hmx hlc (Nat.le_refl _) hb w
            split at ha
            · obtain ⟨rfl, _, hhl⟩ := hmn rfl
              have hres : ∀ (hcase : l = 0 ∨ l < len), v = .slice (some ⟨n, off + l * k, none⟩) (hh - l) capRest → ∃ v', Rv e v v' ∧ (Instr.sliceAt t (.slice (some ⟨b, off, none⟩) len m') lo' hi' mx').run P w = .ok v' w := by
                intro hcase hv
                subst hv
                refine ⟨.slice (some ⟨b, off + l * k, none⟩) (hh - l) (m' - l), .slice _ _ _ _ _ _ _ _ he (fun hc => absurd rfl hc) (fun _ => ?_) (by omega), ?_⟩
                · have := hcr hcap
                  rw [hes, h1] at this
                  rw [hes, h1, Nat.sub_mul]
                  have h5 : l * k ≤ m' * k := Nat.mul_le_mul_right _ (by omega)
                  omega
                · simp only [Instr.sliceAt, Sem.run_bind, run_underlying hu, Result.andThen_ok, Instr.slice, hr, sizeA_sound P hk]
                  by_cases hml : m' = l
                  · have : l = 0 := by omega
                    subst this; simp [hml]
                  · simp [hml, add_lit]
              split at ha
              · rename_i hb1 hb2
                cases ha
                have hge : ¬ l < len := fun hlt => by
                  have : Nat.blt l len = true := Nat.ble_eq_true_of_le hlt
                  rw [this] at hb2; cases hb2
                have h0 : hh - l = 0 := by omega
                refine ⟨_, .empt b (if m' = l then off else off + l * k) (m' - l), ?_⟩
                simp only [Instr.sliceAt, Sem.run_bind, run_underlying hu, Result.andThen_ok, Instr.slice, hr, sizeA_sound P hk, h0]
                by_cases hml : m' = l <;> simp [hml, add_lit]
              · rename_i hnn
                cases ha
                refine hres ?_ rfl
                by_cases h0 : l = 0
                · exact .inl h0
                · by_cases hlt : l < len
                  · exact .inr hlt
                  · exact absurd (show Nat.blt l len = false from by
                      cases hb : Nat.blt l len with
                      | false => rfl
                      | true => exact absurd (Nat.le_of_ble_eq_true hb) hlt) (hnn (beq_no h0))
            · cases ha
              obtain ⟨rfl, hml⟩ := hms (by simp)
              refine ⟨.slice (some ⟨b, if m' = l then off else off + l * k, none⟩) (hh - l) (m' - l), .slice _ _ _ _ _ _ _ _ he (fun _ => rfl) (fun hc => ?_) (by omega), ?_⟩
              · omega
              · simp only [Instr.sliceAt, Sem.run_bind, run_underlying hu, Result.andThen_ok, Instr.slice, hr, sizeA_sound P hk]
                by_cases hml : m' = l <;> simp [hml, add_lit]
          · cases ha
        · cases ha
    · cases ha
  · rename_i len el n off hu
    obtain ⟨_, b, sz, es, he, rfl⟩ := hx.ptr_inv
    split at ha
    · rename_i k hk
      split at ha
      · rename_i l hh m h1 hb
        have h1 : len < capRest := Nat.le_of_ble_eq_true h1
        split at ha
        · rename_i hm
          have hm := Nat.le_of_ble_eq_true hm
          cases ha
          obtain ⟨m', hr, hl1, hl2, hl3, hmn, hms⟩ := boundsA_sound (P := P) false (cap' := len) hlo hhi hmx (Nat.le_refl _) (Nat.le_refl _) hb w
          have hmm : m' = m := by
            by_cases hq : mx = none
            · rw [(hmn hq).1, (hmn hq).2.1]
            · exact (hms hq).1
          subst hmm
          refine ⟨.slice (some ⟨b, if m' = l then off else off + l * k, none⟩) (hh - l) (m' - l), .slice _ _ _ _ _ _ _ _ he (fun _ => rfl) (fun hc => by omega) (by omega), ?_⟩
          simp only [Instr.sliceAt, Sem.run_bind, run_underlying hu, Result.andThen_ok, Instr.sureAddr]
          by_cases hml : m' = l <;> simp [hml, add_lit, hr, sizeA_sound P hk]
        · cases ha
      · cases ha
    · cases ha
  · cases ha

end
end Go.Ab
