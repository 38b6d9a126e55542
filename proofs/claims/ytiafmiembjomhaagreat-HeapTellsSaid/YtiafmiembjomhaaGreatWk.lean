/- Terms of any length as a reading has them. -/
import Derived.Test.YtiafmiembjomhaaGreatProg
import Derived.Test.YtiafmiembjomhaaGreatRd
import Derived.DataReads
import Derived.ProofKit
namespace Go.Proofs.Rd
open Go Go.RowKit

def SlW (Z : Fz) (k : Nat) (v : Value) (css : List (List Value)) : Prop :=
  ∃ A cap, v = .slice A css.length cap ∧ css.length ≤ cap ∧ cap ≤ 9223372036854775807 ∧ (css ≠ [] → ∃ b off, A = some ⟨b, off, none⟩ ∧ RowAt Z b off k css)

structure TmOkW (t : Tm) : Prop where
  k : I64 t.k
  n : I64 t.n
  bits : U64 t.bits
  mag : ∀ x ∈ t.mag, U32 x
  bytes : t.bytes.size ≤ 9223372036854775807

mutual
inductive TmW (Z : Fz) : List Value → Tm → Prop
  | mk (t : Tm) (vm va : Value) (css : List (List Value)) (ok : TmOkW t) (hm : SlW Z 1 vm (u32s t.mag)) (ha : SlW Z 7 va css) (hl : TmLW Z css t.args) : TmW Z (tmCells t vm va) t
inductive TmLW (Z : Fz) : List (List Value) → List Tm → Prop
  | nil : TmLW Z [] []
  | cons (cs : List Value) (t : Tm) (css : List (List Value)) (l : List Tm) (h : TmW Z cs t) (hl : TmLW Z css l) : TmLW Z (cs :: css) (t :: l)
end

theorem SlW.mono {Z Z' : Fz} (h : Z.le Z') {k : Nat} {v : Value} {css : List (List Value)} (hs : SlW Z k v css) : SlW Z' k v css := by
  obtain ⟨A, cap, h1, h2, h3, h4⟩ := hs
  refine ⟨A, cap, h1, h2, h3, fun hn => ?_⟩
  obtain ⟨b, off, h5, h6⟩ := h4 hn
  exact ⟨b, off, h5, fun i cs hi => ⟨(h6 i cs hi).1, fun j u hj => Fz.cell_mono h ((h6 i cs hi).2 j u hj)⟩⟩

mutual
theorem TmW.mono {Z Z' : Fz} (h : Z.le Z') : ∀ {cs : List Value} {t : Tm}, TmW Z cs t → TmW Z' cs t
  | _, _, .mk t vm va css ok hm ha hl => .mk t vm va css ok (hm.mono h) (ha.mono h) (TmLW.mono h hl)
theorem TmLW.mono {Z Z' : Fz} (h : Z.le Z') : ∀ {css : List (List Value)} {l : List Tm}, TmLW Z css l → TmLW Z' css l
  | _, _, .nil => .nil
  | _, _, .cons cs t css l hr hl => .cons cs t css l (TmW.mono h hr) (TmLW.mono h hl)
end

theorem TmLW.length {Z : Fz} : ∀ {css : List (List Value)} {l : List Tm}, TmLW Z css l → css.length = l.length
  | _, _, .nil => rfl
  | _, _, .cons _ _ _ _ _ hl => by simp [TmLW.length hl]

theorem TmLW.get {Z : Fz} : ∀ {css : List (List Value)} {l : List Tm}, TmLW Z css l → ∀ {i : Nat} {t : Tm}, l[i]? = some t → ∃ cs, css[i]? = some cs ∧ TmW Z cs t
  | _, _, .nil, i, t, h => by simp at h
  | _, _, .cons cs t css l hr hl, 0, x, h => by simp at h; subst h; exact ⟨cs, rfl, hr⟩
  | _, _, .cons cs t css l hr hl, i + 1, x, h => by simp at h; simpa using TmLW.get hl h

def TmsW (Z : Fz) (v : Value) (l : List Tm) : Prop := ∃ css, SlW Z 7 v css ∧ TmLW Z css l
theorem TmsW.mono {Z Z' : Fz} (h : Z.le Z') {v : Value} {l : List Tm} : TmsW Z v l → TmsW Z' v l := fun ⟨css, h1, h2⟩ => ⟨css, h1.mono h, TmLW.mono h h2⟩

theorem TmW.open {Z : Fz} {cs : List Value} {t : Tm} (h : TmW Z cs t) : ∃ vm va, cs = tmCells t vm va ∧ TmOkW t ∧ SlW Z 1 vm (u32s t.mag) ∧ TmsW Z va t.args := by
  cases h with
  | mk _ vm va css ok hm ha hl => exact ⟨vm, va, rfl, ok, hm, css, ha, hl⟩

theorem TmsW.open {Z : Fz} {v : Value} {l : List Tm} (h : TmsW Z v l) :
    ∃ A cap, v = .slice A l.length cap ∧ l.length ≤ cap ∧ cap ≤ 9223372036854775807 ∧ ∀ i (hi : i < l.length), ∃ b off vm va, A = some ⟨b, off, none⟩ ∧ At7 Z b (off + i * 7) l[i] vm va ∧
      TmOkW l[i] ∧ SlW Z 1 vm (u32s l[i].mag) ∧ TmsW Z va l[i].args := by
  obtain ⟨css, hs, hl⟩ := h
  obtain ⟨A, cap, rfl, h1, h2, h3⟩ := hs
  have hlen := hl.length
  refine ⟨A, cap, by rw [hlen], by omega, h2, fun i hi => ?_⟩
  obtain ⟨b, off, rfl, hr⟩ := h3 (by intro h0; rw [h0] at hlen; simp at hlen; omega)
  obtain ⟨cs, hcs, ht⟩ := hl.get (List.getElem?_eq_getElem hi)
  obtain ⟨hk, hc⟩ := hr i cs hcs
  obtain ⟨vm, va, rfl, ok, hm, ha⟩ := ht.open
  exact ⟨b, off, vm, va, rfl, ⟨hc 0 _ rfl, hc 1 _ rfl, hc 2 _ rfl, hc 3 _ rfl, hc 4 _ rfl, hc 5 _ rfl, hc 6 _ rfl⟩, ok, hm, ha⟩

/-! What 'parts' counts. -/
mutual
def ptsT : Tm → Int → Int
  | .mk _ _ _ _ _ _ l, most => ptsL l 0 most
def ptsL : List Tm → Int → Int → Int
  | [], n, _ => n
  | t :: l, n, most => match decide (n ≤ most) with
    | false => n
    | true => match decide ((1000 : Int) < (t.bytes.size : Int)) || decide ((40 : Int) < (t.mag.length : Int)) with
      | true => wrap64 (most + 1)
      | false => ptsL l (wrap64 (wrap64 (n + 1) + ptsT t (wrap64 (wrap64 (most - n) - 1)))) most
end
theorem ptsT_eq (t : Tm) (m : Int) : ptsT t m = ptsL t.args 0 m := by cases t; rfl
end Go.Proofs.Rd
