/- Terms as memory has them: blocks that stay, and what is read off them. -/
import Derived.WalkKit
import Derived.LoopTactic
import Derived.Below
import Derived.Outline
import Derived.KernelRfl
import Derived.Lib.Hide
import Derived.Laws.NewBlocks
namespace Go.Proofs.Rd
open Go Go.RowKit

/-- Blocks that stay as they are. -/
abbrev Fz := Nat → Option Obj
def Fz.In (Z : Fz) (w : World) : Prop := ∀ b o, Z b = some o → w.heap[b]? = some o
def Fz.le (Z Z' : Fz) : Prop := ∀ b o, Z b = some o → Z' b = some o
def Fz.cell (Z : Fz) (b off : Nat) : Option Value := match Z b with
  | some (.cells c _ _) => c[off]?
  | _ => none

theorem Fz.le_refl (Z : Fz) : Z.le Z := fun _ _ h => h
theorem Fz.le_trans {a b c : Fz} (h : a.le b) (k : b.le c) : a.le c := fun n o q => k n o (h n o q)

theorem Fz.In.cell {Z : Fz} {w : World} (h : Z.In w) {b off : Nat} {v : Value} (hc : Z.cell b off = some v) : w.cell? ⟨b, off, none⟩ = some v := by
  unfold Fz.cell at hc
  split at hc
  · rename_i c e fr hb
    simp [World.cell?, h b _ hb, hc]
  · cases hc

theorem Fz.In.lt {Z : Fz} {w : World} (h : Z.In w) {b off : Nat} {v : Value} (hc : Z.cell b off = some v) : b < w.heap.size := by
  unfold Fz.cell at hc
  split at hc
  · rename_i c e fr hb
    exact (Array.getElem?_eq_some_iff.1 (h b _ hb)).1
  · cases hc

theorem Fz.In.below {Z : Fz} {w w' : World} (h : Z.In w) (hb : Below w.heap.size w w') : Z.In w' := fun b o hz => by
  have h1 := h b o hz
  rw [hb.block b (Array.getElem?_eq_some_iff.1 h1).1]; exact h1

theorem Fz.cell_mono {Z Z' : Fz} (h : Z.le Z') {b off : Nat} {v : Value} (hc : Z.cell b off = some v) : Z'.cell b off = some v := by
  unfold Fz.cell at hc ⊢
  split at hc
  · rename_i c e fr hb; rw [h b _ hb]; exact hc
  · cases hc

theorem Fz.In.fresh {Z : Fz} {w : World} (h : Z.In w) {b : Nat} (hb : w.heap.size ≤ b) : Z b = none := by
  cases hz : Z b with
  | none => rfl
  | some o => have := (Array.getElem?_eq_some_iff.1 (h b o hz)).1; omega

/-- What a walk wants to know behind a call that turned nothing. -/
theorem bcell {W w1 : World} (hb : Below W.heap.size W w1) : (∀ b o, b < W.heap.size → w1.cell? ⟨b, o, none⟩ = W.cell? ⟨b, o, none⟩) ∧ (∀ b o, b < W.heap.size → w1.frozen? ⟨b, o, none⟩ = W.frozen? ⟨b, o, none⟩) ∧ W.heap.size ≤ w1.heap.size :=
  ⟨fun b o h => hb.cell (p := ⟨b, o, none⟩) h, fun b o h => hb.frozen (p := ⟨b, o, none⟩) h, hb.size⟩
theorem belowNew (W : World) (o : Obj) : Below W.heap.size W (W.alloc o) := (Below.refl _ _).alloc (Nat.le_refl _) _
theorem afterLt {w : World} {o : Obj} {w1 : World} (h : Below (w.alloc o).heap.size (w.alloc o) w1) : w.heap.size < w1.heap.size := by have := h.size; simp at this; omega
theorem belowAfter {W : World} {o : Obj} {w1 : World} (h : Below (W.alloc o).heap.size (W.alloc o) w1) : Below W.heap.size W w1 :=
  (belowNew W o).trans (h.mono (by simp))

/-- Block s alone may have turned. -/
structure But (s : Nat) (w w' : World) : Prop where
  os : w'.os = w.os
  tape : w'.tape = w.tape
  output : w'.output = w.output
  size : w.heap.size ≤ w'.heap.size
  block : ∀ k, k < w.heap.size → k ≠ s → w'.heap[k]? = w.heap[k]?

theorem But.refl (s : Nat) (w : World) : But s w w := ⟨rfl, rfl, rfl, Nat.le_refl _, fun _ _ _ => rfl⟩
theorem But.trans {s : Nat} {a b c : World} (h : But s a b) (k : But s b c) : But s a c :=
  ⟨k.os.trans h.os, k.tape.trans h.tape, k.output.trans h.output, Nat.le_trans h.size k.size, fun i hi hs => (k.block i (Nat.lt_of_lt_of_le hi h.size) hs).trans (h.block i hi hs)⟩
theorem But.of {s : Nat} {w w' : World} (h : Below w.heap.size w w') : But s w w' := ⟨h.os, h.tape, h.output, h.size, fun k hk _ => h.block k hk⟩
theorem But.setCell (s o : Nat) (w : World) (v : Value) : But s w (w.setCell ⟨s, o, none⟩ v) :=
  ⟨rfl, rfl, rfl, by simp [World.setCell], fun k _ hs => Below.heap_setCell _ _ _ _ hs⟩
theorem But.drew (s : Nat) (w : World) : But s w w.drew := ⟨rfl, rfl, rfl, Nat.le_refl _, fun _ _ _ => rfl⟩
theorem But.alloc (s : Nat) (w : World) (o : Obj) : But s w (w.alloc o) := But.of (belowNew w o)
theorem But.cells {s : Nat} {w w' : World} (h : But s w w') : (∀ b o, b < w.heap.size → b ≠ s → w'.cell? ⟨b, o, none⟩ = w.cell? ⟨b, o, none⟩) ∧ (∀ b o, b < w.heap.size → b ≠ s → w'.frozen? ⟨b, o, none⟩ = w.frozen? ⟨b, o, none⟩) ∧ w.heap.size ≤ w'.heap.size :=
  ⟨fun b o hb hs => World.cell?_of_block (w := w) (h.block b hb hs), fun b o hb hs => World.frozen?_of_block (w := w) (h.block b hb hs), h.size⟩
theorem Fz.In.but {Z : Fz} {s : Nat} {w w' : World} (h : Z.In w) (hs : Z s = none) (hb : But s w w') : Z.In w' := fun b o hz => by
  have h1 := h b o hz
  rw [hb.block b (Array.getElem?_eq_some_iff.1 h1).1 (fun e => by subst e; rw [hs] at hz; cases hz)]; exact h1

theorem But.below {s : Nat} {w W w' : World} (h : But s W w') (hb : Below w.heap.size w W) (hs : w.heap.size ≤ s) : Below w.heap.size w w' :=
  hb.trans ⟨h.os, h.tape, h.output, h.size, fun k hk => h.block k (Nat.lt_of_lt_of_le hk hb.size) (by omega)⟩

theorem chain {w W W' : World} (h : Below w.heap.size w W) (k : Below W.heap.size W W') : Below w.heap.size w W' := h.trans (k.mono h.size)
/-- What stands behind a call that turned nothing, from a world w on. -/
theorem after {Z : Fz} {w W W' : World} (h : Below w.heap.size w W) (hz : Z.In W) (k : Below W.heap.size W W') :
    Z.In W' ∧ Below w.heap.size w W' ∧ (∀ b o, b < W.heap.size → W'.cell? ⟨b, o, none⟩ = W.cell? ⟨b, o, none⟩) ∧ (∀ b o, b < W.heap.size → W'.frozen? ⟨b, o, none⟩ = W.frozen? ⟨b, o, none⟩) ∧ W.heap.size ≤ W'.heap.size :=
  ⟨hz.below k, chain h k, fun b o h => k.cell (p := ⟨b, o, none⟩) h, fun b o h => k.frozen (p := ⟨b, o, none⟩) h, k.size⟩

def I64 (x : Int) : Prop := -9223372036854775808 ≤ x ∧ x ≤ 9223372036854775807
def U64 (x : Int) : Prop := 0 ≤ x ∧ x ≤ 18446744073709551615
def U32 (x : Int) : Prop := 0 ≤ x ∧ x ≤ 4294967295

/-- A slice of rows of k cells. -/
def RowAt (Z : Fz) (b off k : Nat) (css : List (List Value)) : Prop :=
  ∀ i cs, css[i]? = some cs → cs.length = k ∧ ∀ j u, cs[j]? = some u → Z.cell b (off + i * k + j) = some u
def SlV (Z : Fz) (k : Nat) (v : Value) (css : List (List Value)) : Prop :=
  (v = .slice none 0 0 ∧ css = []) ∨ ∃ b off cap, v = .slice (some ⟨b, off, none⟩) css.length cap ∧ css.length ≤ cap ∧ cap ≤ 140737488355328 ∧ RowAt Z b off k css

theorem SlV.mono {Z Z' : Fz} (h : Z.le Z') {k : Nat} {v : Value} {css : List (List Value)} (hs : SlV Z k v css) : SlV Z' k v css := by
  rcases hs with hs | ⟨b, off, cap, h1, h2, h3, h4⟩
  · exact .inl hs
  · exact .inr ⟨b, off, cap, h1, h2, h3, fun i cs hi => ⟨(h4 i cs hi).1, fun j u hj => Fz.cell_mono h ((h4 i cs hi).2 j u hj)⟩⟩

/-- A slice, nil or not, as a walk wants it: its address, its length, its cells. -/
theorem SlV.open {Z : Fz} {k : Nat} {v : Value} {css : List (List Value)} (h : SlV Z k v css) :
    ∃ A cap, v = .slice A css.length cap ∧ css.length ≤ cap ∧ cap ≤ 140737488355328 ∧ (css ≠ [] → ∃ b off, A = some ⟨b, off, none⟩ ∧ RowAt Z b off k css) := by
  rcases h with ⟨rfl, rfl⟩ | ⟨b, off, cap, rfl, h2, h3, h4⟩
  · exact ⟨none, 0, rfl, Nat.le_refl _, Nat.zero_le _, fun h => absurd rfl h⟩
  · exact ⟨some ⟨b, off, none⟩, cap, rfl, h2, h3, fun _ => ⟨b, off, rfl, h4⟩⟩

/-- A term. -/
inductive Tm where
  | mk (k n : Int) (neg : Bool) (mag : List Int) (bits : Int) (bytes : ByteArray) (args : List Tm)

namespace Tm
def k : Tm → Int | .mk k _ _ _ _ _ _ => k
def n : Tm → Int | .mk _ n _ _ _ _ _ => n
def neg : Tm → Bool | .mk _ _ b _ _ _ _ => b
def mag : Tm → List Int | .mk _ _ _ l _ _ _ => l
def bits : Tm → Int | .mk _ _ _ _ x _ _ => x
def bytes : Tm → ByteArray | .mk _ _ _ _ _ s _ => s
def args : Tm → List Tm | .mk _ _ _ _ _ _ l => l
mutual
def depth : Tm → Nat | .mk _ _ _ _ _ _ l => depths l + 1
def depths : List Tm → Nat | [] => 0 | t :: l => max (depth t) (depths l)
end
theorem depth_mem : ∀ {l : List Tm} {t : Tm}, t ∈ l → t.depth ≤ depths l
  | x :: l, t, h => by
    rcases List.mem_cons.1 h with rfl | h
    · exact Nat.le_max_left _ _
    · exact Nat.le_trans (depth_mem h) (Nat.le_max_right _ _)
theorem depth_args (t : Tm) : t.depth = depths t.args + 1 := by cases t; rfl
end Tm

def u32s (l : List Int) : List (List Value) := l.map fun x => [.int .u32 x]
def tmCells (t : Tm) (vm va : Value) : List Value := [.int .i64 t.k, .int .i64 t.n, .bool t.neg, vm, .int .u64 t.bits, .string t.bytes, va]

structure TmOk (t : Tm) : Prop where
  k : I64 t.k
  n : I64 t.n
  bits : U64 t.bits
  mag : ∀ x ∈ t.mag, U32 x
  bytes : t.bytes.size ≤ 140737488355328

mutual
inductive TmR (Z : Fz) : List Value → Tm → Prop
  | mk (t : Tm) (vm va : Value) (css : List (List Value)) (ok : TmOk t) (hm : SlV Z 1 vm (u32s t.mag)) (ha : SlV Z 7 va css) (hl : TmL Z css t.args) : TmR Z (tmCells t vm va) t
inductive TmL (Z : Fz) : List (List Value) → List Tm → Prop
  | nil : TmL Z [] []
  | cons (cs : List Value) (t : Tm) (css : List (List Value)) (l : List Tm) (h : TmR Z cs t) (hl : TmL Z css l) : TmL Z (cs :: css) (t :: l)
end

mutual
theorem TmR.mono {Z Z' : Fz} (h : Z.le Z') : ∀ {cs : List Value} {t : Tm}, TmR Z cs t → TmR Z' cs t
  | _, _, .mk t vm va css ok hm ha hl => .mk t vm va css ok (hm.mono h) (ha.mono h) (TmL.mono h hl)
theorem TmL.mono {Z Z' : Fz} (h : Z.le Z') : ∀ {css : List (List Value)} {l : List Tm}, TmL Z css l → TmL Z' css l
  | _, _, .nil => .nil
  | _, _, .cons cs t css l hr hl => .cons cs t css l (TmR.mono h hr) (TmL.mono h hl)
end

theorem TmL.length {Z : Fz} : ∀ {css : List (List Value)} {l : List Tm}, TmL Z css l → css.length = l.length
  | _, _, .nil => rfl
  | _, _, .cons _ _ _ _ _ hl => by simp [TmL.length hl]

theorem TmL.get {Z : Fz} : ∀ {css : List (List Value)} {l : List Tm}, TmL Z css l → ∀ {i : Nat} {t : Tm}, l[i]? = some t → ∃ cs, css[i]? = some cs ∧ TmR Z cs t
  | _, _, .nil, i, t, h => by simp at h
  | _, _, .cons cs t css l hr hl, 0, x, h => by simp at h; subst h; exact ⟨cs, rfl, hr⟩
  | _, _, .cons cs t css l hr hl, i + 1, x, h => by simp at h; simpa using TmL.get hl h

/-- A list of terms; limbs. -/
def TmsR (Z : Fz) (v : Value) (l : List Tm) : Prop := ∃ css, SlV Z 7 v css ∧ TmL Z css l
def U32sR (Z : Fz) (v : Value) (l : List Int) : Prop := SlV Z 1 v (u32s l)
theorem TmsR.mono {Z Z' : Fz} (h : Z.le Z') {v : Value} {l : List Tm} : TmsR Z v l → TmsR Z' v l := fun ⟨css, h1, h2⟩ => ⟨css, h1.mono h, h2.mono h⟩
theorem U32sR.mono {Z Z' : Fz} (h : Z.le Z') {v : Value} {l : List Int} (hr : U32sR Z v l) : U32sR Z' v l := SlV.mono h hr

/-- What a term's cells are. -/
theorem TmR.open {Z : Fz} {cs : List Value} {t : Tm} (h : TmR Z cs t) : ∃ vm va, cs = tmCells t vm va ∧ TmOk t ∧ U32sR Z vm t.mag ∧ TmsR Z va t.args := by
  cases h with
  | mk _ vm va css ok hm ha hl => exact ⟨vm, va, rfl, ok, hm, css, ha, hl⟩
theorem TmR.mk' {Z : Fz} {t : Tm} {vm va : Value} (ok : TmOk t) (hm : U32sR Z vm t.mag) (ha : TmsR Z va t.args) : TmR Z (tmCells t vm va) t := by
  obtain ⟨css, h1, h2⟩ := ha
  exact .mk t vm va css ok hm h1 h2

/-- Limbs as a walk wants them. -/
theorem U32sR.open {Z : Fz} {v : Value} {l : List Int} (h : U32sR Z v l) :
    ∃ A cap, v = .slice A l.length cap ∧ l.length ≤ cap ∧ cap ≤ 140737488355328 ∧ ∀ i (hi : i < l.length), ∃ b off, A = some ⟨b, off, none⟩ ∧ Z.cell b (off + i) = some (.int .u32 l[i]) := by
  obtain ⟨A, cap, rfl, h1, h2, h3⟩ := SlV.open h
  have hlen : (u32s l).length = l.length := by simp [u32s]
  refine ⟨A, cap, by rw [hlen], by omega, h2, fun i hi => ?_⟩
  obtain ⟨b, off, rfl, hr⟩ := h3 (by intro h0; rw [h0] at hlen; simp at hlen; omega)
  have := (hr i [.int .u32 l[i]] (by simp [u32s, List.getElem?_eq_getElem hi])).2 0 _ rfl
  exact ⟨b, off, rfl, by simpa using this⟩

/-- The seven cells of a term that lies in a row. -/
structure At7 (Z : Fz) (b o : Nat) (t : Tm) (vm va : Value) : Prop where
  c0 : Z.cell b o = some (.int .i64 t.k)
  c1 : Z.cell b (o + 1) = some (.int .i64 t.n)
  c2 : Z.cell b (o + 2) = some (.bool t.neg)
  c3 : Z.cell b (o + 3) = some vm
  c4 : Z.cell b (o + 4) = some (.int .u64 t.bits)
  c5 : Z.cell b (o + 5) = some (.string t.bytes)
  c6 : Z.cell b (o + 6) = some va

theorem At7.cells {Z : Fz} {b o : Nat} {t : Tm} {vm va : Value} (h : At7 Z b o t vm va) {w : World} (hz : Z.In w) :
    w.cell? ⟨b, o, none⟩ = some (.int .i64 t.k) ∧ w.cell? ⟨b, o + 1, none⟩ = some (.int .i64 t.n) ∧ w.cell? ⟨b, o + 2, none⟩ = some (.bool t.neg) ∧ w.cell? ⟨b, o + 3, none⟩ = some vm ∧
    w.cell? ⟨b, o + 4, none⟩ = some (.int .u64 t.bits) ∧ w.cell? ⟨b, o + 5, none⟩ = some (.string t.bytes) ∧ w.cell? ⟨b, o + 6, none⟩ = some va :=
  ⟨hz.cell h.c0, hz.cell h.c1, hz.cell h.c2, hz.cell h.c3, hz.cell h.c4, hz.cell h.c5, hz.cell h.c6⟩

/-- A list of terms as a walk wants it. -/
theorem TmsR.open {Z : Fz} {v : Value} {l : List Tm} (h : TmsR Z v l) :
    ∃ A cap, v = .slice A l.length cap ∧ l.length ≤ cap ∧ cap ≤ 140737488355328 ∧ ∀ i (hi : i < l.length), ∃ b off vm va, A = some ⟨b, off, none⟩ ∧ At7 Z b (off + i * 7) l[i] vm va ∧
      TmOk l[i] ∧ U32sR Z vm l[i].mag ∧ TmsR Z va l[i].args := by
  obtain ⟨css, hs, hl⟩ := h
  obtain ⟨A, cap, rfl, h1, h2, h3⟩ := hs.open
  have hlen := hl.length
  refine ⟨A, cap, by rw [hlen], by omega, h2, fun i hi => ?_⟩
  obtain ⟨b, off, rfl, hr⟩ := h3 (by intro h0; rw [h0] at hlen; simp at hlen; omega)
  obtain ⟨cs, hcs, ht⟩ := hl.get (List.getElem?_eq_getElem hi)
  obtain ⟨hk, hc⟩ := hr i cs hcs
  obtain ⟨vm, va, rfl, ok, hm, ha⟩ := ht.open
  exact ⟨b, off, vm, va, rfl, ⟨hc 0 _ rfl, hc 1 _ rfl, hc 2 _ rfl, hc 3 _ rfl, hc 4 _ rfl, hc 5 _ rfl, hc 6 _ rfl⟩, ok, hm, ha⟩
end Go.Proofs.Rd
