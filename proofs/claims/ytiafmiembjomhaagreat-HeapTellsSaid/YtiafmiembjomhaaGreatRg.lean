/- Terms off their readings. -/
import Derived.Test.YtiafmiembjomhaaGreatWk
import Derived.DataReads
import Derived.KernelRfl
import Derived.ProofKit
namespace Go.Proofs
open Go Go.RowKit Go.Proofs.Rd

/-- All blocks of a world. -/
def zOf (w : World) : Fz := fun b => w.heap[b]?
theorem zOf_in (w : World) : (zOf w).In w := fun _ _ h => h

section
variable {H : Type} {enc : TypeId × Value → H} {w : World} {sp : Nat → Bool}

theorem zcell {a : Addr} {v : Value} (h : w.cell? a = some v) : a = ⟨a.block, a.off, none⟩ ∧ (zOf w).cell a.block a.off = some v := by
  obtain ⟨b, off, spot⟩ := a
  unfold World.cell? at h
  unfold Fz.cell zOf
  simp only at h ⊢
  split at h
  · rename_i c e fr hb
    split at h
    · cases h
    · rename_i hs
      simp at hs
      subst hs
      rw [hb]
      exact ⟨rfl, h⟩
  · cases h

theorem add2 (a : Addr) (n m : Nat) : ((a.add n).add m).block = a.block ∧ ((a.add n).add m).off = a.off + n + m := by
  unfold Addr.add
  by_cases h : n = 0 <;> by_cases k : m = 0 <;> simp [h, k]

theorem cells_get {a : Addr} {n : Nat} {cs : List Value} (h : w.cells? 0 a n = some cs) : cs.length = n ∧ ∀ j u, cs[j]? = some u → w.cell? (a.add j) = some u := by
  unfold World.cells? at h
  rw [if_pos (Nat.zero_le _)] at h
  have hl := mapM_some_length h
  refine ⟨by simpa using hl, fun j u hj => ?_⟩
  have hlt : j < n := by
    have := (List.getElem?_eq_some_iff.1 hj).1
    rw [hl] at this; simpa using this
  have := mapM_some_get h j j (by simp [hlt])
  rw [this, hj]

theorem row_of {k : Nat} (hk : 0 < k) {a : Addr} {len cap : Nat} (f : Nat → List Value) (hf : ∀ i, i < len → w.cells? 0 (a.add (i * k)) k = some (f i)) (h1 : len ≤ cap) (h2 : cap ≤ maxLen) :
    SlW (zOf w) k (.slice (some a) len cap) ((List.range len).map f) := by
  refine ⟨some a, cap, by simp, by simpa using h1, h2, fun hne => ?_⟩
  have hlen : 0 < len := by
    rcases Nat.eq_zero_or_pos len with h | h
    · subst h; exact absurd rfl hne
    · exact h
  have h00 : a = ⟨a.block, a.off, none⟩ := by
    obtain ⟨hl, hg⟩ := cells_get (hf 0 hlen)
    have h0 := hg 0 ((f 0)[0]'(by omega)) (List.getElem?_eq_getElem _)
    have := (zcell h0).1
    simpa [Addr.add] using this
  refine ⟨a.block, a.off, by rw [← h00], fun i cs hi => ?_⟩
  have hi2 : i < len := by
    have := (List.getElem?_eq_some_iff.1 hi).1
    simpa using this
  have hcs : cs = f i := by simpa [hi2] using hi.symm
  subst hcs
  obtain ⟨hl, hg⟩ := cells_get (hf i hi2)
  refine ⟨hl, fun j u hj => ?_⟩
  have h0 := (zcell (hg j u hj)).2
  rw [(add2 a (i * k) j).1, (add2 a (i * k) j).2] at h0
  exact h0

theorem Tryz.cells30 : Tryz.prog.cellsOf 30 = 7 := by kernel_rfl
theorem Tryz.cells26 : Tryz.prog.cellsOf 26 = 2 := by kernel_rfl
theorem Tryz.cells24 : Tryz.prog.cellsOf 24 = 1 := by kernel_rfl
theorem Tryz.cells190 : Tryz.prog.cellsOf 190 = 1 := by kernel_rfl
theorem Tryz.cells9 : Tryz.prog.cellsOf 9 = 1 := by kernel_rfl
theorem Tryz.cells28 : Tryz.prog.cellsOf 28 = 1 := by kernel_rfl
theorem Tryz.cells27 : Tryz.prog.cellsOf 27 = 1 := by kernel_rfl
theorem Tryz.cells3 : Tryz.prog.cellsOf 3 = 1 := by kernel_rfl
theorem Tryz.cells4 : Tryz.prog.cellsOf 4 = 1 := by kernel_rfl

theorem wf_of {k : IntKind} {i : Int} (h : (Lit.int k i).wf = true) : k.min ≤ i ∧ i ≤ k.max := by
  simpa only [Lit.wf, Bool.and_eq_true, decide_eq_true_eq] using h
theorem int_of {n : Nat} {cs : List Value} {x : DataW H × List MemPlace} (h : DataW.trod enc Tryz.prog w 0 sp true n 3 cs = some x) : ∃ i, cs = [.int .i64 i] ∧ I64 i := by
  obtain ⟨i, h1, -, h2⟩ := DataW.trod_int Tryz.underlying3 h
  exact ⟨i, h1, wf_of h2⟩
theorem u64_of {n : Nat} {cs : List Value} {x : DataW H × List MemPlace} (h : DataW.trod enc Tryz.prog w 0 sp true n 27 cs = some x) : ∃ i, cs = [.int .u64 i] ∧ U64 i := by
  obtain ⟨i, h1, -, h2⟩ := DataW.trod_int Tryz.underlying27 h
  exact ⟨i, h1, wf_of h2⟩
theorem u32_of {n : Nat} {cs : List Value} {x : DataW H × List MemPlace} (h : DataW.trod enc Tryz.prog w 0 sp true n 190 cs = some x) : ∃ i, cs = [.int .u32 i] ∧ U32 i := by
  obtain ⟨i, h1, -, h2⟩ := DataW.trod_int Tryz.underlying190 h
  exact ⟨i, h1, wf_of h2⟩
theorem bool_of {n : Nat} {v : Value} {x : DataW H × List MemPlace} (h : DataW.trod enc Tryz.prog w 0 sp true n 4 [v] = some x) : ∃ b, v = .bool b := by
  cases n with
  | zero => simp [DataW.trod] at h
  | succ n =>
    simp only [DataW.trod, Tryz.underlying4] at h
    cases v <;> first | exact ⟨_, rfl⟩ | cases h
theorem str_of {n : Nat} {v : Value} {x : DataW H × List MemPlace} (h : DataW.trod enc Tryz.prog w 0 sp true n 9 [v] = some x) : ∃ s, v = .string s ∧ s.size ≤ 9223372036854775807 := by
  cases n with
  | zero => simp [DataW.trod] at h
  | succ n =>
    simp only [DataW.trod, Tryz.underlying9] at h
    cases v with
    | string s =>
      simp only at h
      split at h
      · rename_i hs; exact ⟨s, rfl, hs⟩
      · cases h
    | _ => cases h

/-- A slice's rows off its reading. -/
theorem slice_of {t el : TypeId} {k : Nat} (ht : Tryz.prog.underlying t = some (.slice el)) (hk : Tryz.prog.cellsOf el = k) (hk0 : 0 < k) {n : Nat} {v : Value} {x : DataW H × List MemPlace}
    (h : DataW.trod enc Tryz.prog w 0 sp true (n + 1) t [v] = some x) :
    ∃ css, SlW (zOf w) k v css ∧ ∀ cs ∈ css, ∃ y, DataW.trod enc Tryz.prog w 0 sp true n el cs = some y := by
  simp only [DataW.trod, ht] at h
  cases v with
  | slice a len cap =>
    cases a with
    | none =>
      rcases len with _ | len <;> rcases cap with _ | cap
      · exact ⟨[], ⟨none, 0, rfl, Nat.le_refl _, by decide, fun h => absurd rfl h⟩, by simp⟩
      · simp at h
      · simp at h
      · simp at h
    | some a =>
      simp only [hk] at h
      split at h
      · rename_i hc
        obtain ⟨elems, hel, _⟩ := Option.bind_eq_some_iff.1 h
        have key : ∀ i, i < len → ∃ cs y, w.cells? 0 (a.add (i * k)) k = some cs ∧ DataW.trod enc Tryz.prog w 0 sp true n el cs = some y := fun i hi => by
          have hlen := mapM_some_length hel
          have hget := mapM_some_get hel i i (by simp [hi])
          have hi2 : i < elems.length := by rw [hlen]; simpa using hi
          rw [List.getElem?_eq_getElem hi2] at hget
          obtain ⟨cs, hcs, hy⟩ := Option.bind_eq_some_iff.1 hget
          exact ⟨cs, _, hcs, hy⟩
        refine ⟨_, row_of hk0 (fun i => (w.cells? 0 (a.add (i * k)) k).getD []) (fun i hi => ?_) hc.2.1 hc.2.2, ?_⟩
        · obtain ⟨cs, y, h1, h2⟩ := key i hi
          rw [h1]; rfl
        · intro cs hcs
          obtain ⟨i, hi, rfl⟩ := List.mem_map.1 hcs
          obtain ⟨cs, y, h1, h2⟩ := key i (by simpa using hi)
          rw [h1]; exact ⟨y, h2⟩
      · simp at h
  | _ => simp at h

theorem u32s_of : ∀ {css : List (List Value)}, (∀ cs ∈ css, ∃ x, cs = [.int .u32 x] ∧ U32 x) → ∃ l, css = u32s l ∧ ∀ x ∈ l, U32 x
  | [], _ => ⟨[], rfl, by simp⟩
  | cs :: css, h => by
    obtain ⟨x, rfl, hx⟩ := h cs (List.mem_cons_self ..)
    obtain ⟨l, rfl, hl⟩ := u32s_of fun c hc => h c (List.mem_cons_of_mem _ hc)
    exact ⟨x :: l, rfl, by simpa using ⟨hx, hl⟩⟩

theorem limbs_of {n : Nat} {v : Value} {x : DataW H × List MemPlace} (h : DataW.trod enc Tryz.prog w 0 sp true n 24 [v] = some x) : ∃ l, SlW (zOf w) 1 v (u32s l) ∧ ∀ x ∈ l, U32 x := by
  cases n with
  | zero => simp [DataW.trod] at h
  | succ n =>
    obtain ⟨css, h1, h2⟩ := slice_of Tryz.underlying24 Tryz.cells190 (by decide) h
    obtain ⟨l, rfl, hl⟩ := u32s_of fun cs hc => by obtain ⟨y, hy⟩ := h2 cs hc; exact u32_of hy
    exact ⟨l, h1, hl⟩

theorem num_of {n : Nat} {v v' : Value} {x : DataW H × List MemPlace} (h : DataW.trod enc Tryz.prog w 0 sp true n 26 [v, v'] = some x) : ∃ b l, v = .bool b ∧ SlW (zOf w) 1 v' (u32s l) ∧ ∀ x ∈ l, U32 x := by
  cases n with
  | zero => simp [DataW.trod] at h
  | succ n =>
    rw [DataW.trod.eq_def] at h
    simp only [Tryz.underlying26, Tryz.cells26] at h
    split at h
    · obtain ⟨xs, hxs, _⟩ := Option.map_eq_some_iff.1 h
      have hxl := mapM_some_length hxs
      have l0 : 0 < xs.length := by rw [hxl]; decide
      have l1 : 1 < xs.length := by rw [hxl]; decide
      have g0 := mapM_some_get hxs 0 _ rfl
      have g1 := mapM_some_get hxs 1 _ rfl
      rw [List.getElem?_eq_getElem l0] at g0
      rw [List.getElem?_eq_getElem l1] at g1
      simp only [Tryz.cells24, Tryz.cells4, List.drop, List.take] at g0 g1
      obtain ⟨b, rfl⟩ := bool_of g0
      obtain ⟨l, h1, h2⟩ := limbs_of g1
      exact ⟨b, l, rfl, h1, h2⟩
    · cases h

theorem list7 {α : Type} {l : List α} (h : l.length = 7) : ∃ a b c d e f g, l = [a, b, c, d, e, f, g] := by
  rcases l with _ | ⟨a, _ | ⟨b, _ | ⟨c, _ | ⟨d, _ | ⟨e, _ | ⟨f, _ | ⟨g, _ | ⟨x, l⟩⟩⟩⟩⟩⟩⟩⟩ <;> simp at h
  exact ⟨_, _, _, _, _, _, _, rfl⟩

theorem tmLW_of {Z : Fz} : ∀ {css : List (List Value)}, (∀ cs ∈ css, ∃ t, TmW Z cs t) → ∃ l, TmLW Z css l
  | [], _ => ⟨[], .nil⟩
  | cs :: css, h => by
    obtain ⟨t, ht⟩ := h cs (List.mem_cons_self ..)
    obtain ⟨l, hl⟩ := tmLW_of fun c hc => h c (List.mem_cons_of_mem _ hc)
    exact ⟨t :: l, .cons _ _ _ _ ht hl⟩

theorem term_of (n : Nat) : ∀ {cs : List Value} {x : DataW H × List MemPlace}, DataW.trod enc Tryz.prog w 0 sp true n 30 cs = some x → ∃ t, TmW (zOf w) cs t := by
  induction n using Nat.strongRecOn with
  | ind n ih =>
    intro cs x h
    cases n with
    | zero => simp [DataW.trod] at h
    | succ n =>
      rw [DataW.trod.eq_def] at h
      simp only [Tryz.underlying30, Tryz.cells30] at h
      split at h
      · rename_i hl
        obtain ⟨c0, c1, c2, c3, c4, c5, c6, rfl⟩ := list7 hl
        obtain ⟨xs, hxs, _⟩ := Option.map_eq_some_iff.1 h
        have hxl := mapM_some_length hxs
        have hx : ∀ k, k < 6 → ∃ y, xs[k]? = some y := fun k hk => by
          have : k < xs.length := by rw [hxl]; simpa using hk
          exact ⟨_, List.getElem?_eq_getElem this⟩
        obtain ⟨y0, e0⟩ := hx 0 (by decide)
        obtain ⟨y1, e1⟩ := hx 1 (by decide)
        obtain ⟨y2, e2⟩ := hx 2 (by decide)
        obtain ⟨y3, e3⟩ := hx 3 (by decide)
        obtain ⟨y4, e4⟩ := hx 4 (by decide)
        obtain ⟨y5, e5⟩ := hx 5 (by decide)
        have g0 := mapM_some_get hxs 0 _ rfl
        have g1 := mapM_some_get hxs 1 _ rfl
        have g2 := mapM_some_get hxs 2 _ rfl
        have g3 := mapM_some_get hxs 3 _ rfl
        have g4 := mapM_some_get hxs 4 _ rfl
        have g5 := mapM_some_get hxs 5 _ rfl
        rw [e0] at g0
        rw [e1] at g1
        rw [e2] at g2
        rw [e3] at g3
        rw [e4] at g4
        rw [e5] at g5
        simp only [Tryz.cells3, Tryz.cells26, Tryz.cells27, Tryz.cells9, Tryz.cells28, List.drop, List.take] at g0 g1 g2 g3 g4 g5
        obtain ⟨k, hk, hk2⟩ := int_of g0
        obtain ⟨m, hm, hm2⟩ := int_of g1
        obtain ⟨neg, mag, rfl, hmag, hmag2⟩ := num_of g2
        obtain ⟨bits, hb, hb2⟩ := u64_of g3
        obtain ⟨s, rfl, hs⟩ := str_of g4
        simp only [List.cons.injEq, and_true] at hk hm hb
        subst hk hm hb
        cases n with
        | zero => simp [DataW.trod] at g5
        | succ n =>
          obtain ⟨css, h1, h2⟩ := slice_of Tryz.underlying28 Tryz.cells30 (by decide) g5
          obtain ⟨l, hl⟩ := tmLW_of (Z := zOf w) fun cs hc => by obtain ⟨y, hy⟩ := h2 cs hc; exact ih n (by omega) hy
          exact ⟨.mk k m neg mag bits s l, .mk (.mk k m neg mag bits s l) c3 c6 css ⟨hk2, hm2, hb2, hmag2, hs⟩ hmag h1 hl⟩
      · cases h
end
end Go.Proofs
