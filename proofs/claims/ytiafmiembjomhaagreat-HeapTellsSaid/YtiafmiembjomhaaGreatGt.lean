/- What 'GreatTerm' answers. -/
import Derived.Test.YtiafmiembjomhaaGreatPt
namespace Go.Proofs
open Go Go.RowKit Go.Proofs.Rd

def BoolRet (w : World) (b : Bool) (e : Ending) (w' : World) : Prop := e = .returned (.bool b) ∧ Below w.heap.size w w'

theorem single {Z : Fz} {w : World} {t : Tm} {cs : List Value} (ht : TmW Z cs t) (hz : Z.In w) (o1 : Obj) (el : TypeId) :
    TmsW (fun b => ((w.alloc o1).alloc (.cells ⟨cs⟩ el)).heap[b]?) (.slice (some ⟨w.heap.size + 1, 0, none⟩) 1 1) [t] := by
  have hle : Z.le (fun b => ((w.alloc o1).alloc (.cells ⟨cs⟩ el)).heap[b]?) := fun b o h =>
    (hz.below ((belowNew w o1).trans ((belowNew _ _).mono (by simp)))) b o h
  refine ⟨[cs], ⟨_, 1, rfl, Nat.le_refl _, by decide, fun _ => ⟨_, _, rfl, ?_⟩⟩, .cons _ _ _ _ (ht.mono hle) .nil⟩
  intro i cs' hi
  cases i with
  | succ i => simp at hi
  | zero =>
    simp at hi; subst hi
    obtain ⟨vm, va, rfl, -⟩ := ht.open
    refine ⟨rfl, fun j u hj => ?_⟩
    simp only [Fz.cell, World.alloc]
    rw [Array.getElem?_push]
    simp only [Array.size_push, if_true]
    simpa using hj

set_option maxHeartbeats 1600000 in
theorem great_says (Z : Fz) (t : Tm) (vm va : Value) (most : Int) (w : World) (ht : TmW Z (tmCells t vm va) t) (hm : I64 most) (hz : Z.In w) :
    Calls Tryz.prog 4 #[.agg ⟨tmCells t vm va⟩, .int .i64 most] w (BoolRet w (decide (most < ptsL [t] 0 most))) := by
  obtain ⟨vm', va', hcs, ok, ⟨A, d, h1, hA1, hA2, hA3⟩, hva⟩ := ht.open
  obtain ⟨B, d2, h2, hB1, hB2, -⟩ := hva.open
  simp only [tmCells, List.cons.injEq, and_true, true_and] at hcs
  obtain ⟨rfl, rfl⟩ := hcs
  subst h1 h2
  have HT := Lib.hid ht
  clear ht hva hA3 ok
  unfold tmCells
  go_enter Tryz.func4, Tryz.ntmps4
  have HS := fun o1 el => Lib.hid (single HT.out hz o1 el)
  go_wp2_with (go_at_call 20; refine (parts_says _ [t] (Nat.le_refl _) _ _ most _ (HS _ _).out hm (fun _ _ h => h)).mono ?_; rintro e w' ⟨rfl, rfl⟩)
  go_ret
  exact ⟨rfl, (belowNew w _).trans ((belowNew _ _).mono (by simp))⟩
end Go.Proofs
