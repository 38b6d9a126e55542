/- What 'parts' answers. -/
import Derived.Test.YtiafmiembjomhaaGreatWk
namespace Go.Proofs
open Go Go.RowKit Go.Proofs.Rd

def IntRet (w : World) (r : Int) (e : Ending) (w' : World) : Prop := e = .returned (.int .i64 r) ∧ w = w'

theorem wrap_i64 (x : Int) : I64 (wrap64 x) := by unfold I64 wrap64; omega
theorem drop_cons (l : List Tm) (k : Nat) (h : k < l.length) : l.drop k = l[k] :: l.drop (k + 1) := (List.getElem_cons_drop (h := h)).symm

theorem pts_nil (m most : Int) : ptsL [] m most = m := rfl
theorem pts_off {t : Tm} {l : List Tm} {m most : Int} (h : ¬ m ≤ most) : ptsL (t :: l) m most = m := by
  rw [ptsL]; simp [h]
theorem pts_big {t : Tm} {l : List Tm} {m most : Int} (h : m ≤ most) (hb : (1000 : Int) < (t.bytes.size : Int) ∨ (40 : Int) < (t.mag.length : Int)) : ptsL (t :: l) m most = wrap64 (most + 1) := by
  rw [ptsL]; rcases hb with hb | hb <;> simp [h, hb]
theorem pts_on {t : Tm} {l : List Tm} {m most : Int} (h : m ≤ most) (h1 : (t.bytes.size : Int) ≤ 1000) (h2 : (t.mag.length : Int) ≤ 40) :
    ptsL (t :: l) m most = ptsL l (wrap64 (wrap64 (m + 1) + ptsL t.args 0 (wrap64 (wrap64 (most - m) - 1)))) most := by
  rw [ptsL, ptsT_eq]; simp [h, Int.not_lt.2 h1, Int.not_lt.2 h2]

set_option maxHeartbeats 1600000 in
theorem parts_says (N : Nat) : ∀ (l : List Tm), Tm.depths l ≤ N → ∀ (Z : Fz) (v : Value) (most : Int) (w : World), TmsW Z v l → I64 most → Z.In w →
    Calls Tryz.prog 20 #[v, .int .i64 most] w (IntRet w (ptsL l 0 most)) := by
  induction N using Nat.strongRecOn with
  | ind N ih =>
    intro l hd Z v most w hv hm hz
    obtain ⟨A, cap, rfl, h1, h2, h3⟩ := hv.open
    have IH := Lib.hid ih; clear ih
    go_enter Tryz.func20, Tryz.ntmps20
    go_wp2
    go_loop [5, 6] (fun n i => ∃ (m : Int) (k : Nat), I64 m ∧ k ≤ l.length ∧ n = .int .i64 m ∧ i = .int .i64 k ∧ Hid (ptsL (l.drop k) m most = ptsL l 0 most)) (fun _ i => l.length - (intOf i).toNat)
    case atStart => exact ⟨0, 0, by unfold I64; omega, by omega, rfl, rfl, Lib.hid rfl⟩
    case round =>
      obtain ⟨m, k, hm, hk, rfl, rfl, hacc⟩ := hrel
      by_cases hlt : k < l.length
      · obtain ⟨b, off, vm, va, rfl, h7, ok, hvm, hva⟩ := h3 k hlt
        obtain ⟨c0, c1, c2, c3, c4, c5, c6⟩ := h7.cells hz
        have hmem := Tm.depth_mem (List.getElem_mem hlt)
        have hdep := Tm.depth_args l[k]
        have hac2 := hacc.out
        rw [drop_cons l k hlt] at hac2
        have HA := Lib.hid hac2
        clear h3 h7 hac2 hacc
        generalize l[k] = t at *
        obtain ⟨B, d2, rfl, hm1, hm2, -⟩ := hvm
        have hml : (u32s t.mag).length = t.mag.length := by simp [u32s]
        rw [hml] at hm1 c3
        have IH' := IH.out (Tm.depths t.args) (by omega) t.args (Nat.le_refl _) Z va
        have HI := Lib.hid IH'
        clear IH' hdep hmem
        have hb := ok.bytes
        clear ok
        go_wp2_with (go_at_call 20; refine (HI.out _ _ hva (wrap_i64 _) hz).mono ?_; rintro e w' ⟨rfl, rfl⟩)
        all_goals first
          | (go_ret; exact ⟨by rw [← HA.out, pts_big (by assumption) (by first | assumption | omega)]; rfl, rfl⟩)
          | (go_ret; exact ⟨by rw [← HA.out, pts_off (by omega)]; rfl, rfl⟩)
          | (go_round
             case rel => exact ⟨_, k + 1, wrap_i64 _, by omega, rfl, by go_num, Lib.hid (by rw [← HA.out, pts_on (by assumption) (by omega) (by omega)])⟩
             case measure => simp [intOf]; omega)
      · have hk2 : k = l.length := by omega
        subst hk2
        have h0 := hacc.out
        rw [List.drop_length, pts_nil] at h0
        have H0 := Lib.hid h0
        clear h0 hacc
        go_wp2
        go_ret; exact ⟨by rw [H0.out]; rfl, rfl⟩
end Go.Proofs
