/- Runs of the law, by the kernel. -/
import Derived.Test.YtiafmiembjomhaaGreatAbAwake
import Derived.Test.YtiafmiembjomhaaGreatProg
import Derived.KernelRfl
namespace Go.Proofs
open Go Go.Ab

noncomputable def tokI (i : Nat) (lo hi : Nat) : Nat := ((hi * 36893488147419103232 + lo) * 2 + 1) * 1048576 + i
noncomputable def tv (j : Nat) : Value := .chan (some j)
noncomputable def isTok : Value → Nat → Bool
  | .chan (some j), i => Nat.beq j i
  | _, _ => false
noncomputable def isInt : Value → Int → Bool
  | .int .i64 n, m => decide (n = m)
  | _, _ => false
noncomputable def termV (b : Bool) : Value := .agg ⟨[tv 5, tv 6, .bool b, tv 2, tv 7, tv 3, tv 4]⟩
noncomputable def isTerm : Value → Bool
  | .agg ⟨[a, b, .bool _, c, d, e, f]⟩ => isTok a 5 && (isTok b 6 && (isTok c 2 && (isTok d 7 && (isTok e 3 && isTok f 4))))
  | _ => false
noncomputable def actV (b : Bool) : Value := .agg ⟨[tv 8, tv 1, tv 9, tv 10, tv 5, tv 6, .bool b, tv 2, tv 7, tv 3, tv 4]⟩
/-- 'GreatTerm' of the term at hand, and 'Set' of none, by contracts of their own. -/
noncomputable def tellHook (ans : Bool) (hook : Hook) : Hook := fun f args h => match Nat.beq f 4 with
  | true => match args with
    | [t, n] => match isTerm t && isInt n 400 with
      | true => some (.ret (.bool ans) h)
      | false => none
    | _ => none
  | false => match Nat.beq f 12 with
    | true => match args with
      | [.pointer none, i, t] => match isTok i 1 && isTerm t with
        | true => some (.ret (.int .i64 1) h)
        | false => none
      | _ => none
    | false => hook f args h
noncomputable def prgT : Prg := prgWith Tryz.prog (fun f => Nat.beq f 51)
noncomputable def lawV (ans b : Bool) (i j k : Nat) : Option CRes := evF prgT (tellHook ans (awakeHook 5 noHook)) 1000 60 3 [.agg ⟨[tv i, tv j, tv k]⟩, actV b] AH.empty
noncomputable def lawS (b : Bool) (v : Value) (s : Int) (k : Nat) : Option CRes := evF prgT (tellHook false (awakeHook 5 noHook)) 1000 60 3 [.agg ⟨[v, .int .i64 s, tv k]⟩, actV b] AH.empty
noncomputable def t0 : Nat := tokI 13 9223372036854775808 (9223372036854775808 + 20)
set_option maxRecDepth 100000
theorem run0 (b : Bool) : retTrue (lawV true b 11 12 13) = true := by kernel_rfl
theorem run1 (b : Bool) : retTrue (lawV false b (tokI 11 0 9223372036854775807) 12 13) = true := by kernel_rfl
theorem run2 (b : Bool) : retTrue (lawV false b (tokI 11 9223372036871553025 18446744073709551615) 12 13) = true := by kernel_rfl
theorem run3 (b : Bool) : retTrue (lawV false b (tokI 11 9223372036854775808 9223372036871553024) (tokI 12 0 9223372036854775807) 13) = true := by kernel_rfl
theorem run4 (b : Bool) : retTrue (lawV false b (tokI 11 9223372036854775808 9223372036871553024) (tokI 12 9223372036854775821 18446744073709551615) 13) = true := by kernel_rfl
theorem run5 (b : Bool) : retTrue (lawV false b (tokI 11 9223372036854775808 9223372036871553024) (tokI 12 9223372036854775808 9223372036854775820) (tokI 13 0 9223372036854775807)) = true := by kernel_rfl
theorem run6 (b : Bool) : retTrue (lawV false b (tokI 11 9223372036854775808 9223372036871553024) (tokI 12 9223372036854775808 9223372036854775820) (tokI 13 9223372036854775829 18446744073709551615)) = true := by kernel_rfl
theorem runAwake : retTrue (evF prgT noHook 1000 60 5 [] AH.empty) = true := by kernel_rfl
def ret1 : Option CRes → Bool
  | some (.ret (.int .i64 n) _) => decide (n = 1)
  | _ => false
noncomputable def setV (b : Bool) (i : Nat) : Option CRes := evF prgT noHook 1000 60 12 [.pointer none, tv i, termV b] AH.empty
theorem setN (b : Bool) : ret1 (setV b (tokI 1 0 9223372036854775807)) = true := by kernel_rfl
theorem setM (b : Bool) : ret1 (setV b (tokI 1 9223372036854775808 9223372036854775871)) = true := by kernel_rfl
theorem setB (b : Bool) : ret1 (setV b (tokI 1 9223372036854775872 18446744073709551615)) = true := by kernel_rfl
end Go.Proofs
