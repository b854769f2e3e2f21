/- Contracts: a row's values. -/
import Derived.Test.YtkofbgicfmojjaaVaCJ
set_option linter.unusedSimpArgs false
set_option linter.unusedVariables false
set_option linter.unusedSectionVars false
namespace Go.Va
open Go.Proofs

/-- The values of a row, the first m of them. -/
def valsL (l : List Nd) (rc : Nat → Nat) : Nat → List Nat
  | 0 => []
  | m + 1 => valsL l rc m ++ [match l[m]? with
    | some n => valN n (fun j => (valsL l rc m).getD j 0) rc
    | none => 0]
theorem valsL_len {l : List Nd} {rc : Nat → Nat} : ∀ m, (valsL l rc m).length = m
  | 0 => rfl
  | m + 1 => by simp [valsL, valsL_len m]
def W32 (l : List Nat) : List AV := l.map fun x => .int .u32 (x : Nat)
theorem W32_len {l : List Nat} : (W32 l).length = l.length := by simp [W32]

theorem aluN_lt {op : Int} {a b : Nat} (ha : a < 4294967296) (hb : b < 4294967296) : (aluN op a b).1 < 4294967296 := by
  have h1 := Nat.div_le_self a b
  have h2 := Nat.div_le_self a (2 ^ (b % 32))
  have h3 : a ||| b < 2 ^ 32 := Nat.or_lt_two_pow ha hb
  have h4 : a &&& b < 2 ^ 32 := Nat.and_lt_two_pow _ hb
  have h5 : a ^^^ b < 2 ^ 32 := Nat.xor_lt_two_pow ha hb
  unfold aluN
  repeat' split
  all_goals simp only
  all_goals first | omega | exact Nat.mod_lt _ (by decide)
theorem valN_lt {n : Nd} {done rc : Nat → Nat} (hn : n.ok) (hd : ∀ j, done j < 4294967296) (hr : ∀ j, rc j < 4294967296) : valN n done rc < 4294967296 := by
  obtain ⟨k1, k2, -, -⟩ := hn
  unfold valN
  split
  · omega
  · split
    · exact hr _
    · exact aluN_lt (hd _) (hd _)
theorem valsL_lt {l : List Nd} {rc : Nat → Nat} (hl : ∀ n ∈ l, n.ok) (hr : ∀ j, rc j < 4294967296) : ∀ m j, (valsL l rc m).getD j 0 < 4294967296
  | 0, j => by simp [valsL]
  | m + 1, j => by
    have ih := valsL_lt hl hr m
    simp only [valsL, List.getD_eq_getElem?_getD]
    rw [List.getElem?_append]
    split
    · have := ih j; rwa [List.getD_eq_getElem?_getD] at this
    · cases hj : j - (valsL l rc m).length with
      | zero =>
        simp only [List.getElem?_cons_zero, Option.getD_some]
        cases hm : l[m]? with
        | none => simp
        | some n => exact valN_lt (hl n (List.mem_of_getElem? hm)) ih hr
      | succ k => simp
end Go.Va
