/- A function's slim code by its number; the rule for a call by it. -/
import Derived.Test.YtkofbgicfmojjaaVaW
set_option linter.unusedSimpArgs false
set_option linter.unusedVariables false
set_option linter.unusedSectionVars false
namespace Go.Va

def slimF (P : Program) (f : FuncId) : Option (Nat × List ResultVar × SC) :=
  match P.funcs[f]? with
  | some fn => match fn.body with
    | some c => if fn.name = "runtime.NumGoroutine" then none else match slim fn.ntmps c with
      | some s => some (fn.ntmps, fn.results.toList, s)
      | none => none
    | none => none
  | none => none

theorem F_slim {C : Ctx} {f : FuncId} {W : Nat} {rs : List ResultVar} {sc : SC} {args : List AV} {H : Heap} {Q : AV → Heap → Prop}
    (hf : slimF C.P f = some (W, rs, sc)) (ha : Nat.ble args.length W = true)
    (h : ∀ ρ : SE, AGs ρ 0 args → WS C sc (Fin C.P rs Q) (fun _ _ _ _ => False) (Fin C.P rs Q) ρ H []) (ht : C.T.contains f = false := by rfl) : F C f args H Q := by
  unfold slimF at hf
  split at hf
  · rename_i fn hfn
    split at hf
    · rename_i c hc
      split at hf
      · cases hf
      · rename_i hn
        split at hf
        · rename_i s hs
          cases hf
          exact F_of ht hfn hc hn hs rfl rfl (Nat.le_of_ble_eq_true ha) h
        · cases hf
    · cases hf
  · cases hf

section
variable {P : Program} {Q : AV → Heap → Prop} {ρ : SE} {H : Heap}
theorem Fin1 {a : Tmp} : Fin P [.tmp a] Q ρ H [] = Q (ρ a) H := by
  refine propext ⟨?_, fun h => ⟨rfl, _, rfl, h⟩⟩
  rintro ⟨-, v, h, hq⟩; cases h; exact hq
theorem Fin2 {a b : Tmp} : Fin P [.tmp a, .tmp b] Q ρ H [] = Q (.tup [ρ a, ρ b]) H := by
  refine propext ⟨?_, fun h => ⟨rfl, _, rfl, h⟩⟩
  rintro ⟨-, v, h, hq⟩; cases h; exact hq
theorem Fin3 {a b c : Tmp} : Fin P [.tmp a, .tmp b, .tmp c] Q ρ H [] = Q (.tup [ρ a, ρ b, ρ c]) H := by
  refine propext ⟨?_, fun h => ⟨rfl, _, rfl, h⟩⟩
  rintro ⟨-, v, h, hq⟩; cases h; exact hq
/-- A value that is there. -/
def GotV (o : Option AV) (Q : AV → Prop) : Prop := ∃ v, o = some v ∧ Q v
theorem GotV_some {v : AV} {Q : AV → Prop} : GotV (some v) Q = Q v := by
  refine propext ⟨?_, fun h => ⟨v, rfl, h⟩⟩
  rintro ⟨v', h, hq⟩; cases h; exact hq
theorem resE_cell {a : Tmp} {t : TypeId} : resE P ρ H (.cell a t) = loadP P t H (ρ a) := by
  simp only [resE, loadP]
  cases ρ a <;> rfl
theorem FinC {a : Tmp} {t : TypeId} : Fin P [.cell a t] Q ρ H [] = GotV (loadP P t H (ρ a)) fun v => Q v H := by
  simp only [Fin, resW, resE_cell, GotV, true_and]
theorem FinC2 {a b : Tmp} {t : TypeId} : Fin P [.cell a t, .tmp b] Q ρ H [] = GotV (loadP P t H (ρ a)) fun v => Q (.tup [v, ρ b]) H := by
  simp only [Fin, resW, resL, resE_cell, GotV, true_and]
  cases loadP P t H (ρ a) with
  | none => simp
  | some v => simp [resE]
end

end Go.Va
