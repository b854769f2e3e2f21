/- Contexts that are in order: closed checks. -/
import Derived.Test.YtkofbgicfmojjaaVaLB
set_option linter.unusedSimpArgs false
set_option linter.unusedVariables false
set_option linter.unusedSectionVars false
namespace Go.Va

def plainB (P : Program) (t : TypeId) (ks : List Bool) : Bool :=
  (match P.underlying t with
  | some (.struct fs) => decide (ks.length = fs.size) && (List.range fs.size).all fun i => match fs[i]? with
    | some f => decide (f.name ≠ "_") && decide (f.offset = i) && (match ks[i]?, P.underlying f.type with
      | some true, some (.int _) => true
      | some false, some .bool => true
      | _, _ => false)
    | none => false
  | _ => false) && !P.stoodInHeld t && !P.eqGuardType P.depth t

theorem plain_of {P : Program} {t : TypeId} {ks : List Bool} (h : plainB P t ks = true) : PlainEq P t ks := by
  unfold plainB at h
  simp only [Bool.and_eq_true, Bool.not_eq_true'] at h
  obtain ⟨⟨h, h1⟩, h2⟩ := h
  refine ⟨?_, h1, h2⟩
  split at h
  · rename_i fs hfs
    simp only [Bool.and_eq_true, decide_eq_true_eq, List.all_eq_true] at h
    obtain ⟨hl, h⟩ := h
    refine ⟨fs, hfs, hl, fun i f hf => ?_⟩
    have hi : i < fs.size := by rw [Array.getElem?_eq_some_iff] at hf; exact hf.1
    have := h i (List.mem_range.2 hi)
    rw [hf] at this
    simp only [Bool.and_eq_true, decide_eq_true_eq] at this
    obtain ⟨⟨g1, g2⟩, g3⟩ := this
    refine ⟨g1, g2, ?_⟩
    split at g3
    · rename_i k k1 hk; exact .inl ⟨k1, k, hk⟩
    · rename_i k1 hk; exact .inr ⟨k1, hk⟩
    · cases g3
  · cases h

theorem ok_of {C : Ctx} (h1 : (C.E.all fun x => plainB C.P x.1 x.2) = true) (h2 : C.P.follows .mixedOrders = true) (h3 : ∀ f, f ∈ C.T → Truth C.P f) : C.ok := by
  refine ⟨h3, fun t ks hk => ?_, h2⟩
  unfold Ctx.kinds at hk
  simp only [Option.map_eq_some_iff] at hk
  obtain ⟨⟨t', ks'⟩, hf, rfl⟩ := hk
  have h4 := List.find?_some hf
  have h5 := List.mem_of_find?_eq_some hf
  simp only [beq_iff_eq] at h4
  subst h4
  rw [List.all_eq_true] at h1
  exact plain_of (h1 _ h5)

end Go.Va
