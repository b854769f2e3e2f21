/- Contracts: parts of rows; term.Value. -/
import Derived.Test.YtkofbgicfmojjaaVaCM
set_option linter.unusedSimpArgs false
set_option linter.unusedVariables false
set_option linter.unusedSectionVars false
namespace Go.Va
open Go.Proofs

theorem Shows.pre {P : Program} {t e : TypeId} {bytes : Nat} {z : List AV} {H : Heap} {v : AV} {sz n : Nat} {k : IntKind} {L : List (List AV)} (h : Shows H v sz L) (hT : slT P t = some (e, sz, bytes, z)) (hn : n ≤ L.length) :
    ∃ v', sliceA P t v none (some (.int k (n : Int))) = some v' ∧ Shows H v' sz (L.take n) := by
  obtain ⟨hu, i, zz, hi, hz, h1, h2, h3⟩ := slT_inv hT
  have := h.2
  have hm : ∀ x ∈ L.take n, x.length = sz := fun x hx => h.1 x (List.mem_of_mem_take hx)
  unfold sliceA
  rw [hu]
  cases v <;> try exact this.elim
  · have e : L = [] := this
    subst e
    have : n = 0 := by simpa using hn
    subst this
    exact ⟨.nilsl, by simp [boundA, hi], hm, by simp⟩
  · have e : L = [] := this
    subst e
    have : n = 0 := by simpa using hn
    subst this
    exact ⟨.esl, by simp [boundA, hi], hm, by simp⟩
  · obtain ⟨g1, g2, c, e', born, ro, g3, g4, g5, g6, g7⟩ := this
    rename_i id off len ver z'
    subst g1
    refine ⟨.sl id off n ver z', ?_, hm, rfl, by rw [List.length_take]; omega, c, e', born, ro, g3, g4, g5, ?_, ?_⟩
    · simp only [boundA, hi]
      rw [if_pos (by omega)]
      simp only [Int.toNat_natCast]
      rw [if_pos ⟨by omega, by omega, h1⟩]
      simp
    · have : (off + n) * z' ≤ (off + len) * z' := Nat.mul_le_mul_right _ (by omega)
      omega
    · intro j hj
      rw [List.length_take] at hj
      rw [List.getElem_take]
      exact g7 j (by omega)

theorem firstBad_of {l : List Nd} : ∀ {k : Nat}, (∀ i (h : i < l.length), mayB l[i] (k + i : Nat) = true) → firstBad l k = none := by
  induction l with
  | nil => intro k _; rfl
  | cons n l ih =>
    intro k h
    simp only [firstBad]
    have h00 : mayB n (k : Nat) = true := h 0 (by simp)
    rw [if_pos h00]
    refine ih fun i hi => ?_
    have := h (i + 1) (by simpa using hi)
    rw [show k + 1 + i = k + (i + 1) by omega]; exact this
theorem checkP_of {l : List Nd} (h1 : l.length ≤ 65536) (h2 : ∀ i (h : i < l.length), mayB l[i] i = true) : (checkP l).2 = 0 := by
  have : firstBad l 0 = none := firstBad_of fun i h => by rw [Nat.zero_add]; exact h2 i h
  unfold checkP
  rw [if_neg (by omega), this]
theorem checkP_take {l : List Nd} (n : Nat) (h : (checkP l).2 = 0) : (checkP (l.take n)).2 = 0 := by
  obtain ⟨h1, h2⟩ := checkP_ok h
  refine checkP_of (by rw [List.length_take]; omega) fun i hi => ?_
  rw [List.getElem_take]
  exact h2 i (by rw [List.length_take] at hi; omega)
theorem valsL_take {l : List Nd} {rc : Nat → Nat} {n : Nat} : ∀ m, m ≤ n → valsL (l.take n) rc m = valsL l rc m
  | 0, _ => rfl
  | m + 1, h => by
    have ih := valsL_take (l := l) (rc := rc) (n := n) m (by omega)
    simp only [valsL]
    rw [ih, List.getElem?_take_of_lt (show m < n by omega)]
end Go.Va
