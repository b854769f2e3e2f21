/- Part 12 of the proof: HA HB HC HD. -/
import Derived.Test.YtokbecghdofohaaVaK11
section
set_option linter.unusedSimpArgs false
set_option linter.unusedVariables false
set_option linter.unusedSectionVars false
namespace Go.Va
open Go.Proofs

def askB (op : Int) (a b : Nat) : Bool := if op = 16 then decide (a = b) else if op = 32 then decide (b < a) else if op = 48 then decide (b ≤ a) else if op = 64 then decide (a &&& b ≠ 0) else false
def ops4 : List Int := [16, 32, 48, 64]
theorem aknown_spec (op : Int) (H : Heap) : F X 53 [.int .i64 op] H fun r H' => r = .bool (decide (op ∈ ops4)) ∧ H = H' := by
  refine F_slim S53_eq rfl fun ρ hρ => ?_
  simp only [AGs] at hρ
  obtain ⟨h0, -⟩ := hρ
  simp -implicitDefEqProofs only [↓gP, gQ, ↓reduceIte, Nat.reduceAdd, Nat.reduceEqDiff, Nat.reduceLT, Nat.reduceLeDiff, Int.reduceEq, S53, h0]
  iterate 5 (all_goals (try (refine Br_dec (fun h => ?_) (fun h => ?_) <;> simp -implicitDefEqProofs only [↓gP, gQ, ↓reduceIte, Nat.reduceAdd, Nat.reduceEqDiff, Nat.reduceLT, Nat.reduceLeDiff, Int.reduceEq, h0, h])))
  all_goals simp [ops4, *]
theorem cast_eq' {a b : Nat} : (((a : Nat) : Int) = (b : Nat)) = (a = b) := by apply propext; omega
theorem cast_lt' {a b : Nat} : (((a : Nat) : Int) < (b : Nat)) = (a < b) := by apply propext; omega
theorem cast_le' {a b : Nat} : (((a : Nat) : Int) ≤ (b : Nat)) = (a ≤ b) := by apply propext; omega
theorem ask_spec (op : Int) (a b : Nat) (H : Heap) (ha : a < 4294967296) (hb : b < 4294967296) : F X 51 [.int .i64 op, .int .u32 (a : Nat), .int .u32 (b : Nat)] H fun r H' => r = .bool (askB op a b) ∧ H = H' := by
  refine F_slim S51_eq rfl fun ρ hρ => ?_
  simp only [AGs] at hρ
  obtain ⟨h0, h1, h2, -⟩ := hρ
  simp -implicitDefEqProofs only [↓gP, gQ, ↓reduceIte, Nat.reduceAdd, Nat.reduceEqDiff, Nat.reduceLT, Nat.reduceLeDiff, Int.reduceEq, S51, h0, h1, h2]
  refine Br_dec (fun g1 => ?_) (fun g1 => ?_) <;> simp -implicitDefEqProofs only [↓gP, gQ, ↓reduceIte, Nat.reduceAdd, Nat.reduceEqDiff, Nat.reduceLT, Nat.reduceLeDiff, Int.reduceEq, h1, h2, g1]
  · exact ⟨by simp [askB, g1, cast_eq'], by first | exact True.intro | rfl⟩
  refine Br_dec (fun g2 => ?_) (fun g2 => ?_) <;> simp -implicitDefEqProofs only [↓gP, gQ, ↓reduceIte, Nat.reduceAdd, Nat.reduceEqDiff, Nat.reduceLT, Nat.reduceLeDiff, Int.reduceEq, h1, h2, g1, g2]
  · exact ⟨by simp [askB, g1, g2, cast_lt'], by first | exact True.intro | rfl⟩
  refine Br_dec (fun g3 => ?_) (fun g3 => ?_) <;> simp -implicitDefEqProofs only [↓gP, gQ, ↓reduceIte, Nat.reduceAdd, Nat.reduceEqDiff, Nat.reduceLT, Nat.reduceLeDiff, Int.reduceEq, h1, h2, g1, g2, g3]
  · exact ⟨by simp [askB, g1, g2, g3, cast_le'], by first | exact True.intro | rfl⟩
  have z0 : (((a &&& b : Nat) : Int) = 0) = (a &&& b = 0) := by apply propext; generalize a &&& b = z; omega
  refine Br_dec (fun g4 => ?_) (fun g4 => ?_) <;> simp -implicitDefEqProofs only [↓gP, gQ, ↓reduceIte, Nat.reduceAdd, Nat.reduceEqDiff, Nat.reduceLT, Nat.reduceLeDiff, Int.reduceEq, h1, h2, g1, g2, g3, g4, bin_and, u32_and ha hb, z0]
  · exact ⟨by simp [askB, g1, g2, g3, g4], by first | exact True.intro | rfl⟩
  · exact ⟨by simp [askB, g1, g2, g3, g4], by first | exact True.intro | rfl⟩
theorem rask_spec (op : Int) (a b : Nat) (H : Heap) (ha : a < 4294967296) (hb : b < 4294967296) : F X 54 [.int .i64 op, .int .u32 (a : Nat), .int .u32 (b : Nat)] H fun r H' => r = .bool (askB op a b) ∧ Ext H H' := by
  refine F_slim S54_eq rfl fun ρ hρ => ?_
  simp only [AGs] at hρ
  obtain ⟨h0, h1, h2, -⟩ := hρ
  simp -implicitDefEqProofs only [↓gP, gQ, ↓reduceIte, Nat.reduceAdd, Nat.reduceEqDiff, Nat.reduceLT, Nat.reduceLeDiff, Int.reduceEq, S54, h0, h1, h2]
  refine Br_dec (fun g1 => ?_) (fun g1 => ?_) <;> simp -implicitDefEqProofs only [↓gP, gQ, ↓reduceIte, Nat.reduceAdd, Nat.reduceEqDiff, Nat.reduceLT, Nat.reduceLeDiff, Int.reduceEq, h1, h2, g1]
  · exact ⟨by simp [askB, g1, cast_eq'], Ext.refl⟩
  refine Br_dec (fun g2 => ?_) (fun g2 => ?_) <;> simp -implicitDefEqProofs only [↓gP, gQ, ↓reduceIte, Nat.reduceAdd, Nat.reduceEqDiff, Nat.reduceLT, Nat.reduceLeDiff, Int.reduceEq, h1, h2, g1, g2]
  · exact ⟨by simp [askB, g1, g2, cast_lt'], Ext.refl⟩
  refine Br_dec (fun g3 => ?_) (fun g3 => ?_) <;> simp -implicitDefEqProofs only [↓gP, gQ, ↓reduceIte, Nat.reduceAdd, Nat.reduceEqDiff, Nat.reduceLT, Nat.reduceLeDiff, Int.reduceEq, h1, h2, g1, g2, g3]
  · exact ⟨by simp [askB, g1, g2, g3, cast_le'], Ext.refl⟩
  refine Br_dec (fun g4 => ?_) (fun g4 => ?_) <;> simp -implicitDefEqProofs only [↓gP, gQ, ↓reduceIte, Nat.reduceAdd, Nat.reduceEqDiff, Nat.reduceLT, Nat.reduceLeDiff, Int.reduceEq, h1, h2, g1, g2, g3, g4]
  · refine CS_fn (both_spec a b 0 0 1 _ ha hb (by decide) (by decide) (by decide)) ?_
    rintro _ H2 ⟨rfl, hE⟩
    have z0 : (0 < ((a &&& b : Nat) : Int)) = (¬ a &&& b = 0) := by apply propext; generalize a &&& b = z; omega
    simp -implicitDefEqProofs only [↓gP, gQ, ↓reduceIte, Nat.reduceAdd, Nat.reduceEqDiff, Nat.reduceLT, Nat.reduceLeDiff, Int.reduceEq, both_and ha hb, z0]
    exact ⟨by simp [askB, g1, g2, g3, g4], hE⟩
  · exact ⟨by simp [askB, g1, g2, g3, g4], Ext.refl⟩
end Go.Va
end

section
set_option linter.unusedSimpArgs false
set_option linter.unusedVariables false
set_option linter.unusedSectionVars false
namespace Go.Va
open Go.Proofs

def chkA (l : List Nd) (op a b : Int) : Int := if (checkP l).2 ≠ 0 then 3 else if op ∉ ops4 then 1 else if ¬ (0 ≤ a ∧ a < l.length) ∨ ¬ (0 ≤ b ∧ b < l.length) then 2 else 0
theorem chkA_3 {l : List Nd} {op a b : Int} (h : ¬ (checkP l).2 = 0) : chkA l op a b = 3 := by unfold chkA; rw [if_pos h]
theorem chkA_1 {l : List Nd} {op a b : Int} (h : (checkP l).2 = 0) (h1 : op ∉ ops4) : chkA l op a b = 1 := by unfold chkA; rw [if_neg (fun g => g h), if_pos h1]
theorem chkA_2 {l : List Nd} {op a b : Int} (h : (checkP l).2 = 0) (h1 : op ∈ ops4) (h2 : ¬ (0 ≤ a ∧ a < l.length) ∨ ¬ (0 ≤ b ∧ b < l.length)) : chkA l op a b = 2 := by unfold chkA; rw [if_neg (fun g => g h), if_neg (fun g => g h1), if_pos h2]
theorem chkA_0 {l : List Nd} {op a b : Int} (h : (checkP l).2 = 0) (h1 : op ∈ ops4) (h2 : (0 ≤ a ∧ a < l.length) ∧ (0 ≤ b ∧ b < l.length)) : chkA l op a b = 0 := by unfold chkA; rw [if_neg (fun g => g h), if_neg (fun g => g h1), if_neg (by rintro (g | g); exact g h2.1; exact g h2.2)]
theorem chkA_ok {l : List Nd} {op a b : Int} (h : chkA l op a b = 0) : (checkP l).2 = 0 ∧ op ∈ ops4 ∧ (0 ≤ a ∧ a < l.length) ∧ (0 ≤ b ∧ b < l.length) := by
  unfold chkA at h
  split at h
  · cases h
  · rename_i h1
    split at h
    · cases h
    · rename_i h2
      split at h
      · cases h
      · rename_i h3
        exact ⟨Classical.not_not.1 h1, Classical.not_not.1 h2, Classical.not_not.1 fun g => h3 (.inl g), Classical.not_not.1 fun g => h3 (.inr g)⟩

theorem acheck_spec (l : List Nd) (op a b : Int) (no : Bool) (v : AV) (H : Heap) (hS : Shows H v 4 (l.map Nd.c)) :
    F X 20 [v, .agg [.int .i64 op, .int .i64 a, .int .i64 b, .bool no]] H fun r H' => r = .int .i64 (chkA l op a b) ∧ Ext H H' := by
  refine F_slim S20_eq rfl fun ρ hρ => ?_
  simp only [AGs] at hρ
  obtain ⟨h0, h1, -⟩ := hρ
  have hlen := hS.lenA isSl_22
  rw [List.length_map] at hlen
  simp -implicitDefEqProofs only [↓gP, gQ, ↓reduceIte, Nat.reduceAdd, Nat.reduceEqDiff, Nat.reduceLT, Nat.reduceLeDiff, Int.reduceEq, S20, h0, h1]
  have hE0 : Ext H (H ++ [AObj.cells [.int .i64 op, .int .i64 a, .int .i64 b, .bool no] 24 0 false]) := Ext.refl.app
  have hbox : (H ++ [AObj.cells [.int .i64 op, .int .i64 a, .int .i64 b, .bool no] 24 0 false])[H.length]? = some (.cells [.int .i64 op, .int .i64 a, .int .i64 b, .bool no] 24 0 false) := hp_get0
  generalize H ++ [AObj.cells [.int .i64 op, .int .i64 a, .int .i64 b, .bool no] 24 0 false] = H1 at hE0 hbox
  refine CS_fn (check_spec l v _ (hS.ext hE0)) ?_
  rintro _ H2 ⟨rfl, hE2⟩
  have hb2 := hE2 _ _ hbox
  have hE := hE0.trans hE2
  simp -implicitDefEqProofs only [↓gP, gQ, ↓reduceIte, Nat.reduceAdd, Nat.reduceEqDiff, Nat.reduceLT, Nat.reduceLeDiff, Int.reduceEq, h0, h1]
  refine Br_dec (fun hc => ?_) (fun hc => ?_)
  rotate_left
  · rw [chkA_3 hc]
    simp -implicitDefEqProofs only [↓gP, gQ, ↓reduceIte, Nat.reduceAdd, Nat.reduceEqDiff, Nat.reduceLT, Nat.reduceLeDiff, Int.reduceEq, h0, h1, hc]
    exact ⟨by first | exact True.intro | rfl, hE⟩
  simp -implicitDefEqProofs only [↓gP, gQ, ↓reduceIte, Nat.reduceAdd, Nat.reduceEqDiff, Nat.reduceLT, Nat.reduceLeDiff, Int.reduceEq, h0, h1, hb2]
  refine CS_fn (aknown_spec op _) ?_
  rintro _ _ ⟨rfl, rfl⟩
  by_cases hop : op ∈ ops4
  rotate_left
  · rw [chkA_1 hc hop]
    simp -implicitDefEqProofs only [↓gP, gQ, ↓reduceIte, Nat.reduceAdd, Nat.reduceEqDiff, Nat.reduceLT, Nat.reduceLeDiff, Int.reduceEq, h0, h1, decide_eq_false hop]
    exact ⟨by first | exact True.intro | rfl, hE⟩
  simp -implicitDefEqProofs only [↓gP, gQ, ↓reduceIte, Nat.reduceAdd, Nat.reduceEqDiff, Nat.reduceLT, Nat.reduceLeDiff, Int.reduceEq, h0, h1, decide_eq_true hop, hb2]
  have two := fun h => chkA_2 (l := l) (a := a) (b := b) hc hop h
  refine Br_dec (fun q1 => ?_) (fun q1 => ?_)
  · rw [two (by omega)]
    simp -implicitDefEqProofs only [↓gP, gQ, ↓reduceIte, Nat.reduceAdd, Nat.reduceEqDiff, Nat.reduceLT, Nat.reduceLeDiff, Int.reduceEq, h0, h1, hb2, q1]
    exact ⟨by first | exact True.intro | rfl, hE⟩
  simp -implicitDefEqProofs only [↓gP, gQ, ↓reduceIte, Nat.reduceAdd, Nat.reduceEqDiff, Nat.reduceLT, Nat.reduceLeDiff, Int.reduceEq, h0, h1, hb2, q1, hlen]
  refine Br_dec (fun q2 => ?_) (fun q2 => ?_)
  · rw [two (by omega)]
    simp -implicitDefEqProofs only [↓gP, gQ, ↓reduceIte, Nat.reduceAdd, Nat.reduceEqDiff, Nat.reduceLT, Nat.reduceLeDiff, Int.reduceEq, h0, h1, hb2, q1, q2]
    exact ⟨by first | exact True.intro | rfl, hE⟩
  simp -implicitDefEqProofs only [↓gP, gQ, ↓reduceIte, Nat.reduceAdd, Nat.reduceEqDiff, Nat.reduceLT, Nat.reduceLeDiff, Int.reduceEq, h0, h1, hb2, q1, q2, hlen]
  refine Br_dec (fun q3 => ?_) (fun q3 => ?_)
  · rw [two (by omega)]
    simp -implicitDefEqProofs only [↓gP, gQ, ↓reduceIte, Nat.reduceAdd, Nat.reduceEqDiff, Nat.reduceLT, Nat.reduceLeDiff, Int.reduceEq, h0, h1, hb2, q1, q2, q3]
    exact ⟨by first | exact True.intro | rfl, hE⟩
  simp -implicitDefEqProofs only [↓gP, gQ, ↓reduceIte, Nat.reduceAdd, Nat.reduceEqDiff, Nat.reduceLT, Nat.reduceLeDiff, Int.reduceEq, h0, h1, hb2, q1, q2, q3, hlen]
  refine Br_dec (fun q4 => ?_) (fun q4 => ?_)
  · rw [two (by omega)]
    simp -implicitDefEqProofs only [↓gP, gQ, ↓reduceIte, Nat.reduceAdd, Nat.reduceEqDiff, Nat.reduceLT, Nat.reduceLeDiff, Int.reduceEq, h0, h1, hb2, q1, q2, q3, q4]
    exact ⟨by first | exact True.intro | rfl, hE⟩
  rw [chkA_0 hc hop (by omega)]
  simp -implicitDefEqProofs only [↓gP, gQ, ↓reduceIte, Nat.reduceAdd, Nat.reduceEqDiff, Nat.reduceLT, Nat.reduceLeDiff, Int.reduceEq, h0, h1, hb2, q1, q2, q3, q4, hlen]
  exact ⟨by first | exact True.intro | rfl, hE⟩
end Go.Va
end

section
set_option linter.unusedSimpArgs false
set_option linter.unusedVariables false
set_option linter.unusedSectionVars false
namespace Go.Va
open Go.Proofs

theorem rcheck13_spec (l : List Nd) (op a b : Int) (no : Bool) (v : AV) (H : Heap) (hS : Shows H v 4 (l.map Nd.c)) :
    F X 18 [v, .agg [.int .i64 op, .int .i64 a, .int .i64 b, .bool no]] H fun r H' => r = .int .i64 (chkA l op a b) ∧ Ext H H' := by
  refine F_slim S18_eq rfl fun ρ hρ => ?_
  simp only [AGs] at hρ
  obtain ⟨h0, h1, -⟩ := hρ
  have hlen := hS.lenA isSl_22
  rw [List.length_map] at hlen
  simp -implicitDefEqProofs only [↓gP, gQ, ↓reduceIte, Nat.reduceAdd, Nat.reduceEqDiff, Nat.reduceLT, Nat.reduceLeDiff, Int.reduceEq, S18, h0, h1]
  have hE0 : Ext H (H ++ [AObj.cells [.int .i64 op, .int .i64 a, .int .i64 b, .bool no] 24 0 false]) := Ext.refl.app
  have hbox : (H ++ [AObj.cells [.int .i64 op, .int .i64 a, .int .i64 b, .bool no] 24 0 false])[H.length]? = some (.cells [.int .i64 op, .int .i64 a, .int .i64 b, .bool no] 24 0 false) := hp_get0
  generalize H ++ [AObj.cells [.int .i64 op, .int .i64 a, .int .i64 b, .bool no] 24 0 false] = H1 at hE0 hbox
  refine CS_fn (right_spec l v _ (hS.ext hE0)) ?_
  rintro _ H2 ⟨rfl, hE2⟩
  have hb2 := hE2 _ _ hbox
  have hE := hE0.trans hE2
  simp -implicitDefEqProofs only [↓gP, gQ, ↓reduceIte, Nat.reduceAdd, Nat.reduceEqDiff, Nat.reduceLT, Nat.reduceLeDiff, Int.reduceEq, h0, h1]
  refine Br_bool (fun hR => ?_) (fun hR => ?_)
  rotate_left
  · have hc : ¬ (checkP l).2 = 0 := fun h => by rw [right_ok'.2 h] at hR; cases hR
    rw [chkA_3 hc]
    simp -implicitDefEqProofs only [↓gP, gQ, ↓reduceIte, Nat.reduceAdd, Nat.reduceEqDiff, Nat.reduceLT, Nat.reduceLeDiff, Int.reduceEq, h0, h1, hR]
    exact ⟨by first | exact True.intro | rfl, hE⟩
  have hc := right_ok'.1 hR
  simp -implicitDefEqProofs only [↓gP, gQ, ↓reduceIte, Nat.reduceAdd, Nat.reduceEqDiff, Nat.reduceLT, Nat.reduceLeDiff, Int.reduceEq, h0, h1, hR, hb2]
  have main : ∀ o : Int, o ∈ ops4 → o = 16 ∨ o = 32 ∨ o = 48 ∨ o = 64 := by intro o h; simpa [ops4] using h
  by_cases hop : op ∈ ops4
  rotate_left
  · rw [chkA_1 hc hop]
    have b0 : ¬ op = 16 := fun h => hop (by rw [h]; decide)
    have b1 : ¬ op = 32 := fun h => hop (by rw [h]; decide)
    have b2 : ¬ op = 48 := fun h => hop (by rw [h]; decide)
    have b3 : ¬ op = 64 := fun h => hop (by rw [h]; decide)
    simp -implicitDefEqProofs only [↓gP, gQ, ↓reduceIte, Nat.reduceAdd, Nat.reduceEqDiff, Nat.reduceLT, Nat.reduceLeDiff, Int.reduceEq, h0, h1, hb2, b0, b1, b2, b3]
    exact ⟨by first | exact True.intro | rfl, hE⟩
  have two := fun h => chkA_2 (l := l) (a := a) (b := b) hc hop h
  have zero := fun h => chkA_0 (l := l) (a := a) (b := b) hc hop h
  rcases main op hop with rfl | rfl | rfl | rfl
  all_goals
    simp -implicitDefEqProofs only [↓gP, gQ, ↓reduceIte, Nat.reduceAdd, Nat.reduceEqDiff, Nat.reduceLT, Nat.reduceLeDiff, Int.reduceEq, h0, h1, hb2]
    refine Br_dec (fun q1 => ?_) (fun q1 => ?_)
    · rw [two (by omega)]
      simp -implicitDefEqProofs only [↓gP, gQ, ↓reduceIte, Nat.reduceAdd, Nat.reduceEqDiff, Nat.reduceLT, Nat.reduceLeDiff, Int.reduceEq, h0, h1, hb2, q1]
      exact ⟨by first | exact True.intro | rfl, hE⟩
    simp -implicitDefEqProofs only [↓gP, gQ, ↓reduceIte, Nat.reduceAdd, Nat.reduceEqDiff, Nat.reduceLT, Nat.reduceLeDiff, Int.reduceEq, h0, h1, hb2, q1, hlen]
    refine Br_dec (fun q2 => ?_) (fun q2 => ?_)
    · rw [two (by omega)]
      simp -implicitDefEqProofs only [↓gP, gQ, ↓reduceIte, Nat.reduceAdd, Nat.reduceEqDiff, Nat.reduceLT, Nat.reduceLeDiff, Int.reduceEq, h0, h1, hb2, q1, q2]
      exact ⟨by first | exact True.intro | rfl, hE⟩
    simp -implicitDefEqProofs only [↓gP, gQ, ↓reduceIte, Nat.reduceAdd, Nat.reduceEqDiff, Nat.reduceLT, Nat.reduceLeDiff, Int.reduceEq, h0, h1, hb2, q1, q2, hlen]
    refine Br_dec (fun q3 => ?_) (fun q3 => ?_)
    · rw [two (by omega)]
      simp -implicitDefEqProofs only [↓gP, gQ, ↓reduceIte, Nat.reduceAdd, Nat.reduceEqDiff, Nat.reduceLT, Nat.reduceLeDiff, Int.reduceEq, h0, h1, hb2, q1, q2, q3]
      exact ⟨by first | exact True.intro | rfl, hE⟩
    simp -implicitDefEqProofs only [↓gP, gQ, ↓reduceIte, Nat.reduceAdd, Nat.reduceEqDiff, Nat.reduceLT, Nat.reduceLeDiff, Int.reduceEq, h0, h1, hb2, q1, q2, q3, hlen]
    refine Br_dec (fun q4 => ?_) (fun q4 => ?_)
    · rw [two (by omega)]
      simp -implicitDefEqProofs only [↓gP, gQ, ↓reduceIte, Nat.reduceAdd, Nat.reduceEqDiff, Nat.reduceLT, Nat.reduceLeDiff, Int.reduceEq, h0, h1, hb2, q1, q2, q3, q4]
      exact ⟨by first | exact True.intro | rfl, hE⟩
    rw [zero (by omega)]
    simp -implicitDefEqProofs only [↓gP, gQ, ↓reduceIte, Nat.reduceAdd, Nat.reduceEqDiff, Nat.reduceLT, Nat.reduceLeDiff, Int.reduceEq, h0, h1, hb2, q1, q2, q3, q4, hlen]
    exact ⟨by first | exact True.intro | rfl, hE⟩

theorem bne_bool (a b : Bool) : binA X .neq 4 (.bool a) (.bool b) = some (.bool (a != b)) := by cases a <;> cases b <;> kernel_rfl
theorem beq_bool (a b : Bool) : binA X .eql 4 (.bool a) (.bool b) = some (.bool (a == b)) := by cases a <;> cases b <;> kernel_rfl

/-- Whether an atom is so of a record. -/
def holdsA (l : List Nd) (rc : Nat → Nat) (op a b : Int) (no : Bool) : Bool := askB op ((valsL l rc l.length).getD a.toNat 0) ((valsL l rc l.length).getD b.toNat 0) != no

theorem holds_spec (l : List Nd) (op a b : Int) (no : Bool) (v : AV) (rcs : List AV) (rc : Nat → Nat) (H : Heap) (hl : ∀ n ∈ l, n.ok) (hrc : ∀ j, rc j < 4294967296) (hS : Shows H v 4 (l.map Nd.c)) (hr : RecOk rcs rc) :
    F X 19 [v, .agg [.int .i64 op, .int .i64 a, .int .i64 b, .bool no], .agg rcs] H fun r H' => Ext H H' ∧ r = .tup [.bool (if chkA l op a b = 0 then holdsA l rc op a b no else false), .int .i64 (chkA l op a b)] := by
  refine F_slim S19_eq rfl fun ρ hρ => ?_
  simp only [AGs] at hρ
  obtain ⟨h0, h1, h2, -⟩ := hρ
  simp -implicitDefEqProofs only [↓gP, gQ, ↓reduceIte, Nat.reduceAdd, Nat.reduceEqDiff, Nat.reduceLT, Nat.reduceLeDiff, Int.reduceEq, S19, h0, h1, h2]
  have hE0 : Ext H (H ++ [AObj.cells [.int .i64 op, .int .i64 a, .int .i64 b, .bool no] 24 0 false, AObj.cells rcs 27 0 false]) := Ext.refl.app
  have hbox : (H ++ [AObj.cells [.int .i64 op, .int .i64 a, .int .i64 b, .bool no] 24 0 false, AObj.cells rcs 27 0 false])[H.length]? = some (.cells [.int .i64 op, .int .i64 a, .int .i64 b, .bool no] 24 0 false) := hp_get0
  have hrec : (H ++ [AObj.cells [.int .i64 op, .int .i64 a, .int .i64 b, .bool no] 24 0 false, AObj.cells rcs 27 0 false])[H.length + 1]? = some (.cells rcs 27 0 false) := hp_get
  generalize H ++ [AObj.cells [.int .i64 op, .int .i64 a, .int .i64 b, .bool no] 24 0 false, AObj.cells rcs 27 0 false] = H1 at hE0 hbox hrec
  refine CS_fn (acheck_spec l op a b no v _ (hS.ext hE0)) ?_
  rintro _ H2 ⟨rfl, hE2⟩
  have hrec2 := hE2 _ _ hrec
  simp -implicitDefEqProofs only [↓gP, gQ, ↓reduceIte, Nat.reduceAdd, Nat.reduceEqDiff, Nat.reduceLT, Nat.reduceLeDiff, Int.reduceEq, h0, h1, h2]
  refine Br_dec (fun hz => ?_) (fun hz => ?_)
  rotate_left
  · simp -implicitDefEqProofs only [↓gP, gQ, ↓reduceIte, Nat.reduceAdd, Nat.reduceEqDiff, Nat.reduceLT, Nat.reduceLeDiff, Int.reduceEq, h0, h1, h2, eq_false hz]
    exact ⟨hE0.trans hE2, by simp [hz]⟩
  obtain ⟨hc, hop, ⟨ha, ha'⟩, ⟨hb, hb'⟩⟩ := chkA_ok hz
  simp -implicitDefEqProofs only [↓gP, gQ, ↓reduceIte, Nat.reduceAdd, Nat.reduceEqDiff, Nat.reduceLT, Nat.reduceLeDiff, Int.reduceEq, h0, h1, h2, eq_true hz, hr.1, hrec2, ldO_rec hr.1]
  refine CS_fn (values_spec l v rcs rc _ hl hrc ((hS.ext hE0).ext hE2) hr) ?_
  rintro vv H3 ⟨hE3, hvv⟩
  rw [if_neg (by simpa using hc)] at hvv
  obtain ⟨i1, b1, -, rfl, hb1, ho1⟩ := hvv
  have hE := (hE0.trans hE2).trans hE3
  have hbox3 := (hE2.trans hE3) _ _ hbox
  have hWl : (W32 (valsL l rc l.length)).length = l.length := by rw [W32_len, valsL_len]
  have hg : ∀ j, j < l.length → (W32 (valsL l rc l.length))[j]? = some (.int .u32 ((valsL l rc l.length).getD j 0 : Nat)) ∧ (valsL l rc l.length).getD j 0 < 4294967296 := fun j hj => by
    have : j < (valsL l rc l.length).length := by rw [valsL_len]; exact hj
    refine ⟨by simp [W32, List.getElem?_eq_getElem this], ?_⟩
    rw [vals_ev (checkP_ok hc).2 j hj]
    exact ev_lt hrc (tr_wf' (checkP_ok hc).2 hl j hj)
  have la : a.toNat < l.length := by omega
  have lb : b.toNat < l.length := by omega
  simp -implicitDefEqProofs only [↓gP, gQ, ↓reduceIte, Nat.reduceAdd, Nat.reduceEqDiff, Nat.reduceLT, Nat.reduceLeDiff, Int.reduceEq, h0, h1, h2]
  simp -implicitDefEqProofs only [↓gP, gQ, ↓gL, gM, ↓reduceIte, Nat.reduceAdd, Nat.reduceEqDiff, Nat.reduceLT, Nat.reduceLeDiff, Int.reduceEq, h0, h1, h2, hbox3, ix_ownZ ha ha', ix_ownZ hb hb', ho1, hWl, hb1, la, lb, (hg _ la).1, (hg _ lb).1]
  refine CSL_fn (ask_spec op _ _ _ (hg _ la).2 (hg _ lb).2) ?_
  rintro _ _ ⟨rfl, rfl⟩
  simp -implicitDefEqProofs only [↓gP, gQ, ↓gL, gM, ↓reduceIte, Nat.reduceAdd, Nat.reduceEqDiff, Nat.reduceLT, Nat.reduceLeDiff, Int.reduceEq, h0, h1, h2, hbox3, bne_bool]
  rw [thenL_eq]
  refine ⟨?_, ?_⟩
  · intro q hq
    simp only [List.mem_singleton] at hq
    subst hq
    refine same_load (v := .bool no) rfl rfl rfl ?_ ?_
    · simp -implicitDefEqProofs only [↓gP, gQ, ↓reduceIte, Nat.reduceAdd, Nat.reduceEqDiff, Nat.reduceLT, Nat.reduceLeDiff, Int.reduceEq, hbox3]
    · simp -implicitDefEqProofs only [↓gP, gQ, ↓reduceIte, Nat.reduceAdd, Nat.reduceEqDiff, Nat.reduceLT, Nat.reduceLeDiff, Int.reduceEq, hbox3]
  · simp -implicitDefEqProofs only [↓gP, gQ, ↓reduceIte, Nat.reduceAdd, Nat.reduceEqDiff, Nat.reduceLT, Nat.reduceLeDiff, Int.reduceEq, h0, h1, h2]
    exact ⟨hE, by rw [hz]; rfl⟩

theorem rholds_spec (l : List Nd) (op a b : Int) (no : Bool) (v : AV) (rcs : List AV) (rc : Nat → Nat) (H : Heap) (hl : ∀ n ∈ l, n.ok) (hrc : ∀ j, rc j < 4294967296) (hS : Shows H v 4 (l.map Nd.c)) (hr : RecOk rcs rc) (hz : chkA l op a b = 0) :
    F X 22 [v, .agg [.int .i64 op, .int .i64 a, .int .i64 b, .bool no], .agg rcs] H fun r H' => Ext H H' ∧ r = .bool (holdsA l rc op a b no) := by
  refine F_slim S22_eq rfl fun ρ hρ => ?_
  simp only [AGs] at hρ
  obtain ⟨h0, h1, h2, -⟩ := hρ
  obtain ⟨hc, hop, ⟨ha, ha'⟩, ⟨hb, hb'⟩⟩ := chkA_ok hz
  have hE0 : Ext H (H ++ [AObj.cells [.int .i64 op, .int .i64 a, .int .i64 b, .bool no] 24 0 false, AObj.cells rcs 27 0 false]) := Ext.refl.app
  have hbox : (H ++ [AObj.cells [.int .i64 op, .int .i64 a, .int .i64 b, .bool no] 24 0 false, AObj.cells rcs 27 0 false])[H.length]? = some (.cells [.int .i64 op, .int .i64 a, .int .i64 b, .bool no] 24 0 false) := hp_get0
  have hrec : (H ++ [AObj.cells [.int .i64 op, .int .i64 a, .int .i64 b, .bool no] 24 0 false, AObj.cells rcs 27 0 false])[H.length + 1]? = some (.cells rcs 27 0 false) := hp_get
  simp -implicitDefEqProofs only [↓gP, gQ, ↓reduceIte, Nat.reduceAdd, Nat.reduceEqDiff, Nat.reduceLT, Nat.reduceLeDiff, Int.reduceEq, S22, h0, h1, h2, hr.1, hrec, ldO_rec hr.1]
  generalize H ++ [AObj.cells [.int .i64 op, .int .i64 a, .int .i64 b, .bool no] 24 0 false, AObj.cells rcs 27 0 false] = H2 at hE0 hbox hrec
  have hE2 : Ext H2 H2 := Ext.refl
  refine CS_fn (rvalues_spec l v rcs rc _ hl hrc (hS.ext hE0) hr hc) ?_
  rintro _ H3 ⟨hE3, i1, b1, -, rfl, hb1, ho1⟩
  have hE := (hE0.trans hE2).trans hE3
  have hbox3 := (hE2.trans hE3) _ _ hbox
  have hWl : (W32 (valsL l rc l.length)).length = l.length := by rw [W32_len, valsL_len]
  have hg : ∀ j, j < l.length → (W32 (valsL l rc l.length))[j]? = some (.int .u32 ((valsL l rc l.length).getD j 0 : Nat)) ∧ (valsL l rc l.length).getD j 0 < 4294967296 := fun j hj => by
    have : j < (valsL l rc l.length).length := by rw [valsL_len]; exact hj
    refine ⟨by simp [W32, List.getElem?_eq_getElem this], ?_⟩
    rw [vals_ev (checkP_ok hc).2 j hj]
    exact ev_lt hrc (tr_wf' (checkP_ok hc).2 hl j hj)
  have la : a.toNat < l.length := by omega
  have lb : b.toNat < l.length := by omega
  simp -implicitDefEqProofs only [↓gP, gQ, ↓reduceIte, Nat.reduceAdd, Nat.reduceEqDiff, Nat.reduceLT, Nat.reduceLeDiff, Int.reduceEq, h0, h1, h2]
  simp -implicitDefEqProofs only [↓gP, gQ, ↓gL, gM, ↓reduceIte, Nat.reduceAdd, Nat.reduceEqDiff, Nat.reduceLT, Nat.reduceLeDiff, Int.reduceEq, h0, h1, h2, hbox3, ix_ownZ ha ha', ix_ownZ hb hb', ho1, hWl, hb1, la, lb, (hg _ la).1, (hg _ lb).1]
  refine CSL_fn (rask_spec op _ _ _ (hg _ la).2 (hg _ lb).2) ?_
  rintro _ H4 ⟨rfl, hE4⟩
  have hbox4 := hE4 _ _ hbox3
  simp -implicitDefEqProofs only [↓gP, gQ, ↓gL, gM, ↓reduceIte, Nat.reduceAdd, Nat.reduceEqDiff, Nat.reduceLT, Nat.reduceLeDiff, Int.reduceEq, h0, h1, h2, hbox4, bne_bool]
  rw [thenL_eq]
  refine ⟨?_, ?_⟩
  · intro q hq
    simp only [List.mem_singleton] at hq
    subst hq
    refine same_load (v := .bool no) rfl rfl rfl ?_ ?_
    · simp -implicitDefEqProofs only [↓gP, gQ, ↓reduceIte, Nat.reduceAdd, Nat.reduceEqDiff, Nat.reduceLT, Nat.reduceLeDiff, Int.reduceEq, hbox4]
    · simp -implicitDefEqProofs only [↓gP, gQ, ↓reduceIte, Nat.reduceAdd, Nat.reduceEqDiff, Nat.reduceLT, Nat.reduceLeDiff, Int.reduceEq, hbox3]
  · simp -implicitDefEqProofs only [↓gP, gQ, ↓reduceIte, Nat.reduceAdd, Nat.reduceEqDiff, Nat.reduceLT, Nat.reduceLeDiff, Int.reduceEq, h0, h1, h2]
    exact ⟨hE.trans hE4, rfl⟩

theorem turned_spec (op a b : Int) (no : Bool) (H : Heap) : F X 21 [.agg [.int .i64 op, .int .i64 a, .int .i64 b, .bool no]] H fun r H' => Ext H H' ∧ r = .agg [.int .i64 op, .int .i64 a, .int .i64 b, .bool (!no)] := by
  refine F_slim S21_eq rfl fun ρ hρ => ?_
  simp only [AGs] at hρ
  obtain ⟨h0, -⟩ := hρ
  simp -implicitDefEqProofs only [↓gP, gQ, ↓reduceIte, Nat.reduceAdd, Nat.reduceEqDiff, Nat.reduceLT, Nat.reduceLeDiff, Int.reduceEq, S21, h0]
  exact ⟨Ext.refl.app, by first | exact True.intro | rfl⟩
end Go.Va
end

section
set_option linter.unusedSimpArgs false
set_option linter.unusedVariables false
set_option linter.unusedSectionVars false
namespace Go.Va
open Go.Proofs

def atK : List (Option IntKind) := [some .i64, some .i64, some .i64, none]
theorem at_of {r : List AV} (h : RowA atK r) : ∃ (op a b : Int) (no : Bool), r = [.int .i64 op, .int .i64 a, .int .i64 b, .bool no] ∧ (-9223372036854775808 ≤ op ∧ op < 9223372036854775808) ∧ (-9223372036854775808 ≤ a ∧ a < 9223372036854775808) ∧ (-9223372036854775808 ≤ b ∧ b < 9223372036854775808) := by
  obtain ⟨hl, h⟩ := h
  obtain ⟨v0, g0, n0, rfl, w0⟩ := h 0 _ rfl
  obtain ⟨v1, g1, n1, rfl, w1⟩ := h 1 _ rfl
  obtain ⟨v2, g2, n2, rfl, w2⟩ := h 2 _ rfl
  obtain ⟨v3, g3, b3, rfl⟩ := h 3 _ rfl
  refine ⟨n0, n1, n2, b3, ?_, wf_i64 w0, wf_i64 w1, wf_i64 w2⟩
  match r, hl, g0, g1, g2, g3 with
  | [x, y, z, u], _, g0, g1, g2, g3 => simp at g0 g1 g2 g3; rw [g0, g1, g2, g3]

theorem holdsA_not {l : List Nd} {rc : Nat → Nat} {op a b : Int} {no : Bool} : holdsA l rc op a b (!no) = !holdsA l rc op a b no := by
  unfold holdsA
  cases askB op ((valsL l rc l.length).getD a.toNat 0) ((valsL l rc l.length).getD b.toNat 0) <;> cases no <;> rfl

set_option maxHeartbeats 4000000 in
theorem law_holds (l : List Nd) (op a b : Int) (no : Bool) (v : AV) (rcs : List AV) (rc : Nat → Nat) (H : Heap) (hl : ∀ n ∈ l, n.ok) (hrc : ∀ j, rc j < 4294967296) (hS : Shows H v 4 (l.map Nd.c)) (hr : RecOk rcs rc) :
    F X 3 [v, .agg [.int .i64 op, .int .i64 a, .int .i64 b, .bool no], .agg rcs] H fun r _ => r = .bool true := by
  refine F_slim S3_eq rfl fun ρ hρ => ?_
  simp only [AGs] at hρ
  obtain ⟨h0, h1, h2, -⟩ := hρ
  have hlen := hS.lenA isSl_22
  rw [List.length_map] at hlen
  simp -implicitDefEqProofs only [↓gP, gQ, ↓reduceIte, Nat.reduceAdd, Nat.reduceEqDiff, Nat.reduceLT, Nat.reduceLeDiff, Int.reduceEq, S3, h0, h1, h2]
  have hE0 : Ext H (H ++ [AObj.cells [.int .i64 op, .int .i64 a, .int .i64 b, .bool no] 24 0 false, AObj.cells rcs 27 0 false]) := Ext.refl.app
  have hbox : (H ++ [AObj.cells [.int .i64 op, .int .i64 a, .int .i64 b, .bool no] 24 0 false, AObj.cells rcs 27 0 false])[H.length]? = some (.cells [.int .i64 op, .int .i64 a, .int .i64 b, .bool no] 24 0 false) := hp_get0
  have hrec : (H ++ [AObj.cells [.int .i64 op, .int .i64 a, .int .i64 b, .bool no] 24 0 false, AObj.cells rcs 27 0 false])[H.length + 1]? = some (.cells rcs 27 0 false) := hp_get
  generalize H ++ [AObj.cells [.int .i64 op, .int .i64 a, .int .i64 b, .bool no] 24 0 false, AObj.cells rcs 27 0 false] = H1 at hE0 hbox hrec
  refine CS_fn (F_tru rfl) ?_
  rintro _ _ ⟨rfl, rfl⟩
  simp -implicitDefEqProofs only [↓gP, gQ, ↓reduceIte, Nat.reduceAdd, Nat.reduceEqDiff, Nat.reduceLT, Nat.reduceLeDiff, Int.reduceEq, h0, h1, h2, hlen]
  refine Br_dec (fun h => ?_) (fun h => ?_) <;> simp -implicitDefEqProofs only [↓gP, gQ, ↓reduceIte, Nat.reduceAdd, Nat.reduceEqDiff, Nat.reduceLT, Nat.reduceLeDiff, Int.reduceEq, h0, h1, h2, hlen, h]
  · refine CS_fn (F_tru rfl) ?_
    rintro _ _ ⟨rfl, rfl⟩
    simp -implicitDefEqProofs only [↓gP, gQ, ↓reduceIte, Nat.reduceAdd, Nat.reduceEqDiff, Nat.reduceLT, Nat.reduceLeDiff, Int.reduceEq, h0, hlen]
  have b4 : (0 : Nat) ≤ 4 := by decide
  simp -implicitDefEqProofs only [↓gP, gQ, ↓reduceIte, Nat.reduceAdd, Nat.reduceEqDiff, Nat.reduceLT, Nat.reduceLeDiff, Int.reduceEq, h0, h1, h2, hbox, b4]
  refine CS_fn (rcheck13_spec l op a b no v _ (hS.ext hE0)) ?_
  rintro _ H2 ⟨rfl, hE2⟩
  have hbox2 := hE2 _ _ hbox
  have hrec2 := hE2 _ _ hrec
  simp -implicitDefEqProofs only [↓gP, gQ, ↓reduceIte, Nat.reduceAdd, Nat.reduceEqDiff, Nat.reduceLT, Nat.reduceLeDiff, Int.reduceEq, h0, h1, h2, hbox2, hr.1, hrec2, ldO_rec hr.1]
  refine CS_fn (holds_spec l op a b no v rcs rc _ hl hrc ((hS.ext hE0).ext hE2) hr) ?_
  rintro _ H3 ⟨hE3, rfl⟩
  have hbox3 := hE3 _ _ hbox2
  have hrec3 := hE3 _ _ hrec2
  have hS3 := ((hS.ext hE0).ext hE2).ext hE3
  obtain ⟨cv, H4, e4, hO4, hE4, hS4⟩ := copySl (H := H3) slT_22 rfl (by decide) hS3 nds_one' (by rw [List.length_map]; omega) (by rw [List.length_map]; omega)
  have hbox4 := hE4 _ _ hbox3
  simp -implicitDefEqProofs only [↓gP, gQ, ↓reduceIte, Nat.reduceAdd, Nat.reduceEqDiff, Nat.reduceLT, Nat.reduceLeDiff, Int.reduceEq, h0, h1, h2]
  simp -implicitDefEqProofs only [↓gP, gQ, ↓gL, gM, ↓reduceIte, Nat.reduceAdd, Nat.reduceEqDiff, Nat.reduceLT, Nat.reduceLeDiff, Int.reduceEq, h0, h1, h2, hlen, bldSl0 (k := 0) slT_22 rfl (by decide), e4, hbox4]
  refine CSL_fn (acheck_spec l op a b no cv _ hS4) ?_
  rintro _ H5 ⟨rfl, hE5⟩
  have hb34 : ∀ l', (H3 ++ l')[H.length]? = some (.cells [.int .i64 op, .int .i64 a, .int .i64 b, .bool no] 24 0 false) := fun l' => Ext.refl.app _ _ hbox3
  have hbox5 := hE5 _ _ hbox4
  have hrec5 := hE5 _ _ (hE4 _ _ hrec3)
  have hS5 := (hS3.ext hE4).ext hE5
  simp -implicitDefEqProofs only [↓gP, gQ, ↓gL, gM, ↓reduceIte, Nat.reduceAdd, Nat.reduceEqDiff, Nat.reduceLT, Nat.reduceLeDiff, Int.reduceEq, h0, h1, h2, eq_self]
  rw [thenL_eq]
  refine ⟨?_, ?_⟩
  · intro q hq
    simp only [List.mem_cons, List.not_mem_nil, or_false] at hq
    rcases hq with rfl | rfl
    · refine same_load (v := .agg [.int .i64 op, .int .i64 a, .int .i64 b, .bool no]) rfl rfl rfl ?_ ?_
      · simp -implicitDefEqProofs only [↓gP, gQ, ↓reduceIte, Nat.reduceAdd, Nat.reduceEqDiff, Nat.reduceLT, Nat.reduceLeDiff, Int.reduceEq, hbox4]
      · simp -implicitDefEqProofs only [↓gP, gQ, ↓reduceIte, Nat.reduceAdd, Nat.reduceEqDiff, Nat.reduceLT, Nat.reduceLeDiff, Int.reduceEq, hbox3, hb34]
    · refine same_load (v := .agg [.int .i64 op, .int .i64 a, .int .i64 b, .bool no]) rfl rfl rfl ?_ ?_
      · simp -implicitDefEqProofs only [↓gP, gQ, ↓reduceIte, Nat.reduceAdd, Nat.reduceEqDiff, Nat.reduceLT, Nat.reduceLeDiff, Int.reduceEq, hbox4]
      · simp -implicitDefEqProofs only [↓gP, gQ, ↓reduceIte, Nat.reduceAdd, Nat.reduceEqDiff, Nat.reduceLT, Nat.reduceLeDiff, Int.reduceEq, hbox3, hb34]
  simp -implicitDefEqProofs only [↓gP, gQ, ↓reduceIte, Nat.reduceAdd, Nat.reduceEqDiff, Nat.reduceLT, Nat.reduceLeDiff, Int.reduceEq, h0, h1, h2, eq_self]
  refine Br_dec (fun hz => ?_) (fun hz => ?_)
  rotate_left
  · simp -implicitDefEqProofs only [↓gP, gQ, ↓reduceIte, Nat.reduceAdd, Nat.reduceEqDiff, Nat.reduceLT, Nat.reduceLeDiff, Int.reduceEq, h0, h1, h2, eq_false hz]
  simp -implicitDefEqProofs only [↓gP, gQ, ↓reduceIte, Nat.reduceAdd, Nat.reduceEqDiff, Nat.reduceLT, Nat.reduceLeDiff, Int.reduceEq, h0, h1, h2, eq_true hz]
  simp -implicitDefEqProofs only [↓gP, gQ, ↓gL, gM, ↓reduceIte, Nat.reduceAdd, Nat.reduceEqDiff, Nat.reduceLT, Nat.reduceLeDiff, Int.reduceEq, h0, h1, h2, hbox5, eq_true hz]
  refine CSL_fn (turned_spec op a b no _) ?_
  rintro _ H6 ⟨hE6, rfl⟩
  have hrec6 := hE6 _ _ hrec5
  have hbox6 := hE6 _ _ hbox5
  simp -implicitDefEqProofs only [↓gP, gQ, ↓gL, gM, ↓reduceIte, Nat.reduceAdd, Nat.reduceEqDiff, Nat.reduceLT, Nat.reduceLeDiff, Int.reduceEq, h0, h1, h2, hr.1, hrec6, ldO_rec hr.1]
  refine CSL_fn (holds_spec l op a b (!no) v rcs rc _ hl hrc (hS5.ext hE6) hr) ?_
  rintro _ H7 ⟨hE7, rfl⟩
  have hbox7 := hE7 _ _ hbox6
  have hrec7 := hE7 _ _ hrec6
  simp -implicitDefEqProofs only [↓gP, gQ, ↓gL, gM, ↓reduceIte, Nat.reduceAdd, Nat.reduceEqDiff, Nat.reduceLT, Nat.reduceLeDiff, Int.reduceEq, h0, h1, h2]
  rw [thenL_eq]
  refine ⟨?_, ?_⟩
  · intro q hq
    simp only [List.mem_singleton] at hq
    subst hq
    refine same_load (v := .agg rcs) rfl rfl rfl ?_ ?_
    · simp -implicitDefEqProofs only [↓gP, gQ, ↓reduceIte, Nat.reduceAdd, Nat.reduceEqDiff, Nat.reduceLT, Nat.reduceLeDiff, Int.reduceEq, hr.1, hrec6, ldO_rec hr.1]
    · simp -implicitDefEqProofs only [↓gP, gQ, ↓reduceIte, Nat.reduceAdd, Nat.reduceEqDiff, Nat.reduceLT, Nat.reduceLeDiff, Int.reduceEq, hr.1, hrec5, ldO_rec hr.1]
  simp -implicitDefEqProofs only [↓gP, gQ, ↓reduceIte, Nat.reduceAdd, Nat.reduceEqDiff, Nat.reduceLT, Nat.reduceLeDiff, Int.reduceEq, h0, h1, h2, hbox7, hr.1, hrec7, ldO_rec hr.1, eq_true hz]
  refine CS_fn (rholds_spec l op a b no v rcs rc _ hl hrc ((hS5.ext hE6).ext hE7) hr hz) ?_
  rintro _ H8 ⟨hE8, rfl⟩
  have hq1 : ∀ x : Bool, binA X .eql 4 (.bool x) (.bool x) = some (.bool true) := fun x => (beq_bool _ _).trans (by simp)
  have hq2 : ∀ x : Bool, binA X .neq 4 (.bool (!x)) (.bool x) = some (.bool true) := fun x => (bne_bool _ _).trans (by cases x <;> rfl)
  simp -implicitDefEqProofs only [↓gP, gQ, ↓reduceIte, Nat.reduceAdd, Nat.reduceEqDiff, Nat.reduceLT, Nat.reduceLeDiff, Int.reduceEq, h0, h1, h2, holdsA_not, hq1, hq2, hz, eq_self]
end Go.Va
end
