/- Part 5 of the proof: DA DB DC DD DE DF. -/
import Derived.Test.YtkofbgicfmojjaaVaK4
section
set_option linter.unusedSimpArgs false
set_option linter.unusedVariables false
set_option linter.unusedSectionVars false
namespace Go.Va
open Go.Proofs

def ndK : List (Option IntKind) := [some .i64, some .i64, some .i64, some .u32]
theorem wf_i64 {n : Int} (h : (Lit.int .i64 n).wf = true) : -9223372036854775808 ≤ n ∧ n < 9223372036854775808 := by
  simp [Lit.wf, IntKind.min, IntKind.max, IntKind.bits, IntKind.signed] at h; omega
theorem wf_u32 {n : Int} (h : (Lit.int .u32 n).wf = true) : 0 ≤ n ∧ n < 4294967296 := by
  simp [Lit.wf, IntKind.min, IntKind.max, IntKind.bits, IntKind.signed] at h; omega
theorem nd_of {r : List AV} (h : RowA ndK r) : ∃ n : Nd, r = n.c ∧ n.ok := by
  obtain ⟨hl, h⟩ := h
  obtain ⟨v0, g0, n0, rfl, w0⟩ := h 0 _ rfl
  obtain ⟨v1, g1, n1, rfl, w1⟩ := h 1 _ rfl
  obtain ⟨v2, g2, n2, rfl, w2⟩ := h 2 _ rfl
  obtain ⟨v3, g3, n3, rfl, w3⟩ := h 3 _ rfl
  refine ⟨⟨n0, n1, n2, n3⟩, ?_, (wf_u32 w3).1, (wf_u32 w3).2, (wf_i64 w0).1, (wf_i64 w0).2⟩
  apply List.ext_getElem?
  intro i
  match i with
  | 0 => rw [g0]; rfl
  | 1 => rw [g1]; rfl
  | 2 => rw [g2]; rfl
  | 3 => rw [g3]; rfl
  | i + 4 => rw [List.getElem?_eq_none (by rw [hl]; simp [ndK])]; rfl
theorem nds_of : ∀ {L : List (List AV)}, (∀ r ∈ L, RowA ndK r) → ∃ l : List Nd, L = l.map Nd.c ∧ ∀ n ∈ l, n.ok
  | [], _ => ⟨[], rfl, by simp⟩
  | r :: L, h => by
    obtain ⟨n, rfl, hn⟩ := nd_of (h r (by simp))
    obtain ⟨l, rfl, hl⟩ := nds_of (L := L) (fun r hr => h r (by simp [hr]))
    exact ⟨n :: l, rfl, fun m hm => by
      rcases List.mem_cons.1 hm with rfl | hm
      · exact hn
      · exact hl m hm⟩
theorem rec_of {r : List AV} (h : RowA (List.replicate 16 (some .u32)) r) : ∃ rc : Nat → Nat, RecOk r rc ∧ ∀ j, rc j < 4294967296 := by
  obtain ⟨hl, h⟩ := h
  have h' : ∀ j, ∃ n : Nat, n < 4294967296 ∧ (j < 16 → r[j]? = some (.int .u32 (n : Nat))) := by
    intro j
    rcases Nat.lt_or_ge j 16 with hj | hj
    · obtain ⟨v, g, n, rfl, w⟩ := h j (some .u32) (by rw [List.getElem?_replicate, if_pos hj])
      obtain ⟨w1, w2⟩ := wf_u32 w
      exact ⟨n.toNat, by omega, fun _ => by rw [g, Int.toNat_of_nonneg w1]⟩
    · exact ⟨0, by decide, fun h => by omega⟩
  refine ⟨fun j => (h' j).choose, ⟨by rw [hl]; rfl, fun j hj => (h' j).choose_spec.2 hj⟩, fun j => (h' j).choose_spec.1⟩

theorem nds_one {l : List Nd} : (l.map Nd.c).flatten.all AV.one = true := by
  induction l with
  | nil => rfl
  | cons n l ih => rw [List.map_cons, List.flatten_cons, List.all_append, ih]; rfl

theorem law_values (l : List Nd) (v : AV) (rcs : List AV) (rc : Nat → Nat) (at' : Int) (H : Heap) (hl : ∀ n ∈ l, n.ok) (hrc : ∀ j, rc j < 4294967296) (hS : Shows H v 4 (l.map Nd.c)) (hr : RecOk rcs rc) :
    F X 3 [v, .agg rcs, .int .i64 at'] H fun r _ => r = .bool true := by
  refine F_slim S3_eq rfl fun ρ hρ => ?_
  simp only [AGs] at hρ
  obtain ⟨h0, h1, h2, -⟩ := hρ
  have hlen := hS.lenA isSl_22
  rw [List.length_map] at hlen
  simp -implicitDefEqProofs only [↓gP, gQ, ↓reduceIte, Nat.reduceAdd, Nat.reduceEqDiff, Nat.reduceLT, Nat.reduceLeDiff, Int.reduceEq, S3, h0, h1, h2]
  refine CS_fn (F_true rfl) ?_
  rintro _ _ ⟨rfl, rfl⟩
  simp -implicitDefEqProofs only [↓gP, gQ, ↓reduceIte, Nat.reduceAdd, Nat.reduceEqDiff, Nat.reduceLT, Nat.reduceLeDiff, Int.reduceEq, h0, h1, h2, hlen]
  refine Br_dec (fun h => ?_) (fun h => ?_) <;> simp -implicitDefEqProofs only [↓gP, gQ, ↓reduceIte, Nat.reduceAdd, Nat.reduceEqDiff, Nat.reduceLT, Nat.reduceLeDiff, Int.reduceEq, h0, h1, h2, hlen]
  · refine CS_fn (F_true rfl) ?_
    rintro _ _ ⟨rfl, rfl⟩
    simp -implicitDefEqProofs only [↓gP, gQ, ↓reduceIte, Nat.reduceAdd, Nat.reduceEqDiff, Nat.reduceLT, Nat.reduceLeDiff, Int.reduceEq, h0, h1, h2, hlen]
  generalize hH1 : H ++ [AObj.cells rcs 25 0 false] = H1
  have hE1 : Ext H H1 := by rw [← hH1]; exact Ext.refl.app
  have hrec1 : H1[H.length]? = some (.cells rcs 25 0 false) := by rw [← hH1]; exact hp_get0
  have hl300 : l.length ≤ 300 := by omega
  obtain ⟨v2, H2, e2, hO2, hE2, hS2⟩ := copySl (H := H1) slT_22 rfl (by decide) (hS.ext hE1) nds_one (by rw [List.length_map]; omega) (by rw [List.length_map]; omega)
  simp -implicitDefEqProofs only [↓gP, gQ, ↓reduceIte, Nat.reduceAdd, Nat.reduceEqDiff, Nat.reduceLT, Nat.reduceLeDiff, Int.reduceEq, h0, h1, h2, hlen, bldSl0 (k := 0) slT_22 rfl (by decide), e2]
  refine CS_fn (check_spec l _ _ hS2) ?_
  rintro _ H3 ⟨rfl, hE3⟩
  have hE03 : Ext H1 H3 := hE2.trans hE3
  simp -implicitDefEqProofs only [↓gP, gQ, ↓reduceIte, Nat.reduceAdd, Nat.reduceEqDiff, Nat.reduceLT, Nat.reduceLeDiff, Int.reduceEq, h0, h1, h2, hlen]
  refine CS_fn (rcheck_spec l _ _ ((hS.ext hE1).ext hE03)) ?_
  rintro _ H4 ⟨rfl, hE4⟩
  have hE04 : Ext H1 H4 := hE03.trans hE4
  simp -implicitDefEqProofs only [↓gP, gQ, ↓reduceIte, Nat.reduceAdd, Nat.reduceEqDiff, Nat.reduceLT, Nat.reduceLeDiff, Int.reduceEq, h0, h1, h2, hlen, hr.1, hE04 _ _ hrec1, ldO_rec hr.1]
  refine CS_fn (values_spec l _ rcs rc _ hl hrc ((hS.ext hE1).ext hE04) hr) ?_
  rintro vv H5 ⟨hE5, hvv⟩
  have hE05 : Ext H1 H5 := hE04.trans hE5
  have lenN : ∀ (t : TypeId), isSl Try.prog t = true → lenA Try.prog t .nilsl = some (.int .i64 0) := fun t ht => Shows.lenA (H := H) (v := .nilsl) (sz := 1) (L := []) ⟨by simp, rfl⟩ ht
  by_cases hc : (checkP l).2 = 0
  · rw [if_neg (by simpa using hc)] at hvv
    obtain ⟨i1, b1, -, rfl, hb1, ho1⟩ := hvv
    simp -implicitDefEqProofs only [↓gP, gQ, ↓reduceIte, Nat.reduceAdd, Nat.reduceEqDiff, Nat.reduceLT, Nat.reduceLeDiff, Int.reduceEq, h0, h1, h2, hlen, hr.1, hE05 _ _ hrec1, ldO_rec hr.1]
    refine CS_fn (tvalue_spec l at' _ rcs rc _ hl hrc ((hS.ext hE1).ext hE05) hr) ?_
    rintro vw H6 ⟨hE6, hvw⟩
    have hE06 : Ext H1 H6 := hE05.trans hE6
    obtain ⟨p, q, rfl, hpq⟩ : ∃ p q : Int, vw = .tup [.int .u32 p, .int .i64 q] ∧ ((at' < 0 ∨ (l.length : Int) ≤ at') ∧ p = 0 ∧ q = 2 ∨ (0 ≤ at' ∧ at' < (l.length : Int)) ∧ p = ((valsL l rc l.length).getD at'.toNat 0 : Nat) ∧ q = 0) := by
      by_cases ha : askP l [at'] = 0
      · rw [if_neg (by simpa using ha)] at hvw
        obtain ⟨-, a1, a2⟩ := askP_ok1 ha
        exact ⟨_, _, hvw, .inr ⟨⟨a1, a2⟩, rfl, rfl⟩⟩
      · rw [if_pos ha] at hvw
        have hb : at' < 0 ∨ (l.length : Int) ≤ at' := by
          unfold askP at ha
          rw [if_neg (by simpa using hc)] at ha
          split at ha
          · rename_i h; simpa using h
          · simp at ha
        refine ⟨_, _, hvw, .inl ⟨hb, rfl, ?_⟩⟩
        unfold askP
        rw [if_neg (by simpa using hc), if_pos (by simpa using hb)]
    clear hvw
    simp -implicitDefEqProofs only [↓gP, gQ, ↓reduceIte, Nat.reduceAdd, Nat.reduceEqDiff, Nat.reduceLT, Nat.reduceLeDiff, Int.reduceEq, h0, h1, h2, hlen, hr.1, hE06 _ _ hrec1, ldO_rec hr.1, eq_self, hc]
    refine CS_fn (rvalues_spec l _ rcs rc _ hl hrc ((hS.ext hE1).ext hE06) hr hc) ?_
    rintro _ H7 ⟨hE7, i2, b2, -, rfl, hb2, ho2⟩
    have ho1' := (hE6.trans hE7) _ _ ho1
    have lenS : ∀ (id : Nat), lenA Try.prog 32 (.sl id 0 l.length l.length 1) = some (.int .i64 l.length) := fun id => by
      have := (shows_own (H := H ++ [AObj.cells (W32 (valsL l rc l.length)) 0 0 false]) (id := H.length) hp_get0 (Nat.zero_le _) (by rw [W32_len, valsL_len])).lenA isSl_32
      rw [List.length_map, W32_len, valsL_len] at this
      unfold lenA at this ⊢
      exact this
    have hWl : (W32 (valsL l rc l.length)).length = l.length := by rw [W32_len, valsL_len]
    have hg : ∀ j, j < l.length → (W32 (valsL l rc l.length))[j]? = some (.int .u32 ((valsL l rc l.length).getD j 0 : Nat)) := fun j hj => by
      have : j < (valsL l rc l.length).length := by rw [valsL_len]; exact hj
      simp [W32, List.getElem?_eq_getElem this]
    simp -implicitDefEqProofs only [↓gP, gQ, ↓reduceIte, Nat.reduceAdd, Nat.reduceEqDiff, Nat.reduceLT, Nat.reduceLeDiff, Int.reduceEq, h0, h1, h2, hlen, eq_self, lenS]
    refine loop_rule (fun k ρ' H' D' => ∃ j, k = l.length - j ∧ j ≤ l.length ∧ ρ' 89 = .int .i64 (j : Nat) ∧ ρ' 88 = .int .i64 (l.length : Nat) ∧ ρ' 11 = .sl i1 0 l.length l.length 1 ∧ ρ' 15 = .sl i2 0 l.length l.length 1 ∧ ρ' 2 = .int .i64 at' ∧ ρ' 13 = .int .u32 p ∧ ρ' 14 = .int .i64 q ∧ H' = H7 ∧ D' = []) l.length
      ⟨0, by simp, by simp, by simp only [up_get]; rfl, by simp only [up_get]; rfl, by simp only [up_get]; rfl, by simp only [up_get]; rfl, by simp only [up_get]; exact h2, by simp only [up_get]; rfl, by simp only [up_get]; rfl, rfl, rfl⟩ ?_
    rintro k ρ' H' D' ⟨j, hk, hj, e89, e88, e11, e15, e2, e13, e14, rfl, rfl⟩
    simp -implicitDefEqProofs only [↓gP, gQ, ↓reduceIte, Nat.reduceAdd, Nat.reduceEqDiff, Nat.reduceLT, Nat.reduceLeDiff, Int.reduceEq, S3L1, e89, e88, e11, e15, e2, e13, e14]
    refine Br_dec (fun g => ?_) (fun g => ?_)
    · have hj' : j < l.length := by omega
      simp -implicitDefEqProofs only [↓gP, gQ, ↓reduceIte, Nat.reduceAdd, Nat.reduceEqDiff, Nat.reduceLT, Nat.reduceLeDiff, Int.reduceEq, e89, e88, e11, e15, e2, e13, e14, ix_own1 hj', ho1', ho2, hb1, hb2, hWl, hg _ hj', hj', eq_self]
      refine ⟨l.length - (j + 1), by omega, j + 1, rfl, hj', ?_, by trivial, by trivial, by trivial, by trivial, by trivial, by trivial, by trivial, by trivial⟩
      rw [wrap64 (by omega) (by omega)]; rfl
    · simp -implicitDefEqProofs only [↓gP, gQ, ↓reduceIte, Nat.reduceAdd, Nat.reduceEqDiff, Nat.reduceLT, Nat.reduceLeDiff, Int.reduceEq, e89, e88, e11, e15, e2, e13, e14, lenS]
      rcases hpq with ⟨hb, rfl, rfl⟩ | ⟨⟨hb0, hb1'⟩, rfl, rfl⟩
      · refine Br_dec (fun g1 => ?_) (fun g1 => ?_) <;> simp -implicitDefEqProofs only [↓gP, gQ, ↓reduceIte, Nat.reduceAdd, Nat.reduceEqDiff, Nat.reduceLT, Nat.reduceLeDiff, Int.reduceEq, e89, e88, e11, e15, e2, e13, e14, lenS, g1, eq_self]
        have g2 : (l.length : Int) ≤ at' := by omega
        simp -implicitDefEqProofs only [↓gP, gQ, ↓reduceIte, Nat.reduceAdd, Nat.reduceEqDiff, Nat.reduceLT, Nat.reduceLeDiff, Int.reduceEq, e89, e88, e11, e15, e2, e13, e14, lenS, g1, g2, eq_self]
      · have g1 : ¬ at' < 0 := by omega
        have g2 : ¬ (l.length : Int) ≤ at' := by omega
        have hj' : at'.toNat < l.length := by omega
        have hx := ix_own1 (id := i2) (n := l.length) (ver := l.length) (m := 0) (k := .i64) hj'
        rw [Int.toNat_of_nonneg hb0] at hx
        simp -implicitDefEqProofs only [↓gP, gQ, ↓reduceIte, Nat.reduceAdd, Nat.reduceEqDiff, Nat.reduceLT, Nat.reduceLeDiff, Int.reduceEq, e89, e88, e11, e15, e2, e13, e14, lenS, g1, g2, eq_self, hx, ho1', ho2, hb1, hb2, hWl, hg _ hj', hj']
  · rw [if_pos hc] at hvv
    subst hvv
    have ha : askP l [at'] = 3 := by unfold askP; rw [if_pos hc]
    simp -implicitDefEqProofs only [↓gP, gQ, ↓reduceIte, Nat.reduceAdd, Nat.reduceEqDiff, Nat.reduceLT, Nat.reduceLeDiff, Int.reduceEq, h0, h1, h2, hlen, hr.1, hE05 _ _ hrec1, ldO_rec hr.1]
    refine CS_fn (tvalue_spec l at' _ rcs rc _ hl hrc ((hS.ext hE1).ext hE05) hr) ?_
    rintro vw H6 ⟨hE6, hvw⟩
    rw [if_pos (by rw [ha]; decide), ha] at hvw
    subst hvw
    simp -implicitDefEqProofs only [↓gP, gQ, ↓reduceIte, Nat.reduceAdd, Nat.reduceEqDiff, Nat.reduceLT, Nat.reduceLeDiff, Int.reduceEq, h0, h1, h2, hlen, eq_self, hc, lenN _ isSl_32]
end Go.Va
end

section
set_option linter.unusedSimpArgs false
set_option linter.unusedVariables false
set_option linter.unusedSectionVars false
namespace Go.Va
open Go.Proofs

theorem askP_len {l : List Nd} (hc : (checkP l).2 = 0) : askP l [(l.length : Int)] = 2 := by
  unfold askP
  rw [if_neg (by simpa using hc), if_pos (by simp)]
theorem askP_neg {l : List Nd} (hc : (checkP l).2 = 0) : askP l [-1] = 2 := by
  unfold askP
  rw [if_neg (by simpa using hc), if_pos (by simp)]
theorem askP_at {l : List Nd} {i : Nat} (hc : (checkP l).2 = 0) (h : i < l.length) : askP l [(i : Int)] = 0 := by
  unfold askP
  rw [if_neg (by simpa using hc), if_neg (by simp; omega)]
theorem right_ok {l : List Nd} : rightB l = true ↔ (checkP l).2 = 0 := by simp [rightB]

theorem law_size (l : List Nd) (v : AV) (H : Heap) (hl : ∀ n ∈ l, n.ok) (hS : Shows H v 4 (l.map Nd.c)) :
    F X 5 [v] H fun r _ => r = .bool true := by
  refine F_slim S5_eq rfl fun ρ hρ => ?_
  simp only [AGs] at hρ
  obtain ⟨h0, -⟩ := hρ
  have hlen := hS.lenA isSl_22
  rw [List.length_map] at hlen
  simp -implicitDefEqProofs only [↓gP, gQ, ↓reduceIte, Nat.reduceAdd, Nat.reduceEqDiff, Nat.reduceLT, Nat.reduceLeDiff, Int.reduceEq, S5, h0]
  refine CS_fn (F_true rfl) ?_
  rintro _ _ ⟨rfl, rfl⟩
  simp -implicitDefEqProofs only [↓gP, gQ, ↓reduceIte, Nat.reduceAdd, Nat.reduceEqDiff, Nat.reduceLT, Nat.reduceLeDiff, Int.reduceEq, h0, hlen]
  refine Br_dec (fun h => ?_) (fun h => ?_) <;> simp -implicitDefEqProofs only [↓gP, gQ, ↓reduceIte, Nat.reduceAdd, Nat.reduceEqDiff, Nat.reduceLT, Nat.reduceLeDiff, Int.reduceEq, h0, hlen, h]
  · refine CS_fn (F_true rfl) ?_
    rintro _ _ ⟨rfl, rfl⟩
    simp -implicitDefEqProofs only [↓gP, gQ, ↓reduceIte, Nat.reduceAdd, Nat.reduceEqDiff, Nat.reduceLT, Nat.reduceLeDiff, Int.reduceEq, h0, hlen]
  refine CS_fn (right_spec l v _ hS) ?_
  rintro _ H1 ⟨rfl, hE1⟩
  simp -implicitDefEqProofs only [↓gP, gQ, ↓reduceIte, Nat.reduceAdd, Nat.reduceEqDiff, Nat.reduceLT, Nat.reduceLeDiff, Int.reduceEq, h0, hlen]
  refine Br_bool (fun hR => ?_) (fun hR => ?_) <;> simp -implicitDefEqProofs only [↓gP, gQ, ↓reduceIte, Nat.reduceAdd, Nat.reduceEqDiff, Nat.reduceLT, Nat.reduceLeDiff, Int.reduceEq, h0, hlen, hR]
  case' refine_2 => 
    refine CS_fn (F_true rfl) ?_
    rintro _ _ ⟨rfl, rfl⟩
    simp -implicitDefEqProofs only [↓gP, gQ, ↓reduceIte, Nat.reduceAdd, Nat.reduceEqDiff, Nat.reduceLT, Nat.reduceLeDiff, Int.reduceEq, h0, hlen]
  have hc := right_ok.1 hR
  obtain ⟨hn, hmay⟩ := checkP_ok hc
  refine CS_fn (rsizes_spec l v _ (hS.ext hE1) hc) ?_
  rintro _ H2 ⟨hE2, id, born, hid, rfl, hborn, hobj⟩
  have hWl : (WK .u64 (sizesL l l.length)).length = l.length := by rw [WK_len, sizesL_len]
  have hg : ∀ i, i < l.length → (WK .u64 (sizesL l l.length))[i]? = some (.int .u64 ((sizesL l l.length).getD i 0 : Nat)) := fun i hi => by
    have := rowK_get (k := .u64) (vs := sizesL l l.length) (n := l.length) (j := i) (by rw [sizesL_len]; exact hi)
    have e := rowK_full (k := .u64) (vs := sizesL l l.length)
    rw [sizesL_len] at e
    rwa [e] at this
  have hE02 := hE1.trans hE2
  simp -implicitDefEqProofs only [↓gP, gQ, ↓reduceIte, Nat.reduceAdd, Nat.reduceEqDiff, Nat.reduceLT, Nat.reduceLeDiff, Int.reduceEq, h0, hlen]
  refine loop_rule (fun k ρ' H' D' => ∃ i, k = l.length - i ∧ i ≤ l.length ∧ ρ' 31 = .int .i64 (i : Nat) ∧ ρ' 30 = .int .i64 (l.length : Nat) ∧ ρ' 3 = .sl id 0 l.length l.length 1 ∧ ρ' 0 = v ∧ Ext H2 H' ∧ D' = []) l.length
    ⟨0, by simp, by simp, by simp only [up_get]; rfl, by simp only [up_get]; rfl, by simp only [up_get]; rfl, by simp only [up_get]; exact h0, Ext.refl, rfl⟩ ?_
  rintro k ρ' H' D' ⟨i, hk, hi, e31, e30, e3, e0, hE, rfl⟩
  have hEn := hE02.trans hE
  simp -implicitDefEqProofs only [↓gP, gQ, ↓reduceIte, Nat.reduceAdd, Nat.reduceEqDiff, Nat.reduceLT, Nat.reduceLeDiff, Int.reduceEq, S5L1, e31, e30, e3, e0]
  refine Br_dec (fun g => ?_) (fun g => ?_)
  · have hi' : i < l.length := by omega
    simp -implicitDefEqProofs only [↓gP, gQ, ↓reduceIte, Nat.reduceAdd, Nat.reduceEqDiff, Nat.reduceLT, Nat.reduceLeDiff, Int.reduceEq, e31, e30, e3, e0]
    refine CS_fn (size_spec l (i : Nat) v _ (hS.ext hEn)) ?_
    rintro rr H3 ⟨hE3, hrr⟩
    rw [if_neg (by rw [askP_at hc hi']; simp)] at hrr
    subst hrr
    rw [Int.toNat_natCast]
    simp -implicitDefEqProofs only [↓gP, gQ, ↓reduceIte, Nat.reduceAdd, Nat.reduceEqDiff, Nat.reduceLT, Nat.reduceLeDiff, Int.reduceEq, e31, e30, e3, e0]
    refine CS_fn (rin_spec l i v _ (hS.ext (hEn.trans hE3)) hmay hi' hn) ?_
    rintro _ H4 ⟨hE4, id2, born2, hid2, rfl, hborn2, hobj2⟩
    have hsz := cnt_size hmay (by simp only [mostN]; omega) i hi'
    unfold inL at hsz
    generalize hLL : reachP l l.length (markZ (List.replicate l.length false) [(i : Int)]) = L at hobj2 hsz
    have hLl : L.length = l.length := by rw [← hLL, reachP_len, markZ_len, List.length_replicate]
    have hBl : (B L).length = l.length := by rw [B_len, hLl]
    have hlenB := (shows_own hobj2 (by rw [hBl]; exact hborn2) hBl).lenA isSl_50
    rw [List.length_map, hBl] at hlenB
    simp -implicitDefEqProofs only [↓gP, gQ, ↓reduceIte, Nat.reduceAdd, Nat.reduceEqDiff, Nat.reduceLT, Nat.reduceLeDiff, Int.reduceEq, e31, e30, e3, e0, hlenB]
    refine loop_rule (fun k ρ' H' D' => ∃ j, k = l.length - j ∧ j ≤ l.length ∧ ρ' 44 = .int .i64 (j : Nat) ∧ ρ' 43 = .int .i64 (l.length : Nat) ∧ ρ' 42 = .sl id2 0 l.length l.length 1 ∧ ρ' 31 = .int .i64 (i : Nat) ∧ ρ' 30 = .int .i64 (l.length : Nat) ∧
        ρ' 7 = .int .u64 (cnt (L.take j) : Nat) ∧ ρ' 6 = .int .i64 0 ∧ ρ' 5 = .int .u64 ((sizesL l l.length).getD i 0 : Nat) ∧ ρ' 4 = .int .i64 (i : Nat) ∧ ρ' 3 = .sl id 0 l.length l.length 1 ∧ ρ' 0 = v ∧ H' = H4 ∧ D' = []) l.length
      ⟨0, by simp, by simp, by simp only [up_get]; rfl, by simp only [up_get]; rfl, by simp only [up_get]; rfl, by simp only [up_get]; exact e31, by simp only [up_get]; exact e30, by simp only [up_get]; rfl, by simp only [up_get]; rfl, by simp only [up_get]; rfl, by simp only [up_get]; rfl, by simp only [up_get]; exact e3, by simp only [up_get]; exact e0, rfl, rfl⟩ ?_
    clear e31 e30 e3 e0
    rintro k ρ' H' D' ⟨j, hk, hj, e44, e43, e42, e31, e30, e7, e6, e5, e4, e3, e0, rfl, rfl⟩
    simp -implicitDefEqProofs only [↓gP, gQ, ↓reduceIte, Nat.reduceAdd, Nat.reduceEqDiff, Nat.reduceLT, Nat.reduceLeDiff, Int.reduceEq, S5L2, e44, e43, e42, e31, e30, e7, e6, e5, e4, e3, e0]
    refine Br_dec (fun g => ?_) (fun g => ?_)
    · have hj' : j < l.length := by omega
      have hjL : j < L.length := by omega
      have hct := cnt_take hjL
      have hcl : cnt (L.take j) ≤ 200 := Nat.le_trans cnt_le (by rw [List.length_take]; omega)
      have hw : IntKind.i64.wrap ((j : Int) + 1) = ((j + 1 : Nat) : Int) := by rw [wrap64 (by omega) (by omega)]; rfl
      simp -implicitDefEqProofs only [↓gP, gQ, ↓reduceIte, Nat.reduceAdd, Nat.reduceEqDiff, Nat.reduceLT, Nat.reduceLeDiff, Int.reduceEq, e44, e43, e42, e31, e30, e7, e6, e5, e4, e3, e0, ix_own1 hj', hobj2, hBl, hborn2, hj', B_get hjL]
      refine Br_bool (fun g1 => ?_) (fun g1 => ?_)
      · have hw2 : IntKind.u64.wrap ((cnt (L.take j) : Nat) + 1 : Int) = ((cnt (L.take (j + 1)) : Nat) : Int) := by
          rw [hct, if_pos g1]
          have := u64s (n := cnt (L.take j) + 1) (by omega)
          rw [← this]; push_cast; rfl
        simp -implicitDefEqProofs only [↓gP, gQ, ↓reduceIte, Nat.reduceAdd, Nat.reduceEqDiff, Nat.reduceLT, Nat.reduceLeDiff, Int.reduceEq, e44, e43, e42, e31, e30, e7, e6, e5, e4, e3, e0, g1, hw, hw2]
        exact ⟨l.length - (j + 1), by omega, j + 1, rfl, hj', by trivial, by trivial, by trivial, by trivial, by trivial, by trivial, by trivial, by trivial, by trivial, by trivial, by trivial, by trivial, by trivial⟩
      · have hct : cnt (L.take (j + 1)) = cnt (L.take j) := by rw [hct, if_neg (by rw [g1]; decide), Nat.add_zero]
        simp -implicitDefEqProofs only [↓gP, gQ, ↓reduceIte, Nat.reduceAdd, Nat.reduceEqDiff, Nat.reduceLT, Nat.reduceLeDiff, Int.reduceEq, e44, e43, e42, e31, e30, e7, e6, e5, e4, e3, e0, g1, hw]
        exact ⟨l.length - (j + 1), by omega, j + 1, rfl, hj', by trivial, by trivial, by trivial, by trivial, by trivial, by rw [hct], by trivial, by trivial, by trivial, by trivial, by trivial, by trivial, by trivial⟩
    · have : j = l.length := by omega
      subst this
      rw [List.take_of_length_le (by omega)] at e7
      have hob := (hE.trans (hE3.trans hE4)) _ _ hobj
      have g3 : ¬ ((sizesL l l.length).getD i 0 : Int) < (cnt L : Nat) := by omega
      simp -implicitDefEqProofs only [↓gP, gQ, ↓reduceIte, Nat.reduceAdd, Nat.reduceEqDiff, Nat.reduceLT, Nat.reduceLeDiff, Int.reduceEq, e44, e43, e42, e31, e30, e7, e6, e5, e4, e3, e0, ix_own1 hi', hob, hWl, hborn, hi', hg _ hi', eq_self, g3]
      exact ⟨l.length - (i + 1), by omega, i + 1, rfl, hi', by rw [wrap64 (by omega) (by omega)]; rfl, by trivial, by trivial, by trivial, hE.trans (hE3.trans hE4), by trivial⟩
  · simp -implicitDefEqProofs only [↓gP, gQ, ↓reduceIte, Nat.reduceAdd, Nat.reduceEqDiff, Nat.reduceLT, Nat.reduceLeDiff, Int.reduceEq, e31, e30, e3, e0, hlen]
    refine CS_fn (size_spec l _ v _ (hS.ext hEn)) ?_
    rintro rr H3 ⟨hE3, hrr⟩
    rw [if_pos (by rw [askP_len hc]; simp), askP_len hc] at hrr
    subst hrr
    simp -implicitDefEqProofs only [↓gP, gQ, ↓reduceIte, Nat.reduceAdd, Nat.reduceEqDiff, Nat.reduceLT, Nat.reduceLeDiff, Int.reduceEq, e31, e30, e3, e0]
    refine CS_fn (uses_spec l _ v _ hl (hS.ext (hEn.trans hE3))) ?_
    rintro rr H4 ⟨hE4, hrr⟩
    rw [if_pos (by rw [askP_neg hc]; simp), askP_neg hc] at hrr
    subst hrr
    simp -implicitDefEqProofs only [↓gP, gQ, ↓reduceIte, Nat.reduceAdd, Nat.reduceEqDiff, Nat.reduceLT, Nat.reduceLeDiff, Int.reduceEq, e31, e30, e3, e0]
end Go.Va
end

section
set_option linter.unusedSimpArgs false
set_option linter.unusedVariables false
set_option linter.unusedSectionVars false
namespace Go.Va
open Go.Proofs

theorem law_uses (l : List Nd) (v : AV) (rcs ocs : List AV) (rc oc : Nat → Nat) (H : Heap) (hl : ∀ n ∈ l, n.ok) (hrc : ∀ j, rc j < 4294967296) (hoc : ∀ j, oc j < 4294967296) (hS : Shows H v 4 (l.map Nd.c)) (hr : RecOk rcs rc) (ho : RecOk ocs oc) :
    F X 4 [v, .agg rcs, .agg ocs] H fun r _ => r = .bool true := by
  refine F_slim S4_eq rfl fun ρ hρ => ?_
  simp only [AGs] at hρ
  obtain ⟨h0, h1, h2, -⟩ := hρ
  have hlen := hS.lenA isSl_22
  rw [List.length_map] at hlen
  simp -implicitDefEqProofs only [↓gP, gQ, ↓reduceIte, Nat.reduceAdd, Nat.reduceEqDiff, Nat.reduceLT, Nat.reduceLeDiff, Int.reduceEq, S4, h0, h1, h2]
  generalize hH1 : H ++ [AObj.cells rcs 25 0 false, AObj.cells ocs 25 0 false] = H1
  have hE1 : Ext H H1 := by rw [← hH1]; exact Ext.refl.app
  have hrec : H1[H.length]? = some (.cells rcs 25 0 false) := by rw [← hH1]; exact hp_get0
  have horec : H1[H.length + 1]? = some (.cells ocs 25 0 false) := by rw [← hH1]; exact hp_get
  refine CS_fn (F_tru rfl) ?_
  rintro _ _ ⟨rfl, rfl⟩
  simp -implicitDefEqProofs only [↓gP, gQ, ↓reduceIte, Nat.reduceAdd, Nat.reduceEqDiff, Nat.reduceLT, Nat.reduceLeDiff, Int.reduceEq, h0, hlen]
  refine Br_dec (fun h => ?_) (fun h => ?_) <;> simp -implicitDefEqProofs only [↓gP, gQ, ↓reduceIte, Nat.reduceAdd, Nat.reduceEqDiff, Nat.reduceLT, Nat.reduceLeDiff, Int.reduceEq, h0, hlen, h]
  · refine CS_fn (F_tru rfl) ?_
    rintro _ _ ⟨rfl, rfl⟩
    simp -implicitDefEqProofs only [↓gP, gQ, ↓reduceIte, Nat.reduceAdd, Nat.reduceEqDiff, Nat.reduceLT, Nat.reduceLeDiff, Int.reduceEq, h0, hlen]
  refine CS_fn (right_spec l v _ (hS.ext hE1)) ?_
  rintro _ H2 ⟨rfl, hE2⟩
  simp -implicitDefEqProofs only [↓gP, gQ, ↓reduceIte, Nat.reduceAdd, Nat.reduceEqDiff, Nat.reduceLT, Nat.reduceLeDiff, Int.reduceEq, h0, hlen]
  refine Br_bool (fun hR => ?_) (fun hR => ?_) <;> simp -implicitDefEqProofs only [↓gP, gQ, ↓reduceIte, Nat.reduceAdd, Nat.reduceEqDiff, Nat.reduceLT, Nat.reduceLeDiff, Int.reduceEq, h0, hlen, hR]
  case' refine_2 =>
    refine CS_fn (F_tru rfl) ?_
    rintro _ _ ⟨rfl, rfl⟩
    simp -implicitDefEqProofs only [↓gP, gQ, ↓reduceIte, Nat.reduceAdd, Nat.reduceEqDiff, Nat.reduceLT, Nat.reduceLeDiff, Int.reduceEq, h0, hlen]
  have hc := right_ok.1 hR
  obtain ⟨hn, hmay⟩ := checkP_ok hc
  refine loop_rule (fun k ρ' H' D' => ∃ i, k = l.length - i ∧ i ≤ l.length ∧ ρ' 31 = .int .i64 (i : Nat) ∧ ρ' 30 = .int .i64 (l.length : Nat) ∧ ρ' 4 = .ptr H.length 0 16 ∧ ρ' 5 = .ptr (H.length + 1) 0 16 ∧ ρ' 0 = v ∧ Ext H1 H' ∧ D' = []) l.length
    ⟨0, by simp, by simp, by simp only [up_get]; rfl, by simp only [up_get]; rfl, by simp only [up_get]; rw [hr.1]; rfl, by simp only [up_get]; rw [ho.1]; rfl, by simp only [up_get]; exact h0, hE2, rfl⟩ ?_
  rintro k ρ' H' D' ⟨i, hk, hi, e31, e30, e4, e5, e0, hE, rfl⟩
  have hEn : Ext H H' := hE1.trans hE
  simp -implicitDefEqProofs only [↓gP, gQ, ↓reduceIte, Nat.reduceAdd, Nat.reduceEqDiff, Nat.reduceLT, Nat.reduceLeDiff, Int.reduceEq, S4L1, e31, e30, e4, e5, e0]
  refine Br_dec (fun g => ?_) (fun g => ?_)
  · have hi' : i < l.length := by omega
    simp -implicitDefEqProofs only [↓gP, gQ, ↓reduceIte, Nat.reduceAdd, Nat.reduceEqDiff, Nat.reduceLT, Nat.reduceLeDiff, Int.reduceEq, e31, e30, e4, e5, e0]
    refine CS_fn (uses_spec l (i : Nat) v _ hl (hS.ext hEn)) ?_
    rintro rr H3 ⟨hE3, hrr⟩
    rw [if_neg (by rw [askP_at hc hi']; simp)] at hrr
    subst hrr
    have hE03 := hE.trans hE3
    have hub := usesP_lt (L := reachP l l.length (markZ (List.replicate l.length false) [(i : Int)])) hmay l.length
    have hut := fun w => uses_bit (l := l) (L := reachP l l.length (markZ (List.replicate l.length false) [(i : Int)])) (w := w) (m := l.length)
    generalize hu : usesP l (reachP l l.length (markZ (List.replicate l.length false) [(i : Int)])) l.length = u at hub hut
    have hol : ocs.length = 16 := ho.1
    have hone := ho.one
    simp -implicitDefEqProofs only [↓gP, gQ, ↓reduceIte, Nat.reduceAdd, Nat.reduceEqDiff, Nat.reduceLT, Nat.reduceLeDiff, Int.reduceEq, e31, e30, e4, e5, e0, hE03 _ _ horec, ldO_rec hol, putAll_full, hol, hone]
    generalize hH4 : H3 ++ [AObj.cells ocs 25 16 false] = H4
    have hE4 : Ext H3 H4 := by rw [← hH4]; exact Ext.refl.app
    have hE04 := hE03.trans hE4
    have hid1 : H1.length ≤ H3.length := hE03.len
    refine loop_rule (fun k ρ' H' D' => ∃ j, k = 16 - j ∧ j ≤ 16 ∧ ρ' 41 = .int .i64 (j : Nat) ∧ ρ' 31 = .int .i64 (i : Nat) ∧ ρ' 30 = .int .i64 (l.length : Nat) ∧ ρ' 10 = .ptr H3.length 0 16 ∧ ρ' 9 = .int .i64 0 ∧ ρ' 8 = .int .u16 (u : Nat) ∧ ρ' 7 = .int .i64 (i : Nat) ∧ ρ' 5 = .ptr (H.length + 1) 0 16 ∧ ρ' 4 = .ptr H.length 0 16 ∧ ρ' 0 = v ∧
        Ext H3 H' ∧ H'[H3.length]? = some (.cells (mixC rc oc u j) 25 16 false) ∧ D' = []) 16
      ⟨0, by simp, by simp, by simp only [up_get]; rfl, by simp only [up_get]; exact e31, by simp only [up_get]; exact e30, by simp only [up_get]; rfl, by simp only [up_get]; rfl, by simp only [up_get]; rfl, by simp only [up_get]; rfl, by simp only [up_get]; exact e5, by simp only [up_get]; exact e4, by simp only [up_get]; exact e0,
        hE4, by rw [← hH4, ← mixC_zero ho]; exact hp_get0, rfl⟩ ?_
    clear e31 e30 e5 e4 e0 hE04 hE4 hH4
    rintro k ρ' H' D' ⟨j, hk, hj, e41, e31, e30, e10, e9, e8, e7, e5, e4, e0, hE4, hobj, rfl⟩
    have hE04 := hE03.trans hE4
    simp -implicitDefEqProofs only [↓gP, gQ, ↓reduceIte, Nat.reduceAdd, Nat.reduceEqDiff, Nat.reduceLT, Nat.reduceLeDiff, Int.reduceEq, S4L2, e41, e31, e30, e10, e9, e8, e7, e5, e4, e0]
    refine Br_dec (fun g => ?_) (fun g => ?_)
    · have hj' : j < 16 := by omega
      have hj0 : (0 : Int) ≤ (j : Nat) := by omega
      have hw : IntKind.i64.wrap ((j : Int) + 1) = ((j + 1 : Nat) : Int) := by rw [wrap64 (by omega) (by omega)]; rfl
      have hsh : ((u : Nat) : Int).fdiv (2 ^ (min ((j : Nat) : Int).toNat IntKind.u16.bits)) = ((u / 2 ^ j : Nat) : Int) := by
        have : min ((j : Nat) : Int).toNat IntKind.u16.bits = j := by simp [IntKind.bits]; omega
        rw [this, nat_shr]
      have hub' : u / 2 ^ j < 65536 := Nat.lt_of_le_of_lt (Nat.div_le_self _ _) hub
      have hbit : u.testBit j = decide (u / 2 ^ j % 2 = 1) := Nat.testBit_eq_decide_div_mod_eq
      have z0 : (((u / 2 ^ j % 2 : Nat) : Int) = 0) = (u.testBit j = false) := by
        have hm2 : u / 2 ^ j % 2 < 2 := Nat.mod_lt _ (by decide)
        rw [hbit]; apply propext; rw [decide_eq_false_iff_not]
        clear hbit hub' hsh
        generalize u / 2 ^ j % 2 = z at hm2 ⊢; omega
      simp -implicitDefEqProofs only [↓gP, gQ, ↓reduceIte, Nat.reduceAdd, Nat.reduceEqDiff, Nat.reduceLT, Nat.reduceLeDiff, Int.reduceEq, e41, e31, e30, e10, e9, e8, e7, e5, e4, e0, bin_shr hj0, hsh, u16_and1 hub', z0]
      refine Br_dec (fun g1 => ?_) (fun g1 => ?_)
      · simp -implicitDefEqProofs only [↓gP, gQ, ↓reduceIte, Nat.reduceAdd, Nat.reduceEqDiff, Nat.reduceLT, Nat.reduceLeDiff, Int.reduceEq, e41, e31, e30, e10, e9, e8, e7, e5, e4, e0, hw]
        exact ⟨16 - (j + 1), by omega, j + 1, rfl, hj', by trivial, by trivial, by trivial, by trivial, by trivial, by trivial, by trivial, by trivial, by trivial, by trivial, hE4, by rw [← mixC_keep g1]; exact hobj, by trivial⟩
      · have g1' : u.testBit j = true := by simpa using g1
        have hix : ∀ id : Nat, ixO (some (false, 16, 1)) (.ptr id 0 16) (.int .i64 ((j : Nat) : Int)) = some (.ptr id j 16) := fun id => by
          rw [ixO_arr (by omega) (by omega)]; simp only [Int.toNat_natCast, Nat.mul_one, Nat.zero_add]
        have hg := hr.2 j hj'
        have hle : 16 ≤ rcs.length := by rw [hr.1]; exact Nat.le_refl _
        have hj1 : j + 1 ≤ 16 := hj'
        obtain ⟨d1, d2⟩ := own_set hE4 (Nat.le_refl _) hobj (o' := .cells (mixC rc oc u (j + 1)) 25 16 false)
        simp -implicitDefEqProofs only [↓gP, gQ, ↓reduceIte, Nat.reduceAdd, Nat.reduceEqDiff, Nat.reduceLT, Nat.reduceLeDiff, Int.reduceEq, e41, e31, e30, e10, e9, e8, e7, e5, e4, e0, hw, hix, hE04 _ _ hrec, hobj, hle, hj', hg, mixC_len, mixC_set hj' g1', hj1]
        exact ⟨16 - (j + 1), by omega, j + 1, rfl, hj', by trivial, by trivial, by trivial, by trivial, by trivial, by trivial, by trivial, by trivial, by trivial, by trivial, d1, d2, by trivial⟩
    · have : j = 16 := by omega
      subst this
      simp -implicitDefEqProofs only [↓gP, gQ, ↓reduceIte, Nat.reduceAdd, Nat.reduceEqDiff, Nat.reduceLT, Nat.reduceLeDiff, Int.reduceEq, e41, e31, e30, e10, e9, e8, e7, e5, e4, e0, hE04 _ _ hrec, ldO_rec hr.1, hr.1]
      refine CS_fn (tvalue_spec l (i : Nat) v rcs rc _ hl hrc (hS.ext (hE1.trans hE04)) hr) ?_
      rintro rr H5 ⟨hE5, hrr⟩
      rw [if_neg (by rw [askP_at hc hi']; simp), Int.toNat_natCast] at hrr
      subst hrr
      have hobj5 := hE5 _ _ hobj
      have hld : ∀ c : List AV, c.length = 16 → ldO (some (true, 16)) (some (.cells c 25 16 false)) 0 16 = some (.agg c) := fun c h => ldO_rec h (Nat.le_refl _)
      simp -implicitDefEqProofs only [↓gP, gQ, ↓reduceIte, Nat.reduceAdd, Nat.reduceEqDiff, Nat.reduceLT, Nat.reduceLeDiff, Int.reduceEq, e41, e31, e30, e10, e9, e8, e7, e5, e4, e0, hobj5, ldO_rec mixC_len (Nat.le_refl _), mixC_len]
      refine CS_fn (tvalue_spec l (i : Nat) v _ _ _ hl (fun j => by unfold mixR; split; exact hrc j; exact hoc j) (hS.ext ((hE1.trans hE04).trans hE5)) mixC_ok) ?_
      rintro rr H6 ⟨hE6, hrr⟩
      rw [if_neg (by rw [askP_at hc hi']; simp), Int.toNat_natCast] at hrr
      subst hrr
      have hdep : (valsL l rc l.length).getD i 0 = (valsL l (mixR rc oc u 16) l.length).getD i 0 := by
        refine vals_dep hmay (Nat.le_refl _) i hi' fun x n ht hx h2 => ?_
        obtain ⟨hxl, e⟩ := List.getElem?_eq_some_iff.1 hx
        have hk := may_word (hmay x hxl) (by rw [e]; exact h2)
        have hin : (inL l [(i : Int)]).getD x false = true := by
          rw [inL_iff hmay (by simp; omega)]; exact ⟨(i : Int), by simp, by simpa using ht⟩
        have hb : u.testBit n.k.toNat = true := (hut _).2 ⟨x, n, hxl, hx, hin, h2, rfl⟩
        have hk16 : n.k.toNat < 16 := by rw [e] at hk; omega
        unfold mixR
        rw [if_pos ⟨hk16, hb⟩]
      rw [← hdep]
      simp -implicitDefEqProofs only [↓gP, gQ, ↓reduceIte, Nat.reduceAdd, Nat.reduceEqDiff, Nat.reduceLT, Nat.reduceLeDiff, Int.reduceEq, e41, e31, e30, e10, e9, e8, e7, e5, e4, e0, eq_self]
      refine CS_fn (ruses_spec l i v _ hl (hS.ext (((hE1.trans hE04).trans hE5).trans hE6)) hc hi') ?_
      rintro rr H7 ⟨hE7, rfl⟩
      rw [hu]
      simp -implicitDefEqProofs only [↓gP, gQ, ↓reduceIte, Nat.reduceAdd, Nat.reduceEqDiff, Nat.reduceLT, Nat.reduceLeDiff, Int.reduceEq, e41, e31, e30, e10, e9, e8, e7, e5, e4, e0, eq_self]
      exact ⟨l.length - (i + 1), by omega, i + 1, rfl, hi', by rw [wrap64 (by omega) (by omega)]; rfl, by trivial, by trivial, by trivial, by trivial, ((hE04.trans hE5).trans hE6).trans hE7, by trivial⟩
  · simp -implicitDefEqProofs only [↓gP, gQ, ↓reduceIte, Nat.reduceAdd, Nat.reduceEqDiff, Nat.reduceLT, Nat.reduceLeDiff, Int.reduceEq, e31, e30, e4, e5, e0, hlen]
end Go.Va
end

section
set_option linter.unusedSimpArgs false
set_option linter.unusedVariables false
set_option linter.unusedSectionVars false
namespace Go.Va
open Go.Proofs

def poolL (l : List Nd) : Nat → List Nd
  | 0 => []
  | m + 1 => match l[m]? with
    | some n => if mayB n (poolL l m).length = true then putP (poolL l m) n else poolL l m
    | none => poolL l m
theorem poolL_len {l : List Nd} : ∀ {m : Nat}, (poolL l m).length ≤ m
  | 0 => Nat.le_refl _
  | m + 1 => by
    have ih := poolL_len (l := l) (m := m)
    simp only [poolL]
    split
    · split
      · exact Nat.le_trans putP_len (by omega)
      · omega
    · omega

theorem Keep.ext {S : Nat → Prop} {H0 H H' : Heap} (k : Keep S H H') (h : Ext H0 H) (hs : ∀ j, S j → H0.length ≤ j) : Ext H0 H' := fun i o e => k.2 i o (fun hi => by
  have := hs i hi
  rw [List.getElem?_eq_some_iff] at e; have := e.1; omega) (h i o e)

theorem law_pool (l : List Nd) (v : AV) (H : Heap) (hS : Shows H v 4 (l.map Nd.c)) :
    F X 7 [v] H fun r _ => r = .bool true := by
  refine F_slim S7_eq rfl fun ρ hρ => ?_
  simp only [AGs] at hρ
  obtain ⟨h0, -⟩ := hρ
  have hlen := hS.lenA isSl_22
  rw [List.length_map] at hlen
  simp -implicitDefEqProofs only [↓gP, gQ, ↓reduceIte, Nat.reduceAdd, Nat.reduceEqDiff, Nat.reduceLT, Nat.reduceLeDiff, Int.reduceEq, S7, h0]
  refine CS_fn (F_tru rfl) ?_
  rintro _ _ ⟨rfl, rfl⟩
  simp -implicitDefEqProofs only [↓gP, gQ, ↓reduceIte, Nat.reduceAdd, Nat.reduceEqDiff, Nat.reduceLT, Nat.reduceLeDiff, Int.reduceEq, h0, hlen]
  refine Br_dec (fun h => ?_) (fun h => ?_) <;> simp -implicitDefEqProofs only [↓gP, gQ, ↓reduceIte, Nat.reduceAdd, Nat.reduceEqDiff, Nat.reduceLT, Nat.reduceLeDiff, Int.reduceEq, h0, hlen, h]
  · refine CS_fn (F_tru rfl) ?_
    rintro _ _ ⟨rfl, rfl⟩
    simp -implicitDefEqProofs only [↓gP, gQ, ↓reduceIte, Nat.reduceAdd, Nat.reduceEqDiff, Nat.reduceLT, Nat.reduceLeDiff, Int.reduceEq, h0, hlen]
  refine CS_fn (new_spec _) ?_
  rintro _ H1 ⟨rfl, hP1, hE1⟩
  simp -implicitDefEqProofs only [↓gP, gQ, ↓reduceIte, Nat.reduceAdd, Nat.reduceEqDiff, Nat.reduceLT, Nat.reduceLeDiff, Int.reduceEq, h0, hlen]
  refine loop_rule (fun k ρ' H' D' => ∃ i nv wv, k = l.length - i ∧ i ≤ l.length ∧ ρ' 27 = .int .i64 (i : Nat) ∧ ρ' 26 = .int .i64 (l.length : Nat) ∧ ρ' 25 = v ∧ ρ' 4 = wv ∧ ρ' 3 = .ptr (H.length + 1) 0 2 ∧ PoolAt H' (H.length + 1) H.length nv (poolL l i) ∧ RowAt H' wv (poolL l i) ∧
      (∀ j, slId wv = some j → ¬ Foot (H.length + 1) H.length nv j) ∧ (∀ j, Foot (H.length + 1) H.length nv j → H.length ≤ j) ∧ (∀ j, slId wv = some j → H.length ≤ j) ∧ Ext H H' ∧ D' = []) l.length
    ⟨0, .nilsl, .nilsl, by simp, by simp, by simp only [up_get]; rfl, by simp only [up_get]; rfl, by simp only [up_get]; rfl, by simp only [up_get]; rfl, by simp only [up_get]; rfl, hP1, OwnV.nil, (fun j e => by cases e), (fun j e => ?_), (fun j e => by cases e), hE1, rfl⟩ ?_
  · rcases e with e | e | e
    · omega
    · omega
    · cases e
  rintro k ρ' H' D' ⟨i, nv, wv, hk, hi, e27, e26, e25, e4, e3, hP, hO, hdis, hge, hwge, hE, rfl⟩
  have hpl := poolL_len (l := l) (m := i)
  simp -implicitDefEqProofs only [↓gP, gQ, ↓reduceIte, Nat.reduceAdd, Nat.reduceEqDiff, Nat.reduceLT, Nat.reduceLeDiff, Int.reduceEq, S7L1, e27, e26, e25, e4, e3]
  refine Br_dec (fun g => ?_) (fun g => ?_)
  · have hil : i < l.length := by omega
    have hw : IntKind.i64.wrap ((i : Int) + 1) = ((i + 1 : Nat) : Int) := by rw [wrap64 (by omega) (by omega)]; rfl
    obtain ⟨nx, -, -, -, -, -, nld⟩ := (hS.ext hE).nodes
    simp -implicitDefEqProofs only [↓gP, gQ, ↓reduceIte, Nat.reduceAdd, Nat.reduceEqDiff, Nat.reduceLT, Nat.reduceLeDiff, Int.reduceEq, e27, e26, e25, e4, e3, nx, nld _ _ hil Ext.refl, hil]
    generalize hn : l[i] = n
    have hsucc : poolL l (i + 1) = if mayB n (poolL l i).length = true then putP (poolL l i) n else poolL l i := by
      simp only [poolL, List.getElem?_eq_getElem hil, hn]
    have hbox : (H' ++ [AObj.cells [AV.int .i64 n.op, AV.int .i64 n.a, AV.int .i64 n.b, AV.int .u32 n.k] 56 4 false])[H'.length]? = some (.cells [AV.int .i64 n.op, AV.int .i64 n.a, AV.int .i64 n.b, AV.int .u32 n.k] 56 4 false) := hp_get0
    have hE2 : Ext H' (H' ++ [AObj.cells [AV.int .i64 n.op, AV.int .i64 n.a, AV.int .i64 n.b, AV.int .u32 n.k] 56 4 false]) := Ext.refl.app
    generalize H' ++ [AObj.cells [AV.int .i64 n.op, AV.int .i64 n.a, AV.int .i64 n.b, AV.int .u32 n.k] 56 4 false] = H2 at hbox hE2
    refine CS_fn (Put_spec n _ _ _ nv _ (hP.ext hE2) (by omega)) ?_
    rintro _ H3 ⟨nv', hP3, hK3, hF3, rfl⟩
    have hbox3 : H3[H'.length]? = some (.cells [AV.int .i64 n.op, AV.int .i64 n.a, AV.int .i64 n.b, AV.int .u32 n.k] 56 4 false) := hK3.2 _ _ (fun e => by have := hP.lt e; omega) hbox
    have hO3 : RowAt H3 wv (poolL l i) := (hO.ext hE2).keep fun j o e hj => hK3.2 _ _ (hdis j e) hj
    have hEH3 : Ext H H3 := hK3.ext (hE.trans hE2) hge
    have hge3 : ∀ j, Foot (H.length + 1) H.length nv' j → H.length ≤ j := fun j e => by
      rcases hF3 j e with e | e
      · exact hge j e
      · have := hE.len; have := hE2.len; omega
    have hdis3 : ∀ j, slId wv = some j → ¬ Foot (H.length + 1) H.length nv' j := fun j e f => by
      rcases hF3 j f with f | f
      · exact hdis j e f
      · have : j < H'.length := by
          rcases hO.2 with ⟨rfl, -⟩ | ⟨id, b, -, rfl, -, g⟩
          · cases e
          · cases e; rw [List.getElem?_eq_some_iff] at g; exact g.1
        have := hE2.len; omega
    have hlen3 := hO3.shows.lenA isSl_22
    rw [List.length_map] at hlen3
    have h44 : (4 : Nat) ≤ 4 := Nat.le_refl _
    simp -implicitDefEqProofs only [↓gP, gQ, ↓reduceIte, Nat.reduceAdd, Nat.reduceEqDiff, Nat.reduceLT, Nat.reduceLeDiff, Int.reduceEq, e27, e26, e25, e4, e3, hbox3, hlen3]
    refine CS_fn (rmay_spec n _ _) ?_
    rintro _ H4 ⟨rfl, hE4⟩
    simp -implicitDefEqProofs only [↓gP, gQ, ↓reduceIte, Nat.reduceAdd, Nat.reduceEqDiff, Nat.reduceLT, Nat.reduceLeDiff, Int.reduceEq, e27, e26, e25, e4, e3]
    refine Br_bool (fun hm => ?_) (fun hm => ?_)
    · have he : putE n (poolL l i) = 0 := by
        have : ¬ 65536 ≤ (poolL l i).length := by omega
        simp [putE, hm, this]
      rw [he, if_pos rfl] at hP3
      rw [if_pos hm] at hsucc
      simp -implicitDefEqProofs only [↓gP, gQ, ↓reduceIte, Nat.reduceAdd, Nat.reduceEqDiff, Nat.reduceLT, Nat.reduceLeDiff, Int.reduceEq, e27, e26, e25, e4, e3, he, hE4 _ _ hbox3]
      refine CS_fn (rput_spec n _ wv _ (hO3.ext hE4) (by omega)) ?_
      rintro _ H5 ⟨wv', rfl, hO5, hG5, -⟩
      have hbox5 : H5[H'.length]? = some (.cells [AV.int .i64 n.op, AV.int .i64 n.a, AV.int .i64 n.b, AV.int .u32 n.k] 56 4 false) := hG5.keep.2 _ _ (fun e => by
        rcases hO.2 with ⟨rfl, -⟩ | ⟨id, b, -, rfl, -, g⟩
        · cases e
        · cases e; rw [List.getElem?_eq_some_iff] at g; have := g.1; omega) (hE4 _ _ hbox3)
      have hP5 : PoolAt H5 (H.length + 1) H.length nv' (putP (poolL l i) n) := (hP3.ext hE4).keep fun j o f hj => hG5.keep.2 _ _ (fun e => hdis3 j e f) hj
      have hix := putP_idx (l := poolL l i) (n := n)
      have hget : (putP (poolL l i) n)[(putP (poolL l i) n).idxOf n] = n := List.getElem_idxOf hix
      simp -implicitDefEqProofs only [↓gP, gQ, ↓reduceIte, Nat.reduceAdd, Nat.reduceEqDiff, Nat.reduceLT, Nat.reduceLeDiff, Int.reduceEq, e27, e26, e25, e4, e3]
      refine CS_fn (at_spec _ _ _ _ _ _ hP5) ?_
      rintro r H6 ⟨hE6, hr6⟩
      rw [dif_pos ⟨by omega, by omega⟩] at hr6
      simp only [Int.toNat_natCast, hget] at hr6
      subst hr6
      have hbox6 := hE6 _ _ hbox5
      simp -implicitDefEqProofs only [↓gP, gQ, ↓reduceIte, Nat.reduceAdd, Nat.reduceEqDiff, Nat.reduceLT, Nat.reduceLeDiff, Int.reduceEq, e27, e26, e25, e4, e3, Nd.v, bldNode, eq_self]
      have hb7 : ∀ l' : Heap, (H6 ++ l')[H'.length]? = some (.cells [AV.int .i64 n.op, AV.int .i64 n.a, AV.int .i64 n.b, AV.int .u32 n.k] 56 4 false) := fun l' => Ext.refl.app _ _ hbox6
      simp -implicitDefEqProofs only [↓gP, gQ, ↓reduceIte, Nat.reduceAdd, Nat.reduceEqDiff, Nat.reduceLT, Nat.reduceLeDiff, Int.reduceEq, e27, e26, e25, e4, e3, he, hb7, bin_neq_nd, eq_self]
      simp -implicitDefEqProofs only [↓gP, gQ, ↓reduceIte, Nat.reduceAdd, Nat.reduceEqDiff, Nat.reduceLT, Nat.reduceLeDiff, Int.reduceEq, e27, e26, e25, e4, e3, hw]
      have hP6 := (hP5.ext hE6).ext (Ext.refl.app (l := [AObj.cells [AV.int .i64 n.op, AV.int .i64 n.a, AV.int .i64 n.b, AV.int .u32 n.k] 56 4 false]))
      have hO6 := (hO5.ext hE6).ext (Ext.refl.app (l := [AObj.cells [AV.int .i64 n.op, AV.int .i64 n.a, AV.int .i64 n.b, AV.int .u32 n.k] 56 4 false]))
      have hL4 := hE4.len
      refine ⟨l.length - (i + 1), by omega, i + 1, nv', wv', rfl, hil, by trivial, by trivial, by trivial, by trivial, by trivial, by rw [hsucc]; exact hP6, by rw [hsucc]; exact hO6, ?_, hge3, ?_, ?_, by trivial⟩
      · intro j e f
        rcases hG5.place with p | ⟨id, p, q⟩
        · rw [p] at e; exact hdis3 j e f
        · rw [p] at e; cases e; have := hP3.lt f; omega
      · intro j e
        rcases hG5.place with p | ⟨id, p, q⟩
        · rw [p] at e; exact hwge j e
        · rw [p] at e; cases e; have := hEH3.len; omega
      · exact ((hG5.keep.ext (hEH3.trans hE4) hwge).trans hE6).app
    · have he : putE n (poolL l i) = 3 := by simp [putE, hm]
      rw [he, if_neg (by decide)] at hP3
      rw [if_neg (by rw [hm]; decide)] at hsucc
      simp -implicitDefEqProofs only [↓gP, gQ, ↓reduceIte, Nat.reduceAdd, Nat.reduceEqDiff, Nat.reduceLT, Nat.reduceLeDiff, Int.reduceEq, e27, e26, e25, e4, e3, he, hw]
      refine ⟨l.length - (i + 1), by omega, i + 1, nv', wv, rfl, hil, by trivial, by trivial, by trivial, by trivial, by trivial, by rw [hsucc]; exact hP3.ext hE4, by rw [hsucc]; exact hO3.ext hE4, hdis3, hge3, hwge, hEH3.trans hE4, by trivial⟩
  · have : i = l.length := by omega
    subst this
    have hlenw := hO.shows.lenA isSl_22
    rw [List.length_map] at hlenw
    simp -implicitDefEqProofs only [↓gP, gQ, ↓reduceIte, Nat.reduceAdd, Nat.reduceEqDiff, Nat.reduceLT, Nat.reduceLeDiff, Int.reduceEq, e27, e26, e25, e4, e3, hlenw]
    refine CS_fn (at_spec _ _ _ _ _ _ hP) ?_
    rintro r H2 ⟨hE2, hr⟩
    rw [dif_neg (by omega)] at hr
    subst hr
    simp -implicitDefEqProofs only [↓gP, gQ, ↓reduceIte, Nat.reduceAdd, Nat.reduceEqDiff, Nat.reduceLT, Nat.reduceLeDiff, Int.reduceEq, e27, e26, e25, e4, e3, bldNode]
    have hP2 := (hP.ext hE2).ext (Ext.refl.app (l := [AObj.cells [AV.int .i64 0, AV.int .i64 0, AV.int .i64 0, AV.int .u32 0] 56 4 false]))
    have hO2 := (hO.ext hE2).ext (Ext.refl.app (l := [AObj.cells [AV.int .i64 0, AV.int .i64 0, AV.int .i64 0, AV.int .u32 0] 56 4 false]))
    generalize H2 ++ [AObj.cells [AV.int .i64 0, AV.int .i64 0, AV.int .i64 0, AV.int .u32 0] 56 4 false] = H3 at hP2 hO2
    refine CS_fn (at_spec _ _ _ _ _ _ hP2) ?_
    rintro r H4 ⟨hE4, hr⟩
    rw [dif_neg (by omega)] at hr
    subst hr
    simp -implicitDefEqProofs only [↓gP, gQ, ↓reduceIte, Nat.reduceAdd, Nat.reduceEqDiff, Nat.reduceLT, Nat.reduceLeDiff, Int.reduceEq, e27, e26, e25, e4, e3, bldNode]
    have hP3 := (hP2.ext hE4).ext (Ext.refl.app (l := [AObj.cells [AV.int .i64 0, AV.int .i64 0, AV.int .i64 0, AV.int .u32 0] 56 4 false]))
    have hO3 := (hO2.ext hE4).ext (Ext.refl.app (l := [AObj.cells [AV.int .i64 0, AV.int .i64 0, AV.int .i64 0, AV.int .u32 0] 56 4 false]))
    generalize H4 ++ [AObj.cells [AV.int .i64 0, AV.int .i64 0, AV.int .i64 0, AV.int .u32 0] 56 4 false] = H5 at hP3 hO3
    refine CS_fn (nodes_spec _ _ _ _ _ hP3 (by omega)) ?_
    rintro r H6 ⟨hE6, hOr⟩
    simp -implicitDefEqProofs only [↓gP, gQ, ↓reduceIte, Nat.reduceAdd, Nat.reduceEqDiff, Nat.reduceLT, Nat.reduceLeDiff, Int.reduceEq, e27, e26, e25, e4, e3]
    refine CS_fn (rsame_spec _ _ _ _ _ (OwnV.shows hOr nd_rows (by decide)) (hO3.ext hE6).shows (by omega)) ?_
    rintro _ H7 ⟨rfl, rfl⟩
    simp -implicitDefEqProofs only [↓gP, gQ, ↓reduceIte, Nat.reduceAdd, Nat.reduceEqDiff, Nat.reduceLT, Nat.reduceLeDiff, Int.reduceEq, e27, e26, e25, e4, e3, eq_self]
end Go.Va
end

section
set_option linter.unusedSimpArgs false
set_option linter.unusedVariables false
set_option linter.unusedSectionVars false
namespace Go.Va
open Go.Proofs

theorem neq_bool {a b : Bool} : binA X .neq 4 (.bool a) (.bool b) = some (.bool (!(a == b))) := by
  cases a <;> cases b <;> kernel_rfl

theorem law_trees (l : List Nd) (v : AV) (H : Heap) (hS : Shows H v 4 (l.map Nd.c)) :
    F X 8 [v] H fun r _ => r = .bool true := by
  refine F_slim S8_eq rfl fun ρ hρ => ?_
  simp only [AGs] at hρ
  obtain ⟨h0, -⟩ := hρ
  have hlen := hS.lenA isSl_22
  rw [List.length_map] at hlen
  simp -implicitDefEqProofs only [↓gP, gQ, ↓reduceIte, Nat.reduceAdd, Nat.reduceEqDiff, Nat.reduceLT, Nat.reduceLeDiff, Int.reduceEq, S8, h0]
  refine CS_fn (F_tru rfl) ?_
  rintro _ _ ⟨rfl, rfl⟩
  simp -implicitDefEqProofs only [↓gP, gQ, ↓reduceIte, Nat.reduceAdd, Nat.reduceEqDiff, Nat.reduceLT, Nat.reduceLeDiff, Int.reduceEq, h0, hlen]
  refine Br_dec (fun h => ?_) (fun h => ?_) <;> simp -implicitDefEqProofs only [↓gP, gQ, ↓reduceIte, Nat.reduceAdd, Nat.reduceEqDiff, Nat.reduceLT, Nat.reduceLeDiff, Int.reduceEq, h0, hlen, h]
  · refine CS_fn (F_tru rfl) ?_
    rintro _ _ ⟨rfl, rfl⟩
    simp -implicitDefEqProofs only [↓gP, gQ, ↓reduceIte, Nat.reduceAdd, Nat.reduceEqDiff, Nat.reduceLT, Nat.reduceLeDiff, Int.reduceEq, h0, hlen]
  refine CS_fn (right_spec l v _ hS) ?_
  rintro _ H1 ⟨rfl, hE1⟩
  simp -implicitDefEqProofs only [↓gP, gQ, ↓reduceIte, Nat.reduceAdd, Nat.reduceEqDiff, Nat.reduceLT, Nat.reduceLeDiff, Int.reduceEq, h0, hlen]
  refine Br_bool (fun hR => ?_) (fun hR => ?_) <;> simp -implicitDefEqProofs only [↓gP, gQ, ↓reduceIte, Nat.reduceAdd, Nat.reduceEqDiff, Nat.reduceLT, Nat.reduceLeDiff, Int.reduceEq, h0, hlen, hR]
  case' refine_2 =>
    refine CS_fn (F_tru rfl) ?_
    rintro _ _ ⟨rfl, rfl⟩
    simp -implicitDefEqProofs only [↓gP, gQ, ↓reduceIte, Nat.reduceAdd, Nat.reduceEqDiff, Nat.reduceLT, Nat.reduceLeDiff, Int.reduceEq, h0, hlen]
  have hc := right_ok.1 hR
  obtain ⟨hn, hmay⟩ := checkP_ok hc
  refine CS_fn (into_spec [] l .nilsl v _ OwnV.nil (hS.ext hE1) hc (fun i _ e => by cases e) (by simp; omega)) ?_
  rintro _ H2 ⟨wv, born, rfl, hO2, hborn, hobj, hne, hG⟩
  have hE12 : Ext H1 H2 := fun i o e => hG.keep.2 _ _ (fun e => by cases e) e
  obtain ⟨hl2, hl1⟩ := intoP_len (P0 := []) (l := l) (m := l.length) (Nat.le_refl _)
  have hWl : (WK .i64 (intoP [] l l.length).2).length = l.length := by rw [WK_len, hl2]
  have hg : ∀ j, j < l.length → (WK .i64 (intoP [] l l.length).2)[j]? = some (.int .i64 ((intoP [] l l.length).2.getD j 0 : Nat)) := fun j hj => by
    have := rowK_get (k := .i64) (vs := (intoP [] l l.length).2) (n := l.length) (j := j) (by omega)
    have e := rowK_full (k := .i64) (vs := (intoP [] l l.length).2)
    rw [hl2] at e
    rwa [e] at this
  simp -implicitDefEqProofs only [↓gP, gQ, ↓reduceIte, Nat.reduceAdd, Nat.reduceEqDiff, Nat.reduceLT, Nat.reduceLeDiff, Int.reduceEq, h0, hlen]
  refine CS_fn (new_spec _) ?_
  rintro _ H3 ⟨rfl, hP3, hE3⟩
  simp -implicitDefEqProofs only [↓gP, gQ, ↓reduceIte, Nat.reduceAdd, Nat.reduceEqDiff, Nat.reduceLT, Nat.reduceLeDiff, Int.reduceEq, h0, hlen]
  have hid2 : H1.length < H2.length := by rw [List.getElem?_eq_some_iff] at hobj; exact hobj.1
  refine loop_rule (fun k ρ' H' D' => ∃ i nv, k = l.length - i ∧ i ≤ l.length ∧ ρ' 36 = .int .i64 (i : Nat) ∧ ρ' 35 = .int .i64 (l.length : Nat) ∧ ρ' 34 = v ∧ ρ' 5 = .ptr (H2.length + 1) 0 2 ∧ ρ' 4 = .sl H1.length 0 l.length l.length 1 ∧ ρ' 0 = v ∧ PoolAt H' (H2.length + 1) H2.length nv (intoP [] l i).1 ∧
      (∀ j, Foot (H2.length + 1) H2.length nv j → H2.length ≤ j) ∧ Ext H2 H' ∧ D' = []) l.length
    ⟨0, .nilsl, by simp, by simp, by simp only [up_get]; rfl, by simp only [up_get]; rfl, by simp only [up_get]; rfl, by simp only [up_get]; rfl, by simp only [up_get]; rfl, by simp only [up_get]; exact h0, hP3, (fun j e => ?_), hE3, rfl⟩ ?_
  · rcases e with e | e | e
    · omega
    · omega
    · cases e
  rintro k ρ' H' D' ⟨i, nv, hk, hi, e36, e35, e34, e5, e4, e0, hP, hge, hE, rfl⟩
  have hE0 := (hE1.trans hE12).trans hE
  simp -implicitDefEqProofs only [↓gP, gQ, ↓reduceIte, Nat.reduceAdd, Nat.reduceEqDiff, Nat.reduceLT, Nat.reduceLeDiff, Int.reduceEq, S8L1, e36, e35, e34, e5, e4, e0]
  refine Br_dec (fun g => ?_) (fun g => ?_)
  · have hil : i < l.length := by omega
    have hw : IntKind.i64.wrap ((i : Int) + 1) = ((i + 1 : Nat) : Int) := by rw [wrap64 (by omega) (by omega)]; rfl
    obtain ⟨nx, -, -, -, -, -, nld⟩ := (hS.ext hE0).nodes
    have hm := hmay i hil
    have hsucc := intoP_succ (P0 := []) hil
    have hat := intoP_at (P0 := []) hil
    rw [← intoP_get (Nat.lt_succ_self i) (M := l.length) hil (Nat.le_refl _)] at hat
    have hpre : ∀ j, j < i → (intoP [] l i).2.getD j 0 = (intoP [] l l.length).2.getD j 0 := fun j hj => (intoP_get hj (M := l.length) (by omega) (Nat.le_refl _)).symm
    have hrn : renum l[i] (fun j => (intoP [] l i).2.getD j 0) = renum l[i] (fun j => (intoP [] l l.length).2.getD j 0) := renum_congr hm hpre
    have hmm := renum_may hm (intoP_lt (P0 := []) (l := l) (m := i) hi)
    rw [hrn] at hsucc hat hmm
    generalize hmd : renum l[i] (fun j => (intoP [] l l.length).2.getD j 0) = m at hsucc hat hmm
    obtain ⟨-, hl1i⟩ := intoP_len (P0 := []) (l := l) (m := i) hi
    simp only [List.length_nil, Nat.zero_add] at hl1i
    have he : putE m (intoP [] l i).1 = 0 := by
      have : ¬ 65536 ≤ (intoP [] l i).1.length := by omega
      simp [putE, hmm, this]
    have h44 : (4 : Nat) ≤ 4 := Nat.le_refl _
    have hout : ∀ l', (H' ++ l')[H1.length]? = some (.cells (WK .i64 (intoP [] l l.length).2) 3 born false) := fun l' => Ext.refl.app _ _ (hE _ _ hobj)
    simp -implicitDefEqProofs only [↓gP, gQ, ↓reduceIte, Nat.reduceAdd, Nat.reduceEqDiff, Nat.reduceLT, Nat.reduceLeDiff, Int.reduceEq, e36, e35, e34, e5, e4, e0, nx, nld _ _ hil Ext.refl, hil, bldNode]
    have hop : (2 < l[i].op) = ¬ (l[i].op = 1 ∨ l[i].op = 2) := by
      have := may_pos hm; apply propext; omega
    simp only [hop]
    have hwb : born ≤ l.length := hborn
    have hPx := fun l' => hP.ext (Ext.refl.app (l := l'))
    refine Br_dec (fun g1 => ?_) (fun g1 => ?_)
    focus
      obtain ⟨m1, m2, m3, m4, m5, m6⟩ := may_alu hm (fun h => g1 (.inl h)) (fun h => g1 (.inr h))
      have ra1 : l[i].a < (l.length : Nat) := by omega
      have rb1 : l[i].b < (l.length : Nat) := by omega
      have ra2 : l[i].a.toNat < l.length := by omega
      have rb2 : l[i].b.toNat < l.length := by omega
      simp -implicitDefEqProofs only [↓gP, gQ, ↓reduceIte, Nat.reduceAdd, Nat.reduceEqDiff, Nat.reduceLT, Nat.reduceLeDiff, Int.reduceEq, e36, e35, e34, e5, e4, e0, ix_ownZ m3 ra1, ix_ownZ m5 rb1, hout, hWl, hborn, ra2, rb2, hg _ ra2, hg _ rb2]
      refine Br_dec (fun g2 => ?_) (fun g2 => ?_)
      focus
        have e : m = ⟨l[i].op, ((intoP [] l l.length).2.getD l[i].a.toNat 0 : Nat), l[i].b, l[i].k⟩ := by rw [← hmd, renum, if_neg g1, if_pos g2]
        simp -implicitDefEqProofs only [↓gP, gQ, ↓reduceIte, Nat.reduceAdd, Nat.reduceEqDiff, Nat.reduceLT, Nat.reduceLeDiff, Int.reduceEq, e36, e35, e34, e5, e4, e0, ix_ownZ m3 ra1, ix_ownZ m5 rb1, hout, hWl, hborn, ra2, rb2, hg _ ra2, hg _ rb2]
        refine CS_fn (Put_spec ⟨l[i].op, ((intoP [] l l.length).2.getD l[i].a.toNat 0 : Nat), l[i].b, l[i].k⟩ _ _ _ nv _ (hPx _) (by omega)) ?_
        rw [← e]
      rotate_left
      focus
        have e : m = ⟨l[i].op, ((intoP [] l l.length).2.getD l[i].a.toNat 0 : Nat), ((intoP [] l l.length).2.getD l[i].b.toNat 0 : Nat), l[i].k⟩ := by rw [← hmd, renum, if_neg g1, if_neg g2]
        simp -implicitDefEqProofs only [↓gP, gQ, ↓reduceIte, Nat.reduceAdd, Nat.reduceEqDiff, Nat.reduceLT, Nat.reduceLeDiff, Int.reduceEq, e36, e35, e34, e5, e4, e0, ix_ownZ m3 ra1, ix_ownZ m5 rb1, hout, hWl, hborn, ra2, rb2, hg _ ra2, hg _ rb2]
        refine CS_fn (Put_spec ⟨l[i].op, ((intoP [] l l.length).2.getD l[i].a.toNat 0 : Nat), ((intoP [] l l.length).2.getD l[i].b.toNat 0 : Nat), l[i].k⟩ _ _ _ nv _ (hPx _) (by omega)) ?_
        rw [← e]
    rotate_left 2
    focus
      have g1' : l[i].op = 1 ∨ l[i].op = 2 := Classical.byContradiction g1
      have e : m = l[i] := by rw [← hmd, renum, if_pos g1']
      simp -implicitDefEqProofs only [↓gP, gQ, ↓reduceIte, Nat.reduceAdd, Nat.reduceEqDiff, Nat.reduceLT, Nat.reduceLeDiff, Int.reduceEq, e36, e35, e34, e5, e4, e0]
      refine CS_fn (Put_spec l[i] _ _ _ nv _ (hPx _) (by omega)) ?_
      rw [← e]
    all_goals
      rintro _ H4 ⟨nv', hP4, hK4, hF4, rfl⟩
      rw [he, if_pos rfl] at hP4
      have hE4 : Ext H2 H4 := hK4.ext (hE.app) hge
      have hge4 : ∀ j, Foot (H2.length + 1) H2.length nv' j → H2.length ≤ j := fun j e => by
        rcases hF4 j e with e | e
        · exact hge j e
        · have := hE.len; rw [List.length_append] at e; omega
      have hs1 : putP (intoP [] l i).1 m = (intoP [] l (i + 1)).1 := by rw [hsucc]
      rw [hs1] at hP4
      simp -implicitDefEqProofs only [↓gP, gQ, ↓reduceIte, Nat.reduceAdd, Nat.reduceEqDiff, Nat.reduceLT, Nat.reduceLeDiff, Int.reduceEq, e36, e35, e34, e5, e4, e0, he, ix_own1 hil, hE4 _ _ hobj, hWl, hborn, hil, hg _ hil, hat, eq_self, hw]
      refine loop_rule (fun k ρ' H' D' => ∃ j, k = i + 1 - j ∧ j ≤ i + 1 ∧ ρ' 77 = .int .i64 (j : Nat) ∧ ρ' 76 = .int .i64 ((i + 1 : Nat) : Int) ∧ ρ' 36 = .int .i64 (i : Nat) ∧ ρ' 35 = .int .i64 (l.length : Nat) ∧ ρ' 34 = v ∧ ρ' 6 = .int .i64 (i : Nat) ∧ ρ' 5 = .ptr (H2.length + 1) 0 2 ∧ ρ' 4 = .sl H1.length 0 l.length l.length 1 ∧ ρ' 0 = v ∧ Ext H4 H' ∧ D' = []) (i + 1)
        ⟨0, by simp, by simp, by simp only [up_get]; rfl, by simp only [up_get]; rfl, by simp only [up_get]; exact e36, by simp only [up_get]; exact e35, by simp only [up_get]; exact e34, by simp only [up_get]; rfl, by simp only [up_get]; exact e5, by simp only [up_get]; exact e4, by simp only [up_get]; exact e0, Ext.refl, rfl⟩ ?_
      clear e36 e35 e34 e5 e4 e0
      rintro k ρ' H' D' ⟨j, hk, hj, e77, e76, e36, e35, e34, e6, e5, e4, e0, hEj, rfl⟩
      simp -implicitDefEqProofs only [↓gP, gQ, ↓reduceIte, Nat.reduceAdd, Nat.reduceEqDiff, Nat.reduceLT, Nat.reduceLeDiff, Int.reduceEq, S8L2, e77, e76, e36, e35, e34, e6, e5, e4, e0]
      refine Br_dec (fun g3 => ?_) (fun g3 => ?_)
      · have hji : j ≤ i := by omega
        have hjl : j < l.length := by omega
        have hwj : IntKind.i64.wrap ((j : Int) + 1) = ((j + 1 : Nat) : Int) := by rw [wrap64 (by omega) (by omega)]; rfl
        have hEa := (hE1.trans hE12).trans (hE4.trans hEj)
        have ask : ∀ a b : Nat, a < l.length → b < l.length → askP l [(a : Int), (b : Int)] = 0 := fun a b ha hb => by
          unfold askP
          rw [if_neg (by simpa using hc), if_neg (by simp; omega)]
        simp -implicitDefEqProofs only [↓gP, gQ, ↓reduceIte, Nat.reduceAdd, Nat.reduceEqDiff, Nat.reduceLT, Nat.reduceLeDiff, Int.reduceEq, e77, e76, e36, e35, e34, e6, e5, e4, e0]
        refine CS_fn (alike_spec l (i : Nat) (j : Nat) v _ (hS.ext hEa)) ?_
        rintro r H5 ⟨hE5, hr⟩
        rw [if_neg (by rw [ask i j hil hjl]; simp), Int.toNat_natCast, Int.toNat_natCast] at hr
        subst hr
        simp -implicitDefEqProofs only [↓gP, gQ, ↓reduceIte, Nat.reduceAdd, Nat.reduceEqDiff, Nat.reduceLT, Nat.reduceLeDiff, Int.reduceEq, e77, e76, e36, e35, e34, e6, e5, e4, e0]
        refine CS_fn (alike_spec l (j : Nat) (i : Nat) v _ (hS.ext (hEa.trans hE5))) ?_
        rintro r H6 ⟨hE6, hr⟩
        rw [if_neg (by rw [ask j i hjl hil]; simp), Int.toNat_natCast, Int.toNat_natCast] at hr
        have hcm : ((intoP [] l l.length).2.getD j 0 = (intoP [] l l.length).2.getD i 0) = ((intoP [] l l.length).2.getD i 0 = (intoP [] l l.length).2.getD j 0) := propext eq_comm
        simp only [hcm] at hr
        subst hr
        have hob6 := ((hE4.trans hEj).trans (hE5.trans hE6)) _ _ hobj
        have hcast : ∀ a b : Nat, (((a : Nat) : Int) = (b : Nat)) = (a = b) := fun a b => propext Int.ofNat_inj
        simp -implicitDefEqProofs only [↓gP, gQ, ↓reduceIte, Nat.reduceAdd, Nat.reduceEqDiff, Nat.reduceLT, Nat.reduceLeDiff, Int.reduceEq, e77, e76, e36, e35, e34, e6, e5, e4, e0, ix_own1 hil, ix_own1 hjl, hob6, hWl, hborn, hil, hjl, hg _ hil, hg _ hjl, hcast, neq_bool, beq_self_eq_true, hwj]
        exact ⟨i + 1 - (j + 1), by omega, j + 1, rfl, by omega, by trivial, by trivial, by trivial, by trivial, by trivial, by trivial, by trivial, by trivial, by trivial, hEj.trans (hE5.trans hE6), by trivial⟩
      · simp -implicitDefEqProofs only [↓gP, gQ, ↓reduceIte, Nat.reduceAdd, Nat.reduceEqDiff, Nat.reduceLT, Nat.reduceLeDiff, Int.reduceEq, e77, e76, e36, e35, e34, e6, e5, e4, e0, hw]
        exact ⟨l.length - (i + 1), by omega, i + 1, nv', rfl, hil, by trivial, by trivial, by trivial, by trivial, by trivial, by trivial, hP4.ext hEj, hge4, hE4.trans hEj, by trivial⟩
  · simp -implicitDefEqProofs only [↓gP, gQ, ↓reduceIte, Nat.reduceAdd, Nat.reduceEqDiff, Nat.reduceLT, Nat.reduceLeDiff, Int.reduceEq, e36, e35, e34, e5, e4, e0]
end Go.Va
end

section
set_option linter.unusedSimpArgs false
set_option linter.unusedVariables false
set_option linter.unusedSectionVars false
namespace Go.Va
open Go.Proofs

def orT (A B : List Bool) (i : Nat) : List Bool := (List.range A.length).map fun x => A.getD x false || (decide (x < i) && B.getD x false)
theorem orT_len {A B : List Bool} {i : Nat} : (orT A B i).length = A.length := by simp [orT]
theorem orT_get {A B : List Bool} {i x : Nat} : (orT A B i).getD x false = (A.getD x false || (decide (x < A.length) && (decide (x < i) && B.getD x false))) := by
  unfold orT
  simp only [List.getD_eq_getElem?_getD, List.getElem?_map]
  rcases Nat.lt_or_ge x A.length with h | h
  · rw [List.getElem?_range h]; simp [h]
  · rw [List.getElem?_eq_none (by simpa using h)]
    simp [List.getElem?_eq_none h, Nat.not_lt.2 h]
theorem boolExt {A B : List Bool} (hl : A.length = B.length) (h : ∀ x, A.getD x false = B.getD x false) : A = B := by
  apply List.ext_getElem hl
  intro i h1 h2
  have := h i
  simpa [List.getD_eq_getElem?_getD, h1, h2] using this
theorem getB_set {A : List Bool} {i x : Nat} {b : Bool} : (A.set i b).getD x false = if i = x ∧ x < A.length then b else A.getD x false := by
  simp only [List.getD_eq_getElem?_getD, List.getElem?_set]
  by_cases h : i = x
  · subst h
    by_cases h2 : i < A.length
    · simp [h2]
    · simp [h2, List.getElem?_eq_none (Nat.not_lt.1 h2)]
  · simp [h]
theorem orT_zero {A B : List Bool} : orT A B 0 = A := boolExt orT_len fun x => by rw [orT_get]; simp
theorem orT_set {A B : List Bool} {i : Nat} (hi : i < A.length) : (orT A B i).set i (A.getD i false || B.getD i false) = orT A B (i + 1) :=
  boolExt (by rw [List.length_set, orT_len, orT_len]) fun x => by
    rw [getB_set, orT_get, orT_get, orT_len]
    by_cases h : i = x
    · subst h; simp [hi]
    · have : decide (x < i) = decide (x < i + 1) := by
        rw [Bool.eq_iff_iff]; simp; omega
      simp [h, this]
theorem orT_keep {A B : List Bool} {i : Nat} (hi : i < A.length) (hb : A.getD i false = true) : (orT A B i).set i true = orT A B (i + 1) := by
  have := orT_set (B := B) hi
  rwa [hb, Bool.true_or] at this
def accL (l : List Nd) (roots : List Int) : Nat → List Bool
  | 0 => List.replicate l.length false
  | j + 1 => match roots[j]? with
    | some p => orT (accL l roots j) (inL l [p]) l.length
    | none => accL l roots j
theorem accL_len {l : List Nd} {roots : List Int} : ∀ {j : Nat}, (accL l roots j).length = l.length
  | 0 => by simp [accL]
  | j + 1 => by
    simp only [accL]
    split
    · rw [orT_len, accL_len]
    · exact accL_len
theorem accL_iff {l : List Nd} {roots : List Int} (hmay : ∀ i (h : i < l.length), mayB l[i] i = true) (hr : ∀ p ∈ roots, 0 ≤ p ∧ p < l.length) : ∀ {j : Nat}, j ≤ roots.length → ∀ {i : Nat}, (accL l roots j).getD i false = true ↔ ∃ p ∈ roots.take j, Tr l p.toNat i
  | 0, _, i => by
    simp only [accL, List.take_zero, List.not_mem_nil, false_and, exists_false, iff_false]
    simp only [List.getD_eq_getElem?_getD, List.getElem?_replicate]
    split <;> simp
  | j + 1, hj, i => by
    have ih := accL_iff hmay hr (j := j) (by omega) (i := i)
    have hj' : j < roots.length := hj
    have hp := hr _ (List.getElem_mem hj')
    have hin := inL_iff (l := l) (roots := [roots[j]]) hmay (by simp; omega) (i := i)
    simp only [List.mem_singleton, exists_eq_left] at hin
    simp only [accL, List.getElem?_eq_getElem hj']
    rw [orT_get, accL_len, List.take_succ_eq_append_getElem hj', Bool.or_eq_true, Bool.and_eq_true, Bool.and_eq_true, ih, hin]
    simp only [decide_eq_true_eq, List.mem_append, List.mem_singleton]
    constructor
    · rintro (⟨p, h1, h2⟩ | ⟨_, _, h⟩)
      · exact ⟨p, .inl h1, h2⟩
      · exact ⟨_, .inr rfl, h⟩
    · rintro ⟨p, h1 | rfl, h2⟩
      · exact .inl ⟨p, h1, h2⟩
      · have := h2.lt hmay
        exact .inr ⟨by omega, by omega, h2⟩
theorem accL_all {l : List Nd} {roots : List Int} (hmay : ∀ i (h : i < l.length), mayB l[i] i = true) (hr : ∀ p ∈ roots, 0 ≤ p ∧ p < l.length) : accL l roots roots.length = inL l roots :=
  boolExt (by rw [accL_len, inL_len]) fun x => by
    rw [Bool.eq_iff_iff, accL_iff hmay hr (Nat.le_refl _), inL_iff hmay hr, List.take_length]

theorem ints_one {ps : List Int} : (I1 .i64 ps).flatten.all AV.one = true := by
  induction ps with
  | nil => rfl
  | cons n l ih => simp only [I1, List.map_cons, List.flatten_cons, List.all_append] at ih ⊢; rw [ih]; rfl
theorem askP_of {l : List Nd} {ps : List Int} (hc : (checkP l).2 = 0) (h : ∀ p ∈ ps, 0 ≤ p ∧ p < l.length) : askP l ps = 0 := by
  unfold askP
  rw [if_neg (by simpa using hc), if_neg]
  rw [List.any_eq_true]
  rintro ⟨p, hp, h'⟩
  have := h p hp
  simp at h'; omega
theorem askP_two {l : List Nd} {ps : List Int} (hc : (checkP l).2 = 0) (h : askP l ps ≠ 0) : askP l ps = 2 := by
  unfold askP at h ⊢
  rw [if_neg (by simpa using hc)] at h ⊢
  split at h
  · rename_i h'; rw [if_pos h']
  · exact absurd rfl h
theorem askP_three {l : List Nd} {ps : List Int} (hc : ¬ (checkP l).2 = 0) : askP l ps = 3 := by
  unfold askP; rw [if_pos hc]

theorem law_only (l : List Nd) (roots : List Int) (v w : AV) (rcs : List AV) (rc : Nat → Nat) (H : Heap) (hl : ∀ n ∈ l, n.ok) (hrc : ∀ j, rc j < 4294967296) (hS : Shows H v 4 (l.map Nd.c)) (hP : Shows H w 1 (I1 .i64 roots)) (hr : RecOk rcs rc) :
    F X 6 [v, w, .agg rcs] H fun r _ => r = .bool true := by
  refine F_slim S6_eq rfl fun ρ hρ => ?_
  simp only [AGs] at hρ
  obtain ⟨h0, h1, h2, -⟩ := hρ
  have hlen := hS.lenA isSl_22
  rw [List.length_map] at hlen
  have hlenp := hP.lenA isSl_52
  rw [I1_len] at hlenp
  simp -implicitDefEqProofs only [↓gP, gQ, ↓reduceIte, Nat.reduceAdd, Nat.reduceEqDiff, Nat.reduceLT, Nat.reduceLeDiff, Int.reduceEq, S6, h0, h1, h2]
  refine CS_fn (F_tru rfl) ?_
  rintro _ _ ⟨rfl, rfl⟩
  simp -implicitDefEqProofs only [↓gP, gQ, ↓reduceIte, Nat.reduceAdd, Nat.reduceEqDiff, Nat.reduceLT, Nat.reduceLeDiff, Int.reduceEq, h0, h1, h2, hlen, hlenp]
  refine Br_dec (fun h => ?_) (fun h => ?_) <;> simp -implicitDefEqProofs only [↓gP, gQ, ↓reduceIte, Nat.reduceAdd, Nat.reduceEqDiff, Nat.reduceLT, Nat.reduceLeDiff, Int.reduceEq, h0, h1, h2, hlen, hlenp, h]
  · refine CS_fn (F_tru rfl) ?_
    rintro _ _ ⟨rfl, rfl⟩
    simp -implicitDefEqProofs only [↓gP, gQ, ↓reduceIte, Nat.reduceAdd, Nat.reduceEqDiff, Nat.reduceLT, Nat.reduceLeDiff, Int.reduceEq, h0, hlen]
  refine Br_dec (fun h20 => ?_) (fun h20 => ?_) <;> simp -implicitDefEqProofs only [↓gP, gQ, ↓reduceIte, Nat.reduceAdd, Nat.reduceEqDiff, Nat.reduceLT, Nat.reduceLeDiff, Int.reduceEq, h0, h1, h2, hlen, hlenp, h, h20]
  · refine CS_fn (F_tru rfl) ?_
    rintro _ _ ⟨rfl, rfl⟩
    simp -implicitDefEqProofs only [↓gP, gQ, ↓reduceIte, Nat.reduceAdd, Nat.reduceEqDiff, Nat.reduceLT, Nat.reduceLeDiff, Int.reduceEq, h0, hlen]
  generalize hH1 : H ++ [AObj.cells rcs 25 0 false] = H1
  have hE1 : Ext H H1 := by rw [← hH1]; exact Ext.refl.app
  have hrec1 : H1[H.length]? = some (.cells rcs 25 0 false) := by rw [← hH1]; exact hp_get0
  obtain ⟨v2, H2, e2, hO2, hE2, hS2⟩ := copySl (H := H1) slT_22 rfl (by decide) (hS.ext hE1) nds_one (by rw [List.length_map]; omega) (by rw [List.length_map]; omega)
  simp -implicitDefEqProofs only [↓gP, gQ, ↓reduceIte, Nat.reduceAdd, Nat.reduceEqDiff, Nat.reduceLT, Nat.reduceLeDiff, Int.reduceEq, h0, h1, h2, hlen, bldSl0 (k := 0) slT_22 rfl (by decide), e2]
  obtain ⟨w2, H3, e3, hO3, hE3, hP3⟩ := copySl (H := H2) slT_52 rfl (by decide) ((hP.ext hE1).ext hE2) ints_one (by rw [I1_len]; omega) (by rw [I1_len]; omega)
  simp -implicitDefEqProofs only [↓gP, gQ, ↓reduceIte, Nat.reduceAdd, Nat.reduceEqDiff, Nat.reduceLT, Nat.reduceLeDiff, Int.reduceEq, h0, h1, h2, hlen, bldSl0 (k := 0) slT_52 rfl (by decide), e3]
  refine CS_fn (only_spec l roots v2 w2 _ (hS2.ext hE3) hP3 (by omega)) ?_
  rintro r H4 ⟨hE4, hr4⟩
  have hE14 := (hE2.trans hE3).trans hE4
  obtain ⟨A, Bv, rfl, hA0, hA1⟩ : ∃ A Bv, r = .tup [A, Bv, .int .i64 (askP l roots)] ∧ (askP l roots ≠ 0 → A = .nilsl ∧ Bv = .nilsl) ∧ (askP l roots = 0 → Shows H4 A 4 ((onlyP l (inL l roots) l.length).1.map Nd.c) ∧ Shows H4 Bv 1 (I1 .i64 (roots.map fun p => ((onlyP l (inL l roots) l.length).2.getD p.toNat 0 : Nat)))) := by
    by_cases ha : askP l roots = 0
    · rw [if_neg (by simpa using ha)] at hr4
      obtain ⟨A, Bv, h1, h2, h3⟩ := hr4
      exact ⟨A, Bv, by rw [ha]; exact h1, fun h => absurd ha h, fun _ => ⟨h2, h3⟩⟩
    · rw [if_pos ha] at hr4
      exact ⟨_, _, hr4, fun _ => ⟨rfl, rfl⟩, fun h => absurd h ha⟩
  clear hr4
  have lenN : ∀ (t : TypeId), isSl Try.prog t = true → lenA Try.prog t .nilsl = some (.int .i64 0) := fun t ht => Shows.lenA (H := H) (v := .nilsl) (sz := 1) (L := []) ⟨by simp, rfl⟩ ht
  simp -implicitDefEqProofs only [↓gP, gQ, ↓reduceIte, Nat.reduceAdd, Nat.reduceEqDiff, Nat.reduceLT, Nat.reduceLeDiff, Int.reduceEq, h0, h1, h2, hlen]
  refine CS_fn (right_spec l v _ ((hS.ext hE1).ext hE14)) ?_
  rintro _ H5 ⟨rfl, hE5⟩
  have hE15 := hE14.trans hE5
  simp -implicitDefEqProofs only [↓gP, gQ, ↓reduceIte, Nat.reduceAdd, Nat.reduceEqDiff, Nat.reduceLT, Nat.reduceLeDiff, Int.reduceEq, h0, hlen]
  refine Br_bool (fun hR => ?_) (fun hR => ?_) <;> simp -implicitDefEqProofs only [↓gP, gQ, ↓reduceIte, Nat.reduceAdd, Nat.reduceEqDiff, Nat.reduceLT, Nat.reduceLeDiff, Int.reduceEq, h0, hlen, hR]
  case' refine_2 =>
    have hc : ¬ (checkP l).2 = 0 := fun h => by rw [right_ok.2 h] at hR; cases hR
    have ha := askP_three (ps := roots) hc
    obtain ⟨rfl, rfl⟩ := hA0 (by rw [ha]; decide)
    rw [ha]
    simp -implicitDefEqProofs only [↓gP, gQ, ↓reduceIte, Nat.reduceAdd, Nat.reduceEqDiff, Nat.reduceLT, Nat.reduceLeDiff, Int.reduceEq, h0, hlen, lenN _ isSl_22, lenN _ isSl_52]
  have hc := right_ok.1 hR
  obtain ⟨hn, hmay⟩ := checkP_ok hc
  have hmk := mkSl (H := H5) (k := .i64) (k' := .i64) (n := l.length) slT_50 (by omega) (by omega) rfl (by omega)
  rw [B_zero, Nat.mul_one] at hmk
  simp -implicitDefEqProofs only [↓gP, gQ, ↓reduceIte, Nat.reduceAdd, Nat.reduceEqDiff, Nat.reduceLT, Nat.reduceLeDiff, Int.reduceEq, h0, h1, hlen, hlenp, hmk]
  refine loop_rule (fun k ρ' H' D' => ∃ j born, k = roots.length - j ∧ j ≤ roots.length ∧ (∀ p ∈ roots.take j, 0 ≤ p ∧ p < l.length) ∧ ρ' 65 = .int .i64 (j : Nat) ∧ ρ' 64 = .int .i64 (roots.length : Nat) ∧ ρ' 63 = w ∧ ρ' 10 = .sl H5.length 0 l.length l.length 1 ∧ ρ' 9 = .int .i64 (askP l roots) ∧ ρ' 8 = Bv ∧ ρ' 7 = A ∧ ρ' 5 = .ptr H.length 0 16 ∧ ρ' 0 = v ∧ ρ' 1 = w ∧
      Ext H5 H' ∧ born ≤ l.length ∧ H'[H5.length]? = some (.cells (B (accL l roots j)) 4 born false) ∧ D' = []) roots.length
    ⟨0, 0, by simp, by simp, by simp, by simp only [up_get]; rfl, by simp only [up_get]; rfl, by simp only [up_get]; rfl, by simp only [up_get]; rfl, by simp only [up_get]; rfl, by simp only [up_get]; rfl, by simp only [up_get]; rfl, by simp only [up_get]; rw [hr.1]; rfl, by simp only [up_get]; exact h0, by simp only [up_get]; exact h1, Ext.refl.app, by omega, hp_get0, rfl⟩ ?_
  rintro k ρ' H' D' ⟨j, born, hk, hj, hin, e65, e64, e63, e10, e9, e8, e7, e5, e0, e1, hE, hborn, hobj, rfl⟩
  have hEn := hE1.trans (hE15.trans hE)
  simp -implicitDefEqProofs only [↓gP, gQ, ↓reduceIte, Nat.reduceAdd, Nat.reduceEqDiff, Nat.reduceLT, Nat.reduceLeDiff, Int.reduceEq, S6L1, e65, e64, e63, e10, e9, e8, e7, e5, e0, e1]
  refine Br_dec (fun g => ?_) (fun g => ?_)
  · have hj' : j < roots.length := by omega
    obtain ⟨px, pld⟩ := (hP.ext hEn).ints
    simp -implicitDefEqProofs only [↓gP, gQ, ↓reduceIte, Nat.reduceAdd, Nat.reduceEqDiff, Nat.reduceLT, Nat.reduceLeDiff, Int.reduceEq, e65, e64, e63, e10, e9, e8, e7, e5, e0, e1, px, pld _ _ hj' Ext.refl, hj', hlen]
    have bad : ¬ (0 ≤ roots[j] ∧ roots[j] < l.length) → askP l roots = 2 ∧ A = .nilsl ∧ Bv = .nilsl := fun hb => by
      have : askP l roots ≠ 0 := fun h => hb ((askP_ok h).2 _ (List.getElem_mem hj'))
      exact ⟨askP_two hc this, hA0 this⟩
    refine Br_dec (fun g1 => ?_) (fun g1 => ?_) <;> simp -implicitDefEqProofs only [↓gP, gQ, ↓reduceIte, Nat.reduceAdd, Nat.reduceEqDiff, Nat.reduceLT, Nat.reduceLeDiff, Int.reduceEq, e65, e64, e63, e10, e9, e8, e7, e5, e0, e1, px, pld _ _ hj' Ext.refl, hj', hlen, g1]
    · obtain ⟨b1, rfl, rfl⟩ := bad (by omega)
      simp -implicitDefEqProofs only [↓gP, gQ, ↓reduceIte, Nat.reduceAdd, Nat.reduceEqDiff, Nat.reduceLT, Nat.reduceLeDiff, Int.reduceEq, e65, e64, e63, e10, e9, e8, e7, e5, e0, e1, b1, lenN _ isSl_22, lenN _ isSl_52]
    · refine Br_dec (fun g2 => ?_) (fun g2 => ?_)
      · obtain ⟨b1, rfl, rfl⟩ := bad (by omega)
        simp -implicitDefEqProofs only [↓gP, gQ, ↓reduceIte, Nat.reduceAdd, Nat.reduceEqDiff, Nat.reduceLT, Nat.reduceLeDiff, Int.reduceEq, e65, e64, e63, e10, e9, e8, e7, e5, e0, e1, b1, lenN _ isSl_22, lenN _ isSl_52]
      · obtain ⟨x, hx⟩ : ∃ x : Nat, roots[j] = x := ⟨roots[j].toNat, (Int.toNat_of_nonneg (by omega)).symm⟩
        have hxl : x < l.length := by omega
        rw [hx]
        simp -implicitDefEqProofs only [↓gP, gQ, ↓reduceIte, Nat.reduceAdd, Nat.reduceEqDiff, Nat.reduceLT, Nat.reduceLeDiff, Int.reduceEq, e65, e64, e63, e10, e9, e8, e7, e5, e0, e1]
        refine CS_fn (rin_spec l x v _ (hS.ext hEn) hmay hxl hn) ?_
        rintro _ H6 ⟨hE6, id, bornL, hid, rfl, hbornL, hobjL⟩
        have hobj6 := hE6 _ _ hobj
        have hBl : (B (inL l [(x : Int)])).length = l.length := by rw [B_len, inL_len]
        have hlenB := (shows_own hobjL (by unfold inL at hBl; rw [hBl]; exact hbornL) hBl).lenA isSl_50
        rw [List.length_map, B_len, ← inL, inL_len] at hlenB
        have hidne : H5.length ≠ id := by
          have : H5.length < H'.length := by rw [List.getElem?_eq_some_iff] at hobj; exact hobj.1
          omega
        simp -implicitDefEqProofs only [↓gP, gQ, ↓reduceIte, Nat.reduceAdd, Nat.reduceEqDiff, Nat.reduceLT, Nat.reduceLeDiff, Int.reduceEq, e65, e64, e63, e10, e9, e8, e7, e5, e0, e1, hlenB]
        refine loop_rule (fun k ρ' H' D' => ∃ i born, k = l.length - i ∧ i ≤ l.length ∧ ρ' 93 = .int .i64 (i : Nat) ∧ ρ' 92 = .int .i64 (l.length : Nat) ∧ ρ' 91 = .sl id 0 l.length l.length 1 ∧ ρ' 65 = .int .i64 (j : Nat) ∧ ρ' 64 = .int .i64 (roots.length : Nat) ∧ ρ' 63 = w ∧ ρ' 10 = .sl H5.length 0 l.length l.length 1 ∧ ρ' 9 = .int .i64 (askP l roots) ∧ ρ' 8 = Bv ∧ ρ' 7 = A ∧ ρ' 5 = .ptr H.length 0 16 ∧ ρ' 0 = v ∧ ρ' 1 = w ∧
            Ext H5 H' ∧ born ≤ l.length ∧ H'[H5.length]? = some (.cells (B (orT (accL l roots j) (inL l [(x : Int)]) i)) 4 born false) ∧ H'[id]? = some (.cells (B (inL l [(x : Int)])) 4 bornL false) ∧ D' = []) l.length
          ⟨0, born, by simp, by simp, by simp only [up_get]; rfl, by simp only [up_get]; rfl, by simp only [up_get]; rfl, by simp only [up_get]; exact e65, by simp only [up_get]; exact e64, by simp only [up_get]; exact e63, by simp only [up_get]; exact e10, by simp only [up_get]; exact e9, by simp only [up_get]; exact e8, by simp only [up_get]; exact e7, by simp only [up_get]; exact e5, by simp only [up_get]; exact e0, by simp only [up_get]; exact e1,
            hE.trans hE6, hborn, by rw [orT_zero]; exact hobj6, hobjL, rfl⟩ ?_
        clear e65 e64 e63 e10 e9 e8 e7 e5 e0 e1 hE hEn hobj hborn hobj6 hobjL hE6 px pld
        rintro k ρ' H' D' ⟨i, born, hk, hi, e93, e92, e91, e65, e64, e63, e10, e9, e8, e7, e5, e0, e1, hE, hborn, hobj, hobjL, rfl⟩
        simp -implicitDefEqProofs only [↓gP, gQ, ↓reduceIte, Nat.reduceAdd, Nat.reduceEqDiff, Nat.reduceLT, Nat.reduceLeDiff, Int.reduceEq, S6L2, e93, e92, e91, e65, e64, e63, e10, e9, e8, e7, e5, e0, e1]
        refine Br_dec (fun g3 => ?_) (fun g3 => ?_)
        · have hi' : i < l.length := by omega
          have hi1 : i + 1 ≤ l.length := hi'
          have hwi : IntKind.i64.wrap ((i : Int) + 1) = ((i + 1 : Nat) : Int) := by rw [wrap64 (by omega) (by omega)]; rfl
          have hol : (orT (accL l roots j) (inL l [(x : Int)]) i).length = l.length := by rw [orT_len, accL_len]
          have hoB : (B (orT (accL l roots j) (inL l [(x : Int)]) i)).length = l.length := by rw [B_len, hol]
          have hgo : (orT (accL l roots j) (inL l [(x : Int)]) i)[i]'(by omega) = (accL l roots j).getD i false := by
            have h1 := orT_get (A := accL l roots j) (B := inL l [(x : Int)]) (i := i) (x := i)
            simp only [Nat.lt_irrefl, decide_false, Bool.false_and, Bool.and_false, Bool.or_false] at h1
            rw [← h1]; simp [List.getD_eq_getElem?_getD, hol, hi']
          have hgb : (inL l [(x : Int)])[i]'(by rw [inL_len]; exact hi') = (inL l [(x : Int)]).getD i false := by simp [List.getD_eq_getElem?_getD, inL_len, hi']
          have g1 := B_get (L := orT (accL l roots j) (inL l [(x : Int)]) i) (p := i) (by omega)
          have g2 := B_get (L := inL l [(x : Int)]) (p := i) (by rw [inL_len]; exact hi')
          rw [hgo] at g1
          rw [hgb] at g2
          have hlacc : i < (accL l roots j).length := by rw [accL_len]; exact hi'
          have fin : ∀ L', L' = orT (accL l roots j) (inL l [(x : Int)]) (i + 1) → Ext H5 (H'.set H5.length (.cells (B L') 4 l.length false)) ∧ (H'.set H5.length (.cells (B L') 4 l.length false))[H5.length]? = some (.cells (B (orT (accL l roots j) (inL l [(x : Int)]) (i + 1))) 4 l.length false) ∧ (H'.set H5.length (.cells (B L') 4 l.length false))[id]? = some (.cells (B (inL l [(x : Int)])) 4 bornL false) := by
            rintro L' rfl
            obtain ⟨d1, d2⟩ := own_set hE (Nat.le_refl _) hobj (o' := .cells (B (orT (accL l roots j) (inL l [(x : Int)]) (i + 1))) 4 l.length false)
            exact ⟨d1, d2, by rw [List.getElem?_set_ne hidne]; exact hobjL⟩
          simp -implicitDefEqProofs only [↓gP, gQ, ↓reduceIte, Nat.reduceAdd, Nat.reduceEqDiff, Nat.reduceLT, Nat.reduceLeDiff, Int.reduceEq, e93, e92, e91, e65, e64, e63, e10, e9, e8, e7, e5, e0, e1, ix_own1 hi', hobj, hobjL, hoB, hBl, hborn, hbornL, hi', g1, g2]
          refine Br_bool (fun gb => ?_) (fun gb => ?_)
          · obtain ⟨f1, f2, f3⟩ := fin _ (orT_keep (B := inL l [(x : Int)]) hlacc gb)
            simp -implicitDefEqProofs only [↓gP, gQ, ↓reduceIte, Nat.reduceAdd, Nat.reduceEqDiff, Nat.reduceLT, Nat.reduceLeDiff, Int.reduceEq, e93, e92, e91, e65, e64, e63, e10, e9, e8, e7, e5, e0, e1, ix_own1 hi', hobj, hobjL, hoB, hBl, hborn, hbornL, hi', hi1, gb, hwi, B_set]
            exact ⟨l.length - (i + 1), by omega, i + 1, l.length, rfl, hi', by trivial, by trivial, by trivial, by trivial, by trivial, by trivial, by trivial, by trivial, by trivial, by trivial, by trivial, by trivial, by trivial, f1, Nat.le_refl _, f2, f3, by trivial⟩
          · have hos := orT_set (B := inL l [(x : Int)]) hlacc
            rw [gb, Bool.false_or] at hos
            obtain ⟨f1, f2, f3⟩ := fin _ hos
            simp -implicitDefEqProofs only [↓gP, gQ, ↓reduceIte, Nat.reduceAdd, Nat.reduceEqDiff, Nat.reduceLT, Nat.reduceLeDiff, Int.reduceEq, e93, e92, e91, e65, e64, e63, e10, e9, e8, e7, e5, e0, e1, ix_own1 hi', hobj, hobjL, hoB, hBl, hborn, hbornL, hi', hi1, gb, g2, hwi, B_set]
            exact ⟨l.length - (i + 1), by omega, i + 1, l.length, rfl, hi', by trivial, by trivial, by trivial, by trivial, by trivial, by trivial, by trivial, by trivial, by trivial, by trivial, by trivial, by trivial, by trivial, f1, Nat.le_refl _, f2, f3, by trivial⟩
        · have : i = l.length := by omega
          subst this
          have hwj : IntKind.i64.wrap ((j : Int) + 1) = ((j + 1 : Nat) : Int) := by rw [wrap64 (by omega) (by omega)]; rfl
          simp -implicitDefEqProofs only [↓gP, gQ, ↓reduceIte, Nat.reduceAdd, Nat.reduceEqDiff, Nat.reduceLT, Nat.reduceLeDiff, Int.reduceEq, e93, e92, e91, e65, e64, e63, e10, e9, e8, e7, e5, e0, e1, hwj]
          refine ⟨roots.length - (j + 1), by omega, j + 1, born, rfl, hj', ?_, by trivial, by trivial, by trivial, by trivial, by trivial, by trivial, by trivial, by trivial, by trivial, by trivial, hE, hborn, ?_, by trivial⟩
          · rw [List.take_succ_eq_append_getElem hj']
            intro p hp
            rcases List.mem_append.1 hp with hp | hp
            · exact hin p hp
            · simp at hp; subst hp; omega
          · have : accL l roots (j + 1) = orT (accL l roots j) (inL l [(x : Int)]) l.length := by
              simp only [accL, List.getElem?_eq_getElem hj', hx]
            rw [this]; exact hobj
  · have : j = roots.length := by omega
    subst this
    rw [List.take_length] at hin
    have ha : askP l roots = 0 := askP_of hc hin
    obtain ⟨hA, hB⟩ := hA1 ha
    rw [accL_all hmay hin] at hobj
    have hE5n := hE15.trans hE
    have hA' := (hA.ext hE5).ext hE
    have hB' := (hB.ext hE5).ext hE
    have hcl : ∀ i n, (inL l roots).getD i false = true → l[i]? = some n → ∀ p ∈ partsZ n, (inL l roots).getD p.toNat false = true := by
      intro i n h1 h2 p hp
      obtain ⟨q, hq, ht⟩ := (inL_iff hmay hin).1 h1
      exact (inL_iff hmay hin).2 ⟨q, hq, ht.app h2 hp⟩
    have hLl : (inL l roots).length = l.length := inL_len
    have hroot : ∀ p ∈ roots, (inL l roots).getD p.toNat false = true := fun p hp => (inL_iff hmay hin).2 ⟨p, hp, .refl _⟩
    generalize inL l roots = L at *
    have hro := only_right hmay hcl hn
    have hvals := only_vals hmay hcl (rc := rc)
    have hget := fun i (hi : i < l.length) (h : L.getD i false = true) => only_get hi (Nat.le_refl _) hi h
    have hto := fun i (hi : i < l.length) (h : L.getD i false = true) => only_to hi (Nat.le_refl _) h
    have hltO := fun i (hi : i < l.length) (h : L.getD i false = true) => only_lt hi (Nat.le_refl _) h
    have hlenO := (onlyP_len (l := l) (L := L) (Nat.le_refl l.length)).2
    have hokO : ∀ n ∈ (onlyP l L l.length).1, n.ok := by
      intro n hm
      obtain ⟨k, hk, rfl⟩ := List.getElem_of_mem hm
      obtain ⟨i, hi, hL, e⟩ := only_from (Nat.le_refl _) hk
      have := hget i hi hL
      rw [← e, List.getElem?_eq_getElem hk] at this
      rw [Option.some.inj this]
      exact renum_ok (hl _ (List.getElem_mem hi))
    have hlenA := hA'.lenA isSl_22
    rw [List.length_map] at hlenA
    have hlenB := hB'.lenA isSl_52
    rw [I1_len, List.length_map] at hlenB
    rw [ha] at e9
    simp -implicitDefEqProofs only [↓gP, gQ, ↓reduceIte, Nat.reduceAdd, Nat.reduceEqDiff, Nat.reduceLT, Nat.reduceLeDiff, Int.reduceEq, e65, e64, e63, e10, e9, e8, e7, e5, e0, e1, hlen, hlenp, hlenA, hlenB, eq_self]
    refine CS_fn (right_spec _ _ _ hA') ?_
    rintro _ H6 ⟨rfl, hE6⟩
    have hRo : rightB (onlyP l L l.length).1 = true := right_ok.2 hro
    have hE6n := hE5n.trans hE6
    simp -implicitDefEqProofs only [↓gP, gQ, ↓gL, gM, ↓reduceIte, Nat.reduceAdd, Nat.reduceEqDiff, Nat.reduceLT, Nat.reduceLeDiff, Int.reduceEq, e65, e64, e63, e10, e9, e8, e7, e5, e0, e1, hRo, hE6n _ _ hrec1, ldO_rec hr.1]
    refine CSL_fn (rvalues_spec l v rcs rc _ hl hrc ((hS.ext hE1).ext hE6n) hr hc) ?_
    rintro _ H7 ⟨hE7, i1, b1, -, rfl, hb1, ho1⟩
    have hE7n := hE6n.trans hE7
    simp -implicitDefEqProofs only [↓gP, gQ, ↓gL, gM, ↓reduceIte, Nat.reduceAdd, Nat.reduceEqDiff, Nat.reduceLT, Nat.reduceLeDiff, Int.reduceEq, e65, e64, e63, e10, e9, e8, e7, e5, e0, e1, hRo, hE7n _ _ hrec1, ldO_rec hr.1]
    refine CSL_fn (rvalues_spec _ A rcs rc _ hokO hrc ((hA'.ext hE6).ext hE7) hr hro) ?_
    rintro _ H8 ⟨hE8, i2, b2, -, rfl, hb2, ho2⟩
    have hE8n := hE7n.trans hE8
    simp -implicitDefEqProofs only [↓gP, gQ, ↓gL, gM, ↓reduceIte, Nat.reduceAdd, Nat.reduceEqDiff, Nat.reduceLT, Nat.reduceLeDiff, Int.reduceEq, e65, e64, e63, e10, e9, e8, e7, e5, e0, e1, hRo]
    rw [thenL_eq]
    refine ⟨?_, ?_⟩
    · intro q hq
      simp only [List.mem_singleton] at hq
      subst hq
      refine same_load (v := .agg rcs) rfl rfl rfl ?_ ?_
      · simp -implicitDefEqProofs only [↓gP, gQ, ↓reduceIte, Nat.reduceAdd, Nat.reduceEqDiff, Nat.reduceLT, Nat.reduceLeDiff, Int.reduceEq, e65, e64, e63, e10, e9, e8, e7, e5, e0, e1, hE7n _ _ hrec1, ldO_rec hr.1]
      · simp -implicitDefEqProofs only [↓gP, gQ, ↓reduceIte, Nat.reduceAdd, Nat.reduceEqDiff, Nat.reduceLT, Nat.reduceLeDiff, Int.reduceEq, e65, e64, e63, e10, e9, e8, e7, e5, e0, e1, hE6n _ _ hrec1, ldO_rec hr.1]
    have hob1 := hE8 _ _ ho1
    have hobB := ((hE6.trans hE7).trans hE8) _ _ hobj
    have hE58 := hE5n.trans (hE6.trans (hE7.trans hE8))
    have hA8 := hA'.ext (hE6.trans (hE7.trans hE8))
    have hB8 := hB'.ext (hE6.trans (hE7.trans hE8))
    have hP8 := hP.ext (hE1.trans hE58)
    obtain ⟨nx, nf, nop, -, -, nk, -⟩ := (hS.ext (hE1.trans hE58)).nodes
    obtain ⟨ax, af, aop, -, -, ak, -⟩ := hA8.nodes
    obtain ⟨bx, bld⟩ := hB8.ints
    obtain ⟨px, pld⟩ := hP8.ints
    have hW1 : (W32 (valsL l rc l.length)).length = l.length := by rw [W32_len, valsL_len]
    have hW2 : (W32 (valsL (onlyP l L l.length).1 rc (onlyP l L l.length).1.length)).length = (onlyP l L l.length).1.length := by rw [W32_len, valsL_len]
    have gW : ∀ (m : List Nd) j, j < m.length → (W32 (valsL m rc m.length))[j]? = some (.int .u32 ((valsL m rc m.length).getD j 0 : Nat)) := fun m j hj => by
      have : j < (valsL m rc m.length).length := by rw [valsL_len]; exact hj
      simp [W32, List.getElem?_eq_getElem this]
    have hBl : (B L).length = l.length := by rw [B_len, hLl]
    clear hA hA' hB hB' hA1 hA0 hE6n hE7n hE8n
    simp -implicitDefEqProofs only [↓gP, gQ, ↓reduceIte, Nat.reduceAdd, Nat.reduceEqDiff, Nat.reduceLT, Nat.reduceLeDiff, Int.reduceEq, e65, e64, e63, e10, e9, e8, e7, e5, e0, e1, hlen]
    refine loop_rule (fun k ρ' H' D' => ∃ i, k = l.length - i ∧ i ≤ l.length ∧ ρ' 132 = .int .i64 (i : Nat) ∧ ρ' 131 = .int .i64 (l.length : Nat) ∧ ρ' 17 = .int .i64 ((onlyP l L i).1.length : Nat) ∧ ρ' 16 = .sl i2 0 (onlyP l L l.length).1.length (onlyP l L l.length).1.length 1 ∧ ρ' 15 = .sl i1 0 l.length l.length 1 ∧ ρ' 10 = .sl H5.length 0 l.length l.length 1 ∧ ρ' 8 = Bv ∧ ρ' 7 = A ∧ ρ' 0 = v ∧ ρ' 1 = w ∧ H8 = H' ∧ D' = []) l.length
      ⟨0, by simp, by simp, by simp only [up_get]; rfl, by simp only [up_get]; rfl, by simp only [up_get]; rfl, by simp only [up_get]; rfl, by simp only [up_get]; rfl, by simp only [up_get]; exact e10, by simp only [up_get]; exact e8, by simp only [up_get]; exact e7, by simp only [up_get]; exact e0, by simp only [up_get]; exact e1, rfl, rfl⟩ ?_
    clear e65 e64 e63 e10 e9 e8 e7 e5 e0 e1
    rintro k ρ' H' D' ⟨i, hk, hi, e132, e131, e17, e16, e15, e10, e8, e7, e0, e1, rfl, rfl⟩
    simp -implicitDefEqProofs only [↓gP, gQ, ↓reduceIte, Nat.reduceAdd, Nat.reduceEqDiff, Nat.reduceLT, Nat.reduceLeDiff, Int.reduceEq, S6L3, e132, e131, e17, e16, e15, e10, e8, e7, e0, e1]
    refine Br_dec (fun g3 => ?_) (fun g3 => ?_)
    · have hi' : i < l.length := by omega
      have hiL : i < L.length := by omega
      have hwi : IntKind.i64.wrap ((i : Int) + 1) = ((i + 1 : Nat) : Int) := by rw [wrap64 (by omega) (by omega)]; rfl
      have hgd : L.getD i false = L[i] := by simp [List.getD_eq_getElem?_getD, hiL]
      simp -implicitDefEqProofs only [↓gP, gQ, ↓reduceIte, Nat.reduceAdd, Nat.reduceEqDiff, Nat.reduceLT, Nat.reduceLeDiff, Int.reduceEq, e132, e131, e17, e16, e15, e10, e8, e7, e0, e1, ix_own1 hi', hobB, hBl, hborn, hi', B_get hiL]
      refine Br_bool (fun g4 => ?_) (fun g4 => ?_)
      · rw [g4] at hgd
        have hlt := hltO i hi' hgd
        have hgt := hget i hi' hgd
        rw [List.getElem?_eq_getElem hlt] at hgt
        have hgt' := Option.some.inj hgt
        have hop : (onlyP l L l.length).1[(onlyP l L i).1.length].op = l[i].op := by rw [hgt']; exact renum_op.1
        have hkk : (onlyP l L l.length).1[(onlyP l L i).1.length].k = l[i].k := by rw [hgt']; exact renum_op.2
        have hv := hvals i hi' hgd
        have hsucc : (onlyP l L (i + 1)).1.length = (onlyP l L i).1.length + 1 := by rw [only_in hi' hgd]; simp
        have hwk : IntKind.i64.wrap (((onlyP l L i).1.length : Int) + 1) = ((onlyP l L (i + 1)).1.length : Int) := by rw [hsucc, wrap64 (by omega) (by omega)]; rfl
        have hnle : ¬ ((onlyP l L l.length).1.length : Int) ≤ ((onlyP l L i).1.length : Int) := by omega
        simp -implicitDefEqProofs only [↓gP, gQ, ↓reduceIte, Nat.reduceAdd, Nat.reduceEqDiff, Nat.reduceLT, Nat.reduceLeDiff, Int.reduceEq, e132, e131, e17, e16, e15, e10, e8, e7, e0, e1, hlenA, hnle, ax, af, nx, nf, aop _ _ hlt Ext.refl, nop _ _ hi' Ext.refl, ak _ _ hlt Ext.refl, nk _ _ hi' Ext.refl, hlt, hi', hop, hkk, eq_self, ix_own1 hi', ix_own1 hlt, hob1, ho2, hb1, hb2, hW1, hW2, gW _ _ hi', gW _ _ hlt, hv, hwk, hwi]
        exact ⟨l.length - (i + 1), by omega, i + 1, rfl, hi', by trivial, by trivial, by trivial, by trivial, by trivial, by trivial, by trivial, by trivial, by trivial, by trivial, by trivial, by trivial⟩
      · rw [g4] at hgd
        have hsucc : (onlyP l L (i + 1)).1.length = (onlyP l L i).1.length := by rw [only_out hi' hgd]
        simp -implicitDefEqProofs only [↓gP, gQ, ↓reduceIte, Nat.reduceAdd, Nat.reduceEqDiff, Nat.reduceLT, Nat.reduceLeDiff, Int.reduceEq, e132, e131, e17, e16, e15, e10, e8, e7, e0, e1, hwi]
        exact ⟨l.length - (i + 1), by omega, i + 1, rfl, hi', by trivial, by trivial, by rw [hsucc], by trivial, by trivial, by trivial, by trivial, by trivial, by trivial, by trivial, by trivial, by trivial⟩
    · have : i = l.length := by omega
      subst this
      simp -implicitDefEqProofs only [↓gP, gQ, ↓reduceIte, Nat.reduceAdd, Nat.reduceEqDiff, Nat.reduceLT, Nat.reduceLeDiff, Int.reduceEq, e132, e131, e17, e16, e15, e10, e8, e7, e0, e1, hlenp]
      refine loop_rule (fun k ρ' H' D' => ∃ j, k = roots.length - j ∧ j ≤ roots.length ∧ ρ' 186 = .int .i64 (j : Nat) ∧ ρ' 185 = .int .i64 (roots.length : Nat) ∧ ρ' 184 = w ∧ ρ' 17 = .int .i64 ((onlyP l L l.length).1.length : Nat) ∧ ρ' 16 = .sl i2 0 (onlyP l L l.length).1.length (onlyP l L l.length).1.length 1 ∧ ρ' 15 = .sl i1 0 l.length l.length 1 ∧ ρ' 8 = Bv ∧ ρ' 7 = A ∧ ρ' 0 = v ∧ ρ' 1 = w ∧ H8 = H' ∧ D' = []) roots.length
        ⟨0, by simp, by simp, by simp only [up_get]; rfl, by simp only [up_get]; rfl, by simp only [up_get]; rfl, by simp only [up_get]; exact e17, by simp only [up_get]; exact e16, by simp only [up_get]; exact e15, by simp only [up_get]; exact e8, by simp only [up_get]; exact e7, by simp only [up_get]; exact e0, by simp only [up_get]; exact e1, rfl, rfl⟩ ?_
      clear e132 e131 e17 e16 e15 e10 e8 e7 e0 e1
      rintro k ρ' H' D' ⟨j, hk, hj, e186, e185, e184, e17, e16, e15, e8, e7, e0, e1, rfl, rfl⟩
      simp -implicitDefEqProofs only [↓gP, gQ, ↓reduceIte, Nat.reduceAdd, Nat.reduceEqDiff, Nat.reduceLT, Nat.reduceLeDiff, Int.reduceEq, S6L4, e186, e185, e184, e17, e16, e15, e8, e7, e0, e1]
      refine Br_dec (fun g4 => ?_) (fun g4 => ?_)
      · have hj' : j < roots.length := by omega
        have hwj : IntKind.i64.wrap ((j : Int) + 1) = ((j + 1 : Nat) : Int) := by rw [wrap64 (by omega) (by omega)]; rfl
        obtain ⟨p0, p1⟩ := hin _ (List.getElem_mem hj')
        obtain ⟨x, hx⟩ : ∃ x : Nat, roots[j] = x := ⟨roots[j].toNat, (Int.toNat_of_nonneg p0).symm⟩
        have hxl : x < l.length := by omega
        have hLx := hroot _ (List.getElem_mem hj')
        rw [hx, Int.toNat_natCast] at hLx
        have hlt := hltO x hxl hLx
        have htx := hto x hxl hLx
        have hgt := hget x hxl hLx
        rw [List.getElem?_eq_getElem hlt] at hgt
        have hgt' := Option.some.inj hgt
        have hop : (onlyP l L l.length).1[(onlyP l L x).1.length].op = l[x].op := by rw [hgt']; exact renum_op.1
        have hkk : (onlyP l L l.length).1[(onlyP l L x).1.length].k = l[x].k := by rw [hgt']; exact renum_op.2
        have hv := hvals x hxl hLx
        have hjb : j < (roots.map fun p => (((onlyP l L l.length).2.getD p.toNat 0 : Nat) : Int)).length := by rw [List.length_map]; exact hj'
        have hbv := bld _ j hjb Ext.refl
        rw [List.getElem_map, hx, Int.toNat_natCast, htx] at hbv
        have hnle : ¬ ((onlyP l L l.length).1.length : Int) ≤ ((onlyP l L x).1.length : Int) := by omega
        have hnlt : ¬ ((onlyP l L x).1.length : Int) < 0 := by omega
        have hpx := pld _ j hj' Ext.refl
        rw [hx] at hpx
        simp -implicitDefEqProofs only [↓gP, gQ, ↓reduceIte, Nat.reduceAdd, Nat.reduceEqDiff, Nat.reduceLT, Nat.reduceLeDiff, Int.reduceEq, e186, e185, e184, e17, e16, e15, e8, e7, e0, e1, px, hj', hpx, bx _ _ _ hjb, hbv, hnlt, hlenA, hnle, ax, af, nx, nf, aop _ _ hlt Ext.refl, nop _ _ hxl Ext.refl, ak _ _ hlt Ext.refl, nk _ _ hxl Ext.refl, hlt, hxl, hop, hkk, eq_self, ix_own1 hxl, ix_own1 hlt, hob1, ho2, hb1, hb2, hW1, hW2, gW _ _ hxl, gW _ _ hlt, hv, hwj]
        exact ⟨roots.length - (j + 1), by omega, j + 1, rfl, hj', by trivial, by trivial, by trivial, by trivial, by trivial, by trivial, by trivial, by trivial, by trivial, by trivial, by trivial, by trivial⟩
      · simp -implicitDefEqProofs only [↓gP, gQ, ↓reduceIte, Nat.reduceAdd, Nat.reduceEqDiff, Nat.reduceLT, Nat.reduceLeDiff, Int.reduceEq, e186, e185, e184, e17, e16, e15, e8, e7, e0, e1, hlenA, eq_self]

theorem ints_of : ∀ {L : List (List AV)}, (∀ r ∈ L, RowA [some .i64] r) → ∃ ps : List Int, L = I1 .i64 ps ∧ ∀ p ∈ ps, -9223372036854775808 ≤ p ∧ p < 9223372036854775808
  | [], _ => ⟨[], rfl, by simp⟩
  | r :: L, h => by
    obtain ⟨hl, h'⟩ := h r (by simp)
    obtain ⟨v0, g0, n0, rfl, w0⟩ := h' 0 _ rfl
    obtain ⟨ps, rfl, hp⟩ := ints_of (L := L) (fun r hr => h r (by simp [hr]))
    refine ⟨n0 :: ps, ?_, fun m hm => ?_⟩
    · have : r = [.int .i64 n0] := by
        match r, hl, g0 with
        | [x], _, g0 => simp at g0; rw [g0]
      rw [this]; rfl
    · rcases List.mem_cons.1 hm with rfl | hm
      · exact wf_i64 w0
      · exact hp m hm
end Go.Va
end
