/- Part 11 of the proof: EJ EK EL. -/
import Derived.Test.YtokbecghdofohaaVaK10
section
set_option linter.unusedSimpArgs false
set_option linter.unusedVariables false
set_option linter.unusedSectionVars false
namespace Go.Va
open Go.Proofs

theorem alus_sub10 {op : Int} (h : op ∈ alus) : op - 256 ∈ ops10 := by
  simp [alus] at h
  simp [ops10]; omega

set_option maxHeartbeats 4000000 in
theorem rall_spec (l : List Nd) (v : AV) (H : Heap) (hS : Shows H v 4 (l.map Nd.c)) (hl : ∀ n ∈ l, n.ok) (hmay : May l) (hn : l.length ≤ 10000) :
    F X 43 [v] H fun r H' => ∃ pv Q born xs, r = .tup [pv, .sl H.length 0 l.length l.length 1] ∧ RowAt H' pv Q ∧ AnewAt l Q xs l.length ∧ Ext H H' ∧ (∀ j, slId pv = some j → H.length ≤ j ∧ j ≠ H.length) ∧
      H'[H.length]? = some (.cells (WK .i64 xs) 3 born false) ∧ born ≤ l.length := by
  refine F_slim S43_eq rfl fun ρ hρ => ?_
  simp only [AGs] at hρ
  obtain ⟨h0, -⟩ := hρ
  have hlen := hS.lenA isSl_22
  rw [List.length_map] at hlen
  have hmk := fun H => mkSl (H := H) (k := .i64) (k' := .i64) (n := l.length) slT_37 (by omega) (by omega) rfl (by omega)
  simp only [rowK_zero, Nat.mul_one] at hmk
  simp -implicitDefEqProofs only [↓gP, gQ, ↓reduceIte, Nat.reduceAdd, Nat.reduceEqDiff, Nat.reduceLT, Nat.reduceLeDiff, Int.reduceEq, S43, h0, hlen, hmk]
  refine loop_rule (fun k ρ' H' D' => ∃ i pv Q xs born, k = l.length - i ∧ i ≤ l.length ∧ ρ' 6 = .int .i64 (i : Nat) ∧ ρ' 5 = .sl H.length 0 l.length l.length 1 ∧ ρ' 4 = pv ∧ ρ' 0 = v ∧ RowAt H' pv Q ∧ AnewAt l Q xs i ∧ born ≤ l.length ∧ H'[H.length]? = some (.cells (rowK .i64 xs l.length) 3 born false) ∧
      (∀ j, slId pv = some j → H.length ≤ j ∧ j ≠ H.length) ∧ Ext H H' ∧ D' = []) l.length
    ⟨0, .nilsl, [], [], 0, by simp, by simp, by simp only [up_get]; rfl, by simp only [up_get]; rfl, by simp only [up_get]; rfl, by simp only [up_get]; exact h0, OwnV.nil, ⟨Nice.nil, (fun i _ h => by simp at h), by simp, rfl, (fun j h => by omega)⟩, by omega, hp_get0, (fun j e => by cases e), Ext.refl.app, rfl⟩ ?_
  rintro k ρ' H' D' ⟨i, pv, Q, xs, born, hk, hi, e6, e5, e4, e0, hO, hA, hborn, hobj, hF, hE, rfl⟩
  have hxl := hA.xlen
  simp -implicitDefEqProofs only [↓gP, gQ, ↓reduceIte, Nat.reduceAdd, Nat.reduceEqDiff, Nat.reduceLT, Nat.reduceLeDiff, Int.reduceEq, S43L1, e6, e5, e4, e0, hlen]
  refine Br_dec (fun g => ?_) (fun g => ?_)
  rotate_left
  · have : i = l.length := by omega
    subst this
    rw [rowK_full' hxl] at hobj
    simp -implicitDefEqProofs only [↓gP, gQ, ↓reduceIte, Nat.reduceAdd, Nat.reduceEqDiff, Nat.reduceLT, Nat.reduceLeDiff, Int.reduceEq, e6, e5, e4, e0]
    exact ⟨pv, Q, born, xs, rfl, hO, hA, hE, hF, hobj, hborn⟩
  have hil : i < l.length := by omega
  have hi1 : i + 1 ≤ l.length := hil
  have hw : IntKind.i64.wrap ((i : Int) + 1) = ((i + 1 : Nat) : Int) := by rw [wrap64 (by omega) (by omega)]; rfl
  have hrl : (rowK .i64 xs l.length).length = l.length := rowK_len (by omega)
  have hmi := hmay i hil
  have h4 : (4 : Nat) ≤ 4 := Nat.le_refl _
  have hlQ := hA.len
  have hHlt : H.length < H'.length := by rw [List.getElem?_eq_some_iff] at hobj; exact hobj.1
  obtain ⟨nx, -, -, -, -, -, nld⟩ := (hS.ext hE).nodes
  have hout : ∀ l', (H' ++ l')[H.length]? = some (.cells (rowK .i64 xs l.length) 3 born false) := fun l' => Ext.refl.app _ _ hobj
  have hop : (l[i].op ≤ 2) = (l[i].op = 1 ∨ l[i].op = 2) := by
    have := may_pos hmi; apply propext; omega
  have keyP : ∀ HB, Ext H' HB → l[i].op = 1 ∨ l[i].op = 2 → F X 56 [pv, .agg [AV.int .i64 l[i].op, AV.int .i64 l[i].a, AV.int .i64 l[i].b, AV.int .u32 l[i].k]] HB fun r H3 => MadeR H' H3 pv Q 1 3 r (anewT (tr l i)) := by
    intro HB hEb hor
    obtain ⟨p1, p2, p3⟩ := leaf_put Q.length hmi hor (tr Q) (tr l)
    refine (rput2 l[i] Q 1 pv _ (hO.ext hEb) hA.nice hA.ch p1 (hl _ (List.getElem_mem hil)) (by omega) p2).mono ?_
    rintro r H3 ⟨v', P', x, hg, hr, hx, ht⟩
    rw [tr_at hmay hil, ← p3]
    exact ⟨v', P', x, (hg.le (by omega)).ext hEb, hr, hx, ht⟩
  have keyM : ∀ HB, Ext H' HB → ¬ (l[i].op = 1 ∨ l[i].op = 2) → ∀ y : Nat, (l[i].op = 384 ∨ y = xs.getD l[i].b.toNat 0) → F X 35 [pv, .int .i64 (l[i].op - 256), .int .i64 (xs.getD l[i].a.toNat 0 : Nat), .int .i64 (y : Nat)] HB fun r H3 => MadeR H' H3 pv Q 1 3 r (anewT (tr l i)) := by
    intro HB hEb hor y hy
    obtain ⟨m1, -, a0, a1, b0, b1⟩ := may_alu hmi (fun h => hor (.inl h)) (fun h => hor (.inr h))
    obtain ⟨qa1, qa2⟩ := hA.at' l[i].a.toNat (by omega)
    obtain ⟨qb1, qb2⟩ := hA.at' l[i].b.toNat (by omega)
    refine (rMake_spec (l[i].op - 256) _ y Q 1 1 pv _ (hO.ext hEb) hA.nice hA.ch (by decide) qa1 ?_ (alus_sub10 m1) (fun j hj => hA.ch j _ hj) (by omega)).mono ?_
    · rcases hy with h | rfl
      · exact .inr (by omega)
      · exact .inl qb1
    rintro r H3 ⟨v', P', x, hg, hr, hx, ht⟩
    refine ⟨v', P', x, hg.ext hEb, hr, hx, ?_⟩
    rw [ht, tr_at hmay hil]
    unfold nodeT
    rw [if_neg (fun h => hor (.inl h)), if_neg (fun h => hor (.inr h))]
    by_cases g3 : l[i].op = 384
    · rw [if_pos g3, if_pos (by omega), qa2]; rfl
    · rw [if_neg g3, if_neg (by omega), hy.resolve_left g3, qa2, qb2]; rfl
  simp -implicitDefEqProofs only [↓gP, gQ, ↓reduceIte, Nat.reduceAdd, Nat.reduceEqDiff, Nat.reduceLT, Nat.reduceLeDiff, Int.reduceEq, e6, e5, e4, e0, nx, nld _ _ hil Ext.refl, hil, hop]
  refine Br_dec (fun g1 => ?_) (fun g1 => ?_)
  focus
    simp -implicitDefEqProofs only [↓gP, gQ, ↓reduceIte, Nat.reduceAdd, Nat.reduceEqDiff, Nat.reduceLT, Nat.reduceLeDiff, Int.reduceEq, e6, e5, e4, e0, eq_true g1]
    refine CS_fn (keyP _ Ext.refl.app g1) ?_
  rotate_left
  focus
    obtain ⟨m1, -, m3, m4, m5, m6⟩ := may_alu hmi (fun h => g1 (.inl h)) (fun h => g1 (.inr h))
    have hwa : IntKind.i64.wrap (l[i].op - 256) = l[i].op - 256 := by
      simp [alus] at m1
      rw [wrap64 (by omega) (by omega)]
    have ra1 : l[i].a < (l.length : Nat) := by omega
    have rb1 : l[i].b < (l.length : Nat) := by omega
    have ra2 : l[i].a.toNat < l.length := by omega
    have rb2 : l[i].b.toNat < l.length := by omega
    have hga := rowK_get (k := .i64) (vs := xs) (n := l.length) (j := l[i].a.toNat) (by omega)
    have hgb := rowK_get (k := .i64) (vs := xs) (n := l.length) (j := l[i].b.toNat) (by omega)
    simp -implicitDefEqProofs only [↓gP, gQ, ↓reduceIte, Nat.reduceAdd, Nat.reduceEqDiff, Nat.reduceLT, Nat.reduceLeDiff, Int.reduceEq, e6, e5, e4, e0, eq_false g1]
    refine Br_dec (fun g2 => ?_) (fun g2 => ?_)
    focus
      simp -implicitDefEqProofs only [↓gP, gQ, ↓reduceIte, Nat.reduceAdd, Nat.reduceEqDiff, Nat.reduceLT, Nat.reduceLeDiff, Int.reduceEq, e6, e5, e4, e0, hwa, ix_ownZ m3 ra1, hout, hrl, hborn, ra2, hga]
      refine CS_fn (keyM _ Ext.refl.app g1 0 (.inl g2)) ?_
    rotate_left
    focus
      simp -implicitDefEqProofs only [↓gP, gQ, ↓reduceIte, Nat.reduceAdd, Nat.reduceEqDiff, Nat.reduceLT, Nat.reduceLeDiff, Int.reduceEq, e6, e5, e4, e0, hwa, ix_ownZ m3 ra1, ix_ownZ m5 rb1, hout, hrl, hborn, ra2, rb2, hga, hgb]
      refine CS_fn (keyM _ Ext.refl.app g1 _ (.inr rfl)) ?_
  all_goals
    rintro _ H3 ⟨pv', Q', x, hg, rfl, hx, htx⟩
    have hobj3 := hg.grown.keep.2 _ _ (fun e => (hF _ e).2 rfl) hobj
    have hset := rowK_set (k := .i64) (vs := xs) (n := l.length) (x := x) (by omega)
    rw [hxl] at hset
    have hE3 : Ext H H3 := hg.grown.keep.extB hE (fun j e => (hF j e).1)
    have hF3 : ∀ j, slId pv' = some j → H.length ≤ j ∧ j ≠ H.length := fun j e => by
      rcases hg.grown.place with p | ⟨id, p, q⟩
      · rw [p] at e; exact hF j e
      · rw [p] at e; cases e; omega
    obtain ⟨d1, d2⟩ := own_set hE3 (Nat.le_refl _) hobj3 (o' := .cells (rowK .i64 (xs ++ [x]) l.length) 3 l.length false)
    have dO : RowAt (H3.set H.length (.cells (rowK .i64 (xs ++ [x]) l.length) 3 l.length false)) pv' Q' := hg.row.keep fun j o e hj => by
      rw [List.getElem?_set_ne (hF3 j e).2.symm]; exact hj
    have hl3 := hg.len
    simp -implicitDefEqProofs only [↓gP, gQ, ↓reduceIte, Nat.reduceAdd, Nat.reduceEqDiff, Nat.reduceLT, Nat.reduceLeDiff, Int.reduceEq, e6, e5, e4, e0, ix_own1 hil, hobj3, hrl, hborn, hi1, hset, hw]
    refine ⟨l.length - (i + 1), by omega, i + 1, pv', Q', xs ++ [x], l.length, rfl, hil, by first | exact True.intro | rfl, by first | exact True.intro | rfl, by first | exact True.intro | rfl, by first | exact True.intro | rfl, dO, ⟨hg.nice, hg.ch, by omega, by simp [hxl], fun j hj => ?_⟩, Nat.le_refl _, d2, hF3, d1, by first | exact True.intro | rfl⟩
    rcases Nat.eq_or_lt_of_le (Nat.le_of_lt_succ hj) with e | h'
    · subst e
      have := getD_last (S := xs) (x := x)
      rw [hxl] at this
      rw [this]; exact ⟨hx, htx⟩
    · rw [getD_pre (by omega)]
      obtain ⟨q1, q2⟩ := hA.at' j h'
      exact ⟨hg.lt q1, by rw [hg.tr q1]; exact q2⟩
end Go.Va
end

section
set_option linter.unusedSimpArgs false
set_option linter.unusedVariables false
set_option linter.unusedSectionVars false
namespace Go.Va
open Go.Proofs

theorem rnormal_spec (l : List Nd) (v : AV) (H : Heap) (hS : Shows H v 4 (l.map Nd.c)) (hl : ∀ n ∈ l, n.ok) (hn : l.length ≤ 10000) :
    F X 41 [v] H fun r H' => Ext H H' ∧ ∃ b, r = .bool b ∧ (b = true ↔ NormL l) := by
  refine F_slim S41_eq rfl fun ρ hρ => ?_
  simp only [AGs] at hρ
  obtain ⟨h0, -⟩ := hρ
  have hlen := hS.lenA isSl_22
  rw [List.length_map] at hlen
  simp -implicitDefEqProofs only [↓gP, gQ, ↓reduceIte, Nat.reduceAdd, Nat.reduceEqDiff, Nat.reduceLT, Nat.reduceLeDiff, Int.reduceEq, S41, h0]
  refine CS_fn (right_spec l v _ hS) ?_
  rintro _ H1 ⟨rfl, hE1⟩
  simp -implicitDefEqProofs only [↓gP, gQ, ↓reduceIte, Nat.reduceAdd, Nat.reduceEqDiff, Nat.reduceLT, Nat.reduceLeDiff, Int.reduceEq, h0]
  refine Br_bool (fun hR => ?_) (fun hR => ?_) <;> simp -implicitDefEqProofs only [↓gP, gQ, ↓reduceIte, Nat.reduceAdd, Nat.reduceEqDiff, Nat.reduceLT, Nat.reduceLeDiff, Int.reduceEq, h0, hR]
  case' refine_2 =>
    exact ⟨hE1, false, rfl, by simp only [Bool.false_eq_true, false_iff]; rintro ⟨h, -⟩; rw [right_ok'.2 h] at hR; cases hR⟩
  have hc := right_ok'.1 hR
  obtain ⟨-, hmay⟩ := checkP_ok hc
  refine CS_fn (rall_spec l v _ (hS.ext hE1) hl hmay hn) ?_
  rintro _ H2 ⟨pv, Q, born, xs, rfl, hO, hA, hE2, hF, hobj, hborn⟩
  simp -implicitDefEqProofs only [↓gP, gQ, ↓reduceIte, Nat.reduceAdd, Nat.reduceEqDiff, Nat.reduceLT, Nat.reduceLeDiff, Int.reduceEq, h0]
  have hE12 := hE1.trans hE2
  have hlQ := hA.len
  refine CS_fn (into_spec Q l pv v _ hO (hS.ext hE12) hc (fun j e1 e2 => by have := hS.lt e1; have := (hF j e2).1; have := hE1.len; omega) (by omega)) ?_
  rintro _ H3 ⟨qv, b3, rfl, hO3, hb3, ho3, hne3, hG3⟩
  obtain ⟨n1, n2, n3⟩ := into_tr hA.nice hmay hl (Nat.le_refl l.length)
  obtain ⟨hlo, -⟩ := intoP_len (P0 := Q) (l := l) (m := l.length) (Nat.le_refl _)
  have hobj3 := hG3.keep.2 _ _ (fun e => (hF _ e).2 rfl) hobj
  have hE3 : Ext H H3 := hG3.keep.extB hE12 (fun j e => by have := (hF j e).1; have := hE1.len; omega)
  have hW1 : (WK .i64 xs).length = l.length := by rw [WK_len, hA.xlen]
  have hW2 : (WK .i64 (intoP Q l l.length).2).length = l.length := by rw [WK_len, hlo]
  have hg1 := fun j (h : j < l.length) => WK_get (k := .i64) (xs := xs) (j := j) (by have := hA.xlen; omega)
  have hg2 := fun j (h : j < l.length) => WK_get (k := .i64) (xs := (intoP Q l l.length).2) (j := j) (by omega)
  have hkey : ∀ j, j < l.length → ((xs.getD j 0 : Nat) : Int) = ((intoP Q l l.length).2.getD j 0 : Nat) → anewT (tr l j) = tr l j := fun j hj e => by
    obtain ⟨q1, q2⟩ := hA.at' j hj
    have e' : xs.getD j 0 = (intoP Q l l.length).2.getD j 0 := by omega
    rw [← q2, ← n3 j hj, ← e', pre_tr n1 n2 q1]
  have hkey' : ∀ j, j < l.length → anewT (tr l j) = tr l j → ((xs.getD j 0 : Nat) : Int) = ((intoP Q l l.length).2.getD j 0 : Nat) := fun j hj e => by
    obtain ⟨q1, q2⟩ := hA.at' j hj
    have hlt := intoP_lt (P0 := Q) (l := l) (Nat.le_refl _) j hj
    have := tr_inj n1 (xs.getD j 0) _ (by obtain ⟨r, hr⟩ := n2; rw [hr, List.length_append]; omega) hlt (by rw [pre_tr n1 n2 q1, q2, n3 j hj, e])
    omega
  generalize (intoP Q l l.length).2 = ys at *
  simp -implicitDefEqProofs only [↓gP, gQ, ↓reduceIte, Nat.reduceAdd, Nat.reduceEqDiff, Nat.reduceLT, Nat.reduceLeDiff, Int.reduceEq, h0]
  refine loop_rule (fun k ρ' H' D' => ∃ i, k = l.length - i ∧ i ≤ l.length ∧ ρ' 7 = .int .i64 (i : Nat) ∧ ρ' 6 = .sl H2.length 0 l.length l.length 1 ∧ ρ' 4 = .sl H1.length 0 l.length l.length 1 ∧ ρ' 0 = v ∧ (∀ j, j < i → anewT (tr l j) = tr l j) ∧ H' = H3 ∧ D' = []) l.length
    ⟨0, by simp, by simp, by simp only [up_get]; rfl, by simp only [up_get]; rfl, by simp only [up_get]; rfl, by simp only [up_get]; exact h0, (fun j h => by omega), rfl, rfl⟩ ?_
  rintro k ρ' H' D' ⟨i, hk, hi, e7, e6, e4, e0, hno, rfl, rfl⟩
  simp -implicitDefEqProofs only [↓gP, gQ, ↓reduceIte, Nat.reduceAdd, Nat.reduceEqDiff, Nat.reduceLT, Nat.reduceLeDiff, Int.reduceEq, S41L1, e7, e6, e4, e0, hlen]
  refine Br_dec (fun g => ?_) (fun g => ?_)
  rotate_left
  · have : i = l.length := by omega
    subst this
    simp -implicitDefEqProofs only [↓gP, gQ, ↓reduceIte, Nat.reduceAdd, Nat.reduceEqDiff, Nat.reduceLT, Nat.reduceLeDiff, Int.reduceEq, e7, e6, e4, e0]
    exact ⟨hE3, true, rfl, by simp only [true_iff]; exact ⟨hc, hno⟩⟩
  have hil : i < l.length := by omega
  have hw : IntKind.i64.wrap ((i : Int) + 1) = ((i + 1 : Nat) : Int) := by rw [wrap64 (by omega) (by omega)]; rfl
  simp -implicitDefEqProofs only [↓gP, gQ, ↓reduceIte, Nat.reduceAdd, Nat.reduceEqDiff, Nat.reduceLT, Nat.reduceLeDiff, Int.reduceEq, e7, e6, e4, e0, ix_own1 hil, hobj3, ho3, hW1, hW2, hborn, hb3, hil, hg1 i hil, hg2 i hil]
  refine Br_dec (fun g1 => ?_) (fun g1 => ?_) <;> simp -implicitDefEqProofs only [↓gP, gQ, ↓reduceIte, Nat.reduceAdd, Nat.reduceEqDiff, Nat.reduceLT, Nat.reduceLeDiff, Int.reduceEq, e7, e6, e4, e0, hw]
  · refine ⟨l.length - (i + 1), by omega, i + 1, rfl, hil, by first | exact True.intro | rfl, by first | exact True.intro | rfl, by first | exact True.intro | rfl, by first | exact True.intro | rfl, fun j hj => ?_, by first | exact True.intro | rfl, by first | exact True.intro | rfl⟩
    rcases Nat.eq_or_lt_of_le (Nat.le_of_lt_succ hj) with e | h'
    · rw [e]; exact hkey i hil g1
    · exact hno j h'
  · exact ⟨hE3, false, rfl, by simp only [Bool.false_eq_true, false_iff]; rintro ⟨-, h⟩; exact g1 (hkey' i hil (h i hil))⟩
end Go.Va
end

section
set_option linter.unusedSimpArgs false
set_option linter.unusedVariables false
set_option linter.unusedSectionVars false
namespace Go.Va
open Go.Proofs

theorem bneq (b : Bool) : binA X .neq 4 (.bool b) (.bool b) = some (.bool false) := by cases b <;> kernel_rfl
theorem B_true {L : List Bool} {j : Nat} (h : L.getD j false = true) (hj : j < L.length) : (B L)[j]? = some (.bool true) := by
  rw [B_get hj]
  rw [List.getD_eq_getElem?_getD, List.getElem?_eq_getElem hj] at h
  simp at h; rw [h]

set_option maxHeartbeats 4000000 in
theorem law_all (l : List Nd) (at' : Int) (v : AV) (H : Heap) (hl : ∀ n ∈ l, n.ok) (hS : Shows H v 4 (l.map Nd.c)) :
    F X 12 [v, .int .i64 at'] H fun r _ => r = .bool true := by
  refine F_slim S12_eq rfl fun ρ hρ => ?_
  simp only [AGs] at hρ
  obtain ⟨h0, h1, -⟩ := hρ
  have hlen := hS.lenA isSl_22
  rw [List.length_map] at hlen
  simp -implicitDefEqProofs only [↓gP, gQ, ↓reduceIte, Nat.reduceAdd, Nat.reduceEqDiff, Nat.reduceLT, Nat.reduceLeDiff, Int.reduceEq, S12, h0, h1]
  refine CS_fn (F_tru rfl) ?_
  rintro _ _ ⟨rfl, rfl⟩
  simp -implicitDefEqProofs only [↓gP, gQ, ↓reduceIte, Nat.reduceAdd, Nat.reduceEqDiff, Nat.reduceLT, Nat.reduceLeDiff, Int.reduceEq, h0, h1, hlen]
  refine Br_dec (fun h => ?_) (fun h => ?_) <;> simp -implicitDefEqProofs only [↓gP, gQ, ↓reduceIte, Nat.reduceAdd, Nat.reduceEqDiff, Nat.reduceLT, Nat.reduceLeDiff, Int.reduceEq, h0, h1, hlen, h]
  · refine CS_fn (F_tru rfl) ?_
    rintro _ _ ⟨rfl, rfl⟩
    simp -implicitDefEqProofs only [↓gP, gQ, ↓reduceIte, Nat.reduceAdd, Nat.reduceEqDiff, Nat.reduceLT, Nat.reduceLeDiff, Int.reduceEq, h0, hlen]
  obtain ⟨cv, H1, e1, hO1, hE1, hS1⟩ := copySl (H := H) slT_22 rfl (by decide) hS nds_one' (by rw [List.length_map]; omega) (by rw [List.length_map]; omega)
  simp -implicitDefEqProofs only [↓gP, gQ, ↓reduceIte, Nat.reduceAdd, Nat.reduceEqDiff, Nat.reduceLT, Nat.reduceLeDiff, Int.reduceEq, h0, h1, hlen, bldSl0 (k := 0) slT_22 rfl (by decide), e1]
  refine CS_fn (all_spec l at' cv _ hS1 hl (by omega)) ?_
  rintro r2 H2 ⟨hE2, hr⟩
  have lenN : ∀ (t : TypeId), isSl Try.prog t = true → lenA Try.prog t .nilsl = some (.int .i64 0) := fun t ht => Shows.lenA (H := H) (v := .nilsl) (sz := 1) (L := []) ⟨by simp, rfl⟩ ht
  have hE02 := hE1.trans hE2
  by_cases hc : (checkP l).2 = 0
  case neg =>
    rw [if_pos hc] at hr
    subst hr
    simp -implicitDefEqProofs only [↓gP, gQ, ↓reduceIte, Nat.reduceAdd, Nat.reduceEqDiff, Nat.reduceLT, Nat.reduceLeDiff, Int.reduceEq, h0, h1]
    refine CS_fn (right_spec l v _ (hS.ext hE02)) ?_
    rintro _ H3 ⟨rfl, hE3⟩
    have hR : rightB l = false := by simp [rightB, hc]
    simp -implicitDefEqProofs only [↓gP, gQ, ↓reduceIte, Nat.reduceAdd, Nat.reduceEqDiff, Nat.reduceLT, Nat.reduceLeDiff, Int.reduceEq, h0, h1, hR, lenN _ isSl_22, eq_self]
    refine CS_fn (normal_spec l v _ ((hS.ext hE02).ext hE3) hl (by omega)) ?_
    rintro _ H4 ⟨hE4, b, rfl, hb⟩
    obtain rfl : b = false := by
      cases b with
      | false => rfl
      | true => exact absurd (hb.1 rfl).1 hc
    simp -implicitDefEqProofs only [↓gP, gQ, ↓reduceIte, Nat.reduceAdd, Nat.reduceEqDiff, Nat.reduceLT, Nat.reduceLeDiff, Int.reduceEq, h0, h1]
  rw [if_neg (fun h => h hc)] at hr
  obtain ⟨hn, hmay⟩ := checkP_ok hc
  have hR := rightB_of hc
  by_cases ha : at' < 0 ∨ (l.length : Int) ≤ at'
  focus
    rw [if_pos ha] at hr
    subst hr
    simp -implicitDefEqProofs only [↓gP, gQ, ↓reduceIte, Nat.reduceAdd, Nat.reduceEqDiff, Nat.reduceLT, Nat.reduceLeDiff, Int.reduceEq, h0, h1]
  rotate_left
  focus
    rw [if_neg ha] at hr
    obtain ⟨av, Q, y, rfl, hSa, hm, hQl⟩ := hr
    simp -implicitDefEqProofs only [↓gP, gQ, ↓reduceIte, Nat.reduceAdd, Nat.reduceEqDiff, Nat.reduceLT, Nat.reduceLeDiff, Int.reduceEq, h0, h1]
  all_goals
    refine CS_fn (right_spec l v _ (hS.ext hE02)) ?_
    rintro _ H3 ⟨rfl, hE3⟩
    simp -implicitDefEqProofs only [↓gP, gQ, ↓reduceIte, Nat.reduceAdd, Nat.reduceEqDiff, Nat.reduceLT, Nat.reduceLeDiff, Int.reduceEq, h0, h1, hR]
    refine CS_fn (normal_spec l v _ ((hS.ext hE02).ext hE3) hl (by omega)) ?_
    rintro _ H4 ⟨hE4, b, rfl, hb⟩
    simp -implicitDefEqProofs only [↓gP, gQ, ↓reduceIte, Nat.reduceAdd, Nat.reduceEqDiff, Nat.reduceLT, Nat.reduceLeDiff, Int.reduceEq, h0, h1]
    have hE04 := (hE02.trans hE3).trans hE4
    refine CS_fn (rnormal_spec l v _ (hS.ext hE04) hl (by omega)) ?_
    rintro _ H5 ⟨hE5, b', rfl, hb'⟩
    obtain rfl : b = b' := by
      cases b <;> cases b' <;> simp_all
    have hE05 := hE04.trans hE5
    simp -implicitDefEqProofs only [↓gP, gQ, ↓reduceIte, Nat.reduceAdd, Nat.reduceEqDiff, Nat.reduceLT, Nat.reduceLeDiff, Int.reduceEq, h0, h1, bneq]
  rotate_left
  · refine Br_dec (fun q1 => ?_) (fun q1 => ?_)
    · simp -implicitDefEqProofs only [↓gP, gQ, ↓reduceIte, Nat.reduceAdd, Nat.reduceEqDiff, Nat.reduceLT, Nat.reduceLeDiff, Int.reduceEq, h0, h1, q1, lenN _ isSl_22, eq_self]
    · have q2 : (l.length : Int) ≤ at' := by omega
      simp -implicitDefEqProofs only [↓gP, gQ, ↓reduceIte, Nat.reduceAdd, Nat.reduceEqDiff, Nat.reduceLT, Nat.reduceLeDiff, Int.reduceEq, h0, h1, q1, q2, hlen, lenN _ isSl_22, eq_self]
  have q1 : ¬ at' < 0 := by omega
  have q2 : ¬ (l.length : Int) ≤ at' := by omega
  obtain ⟨a, rfl⟩ : ∃ a : Nat, at' = a := ⟨at'.toNat, by omega⟩
  rw [Int.toNat_natCast] at hm
  have hal : a < l.length := by omega
  have hy := hm.lt
  have hcQ : (checkP Q).2 = 0 := rcheck_may (by omega) hm.nice.may
  have hRQ := rightB_of hcQ
  have hSa5 := ((hSa.ext hE3).ext hE4).ext hE5
  have hla := hSa5.lenA isSl_22
  rw [List.length_map] at hla
  have g1 : ¬ ((y : Nat) : Int) < 0 := by omega
  have g2 : ¬ ((Q.length : Nat) : Int) ≤ (y : Nat) := by omega
  simp -implicitDefEqProofs only [↓gP, gQ, ↓reduceIte, Nat.reduceAdd, Nat.reduceEqDiff, Nat.reduceLT, Nat.reduceLeDiff, Int.reduceEq, h0, h1, q1, q2, hlen, eq_self, hla, g1, g2]
  refine CS_fn (right_spec Q av _ hSa5) ?_
  rintro _ H6 ⟨rfl, hE6⟩
  simp -implicitDefEqProofs only [↓gP, gQ, ↓reduceIte, Nat.reduceAdd, Nat.reduceEqDiff, Nat.reduceLT, Nat.reduceLeDiff, Int.reduceEq, h0, h1, hRQ]
  refine CS_fn (rin_spec Q y av _ (hSa5.ext hE6) hm.nice.may hy (by omega)) ?_
  rintro _ H7 ⟨hE7, iv, bv, hiv, rfl, hbv, hov⟩
  have hall : ∀ j, j < Q.length → (inL Q [(y : Int)]).getD j false = true := fun j hj => by
    rw [inL_iff hm.nice.may (by simp; omega)]
    exact ⟨(y : Int), by simp, by simpa using hm.all j hj⟩
  have hLl : (inL Q [(y : Int)]).length = Q.length := inL_len
  have hinL : reachP Q Q.length (markZ (List.replicate Q.length false) [(y : Int)]) = inL Q [(y : Int)] := rfl
  rw [hinL] at hov
  generalize inL Q [(y : Int)] = L at hall hLl hov
  have hBl : (B L).length = Q.length := by rw [B_len, hLl]
  have hlenB := (shows_own hov (by rw [hBl]; exact hbv) hBl).lenA isSl_74
  rw [List.length_map, hBl] at hlenB
  simp -implicitDefEqProofs only [↓gP, gQ, ↓reduceIte, Nat.reduceAdd, Nat.reduceEqDiff, Nat.reduceLT, Nat.reduceLeDiff, Int.reduceEq, h0, h1, hlenB]
  refine loop_rule (fun k ρ' H' D' => ∃ i, k = Q.length - i ∧ i ≤ Q.length ∧ ρ' 97 = .int .i64 (i : Nat) ∧ ρ' 96 = .int .i64 (Q.length : Nat) ∧ ρ' 95 = .sl iv 0 Q.length Q.length 1 ∧ ρ' 0 = v ∧ ρ' 1 = .int .i64 (a : Nat) ∧ ρ' 5 = av ∧ ρ' 6 = .int .i64 (y : Nat) ∧ H' = H7 ∧ D' = []) Q.length
    ⟨0, by simp, by simp, by simp only [up_get]; rfl, by simp only [up_get]; rfl, by simp only [up_get]; rfl, by simp only [up_get]; exact h0, by simp only [up_get]; exact h1, by simp only [up_get]; rfl, by simp only [up_get]; rfl, rfl, rfl⟩ ?_
  rintro k ρ' H' D' ⟨i, hk, hi, e97, e96, e95, e0, e1', e5, e6, rfl, rfl⟩
  simp -implicitDefEqProofs only [↓gP, gQ, ↓reduceIte, Nat.reduceAdd, Nat.reduceEqDiff, Nat.reduceLT, Nat.reduceLeDiff, Int.reduceEq, S12L1, e97, e96, e95]
  refine Br_dec (fun g => ?_) (fun g => ?_)
  · have hil : i < Q.length := by omega
    have hw : IntKind.i64.wrap ((i : Int) + 1) = ((i + 1 : Nat) : Int) := by rw [wrap64 (by omega) (by omega)]; rfl
    simp -implicitDefEqProofs only [↓gP, gQ, ↓reduceIte, Nat.reduceAdd, Nat.reduceEqDiff, Nat.reduceLT, Nat.reduceLeDiff, Int.reduceEq, e97, e96, e95, ix_own1 hil, hov, hBl, hbv, hil, B_true (hall i hil) (show i < L.length by omega), hw]
    refine ⟨Q.length - (i + 1), by omega, i + 1, rfl, hil, ?_⟩
    simp only [e0, e1', e5, e6, and_self, true_and, and_true]
  have hE07 := (hE05.trans hE6).trans hE7
  have hSa7 := (hSa5.ext hE6).ext hE7
  simp -implicitDefEqProofs only [↓gP, gQ, ↓reduceIte, Nat.reduceAdd, Nat.reduceEqDiff, Nat.reduceLT, Nat.reduceLeDiff, Int.reduceEq, e97, e96, e95, e0, e1', e5, e6]
  refine CS_fn (rall_spec l v _ (hS.ext hE07) hl hmay (by omega)) ?_
  rintro _ H8 ⟨pv, P, b8, xs, rfl, hO8, hA, hE8, hF8, hob8, hb8⟩
  simp -implicitDefEqProofs only [↓gP, gQ, ↓reduceIte, Nat.reduceAdd, Nat.reduceEqDiff, Nat.reduceLT, Nat.reduceLeDiff, Int.reduceEq, e0, e1', e5, e6]
  have hlP := hA.len
  have hSa8 := hSa7.ext hE8
  refine CS_fn (into_spec [] Q .nilsl av _ OwnV.nil hSa8 hcQ (fun i _ e => by cases e) (by simp; omega)) ?_
  rintro _ H9 ⟨ov, b9, rfl, hO9, hb9, ho9, hne9, hG9⟩
  have hE89 : Ext H8 H9 := fun j o e => hG9.keep.2 _ _ (fun e => by cases e) e
  obtain ⟨hlo9, hl9⟩ := intoP_len (P0 := []) (l := Q) (m := Q.length) (Nat.le_refl _)
  simp only [List.length_nil, Nat.zero_add] at hl9
  obtain ⟨n1, -, n3⟩ := into_tr (P0 := []) (l := Q) Nice.nil hm.nice.may hm.nice.ok (Nat.le_refl _)
  have honce : (intoP [] Q Q.length).1.length = Q.length :=
    Nat.le_antisymm hl9 (len_le hm.nice n1.may hy (intoP_lt (Nat.le_refl _) y hy) hm.all (n3 y hy).symm)
  simp -implicitDefEqProofs only [↓gP, gQ, ↓reduceIte, Nat.reduceAdd, Nat.reduceEqDiff, Nat.reduceLT, Nat.reduceLeDiff, Int.reduceEq, e0, e1', e5, e6]
  refine CS_fn (into_spec P Q pv av _ (hO8.ext hE89) (hSa8.ext hE89) hcQ (fun j e1 e2 => by have := hSa7.lt e1; have := hF8 j e2; omega) (by omega)) ?_
  rintro _ H10 ⟨qv, b10, rfl, hO10, hb10, ho10, hne10, hG10⟩
  obtain ⟨hlo10, -⟩ := intoP_len (P0 := P) (l := Q) (m := Q.length) (Nat.le_refl _)
  obtain ⟨qa1, qa2⟩ := hA.at' a hal
  have hsame := into_same hA.nice hm.nice.may hm.nice.ok hy qa1 (by rw [hm.tree, qa2])
  have hob10 := hG10.keep.2 _ _ (fun e => (hF8 _ e).2 rfl) (hE89 _ _ hob8)
  have hO910 : RowAt H10 ov (intoP [] Q Q.length).1 := hO9.keep fun j o e hj => hG10.keep.2 _ _ (fun f => by
    have := hO8.shows.lt f
    rcases hG9.place with p | ⟨id, p, q⟩
    · rw [p] at e; cases e
    · rw [p] at e; cases e; omega) hj
  have hlo : lenA Try.prog 22 ov = some (.int .i64 (Q.length : Nat)) := by
    have := hO910.shows.lenA isSl_22
    rw [List.length_map, honce] at this; exact this
  have hW1 : (WK .i64 xs).length = l.length := by rw [WK_len, hA.xlen]
  have hW2 : (WK .i64 (intoP P Q Q.length).2).length = Q.length := by rw [WK_len, hlo10]
  have hgx := WK_get (k := .i64) (xs := xs) (j := a) (by have := hA.xlen; omega)
  have hgy := WK_get (k := .i64) (xs := (intoP P Q Q.length).2) (j := y) (by omega)
  rw [hsame] at hgy
  simp -implicitDefEqProofs only [↓gP, gQ, ↓reduceIte, Nat.reduceAdd, Nat.reduceEqDiff, Nat.reduceLT, Nat.reduceLeDiff, Int.reduceEq, e0, e1', e5, e6, ix_own1 hy, ix_own1 hal, hob10, ho10, hW1, hW2, hb8, hb10, hy, hal, hgx, hgy, eq_self, hlo, hla]
end Go.Va
end
