/- Part 10 of the proof: EH EI. -/
import Derived.Test.YtokbecghdofohaaVaK9
section
set_option linter.unusedSimpArgs false
set_option linter.unusedVariables false
set_option linter.unusedSectionVars false
namespace Go.Va
open Go.Proofs

/-- No term of a row is turned. -/
def NormL (l : List Nd) : Prop := (checkP l).2 = 0 ∧ ∀ i, i < l.length → anewT (tr l i) = tr l i

theorem renum_tr {l Q : List Nd} {out : Nat → Nat} (hmay : May l) {i : Nat} (hi : i < l.length) (h : ∀ j, j < i → tr Q (out j) = tr l j) : nodeT (renum l[i] out) (tr Q) = tr l i := by
  rw [nodeT_renum (hmay i hi), tr_at hmay hi]
  refine nodeT_congr (hmay i hi) fun p hp => ?_
  have := partsZ_lt (hmay i hi) p hp
  exact h _ (by omega)

set_option maxHeartbeats 4000000 in
theorem normal_spec (l : List Nd) (v : AV) (H : Heap) (hS : Shows H v 4 (l.map Nd.c)) (hl : ∀ n ∈ l, n.ok) (hn : l.length ≤ 10000) :
    F X 40 [v] H fun r H' => Ext H H' ∧ ∃ b, r = .bool b ∧ (b = true ↔ NormL l) := by
  refine F_slim S40_eq rfl fun ρ hρ => ?_
  simp only [AGs] at hρ
  obtain ⟨h0, -⟩ := hρ
  have hlen := hS.lenA isSl_22
  rw [List.length_map] at hlen
  simp -implicitDefEqProofs only [↓gP, gQ, ↓reduceIte, Nat.reduceAdd, Nat.reduceEqDiff, Nat.reduceLT, Nat.reduceLeDiff, Int.reduceEq, S40, h0]
  refine CS_fn (check_spec l v _ hS) ?_
  rintro _ H1 ⟨rfl, hE1⟩
  simp -implicitDefEqProofs only [↓gP, gQ, ↓reduceIte, Nat.reduceAdd, Nat.reduceEqDiff, Nat.reduceLT, Nat.reduceLeDiff, Int.reduceEq, h0]
  refine Br_dec (fun hc => ?_) (fun hc => ?_)
  rotate_left
  · simp -implicitDefEqProofs only [↓gP, gQ, ↓reduceIte, Nat.reduceAdd, Nat.reduceEqDiff, Nat.reduceLT, Nat.reduceLeDiff, Int.reduceEq, h0, hc]
    exact ⟨hE1, false, rfl, by simp [NormL, hc]⟩
  obtain ⟨-, hmay⟩ := checkP_ok hc
  simp -implicitDefEqProofs only [↓gP, gQ, ↓reduceIte, Nat.reduceAdd, Nat.reduceEqDiff, Nat.reduceLT, Nat.reduceLeDiff, Int.reduceEq, h0, hc]
  refine CS_fn (anew_spec l v _ (hS.ext hE1) hl hmay hn) ?_
  rintro _ H2 ⟨pid, mid, nv, Q, id, born, xs, rfl, hP, hA, hE2, hge, hid, hidF, hobj, hborn⟩
  have hmk := fun H => mkSl (H := H) (k := .i64) (k' := .i64) (n := l.length) slT_37 (by omega) (by omega) rfl (by omega)
  simp only [rowK_zero, Nat.mul_one] at hmk
  have hQl := hA.len
  have hidlt : id < H2.length := by rw [List.getElem?_eq_some_iff] at hobj; exact hobj.1
  have hE1l := hE1.len
  have hE2l := hE2.len
  have hxl := hA.xlen
  have hWX : (WK .i64 xs).length = l.length := by rw [WK_len, hxl]
  have hgX := fun j (h : j < l.length) => WK_get (k := .i64) (xs := xs) (j := j) (by omega)
  simp -implicitDefEqProofs only [↓gP, gQ, ↓reduceIte, Nat.reduceAdd, Nat.reduceEqDiff, Nat.reduceLT, Nat.reduceLeDiff, Int.reduceEq, h0, hlen, hmk]
  refine loop_rule (fun k ρ' H' D' => ∃ i nv Q' ys born', k = l.length - i ∧ i ≤ l.length ∧ ρ' 27 = .int .i64 (i : Nat) ∧ ρ' 26 = .int .i64 (l.length : Nat) ∧ ρ' 25 = v ∧ ρ' 7 = .sl H2.length 0 l.length l.length 1 ∧ ρ' 6 = .sl id 0 l.length l.length 1 ∧ ρ' 5 = .ptr pid 0 2 ∧ PoolAt H' pid mid nv Q' ∧
      Nice Q' ∧ (∃ r, Q' = Q ++ r) ∧ Q'.length ≤ 3 * l.length + i ∧ ys.length = i ∧ (∀ j, j < i → ys.getD j 0 < Q'.length ∧ tr Q' (ys.getD j 0) = tr l j) ∧ (∀ j, j < i → anewT (tr l j) = tr l j) ∧ born' ≤ l.length ∧ H'[H2.length]? = some (.cells (rowK .i64 ys l.length) 3 born' false) ∧
      H'[id]? = some (.cells (WK .i64 xs) 3 born false) ∧ (∀ j, Foot pid mid nv j → H.length ≤ j ∧ j ≠ H2.length ∧ j ≠ id) ∧ Ext H H' ∧ D' = []) l.length
    ⟨0, nv, Q, [], 0, by simp, by simp, by simp only [up_get]; rfl, by simp only [up_get]; rfl, by simp only [up_get]; rfl, by simp only [up_get]; rfl, by simp only [up_get]; rfl, by simp only [up_get]; rfl, hP.ext Ext.refl.app, hA.nice, ⟨[], by simp⟩, by omega, rfl, (fun j h => by omega), (fun j h => by omega), by omega, hp_get0, Ext.refl.app _ _ hobj,
      (fun j e => ⟨by have := hge j e; omega, by have := hP.lt e; omega, fun h => hidF (h ▸ e)⟩), (hE1.trans hE2).trans Ext.refl.app, rfl⟩ ?_
  rintro k ρ' H' D' ⟨i, nv', Q', ys, born', hk, hi, e27, e26, e25, e7, e6, e5, hP', hN', hpre, hQl', hyl, hys, hno, hborn', hown, hobj', hF, hE, rfl⟩
  simp -implicitDefEqProofs only [↓gP, gQ, ↓reduceIte, Nat.reduceAdd, Nat.reduceEqDiff, Nat.reduceLT, Nat.reduceLeDiff, Int.reduceEq, S40L1, e27, e26, e25, e7, e6, e5]
  refine Br_dec (fun g => ?_) (fun g => ?_)
  rotate_left
  · have : i = l.length := by omega
    subst this
    simp -implicitDefEqProofs only [↓gP, gQ, ↓reduceIte, Nat.reduceAdd, Nat.reduceEqDiff, Nat.reduceLT, Nat.reduceLeDiff, Int.reduceEq, e27, e26, e25, e7, e6, e5]
    exact ⟨hE, true, rfl, by simp only [true_iff]; exact ⟨hc, hno⟩⟩
  have hil : i < l.length := by omega
  have hi1 : i + 1 ≤ l.length := hil
  have hw : IntKind.i64.wrap ((i : Int) + 1) = ((i + 1 : Nat) : Int) := by rw [wrap64 (by omega) (by omega)]; rfl
  have hrl : (rowK .i64 ys l.length).length = l.length := rowK_len (by omega)
  have hm := hmay i hil
  have h4 : (4 : Nat) ≤ 4 := Nat.le_refl _
  generalize hmm : renum l[i] (fun j => ys.getD j 0) = m
  have hmayM : mayB m Q'.length = true := by rw [← hmm]; exact renum_may hm fun j hj => (hys j hj).1
  have hokM : m.ok := by rw [← hmm]; exact renum_ok (hl _ (List.getElem_mem hil))
  have htM : nodeT m (tr Q') = tr l i := by rw [← hmm]; exact renum_tr hmay hil fun j hj => (hys j hj).2
  have heM : putE m Q' = 0 := by
    have : ¬ 65536 ≤ Q'.length := by omega
    simp [putE, hmayM, this]
  have keyPut : ∀ (m' : Nd) HB, m' = m → Ext H' HB → F X 57 [.ptr pid 0 2, m'.v] HB fun r H3 => ∃ nv'' Q'' x, PoolAt H3 pid mid nv'' Q'' ∧ Keep (Foot pid mid nv') H' H3 ∧ (∀ j, Foot pid mid nv'' j → Foot pid mid nv' j ∨ H'.length ≤ j) ∧ Nice Q'' ∧ (∃ r, Q'' = Q' ++ r) ∧ Q''.length ≤ Q'.length + 1 ∧
      r = .tup [.int .i64 (x : Nat), .int .i64 0] ∧ x < Q''.length ∧ tr Q'' x = tr l i := by
    rintro _ HB rfl hEB
    refine (Put_spec _ Q' pid mid nv' _ (hP'.ext hEB) (by omega)).mono ?_
    rintro r H3 ⟨nv'', hP3, hK3, hF3, rfl⟩
    rw [heM, if_pos rfl] at hP3
    obtain ⟨n1, n2, n3⟩ := hN'.put hmayM hokM
    exact ⟨nv'', _, _, hP3, hEB.keep.trans hK3, fun j e => (hF3 j e).imp (fun e => e) (fun e => Nat.le_trans hEB.len e), n1, n2, putP_len, by rw [heM, if_pos rfl], putP_idx, by rw [n3, htM]⟩
  obtain ⟨nx, -, -, -, -, -, nld⟩ := (hS.ext hE).nodes
  have hout : ∀ l', (H' ++ l')[H2.length]? = some (.cells (rowK .i64 ys l.length) 3 born' false) := fun l' => Ext.refl.app _ _ hown
  simp -implicitDefEqProofs only [↓gP, gQ, ↓reduceIte, Nat.reduceAdd, Nat.reduceEqDiff, Nat.reduceLT, Nat.reduceLeDiff, Int.reduceEq, e27, e26, e25, e7, e6, e5, nx, nld _ _ hil Ext.refl, hil, bldNode]
  refine Br_dec (fun g1 => ?_) (fun g1 => ?_)
  focus
    have e : l[i] = m := by rw [← hmm, renum, if_pos (.inl g1)]
    simp -implicitDefEqProofs only [↓gP, gQ, ↓reduceIte, Nat.reduceAdd, Nat.reduceEqDiff, Nat.reduceLT, Nat.reduceLeDiff, Int.reduceEq, e27, e26, e25, e7, e6, e5, eq_true g1]
    refine CS_fn (keyPut l[i] _ e Ext.refl.app) ?_
  rotate_left
  focus
    simp -implicitDefEqProofs only [↓gP, gQ, ↓reduceIte, Nat.reduceAdd, Nat.reduceEqDiff, Nat.reduceLT, Nat.reduceLeDiff, Int.reduceEq, e27, e26, e25, e7, e6, e5, g1]
    refine Br_dec (fun g2 => ?_) (fun g2 => ?_)
    focus
      have e : l[i] = m := by rw [← hmm, renum, if_pos (.inr g2)]
      simp -implicitDefEqProofs only [↓gP, gQ, ↓reduceIte, Nat.reduceAdd, Nat.reduceEqDiff, Nat.reduceLT, Nat.reduceLeDiff, Int.reduceEq, e27, e26, e25, e7, e6, e5, g1, eq_true g2]
      refine CS_fn (keyPut l[i] _ e Ext.refl.app) ?_
    rotate_left
    focus
      obtain ⟨m1, m2, m3, m4, m5, m6⟩ := may_alu hm g1 g2
      have g12 : ¬ (l[i].op = 1 ∨ l[i].op = 2) := fun h => h.elim g1 g2
      have ra1 : l[i].a < (l.length : Nat) := by omega
      have rb1 : l[i].b < (l.length : Nat) := by omega
      have ra2 : l[i].a.toNat < l.length := by omega
      have rb2 : l[i].b.toNat < l.length := by omega
      have hga := rowK_get (k := .i64) (vs := ys) (n := l.length) (j := l[i].a.toNat) (by omega)
      have hgb := rowK_get (k := .i64) (vs := ys) (n := l.length) (j := l[i].b.toNat) (by omega)
      simp -implicitDefEqProofs only [↓gP, gQ, ↓reduceIte, Nat.reduceAdd, Nat.reduceEqDiff, Nat.reduceLT, Nat.reduceLeDiff, Int.reduceEq, e27, e26, e25, e7, e6, e5, g1, g2, ix_ownZ m3 ra1, ix_ownZ m5 rb1, hout, hrl, hborn', ra2, rb2, hga, hgb]
      refine Br_dec (fun g3 => ?_) (fun g3 => ?_)
      focus
        have e : m = ⟨l[i].op, (ys.getD l[i].a.toNat 0 : Nat), l[i].b, l[i].k⟩ := by rw [← hmm, renum, if_neg g12, if_pos g3]
        simp -implicitDefEqProofs only [↓gP, gQ, ↓reduceIte, Nat.reduceAdd, Nat.reduceEqDiff, Nat.reduceLT, Nat.reduceLeDiff, Int.reduceEq, e27, e26, e25, e7, e6, e5, ix_ownZ m3 ra1, ix_ownZ m5 rb1, hout, hrl, hborn', ra2, rb2, hga, hgb]
        refine CS_fn (keyPut ⟨l[i].op, (ys.getD l[i].a.toNat 0 : Nat), l[i].b, l[i].k⟩ _ e.symm Ext.refl.app) ?_
      rotate_left
      focus
        have e : m = ⟨l[i].op, (ys.getD l[i].a.toNat 0 : Nat), (ys.getD l[i].b.toNat 0 : Nat), l[i].k⟩ := by rw [← hmm, renum, if_neg g12, if_neg g3]
        simp -implicitDefEqProofs only [↓gP, gQ, ↓reduceIte, Nat.reduceAdd, Nat.reduceEqDiff, Nat.reduceLT, Nat.reduceLeDiff, Int.reduceEq, e27, e26, e25, e7, e6, e5, ix_ownZ m3 ra1, ix_ownZ m5 rb1, hout, hrl, hborn', ra2, rb2, hga, hgb]
        refine CS_fn (keyPut ⟨l[i].op, (ys.getD l[i].a.toNat 0 : Nat), (ys.getD l[i].b.toNat 0 : Nat), l[i].k⟩ _ e.symm Ext.refl.app) ?_
  all_goals
    rintro _ H3 ⟨nv'', Q'', x, hP3, hK3, hF3, hN3, ⟨r3, hr3⟩, hl3, rfl, hx, htx⟩
    have hobj3 := hK3.2 _ _ (fun e => (hF _ e).2.1 rfl) hown
    have hobX3 := hK3.2 _ _ (fun e => (hF _ e).2.2 rfl) hobj'
    have hE3 : Ext H H3 := hK3.extB hE (fun j e => (hF j e).1)
    have hset := rowK_set (k := .i64) (vs := ys) (n := l.length) (x := x) (by omega)
    rw [hyl] at hset
    obtain ⟨d1, d2⟩ := own_set hE3 (show H.length ≤ H2.length by omega) hobj3 (o' := .cells (rowK .i64 (ys ++ [x]) l.length) 3 l.length false)
    have dX : (H3.set H2.length (.cells (rowK .i64 (ys ++ [x]) l.length) 3 l.length false))[id]? = some (.cells (WK .i64 xs) 3 born false) := by
      rw [List.getElem?_set_ne (by omega)]; exact hobX3
    have hrl2 : (rowK .i64 (ys ++ [x]) l.length).length = l.length := rowK_len (by simp; omega)
    have hgx := rowK_get (k := .i64) (vs := ys ++ [x]) (n := l.length) (j := i) (by simp; omega)
    have hgl := getD_last (S := ys) (x := x)
    rw [hyl] at hgl
    rw [hgl] at hgx
    have hEH : H2.length < H'.length := by rw [List.getElem?_eq_some_iff] at hown; exact hown.1
    have hF3' : ∀ j, Foot pid mid nv'' j → H.length ≤ j ∧ j ≠ H2.length ∧ j ≠ id := fun j e => by
      rcases hF3 j e with e | e
      · exact hF j e
      · omega
    obtain ⟨qx1, qx2⟩ := hA.at' i hil
    have hpre3 : ∃ r, Q'' = Q ++ r := by
      obtain ⟨r, hr⟩ := hpre
      exact ⟨r ++ r3, by rw [hr3, hr, List.append_assoc]⟩
    have hQQ : Q.length ≤ Q''.length := by obtain ⟨r, hr⟩ := hpre3; rw [hr, List.length_append]; omega
    have ht2 : tr Q'' (xs.getD i 0) = anewT (tr l i) := by rw [pre_tr hN3 hpre3 qx1]; exact qx2
    have hP4 : PoolAt (H3.set H2.length (.cells (rowK .i64 (ys ++ [x]) l.length) 3 l.length false)) pid mid nv'' Q'' := hP3.set (fun e => (hF3' _ e).2.1 rfl)
    simp -implicitDefEqProofs only [↓gP, gQ, ↓reduceIte, Nat.reduceAdd, Nat.reduceEqDiff, Nat.reduceLT, Nat.reduceLeDiff, Int.reduceEq, e27, e26, e25, e7, e6, e5, ix_own1 hil, hobj3, hrl, hborn', hi1, hset, d2, dX, hrl2, hgx, hWX, hgX i hil, hborn, hil, Nat.le_refl]
    refine Br_dec (fun g5 => ?_) (fun g5 => ?_)
    · have hx5 : x = xs.getD i 0 := by omega
      simp -implicitDefEqProofs only [↓gP, gQ, ↓reduceIte, Nat.reduceAdd, Nat.reduceEqDiff, Nat.reduceLT, Nat.reduceLeDiff, Int.reduceEq, e27, e26, e25, e7, e6, e5, hw]
      refine ⟨l.length - (i + 1), by omega, i + 1, nv'', Q'', ys ++ [x], l.length, rfl, hil, by first | exact True.intro | rfl, by first | exact True.intro | rfl, by first | exact True.intro | rfl, by first | exact True.intro | rfl, by first | exact True.intro | rfl, by first | exact True.intro | rfl, hP4, hN3, hpre3, by omega, by simp [hyl], fun j hj => ?_, fun j hj => ?_, Nat.le_refl _, d2, dX, hF3', d1, by first | exact True.intro | rfl⟩
      · rcases Nat.eq_or_lt_of_le (Nat.le_of_lt_succ hj) with e | h'
        · rw [e, hgl]; exact ⟨hx, htx⟩
        · rw [getD_pre (by omega)]
          obtain ⟨q1, q2⟩ := hys j h'
          refine ⟨by rw [hr3, List.length_append]; omega, ?_⟩
          rw [pre_tr hN3 ⟨r3, hr3⟩ q1]; exact q2
      · rcases Nat.eq_or_lt_of_le (Nat.le_of_lt_succ hj) with e | h'
        · rw [e, ← ht2, ← hx5]; exact htx
        · exact hno j h'
    · simp -implicitDefEqProofs only [↓gP, gQ, ↓reduceIte, Nat.reduceAdd, Nat.reduceEqDiff, Nat.reduceLT, Nat.reduceLeDiff, Int.reduceEq, e27, e26, e25, e7, e6, e5]
      refine ⟨d1, false, rfl, ?_⟩
      simp only [Bool.false_eq_true, false_iff]
      rintro ⟨-, hall⟩
      apply g5
      have := tr_inj hN3 x (xs.getD i 0) hx (by omega) (by rw [htx, ht2, hall i hil])
      omega
end Go.Va
end

section
set_option linter.unusedSimpArgs false
set_option linter.unusedVariables false
set_option linter.unusedSectionVars false
namespace Go.Va
open Go.Proofs

theorem nf_subs {t : Tm} : nfT t → ∀ s ∈ subs t, nfT s := by
  induction t with
  | num k => intro h s hs; simp [subs] at hs; subst hs; exact h
  | wd k => intro h s hs; simp [subs] at hs; subst hs; exact h
  | un t ih =>
    intro h s hs
    simp only [subs, List.mem_cons] at hs
    rcases hs with rfl | hs
    · exact h
    · exact ih h.1 s hs
  | bi op a b iha ihb =>
    intro h s hs
    simp only [subs, List.mem_cons, List.mem_append] at hs
    rcases hs with rfl | hs | hs
    · exact h
    · exact iha h.1 s hs
    · exact ihb h.2.1 s hs
theorem MadeAll.norm {Q : List Nd} {y : Nat} {t : Tm} (h : MadeAll Q y t) (hn : nfT t) (hl : Q.length ≤ 65536) : NormL Q := by
  refine ⟨rcheck_may hl h.nice.may, fun i hi => ?_⟩
  refine anew_nf (tr_wf h.nice i hi) (nf_subs (t := tr Q y) (by rw [h.tree]; exact hn) _ (Tr_subs h.nice.may h.lt (h.all i hi)))
theorem MadeAll.len {Q W : List Nd} {y z : Nat} {t : Tm} (h : MadeAll Q y t) (g : MadeAll W z t) : Q.length = W.length :=
  Nat.le_antisymm (len_le h.nice g.nice.may h.lt g.lt h.all (by rw [h.tree, g.tree])) (len_le g.nice h.nice.may g.lt h.lt g.all (by rw [h.tree, g.tree]))
theorem Shows.lt {H : Heap} {v : AV} {sz : Nat} {L : List (List AV)} (h : Shows H v sz L) {i : Nat} (e : slId v = some i) : i < H.length := by
  have h' := h.2
  cases v <;> simp only [slId, reduceCtorEq] at e
  cases e
  obtain ⟨-, -, c, e, bb, ro, g, -⟩ := h'
  rw [List.getElem?_eq_some_iff] at g; exact g.1

set_option maxHeartbeats 4000000 in
theorem law_twice (l : List Nd) (v : AV) (H : Heap) (hl : ∀ n ∈ l, n.ok) (hS : Shows H v 4 (l.map Nd.c)) :
    F X 13 [v] H fun r _ => r = .bool true := by
  refine F_slim S13_eq rfl fun ρ hρ => ?_
  simp only [AGs] at hρ
  obtain ⟨h0, -⟩ := hρ
  have hlen := hS.lenA isSl_22
  rw [List.length_map] at hlen
  simp -implicitDefEqProofs only [↓gP, gQ, ↓reduceIte, Nat.reduceAdd, Nat.reduceEqDiff, Nat.reduceLT, Nat.reduceLeDiff, Int.reduceEq, S13, h0]
  refine CS_fn (F_tru rfl) ?_
  rintro _ _ ⟨rfl, rfl⟩
  simp -implicitDefEqProofs only [↓gP, gQ, ↓reduceIte, Nat.reduceAdd, Nat.reduceEqDiff, Nat.reduceLT, Nat.reduceLeDiff, Int.reduceEq, h0, hlen]
  refine Br_dec (fun h => ?_) (fun h => ?_) <;> simp -implicitDefEqProofs only [↓gP, gQ, ↓reduceIte, Nat.reduceAdd, Nat.reduceEqDiff, Nat.reduceLT, Nat.reduceLeDiff, Int.reduceEq, h0, hlen, h]
  · refine CS_fn (F_tru rfl) ?_
    rintro _ _ ⟨rfl, rfl⟩
    simp -implicitDefEqProofs only [↓gP, gQ, ↓reduceIte, Nat.reduceAdd, Nat.reduceEqDiff, Nat.reduceLT, Nat.reduceLeDiff, Int.reduceEq, h0, hlen]
  refine CS_fn (right_spec l v _ hS) ?_
  rintro _ H2 ⟨rfl, hE2⟩
  simp -implicitDefEqProofs only [↓gP, gQ, ↓reduceIte, Nat.reduceAdd, Nat.reduceEqDiff, Nat.reduceLT, Nat.reduceLeDiff, Int.reduceEq, h0, hlen]
  refine Br_bool (fun hR => ?_) (fun hR => ?_) <;> simp -implicitDefEqProofs only [↓gP, gQ, ↓reduceIte, Nat.reduceAdd, Nat.reduceEqDiff, Nat.reduceLT, Nat.reduceLeDiff, Int.reduceEq, h0, hlen, hR]
  case' refine_2 =>
    refine CS_fn (F_tru rfl) ?_
    rintro _ _ ⟨rfl, rfl⟩
    simp -implicitDefEqProofs only [↓gP, gQ, ↓reduceIte, Nat.reduceAdd, Nat.reduceEqDiff, Nat.reduceLT, Nat.reduceLeDiff, Int.reduceEq, h0, hlen]
  have hc := right_ok'.1 hR
  obtain ⟨hn, hmay⟩ := checkP_ok hc
  refine loop_rule (fun k ρ' H' D' => ∃ i, k = l.length - i ∧ i ≤ l.length ∧ ρ' 29 = .int .i64 (i : Nat) ∧ ρ' 28 = .int .i64 (l.length : Nat) ∧ ρ' 0 = v ∧ Ext H2 H' ∧ D' = []) l.length
    ⟨0, by simp, by simp, by simp only [up_get]; rfl, by simp only [up_get]; rfl, by simp only [up_get]; exact h0, Ext.refl, rfl⟩ ?_
  rintro k ρ' H' D' ⟨i, hk, hi, e29, e28, e0, hE, rfl⟩
  have hEn : Ext H H' := hE2.trans hE
  simp -implicitDefEqProofs only [↓gP, gQ, ↓reduceIte, Nat.reduceAdd, Nat.reduceEqDiff, Nat.reduceLT, Nat.reduceLeDiff, Int.reduceEq, S13L1, e29, e28, e0]
  refine Br_dec (fun g => ?_) (fun g => ?_)
  rotate_left
  · simp -implicitDefEqProofs only [↓gP, gQ, ↓reduceIte, Nat.reduceAdd, Nat.reduceEqDiff, Nat.reduceLT, Nat.reduceLeDiff, Int.reduceEq, e29, e28, e0]
  have hil : i < l.length := by omega
  have hw : IntKind.i64.wrap ((i : Int) + 1) = ((i + 1 : Nat) : Int) := by rw [wrap64 (by omega) (by omega)]; rfl
  simp -implicitDefEqProofs only [↓gP, gQ, ↓reduceIte, Nat.reduceAdd, Nat.reduceEqDiff, Nat.reduceLT, Nat.reduceLeDiff, Int.reduceEq, e29, e28, e0]
  refine CS_fn (all_spec l (i : Nat) v _ (hS.ext hEn) hl (by omega)) ?_
  rintro _ H4 ⟨hE4, hr⟩
  rw [if_neg (fun h => h hc), if_neg (by omega), Int.toNat_natCast] at hr
  obtain ⟨av, Q, y, rfl, hSa, hm, hQl⟩ := hr
  have hy := hm.lt
  have hcQ : (checkP Q).2 = 0 := rcheck_may (by omega) hm.nice.may
  have hRQ := rightB_of hcQ
  have hla := hSa.lenA isSl_22
  rw [List.length_map] at hla
  have g1 : ¬ ((y : Nat) : Int) < 0 := by omega
  have g2 : ¬ ((Q.length : Nat) : Int) ≤ (y : Nat) := by omega
  have hnf := nf_anew (tr_wf' hmay hl i hil)
  have hwf := tr_wf hm.nice y hy
  rw [hm.tree] at hwf
  have haa := anew_nf hwf hnf
  simp -implicitDefEqProofs only [↓gP, gQ, ↓reduceIte, Nat.reduceAdd, Nat.reduceEqDiff, Nat.reduceLT, Nat.reduceLeDiff, Int.reduceEq, e29, e28, e0, eq_self]
  refine CS_fn (right_spec Q av _ hSa) ?_
  rintro _ H5 ⟨rfl, hE5⟩
  simp -implicitDefEqProofs only [↓gP, gQ, ↓reduceIte, Nat.reduceAdd, Nat.reduceEqDiff, Nat.reduceLT, Nat.reduceLeDiff, Int.reduceEq, e29, e28, e0, hRQ, hla, g1, g2]
  refine CS_fn (all_spec Q (y : Nat) av _ (hSa.ext hE5) hm.nice.ok (by omega)) ?_
  rintro _ H6 ⟨hE6, hr⟩
  rw [if_neg (fun h => h hcQ), if_neg (by omega), Int.toNat_natCast, hm.tree, haa] at hr
  obtain ⟨aw, W, z, rfl, hSw, hmw, hWl⟩ := hr
  have hz := hmw.lt
  have hcW : (checkP W).2 = 0 := rcheck_may (by omega) hmw.nice.may
  have hRW := rightB_of hcW
  have hlw := hSw.lenA isSl_22
  rw [List.length_map] at hlw
  have g3 : ¬ ((z : Nat) : Int) < 0 := by omega
  have g4 : ¬ ((W.length : Nat) : Int) ≤ (z : Nat) := by omega
  have hQW := hm.len hmw
  simp -implicitDefEqProofs only [↓gP, gQ, ↓reduceIte, Nat.reduceAdd, Nat.reduceEqDiff, Nat.reduceLT, Nat.reduceLeDiff, Int.reduceEq, e29, e28, e0, eq_self]
  refine CS_fn (right_spec W aw _ hSw) ?_
  rintro _ H7 ⟨rfl, hE7⟩
  simp -implicitDefEqProofs only [↓gP, gQ, ↓reduceIte, Nat.reduceAdd, Nat.reduceEqDiff, Nat.reduceLT, Nat.reduceLeDiff, Int.reduceEq, e29, e28, e0, hRW, hlw, g3, g4]
  have hSa7 := ((hSa.ext hE5).ext hE6).ext hE7
  refine CS_fn (normal_spec Q av _ hSa7 hm.nice.ok (by omega)) ?_
  rintro _ H8 ⟨hE8, b, rfl, hb⟩
  obtain rfl : b = true := hb.2 (hm.norm hnf (by omega))
  simp -implicitDefEqProofs only [↓gP, gQ, ↓reduceIte, Nat.reduceAdd, Nat.reduceEqDiff, Nat.reduceLT, Nat.reduceLeDiff, Int.reduceEq, e29, e28, e0, hlw, hla, hQW, eq_self]
  have hE48 := ((hE5.trans hE6).trans hE7).trans hE8
  have hSa8 := hSa7.ext hE8
  have hSw8 := (hSw.ext hE7).ext hE8
  refine CS_fn (into_spec [] Q .nilsl av _ OwnV.nil hSa8 hcQ (fun i _ e => by cases e) (by simp; omega)) ?_
  rintro _ H9 ⟨pv, b9, rfl, hO9, hb9, ho9, hne9, hG9⟩
  have hE89 : Ext H8 H9 := fun j o e => hG9.keep.2 _ _ (fun e => by cases e) e
  have hpvge : ∀ j, slId pv = some j → H8.length ≤ j := fun j e => by
    rcases hG9.place with p | ⟨id, p, q⟩
    · rw [p] at e; cases e
    · rw [p] at e; cases e; exact q
  obtain ⟨hlo9, hl9⟩ := intoP_len (P0 := []) (l := Q) (m := Q.length) (Nat.le_refl _)
  simp only [List.length_nil, Nat.zero_add] at hl9
  simp -implicitDefEqProofs only [↓gP, gQ, ↓reduceIte, Nat.reduceAdd, Nat.reduceEqDiff, Nat.reduceLT, Nat.reduceLeDiff, Int.reduceEq, e29, e28, e0]
  refine CS_fn (into_spec (intoP [] Q Q.length).1 W pv aw _ hO9 (hSw8.ext hE89) hcW (fun j e1 e2 => by have := hSw8.lt e1; have := hpvge j e2; omega) (by omega)) ?_
  rintro _ H10 ⟨qv, b10, rfl, hO10, hb10, ho10, hne10, hG10⟩
  obtain ⟨hlo10, -⟩ := intoP_len (P0 := (intoP [] Q Q.length).1) (l := W) (m := W.length) (Nat.le_refl _)
  obtain ⟨n1, -, n3⟩ := into_tr (P0 := []) (l := Q) Nice.nil hm.nice.may hm.nice.ok (Nat.le_refl _)
  have hsame := into_same n1 hmw.nice.may hmw.nice.ok hz (intoP_lt (Nat.le_refl _) y hy) (by rw [hmw.tree, n3 y hy, hm.tree])
  have ho9' : H10[H8.length]? = some (.cells (WK .i64 (intoP [] Q Q.length).2) 3 b9 false) := hG10.keep.2 _ _ hne9 ho9
  have hW1 : (WK .i64 (intoP [] Q Q.length).2).length = Q.length := by rw [WK_len, hlo9]
  have hW2 : (WK .i64 (intoP (intoP [] Q Q.length).1 W W.length).2).length = W.length := by rw [WK_len, hlo10]
  have hgx := getD_map_int (xs := (intoP [] Q Q.length).2) (j := y) (by omega)
  have hgy := getD_map_int (xs := (intoP (intoP [] Q Q.length).1 W W.length).2) (j := z) (by omega)
  rw [hsame] at hgy
  have hEf : Ext H2 H10 := hG10.keep.extB (((hE.trans hE4).trans hE48).trans hE89) (fun j e => by
    have := hpvge j e; have := ((hE.trans hE4).trans hE48).len; omega)
  simp -implicitDefEqProofs only [↓gP, gQ, ↓reduceIte, Nat.reduceAdd, Nat.reduceEqDiff, Nat.reduceLT, Nat.reduceLeDiff, Int.reduceEq, e29, e28, e0, ix_own1 hy, ix_own1 hz, ho9', ho10, hW1, hW2, hb9, hb10, hy, hz, hgx, hgy, eq_self, hw]
  exact ⟨l.length - (i + 1), by omega, i + 1, rfl, hil, by first | exact True.intro | rfl, by first | exact True.intro | rfl, by first | exact True.intro | rfl, hEf, by first | exact True.intro | rfl⟩
end Go.Va
end
