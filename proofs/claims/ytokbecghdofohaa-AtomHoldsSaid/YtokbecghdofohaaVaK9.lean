/- Part 9 of the proof: EG. -/
import Derived.Test.YtokbecghdofohaaVaK8
section
set_option linter.unusedSimpArgs false
set_option linter.unusedVariables false
set_option linter.unusedSectionVars false
namespace Go.Va
open Go.Proofs

theorem same_load' {C : Ctx} {ops : List SO} {L : List (SE × Heap)} {p : Nat × Nat} {d : Option Tmp} {t : TypeId} {x : Operand} {s u : SE × Heap} {v : AV} {gd : Option (Tmp × Bool)} (h1 : ops[p.1]? = some ⟨d, .load t x, gd⟩) (h2 : L[p.1]? = some s) (h3 : L[if p.2 < p.1 then p.2 else p.2 + 1]? = some u)
    (h4 : loadP C.P t s.2 (ope s.1 x) = some v) (h5 : loadP C.P t u.2 (ope s.1 x) = some v) : sameAt C ops L p := by
  unfold sameAt
  rw [h1, h2, h3]
  intro _
  refine ⟨v, s.2, v, u.2, ?_, ?_, same_refl v⟩
  · show opE C (.load t x) (ope s.1) s.2 = _
    unfold loadP at h4
    split at h4
    · rename_i hx
      simp only [opE, hx, h4, Option.map_some]
    · cases h4
  · show opE C (.load t x) (ope s.1) u.2 = _
    unfold loadP at h5
    split at h5
    · rename_i hx
      simp only [opE, hx, h5, Option.map_some]
    · cases h5
theorem alu128 {x y : Nat} : alu1 128 x y = alu1 128 x 0 := by unfold alu1 aluN; simp
theorem pre_tr {P Q : List Nd} (hN : Nice Q) (h : ∃ r, Q = P ++ r) {i : Nat} (hi : i < P.length) : tr Q i = tr P i := by
  obtain ⟨r, hr⟩ := h
  have hm := hN.may
  rw [hr] at hm ⊢
  exact tr_app hm i hi

set_option maxHeartbeats 4000000 in
theorem law_value (l : List Nd) (v : AV) (rcs : List AV) (rc : Nat → Nat) (op : Int) (H : Heap) (hl : ∀ n ∈ l, n.ok) (hrc : ∀ j, rc j < 4294967296) (hS : Shows H v 4 (l.map Nd.c)) (hr : RecOk rcs rc) :
    F X 11 [v, .agg rcs, .int .i64 op] H fun r _ => r = .bool true := by
  refine F_slim S11_eq rfl fun ρ hρ => ?_
  simp only [AGs] at hρ
  obtain ⟨h0, h1, h2, -⟩ := hρ
  have hlen := hS.lenA isSl_22
  rw [List.length_map] at hlen
  simp -implicitDefEqProofs only [↓gP, gQ, ↓reduceIte, Nat.reduceAdd, Nat.reduceEqDiff, Nat.reduceLT, Nat.reduceLeDiff, Int.reduceEq, S11, h0, h1, h2]
  have hE1 : Ext H (H ++ [AObj.cells rcs 27 0 false]) := Ext.refl.app
  have hrec1 : (H ++ [AObj.cells rcs 27 0 false])[H.length]? = some (.cells rcs 27 0 false) := hp_get0
  generalize H ++ [AObj.cells rcs 27 0 false] = H1 at hE1 hrec1
  refine CS_fn (F_tru rfl) ?_
  rintro _ _ ⟨rfl, rfl⟩
  simp -implicitDefEqProofs only [↓gP, gQ, ↓reduceIte, Nat.reduceAdd, Nat.reduceEqDiff, Nat.reduceLT, Nat.reduceLeDiff, Int.reduceEq, h0, h1, h2, hlen]
  refine Br_dec (fun h => ?_) (fun h => ?_) <;> simp -implicitDefEqProofs only [↓gP, gQ, ↓reduceIte, Nat.reduceAdd, Nat.reduceEqDiff, Nat.reduceLT, Nat.reduceLeDiff, Int.reduceEq, h0, h1, h2, hlen, h]
  · refine CS_fn (F_tru rfl) ?_
    rintro _ _ ⟨rfl, rfl⟩
    simp -implicitDefEqProofs only [↓gP, gQ, ↓reduceIte, Nat.reduceAdd, Nat.reduceEqDiff, Nat.reduceLT, Nat.reduceLeDiff, Int.reduceEq, h0, hlen]
  refine Br_dec (fun h25 => ?_) (fun h25 => ?_) <;> simp -implicitDefEqProofs only [↓gP, gQ, ↓reduceIte, Nat.reduceAdd, Nat.reduceEqDiff, Nat.reduceLT, Nat.reduceLeDiff, Int.reduceEq, h0, h1, h2, hlen, h25]
  · refine CS_fn (F_tru rfl) ?_
    rintro _ _ ⟨rfl, rfl⟩
    simp -implicitDefEqProofs only [↓gP, gQ, ↓reduceIte, Nat.reduceAdd, Nat.reduceEqDiff, Nat.reduceLT, Nat.reduceLeDiff, Int.reduceEq, h0, hlen]
  refine CS_fn (right_spec l v _ (hS.ext hE1)) ?_
  rintro _ H2 ⟨rfl, hE2⟩
  simp -implicitDefEqProofs only [↓gP, gQ, ↓reduceIte, Nat.reduceAdd, Nat.reduceEqDiff, Nat.reduceLT, Nat.reduceLeDiff, Int.reduceEq, h0, h1, h2, hlen]
  refine Br_bool (fun hR => ?_) (fun hR => ?_) <;> simp -implicitDefEqProofs only [↓gP, gQ, ↓reduceIte, Nat.reduceAdd, Nat.reduceEqDiff, Nat.reduceLT, Nat.reduceLeDiff, Int.reduceEq, h0, h1, h2, hlen, hR]
  case' refine_2 =>
    refine CS_fn (F_tru rfl) ?_
    rintro _ _ ⟨rfl, rfl⟩
    simp -implicitDefEqProofs only [↓gP, gQ, ↓reduceIte, Nat.reduceAdd, Nat.reduceEqDiff, Nat.reduceLT, Nat.reduceLeDiff, Int.reduceEq, h0, hlen]
  have hc := right_ok'.1 hR
  obtain ⟨hn, hmay⟩ := checkP_ok hc
  refine CS_fn (isop_spec op _) ?_
  rintro _ _ ⟨rfl, rfl⟩
  by_cases hop : op ∈ ops10
  case neg =>
    simp -implicitDefEqProofs only [↓gP, gQ, ↓reduceIte, Nat.reduceAdd, Nat.reduceEqDiff, Nat.reduceLT, Nat.reduceLeDiff, Int.reduceEq, h0, h1, h2, decide_eq_false hop]
    refine CS_fn (F_tru rfl) ?_
    rintro _ _ ⟨rfl, rfl⟩
    simp -implicitDefEqProofs only [↓gP, gQ, ↓reduceIte, Nat.reduceAdd, Nat.reduceEqDiff, Nat.reduceLT, Nat.reduceLeDiff, Int.reduceEq, h0, hlen]
  simp -implicitDefEqProofs only [↓gP, gQ, ↓reduceIte, Nat.reduceAdd, Nat.reduceEqDiff, Nat.reduceLT, Nat.reduceLeDiff, Int.reduceEq, h0, h1, h2, decide_eq_true hop]
  have hrec2 := hE2 _ _ hrec1
  refine CS_fn (into_spec [] l .nilsl v _ OwnV.nil ((hS.ext hE1).ext hE2) hc (fun i _ e => by cases e) (by simp; omega)) ?_
  rintro _ H3 ⟨wv, born, rfl, hO3, hborn, hobj, hne, hG⟩
  obtain ⟨hN, -, -⟩ := into_tr Nice.nil hmay hl (Nat.le_refl l.length)
  obtain ⟨-, hl1⟩ := intoP_len (P0 := []) (l := l) (m := l.length) (Nat.le_refl _)
  simp only [List.length_nil, Nat.zero_add] at hl1
  generalize (intoP [] l l.length).1 = P at hO3 hN hl1
  have hrec3 := hG.keep.2 _ _ (fun e => by cases e) hrec2
  simp -implicitDefEqProofs only [↓gP, gQ, ↓reduceIte, Nat.reduceAdd, Nat.reduceEqDiff, Nat.reduceLT, Nat.reduceLeDiff, Int.reduceEq, h0, h1, h2]
  refine CS_fn (lpool_spec P wv _ hO3.shows hN (by omega)) ?_
  rintro _ H4 ⟨pid, mid, nv, rfl, hP4, hE4, hge4⟩
  have hlP : ∀ H', RowAt H' wv P → lenA Try.prog 22 wv = some (.int .i64 (P.length : Nat)) := fun H' h => by
    have := h.shows.lenA isSl_22
    rw [List.length_map] at this; exact this
  have hlP := hlP _ hO3
  have hrec4 := hE4 _ _ hrec3
  have hcP : (checkP P).2 = 0 := rcheck_may (by omega) hN.may
  simp -implicitDefEqProofs only [↓gP, gQ, ↓reduceIte, Nat.reduceAdd, Nat.reduceEqDiff, Nat.reduceLT, Nat.reduceLeDiff, Int.reduceEq, h0, h1, h2, hr.1, hrec4, ldO_rec hr.1]
  refine CS_fn (rvalues_spec P wv rcs rc _ hN.ok hrc (hO3.ext hE4).shows hr hcP) ?_
  rintro _ H5 ⟨hE5, iv, bv, hiv, rfl, hbv, hov⟩
  simp -implicitDefEqProofs only [↓gP, gQ, ↓reduceIte, Nat.reduceAdd, Nat.reduceEqDiff, Nat.reduceLT, Nat.reduceLeDiff, Int.reduceEq, h0, h1, h2, hlP]
  have hwlt : ∀ j, slId wv = some j → j < H3.length := fun j e => by
    rcases hO3.2 with ⟨rfl, -⟩ | ⟨id, b, -, rfl, -, g⟩
    · cases e
    · cases e; rw [List.getElem?_eq_some_iff] at g; exact g.1
  have hrlt : H.length < H3.length := by rw [List.getElem?_eq_some_iff] at hrec3; exact hrec3.1
  have hWl : (W32 (valsL P rc P.length)).length = P.length := by rw [W32_len, valsL_len]
  have hgv : ∀ (Q : List Nd) j, j < Q.length → (W32 (valsL Q rc Q.length))[j]? = some (.int .u32 ((valsL Q rc Q.length).getD j 0 : Nat)) := fun Q j hj => by
    have : j < (valsL Q rc Q.length).length := by rw [valsL_len]; exact hj
    simp [W32, List.getElem?_eq_getElem this]
  refine loop_rule (fun k ρ' H' D' => ∃ i nv Q, k = P.length - i ∧ i ≤ P.length ∧ ρ' 60 = .int .i64 (i : Nat) ∧ ρ' 59 = .int .i64 (P.length : Nat) ∧ ρ' 7 = wv ∧ ρ' 9 = .ptr pid 0 2 ∧ ρ' 2 = .int .i64 op ∧ ρ' 11 = .sl iv 0 P.length P.length 1 ∧ ρ' 10 = .bool true ∧ ρ' 4 = .ptr H.length 0 16 ∧ PoolAt H' pid mid nv Q ∧
      Nice Q ∧ ChB 60 Q ∧ (∃ r, Q = P ++ r) ∧ Q.length ≤ 25 + i * 62 ∧ (∀ j, Foot pid mid nv j → H3.length ≤ j ∧ j ≠ iv) ∧ RowAt H' wv P ∧ H'[iv]? = some (.cells (W32 (valsL P rc P.length)) 25 bv false) ∧ H'[H.length]? = some (.cells rcs 27 0 false) ∧ H3.length ≤ H'.length ∧ D' = []) P.length
    ⟨0, nv, P, by simp, by simp, by simp only [up_get]; rfl, by simp only [up_get]; rfl, by simp only [up_get]; rfl, by simp only [up_get]; rfl, by simp only [up_get]; exact h2, by simp only [up_get]; rfl, by simp only [up_get]; rfl, by simp only [up_get]; rfl, hP4.ext hE5, hN, chB_len hN (by omega), ⟨[], by simp⟩, by omega,
      (fun j e => ⟨hge4 j e, by have := hP4.lt e; omega⟩), (hO3.ext hE4).ext hE5, hov, hE5 _ _ hrec4, by have := hE4.len; have := hE5.len; omega, rfl⟩ ?_
  rintro k ρ' H' D' ⟨i, nv6, Q, hk, hi, e60, e59, e7, e9, e2, e11, e10, e4, hP6, hN6, hD6, hpre, hQl, hF, hO6, hov6, hrec6, hlt6, rfl⟩
  simp -implicitDefEqProofs only [↓gP, gQ, ↓reduceIte, Nat.reduceAdd, Nat.reduceEqDiff, Nat.reduceLT, Nat.reduceLeDiff, Int.reduceEq, S11L1, e60, e59, e7, e9, e2, e11, e10, e4]
  refine Br_dec (fun g => ?_) (fun g => ?_)
  rotate_left
  · simp -implicitDefEqProofs only [↓gP, gQ, ↓reduceIte, Nat.reduceAdd, Nat.reduceEqDiff, Nat.reduceLT, Nat.reduceLeDiff, Int.reduceEq, e60, e59, e7, e9, e2, e11, e10, e4]
  have hil : i < P.length := by omega
  have hw : IntKind.i64.wrap ((i : Int) + 1) = ((i + 1 : Nat) : Int) := by rw [wrap64 (by omega) (by omega)]; rfl
  have hw1 : IntKind.i64.wrap ((P.length : Int) - 1) = ((P.length - 1 : Nat) : Int) := by rw [wrap64 (by omega) (by omega)]; omega
  have hw2 : IntKind.i64.wrap (((P.length - 1 : Nat) : Int) - (i : Int)) = ((P.length - 1 - i : Nat) : Int) := by rw [wrap64 (by omega) (by omega)]; omega
  have hPQ : P.length ≤ Q.length := by obtain ⟨r, hr⟩ := hpre; rw [hr, List.length_append]; omega
  have hbl : P.length - 1 - i < P.length := by omega
  simp -implicitDefEqProofs only [↓gP, gQ, ↓reduceIte, Nat.reduceAdd, Nat.reduceEqDiff, Nat.reduceLT, Nat.reduceLeDiff, Int.reduceEq, e60, e59, e7, e9, e2, e11, e10, e4, hlP, hw1, hw2]
  generalize hbb : P.length - 1 - i = b at hbl
  refine CS_fn (sMake_spec op i b Q 60 pid mid 60 nv6 _ hP6 hN6 hD6 (by decide) (fun j hj => hD6 j _ hj) (by omega)) ?_
  intro r7 H7 hr7
  rw [if_neg (fun h => h hop), if_neg (by rintro (h | ⟨h, -⟩) <;> exact h (by omega)), Int.toNat_natCast, Int.toNat_natCast] at hr7
  obtain ⟨nv7, Q7, y, hg7, rfl, hy7, ht7⟩ := hr7
  have hov7 := hg7.keep.2 _ _ (fun e => (hF _ e).2 rfl) hov6
  have hrec7 := hg7.keep.2 _ _ (fun e => by have := (hF _ e).1; omega) hrec6
  have hO7 : RowAt H7 wv P := hO6.keep fun j o e hj => hg7.keep.2 _ _ (fun f => by have := (hF _ f).1; have := hwlt j e; omega) hj
  have hxlt : ∀ j, j < P.length → (valsL P rc P.length).getD j 0 < 4294967296 := fun j hj => by
    rw [vals_ev hN.may j hj]; exact ev_lt hrc (tr_wf hN j hj)
  simp -implicitDefEqProofs only [↓gP, gQ, ↓reduceIte, Nat.reduceAdd, Nat.reduceEqDiff, Nat.reduceLT, Nat.reduceLeDiff, Int.reduceEq, e60, e59, e7, e9, e2, e11, e10, e4, ix_own1 hil, ix_own1 hbl, hov7, hWl, hbv, hil, hbl, hgv P i hil, hgv P b hbl]
  refine CS_fn (ralu_spec op _ _ _ (hxlt i hil) (hxlt b hbl)) ?_
  rintro _ H8 ⟨rfl, hE8⟩
  have hP8 := hg7.at'.ext hE8
  have hval : (valsL Q7 rc Q7.length).getD y 0 = (aluN op ((valsL P rc P.length).getD i 0) ((valsL P rc P.length).getD b 0)).1 := by
    rw [vals_ev hg7.nice.may y hy7, vals_ev hN.may i hil, vals_ev hN.may b hbl, ht7, pre_tr hN6 hpre hil, pre_tr hN6 hpre hbl]
    have w1 := tr_wf hN i hil
    have w2 := tr_wf hN b hbl
    by_cases e : op = 128
    · rw [if_pos e, ev_neg hrc w1, e]; exact alu128.symm
    · rw [if_neg e, ev_mk hrc w1 w2]; rfl
  have hl7 := hg7.len
  have c0 : ((0 : Nat) : Int) = 0 := rfl
  have hgQ := hgv Q7 y hy7
  rw [hval] at hgQ
  have hWQ : (W32 (valsL Q7 rc Q7.length)).length = Q7.length := by rw [W32_len, valsL_len]
  simp -implicitDefEqProofs only [↓gP, gQ, ↓reduceIte, Nat.reduceAdd, Nat.reduceEqDiff, Nat.reduceLT, Nat.reduceLeDiff, Int.reduceEq, e60, e59, e7, e9, e2, e11, e10, e4]
  refine Br_bool (fun hok => ?_) (fun hok => ?_)
  focus
    simp -implicitDefEqProofs only [↓gP, gQ, ↓reduceIte, Nat.reduceAdd, Nat.reduceEqDiff, Nat.reduceLT, Nat.reduceLeDiff, Int.reduceEq, e60, e59, e7, e9, e2, e11, e10, e4, hok]
  rotate_left
  focus
    have h00 : (aluN op ((valsL P rc P.length).getD i 0) ((valsL P rc P.length).getD b 0)).1 = 0 := by rw [alu_no hok]
    rw [h00] at hgQ
    simp -implicitDefEqProofs only [↓gP, gQ, ↓reduceIte, Nat.reduceAdd, Nat.reduceEqDiff, Nat.reduceLT, Nat.reduceLeDiff, Int.reduceEq, e60, e59, e7, e9, e2, e11, e10, e4, hok]
  all_goals
    refine CS_fn (nodes_spec Q7 pid mid nv7 _ hP8 (by omega)) ?_
    rintro av H9 ⟨hE9, hOa⟩
    have hSa : Shows H9 av 4 (Q7.map Nd.c) := OwnV.shows hOa nd_rows (by decide)
    have hla := hSa.lenA isSl_22
    rw [List.length_map] at hla
    have g1 : ¬ ((y : Nat) : Int) < 0 := by omega
    have g2 : ¬ ((Q7.length : Nat) : Int) ≤ (y : Nat) := by omega
    have hcQ : (checkP Q7).2 = 0 := rcheck_may (by omega) hg7.nice.may
    have hRQ := rightB_of hcQ
    simp -implicitDefEqProofs only [↓gP, gQ, ↓reduceIte, Nat.reduceAdd, Nat.reduceEqDiff, Nat.reduceLT, Nat.reduceLeDiff, Int.reduceEq, e60, e59, e7, e9, e2, e11, e10, e4, hla, g1, g2, eq_self]
    refine CS_fn (right_spec Q7 av _ hSa) ?_
    rintro _ H10 ⟨rfl, hE10⟩
    have hrec10 := hE10 _ _ (hE9 _ _ (hE8 _ _ hrec7))
    simp -implicitDefEqProofs only [↓gP, gQ, ↓reduceIte, Nat.reduceAdd, Nat.reduceEqDiff, Nat.reduceLT, Nat.reduceLeDiff, Int.reduceEq, e60, e59, e7, e9, e2, e11, e10, e4, hRQ, hr.1, hrec10, ldO_rec hr.1]
    refine CS_fn (rvalues_spec Q7 av rcs rc _ hg7.nice.ok hrc (hSa.ext hE10) hr hcQ) ?_
    rintro _ H11 ⟨hE11, iv2, bv2, -, rfl, hbv2, hov2⟩
    simp -implicitDefEqProofs only [↓gP, gQ, ↓reduceIte, Nat.reduceAdd, Nat.reduceEqDiff, Nat.reduceLT, Nat.reduceLeDiff, Int.reduceEq, e60, e59, e7, e9, e2, e11, e10, e4, ix_own1 hy7, hov2, hWQ, hbv2, hy7, hgQ, eq_self, c0]
    have hE811 := ((hE8.trans hE9).trans hE10).trans hE11
    refine CS_fn (all_spec P (i : Nat) wv _ (hO7.ext hE811).shows hN.ok (by omega)) ?_
    rintro _ H12 ⟨hE12, hr12⟩
    rw [if_neg (fun h => h hcP), if_neg (by omega), Int.toNat_natCast] at hr12
    obtain ⟨aw, W, z, rfl, hSw, hmw, hwl⟩ := hr12
    have hlw := hSw.lenA isSl_22
    rw [List.length_map] at hlw
    have hz := hmw.lt
    have g3 : ¬ ((z : Nat) : Int) < 0 := by omega
    have g4 : ¬ ((W.length : Nat) : Int) ≤ (z : Nat) := by omega
    have hcW : (checkP W).2 = 0 := rcheck_may (by omega) hmw.nice.may
    have hRW := rightB_of hcW
    have hvalW : (valsL W rc W.length).getD z 0 = (valsL P rc P.length).getD i 0 := by
      rw [vals_ev hmw.nice.may z hz, hmw.tree, ev_anew hrc (tr_wf hN i hil), vals_ev hN.may i hil]
    have hgW := hgv W z hz
    rw [hvalW] at hgW
    have hWW : (W32 (valsL W rc W.length)).length = W.length := by rw [W32_len, valsL_len]
    simp -implicitDefEqProofs only [↓gP, gQ, ↓reduceIte, Nat.reduceAdd, Nat.reduceEqDiff, Nat.reduceLT, Nat.reduceLeDiff, Int.reduceEq, e60, e59, e7, e9, e2, e11, e10, e4]
    simp -implicitDefEqProofs only [↓gP, gQ, ↓gL, gM, ↓reduceIte, Nat.reduceAdd, Nat.reduceEqDiff, Nat.reduceLT, Nat.reduceLeDiff, Int.reduceEq, e60, e59, e7, e9, e2, e11, e10, e4, eq_self, hlw, g3, g4]
    refine CSL_fn (right_spec W aw _ hSw) ?_
    rintro _ H13 ⟨rfl, hE13⟩
    have hE813 := (hE811.trans hE12).trans hE13
    have hrec13 := hE813 _ _ hrec7
    have hov13 := hE813 _ _ hov7
    simp -implicitDefEqProofs only [↓gP, gQ, ↓gL, gM, ↓reduceIte, Nat.reduceAdd, Nat.reduceEqDiff, Nat.reduceLT, Nat.reduceLeDiff, Int.reduceEq, e60, e59, e7, e9, e2, e11, e10, e4, hRW, hr.1, hrec13, ldO_rec hr.1]
    refine CSL_fn (rvalues_spec W aw rcs rc _ hmw.nice.ok hrc (hSw.ext hE13) hr hcW) ?_
    rintro _ H14 ⟨hE14, iv3, bv3, -, rfl, hbv3, hov3⟩
    have hE814 := hE813.trans hE14
    have hov14 := hE814 _ _ hov7
    simp -implicitDefEqProofs only [↓gP, gQ, ↓gL, gM, ↓reduceIte, Nat.reduceAdd, Nat.reduceEqDiff, Nat.reduceLT, Nat.reduceLeDiff, Int.reduceEq, e60, e59, e7, e9, e2, e11, e10, e4, ix_own1 hz, hov3, hWW, hbv3, hz, hgW, ix_own1 hil, hov14, hWl, hbv, hil, hgv P i hil, eq_self]
    rw [thenL_eq]
    refine ⟨?_, ?_⟩
    · intro q hq
      simp only [List.mem_singleton] at hq
      subst hq
      refine same_load' (v := .int .u32 ((valsL P rc P.length).getD i 0 : Nat)) rfl rfl rfl ?_ ?_
      · simp -implicitDefEqProofs only [↓gP, gQ, ↓reduceIte, Nat.reduceAdd, Nat.reduceEqDiff, Nat.reduceLT, Nat.reduceLeDiff, Int.reduceEq, e60, e59, e7, e9, e2, e11, e10, e4, hov14, hWl, hbv, hil, hgv P i hil]
      · simp -implicitDefEqProofs only [↓gP, gQ, ↓reduceIte, Nat.reduceAdd, Nat.reduceEqDiff, Nat.reduceLT, Nat.reduceLeDiff, Int.reduceEq, e60, e59, e7, e9, e2, e11, e10, e4, hov13, hWl, hbv, hil, hgv P i hil]
    · simp -implicitDefEqProofs only [↓gP, gQ, ↓reduceIte, Nat.reduceAdd, Nat.reduceEqDiff, Nat.reduceLT, Nat.reduceLeDiff, Int.reduceEq, e60, e59, e7, e9, e2, e11, e10, e4, hw]
      refine ⟨P.length - (i + 1), by omega, i + 1, nv7, Q7, rfl, hil, by first | exact True.intro | rfl, by first | exact True.intro | rfl, by first | exact True.intro | rfl, by first | exact True.intro | rfl, by first | exact True.intro | rfl, by first | exact True.intro | rfl, by first | exact True.intro | rfl, by first | exact True.intro | rfl, hg7.at'.ext hE814, hg7.nice, hg7.ch, ?_, by omega, fun j e => ?_, hO7.ext hE814, hov14, hE814 _ _ hrec7, ?_, by first | exact True.intro | rfl⟩
      · obtain ⟨r, hr⟩ := hpre
        obtain ⟨s, hs⟩ := hg7.pre
        exact ⟨r ++ s, by rw [hs, hr, List.append_assoc]⟩
      · rcases hg7.foot j e with e | e
        · exact hF j e
        · have : iv < H'.length := by rw [List.getElem?_eq_some_iff] at hov6; exact hov6.1
          omega
      · have := hg7.keep.1; have := hE814.len; omega
end Go.Va
end
