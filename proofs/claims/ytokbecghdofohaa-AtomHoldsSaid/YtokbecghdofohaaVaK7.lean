/- Part 7 of the proof: DA EA. -/
import Derived.Test.YtokbecghdofohaaVaK6
section
set_option linter.unusedSimpArgs false
set_option linter.unusedVariables false
set_option linter.unusedSectionVars false
namespace Go.Va
open Go.Proofs

def ndK : List (Option IntKind) := [some .i64, some .i64, some .i64, some .u32]
theorem wf_i64 {n : Int} (h : (Lit.int .i64 n).wf = true) : -9223372036854775808 ≤ n ∧ n < 9223372036854775808 := by
  simp [Lit.wf, IntKind.min, IntKind.max, IntKind.bits, IntKind.signed] at h; omega
theorem wf_u32 {n : Int} (h : (Lit.int .u32 n).wf = true) : 0 ≤ n ∧ n < 4294967296 := by
  simp [Lit.wf, IntKind.min, IntKind.max, IntKind.bits, IntKind.signed] at h; omega
theorem nd_of {r : List AV} (h : RowA ndK r) : ∃ n : Nd, r = n.c ∧ n.ok := by
  obtain ⟨hl, h⟩ := h
  obtain ⟨v0, g0, n0, rfl, w0⟩ := h 0 _ rfl
  obtain ⟨v1, g1, n1, rfl, w1⟩ := h 1 _ rfl
  obtain ⟨v2, g2, n2, rfl, w2⟩ := h 2 _ rfl
  obtain ⟨v3, g3, n3, rfl, w3⟩ := h 3 _ rfl
  refine ⟨⟨n0, n1, n2, n3⟩, ?_, (wf_u32 w3).1, (wf_u32 w3).2, (wf_i64 w0).1, (wf_i64 w0).2⟩
  apply List.ext_getElem?
  intro i
  match i with
  | 0 => rw [g0]; rfl
  | 1 => rw [g1]; rfl
  | 2 => rw [g2]; rfl
  | 3 => rw [g3]; rfl
  | i + 4 => rw [List.getElem?_eq_none (by rw [hl]; simp [ndK])]; rfl
theorem nds_of : ∀ {L : List (List AV)}, (∀ r ∈ L, RowA ndK r) → ∃ l : List Nd, L = l.map Nd.c ∧ ∀ n ∈ l, n.ok
  | [], _ => ⟨[], rfl, by simp⟩
  | r :: L, h => by
    obtain ⟨n, rfl, hn⟩ := nd_of (h r (by simp))
    obtain ⟨l, rfl, hl⟩ := nds_of (L := L) (fun r hr => h r (by simp [hr]))
    exact ⟨n :: l, rfl, fun m hm => by
      rcases List.mem_cons.1 hm with rfl | hm
      · exact hn
      · exact hl m hm⟩
theorem rec_of {r : List AV} (h : RowA (List.replicate 16 (some .u32)) r) : ∃ rc : Nat → Nat, RecOk r rc ∧ ∀ j, rc j < 4294967296 := by
  obtain ⟨hl, h⟩ := h
  have h' : ∀ j, ∃ n : Nat, n < 4294967296 ∧ (j < 16 → r[j]? = some (.int .u32 (n : Nat))) := by
    intro j
    rcases Nat.lt_or_ge j 16 with hj | hj
    · obtain ⟨v, g, n, rfl, w⟩ := h j (some .u32) (by rw [List.getElem?_replicate, if_pos hj])
      obtain ⟨w1, w2⟩ := wf_u32 w
      exact ⟨n.toNat, by omega, fun _ => by rw [g, Int.toNat_of_nonneg w1]⟩
    · exact ⟨0, by decide, fun h => by omega⟩
  refine ⟨fun j => (h' j).choose, ⟨by rw [hl]; rfl, fun j hj => (h' j).choose_spec.2 hj⟩, fun j => (h' j).choose_spec.1⟩

theorem nds_one {l : List Nd} : (l.map Nd.c).flatten.all AV.one = true := by
  induction l with
  | nil => rfl
  | cons n l ih => rw [List.map_cons, List.flatten_cons, List.all_append, ih]; rfl

end Go.Va
end

section
set_option linter.unusedSimpArgs false
set_option linter.unusedVariables false
set_option linter.unusedSectionVars false
namespace Go.Va
open Go.Proofs

theorem rcheck_may {l : List Nd} (hn : l.length ≤ 65536) (hl : May l) : (checkP l).2 = 0 := checkP_of hn hl
theorem chB_len {P : List Nd} (hN : Nice P) {D : Nat} (h : P.length ≤ D) : ChB D P := fun i op hi => Nat.le_trans (chn_tr hN.may i hi) (by omega)
theorem rightB_of {l : List Nd} (h : (checkP l).2 = 0) : rightB l = true := by simp [rightB, h]
theorem right_ok' {l : List Nd} : rightB l = true ↔ (checkP l).2 = 0 := by simp [rightB]
theorem getD_map_int {xs : List Nat} {j : Nat} (h : j < xs.length) : (WK .i64 xs)[j]? = some (.int .i64 (xs.getD j 0 : Nat)) := by
  simp [WK, List.getElem?_eq_getElem h]
/-- Two places of rows, once put into one that has each once. -/
theorem into_same {W Q : List Nd} (hW : Nice W) (hQ : May Q) (hQo : ∀ n ∈ Q, n.ok) {x y : Nat} (hx : x < Q.length) (hy : y < W.length) (h : tr Q x = tr W y) : (intoP W Q Q.length).2.getD x 0 = y := by
  obtain ⟨h1, ⟨r, hr⟩, h3⟩ := into_tr hW hQ hQo (Nat.le_refl Q.length)
  have hlt := intoP_lt (P0 := W) (l := Q) (Nat.le_refl _) x hx
  have hy' : y < (intoP W Q Q.length).1.length := by rw [hr, List.length_append]; omega
  refine tr_inj h1 _ _ hlt hy' ?_
  rw [h3 x hx, h]
  have hm := h1.may
  rw [hr] at hm ⊢
  exact (tr_app hm y hy).symm

theorem two_of {r : List AV} (h : RowA [some .i64, some .i64] r) : ∃ a b : Int, r = [.int .i64 a, .int .i64 b] ∧ (-9223372036854775808 ≤ a ∧ a < 9223372036854775808) ∧ (-9223372036854775808 ≤ b ∧ b < 9223372036854775808) := by
  obtain ⟨hl, h⟩ := h
  obtain ⟨v0, g0, n0, rfl, w0⟩ := h 0 _ rfl
  obtain ⟨v1, g1, n1, rfl, w1⟩ := h 1 _ rfl
  refine ⟨n0, n1, ?_, wf_i64 w0, wf_i64 w1⟩
  match r, hl, g0, g1 with
  | [x, y], _, g0, g1 => simp at g0 g1; rw [g0, g1]

theorem law_smake (l : List Nd) (op a0 a1 : Int) (v : AV) (H : Heap) (hl : ∀ n ∈ l, n.ok) (hS : Shows H v 4 (l.map Nd.c)) :
    F X 10 [v, .int .i64 op, .agg [.int .i64 a0, .int .i64 a1]] H fun r _ => r = .bool true := by
  refine F_slim S10_eq rfl fun ρ hρ => ?_
  simp only [AGs] at hρ
  obtain ⟨h0, h1, h2, -⟩ := hρ
  have hlen := hS.lenA isSl_22
  rw [List.length_map] at hlen
  simp -implicitDefEqProofs only [↓gP, gQ, ↓reduceIte, Nat.reduceAdd, Nat.reduceEqDiff, Nat.reduceLT, Nat.reduceLeDiff, Int.reduceEq, S10, h0, h1, h2]
  have hE1 : Ext H (H ++ [AObj.cells [AV.int .i64 a0, AV.int .i64 a1] 47 0 false]) := Ext.refl.app
  have hat : (H ++ [AObj.cells [AV.int .i64 a0, AV.int .i64 a1] 47 0 false])[H.length]? = some (.cells [AV.int .i64 a0, AV.int .i64 a1] 47 0 false) := hp_get0
  generalize H ++ [AObj.cells [AV.int .i64 a0, AV.int .i64 a1] 47 0 false] = H1 at hE1 hat
  refine CS_fn (F_tru rfl) ?_
  rintro _ _ ⟨rfl, rfl⟩
  simp -implicitDefEqProofs only [↓gP, gQ, ↓reduceIte, Nat.reduceAdd, Nat.reduceEqDiff, Nat.reduceLT, Nat.reduceLeDiff, Int.reduceEq, h0, hlen]
  refine Br_dec (fun h => ?_) (fun h => ?_) <;> simp -implicitDefEqProofs only [↓gP, gQ, ↓reduceIte, Nat.reduceAdd, Nat.reduceEqDiff, Nat.reduceLT, Nat.reduceLeDiff, Int.reduceEq, h0, hlen, h]
  · refine CS_fn (F_tru rfl) ?_
    rintro _ _ ⟨rfl, rfl⟩
    simp -implicitDefEqProofs only [↓gP, gQ, ↓reduceIte, Nat.reduceAdd, Nat.reduceEqDiff, Nat.reduceLT, Nat.reduceLeDiff, Int.reduceEq, h0, hlen]
  refine CS_fn (right_spec l v _ (hS.ext hE1)) ?_
  rintro _ H2 ⟨rfl, hE2⟩
  simp -implicitDefEqProofs only [↓gP, gQ, ↓reduceIte, Nat.reduceAdd, Nat.reduceEqDiff, Nat.reduceLT, Nat.reduceLeDiff, Int.reduceEq, h0, hlen]
  refine Br_bool (fun hR => ?_) (fun hR => ?_) <;> simp -implicitDefEqProofs only [↓gP, gQ, ↓reduceIte, Nat.reduceAdd, Nat.reduceEqDiff, Nat.reduceLT, Nat.reduceLeDiff, Int.reduceEq, h0, hlen, hR]
  case' refine_2 =>
    refine CS_fn (F_tru rfl) ?_
    rintro _ _ ⟨rfl, rfl⟩
    simp -implicitDefEqProofs only [↓gP, gQ, ↓reduceIte, Nat.reduceAdd, Nat.reduceEqDiff, Nat.reduceLT, Nat.reduceLeDiff, Int.reduceEq, h0, hlen]
  have hc := right_ok'.1 hR
  obtain ⟨hn, hmay⟩ := checkP_ok hc
  refine CS_fn (into_spec [] l .nilsl v _ OwnV.nil ((hS.ext hE1).ext hE2) hc (fun i _ e => by cases e) (by simp; omega)) ?_
  rintro _ H3 ⟨wv, born, rfl, hO3, hborn, hobj, hne, hG⟩
  obtain ⟨hN, -, -⟩ := into_tr Nice.nil hmay hl (Nat.le_refl l.length)
  obtain ⟨-, hl1⟩ := intoP_len (P0 := []) (l := l) (m := l.length) (Nat.le_refl _)
  simp only [List.length_nil, Nat.zero_add] at hl1
  generalize (intoP [] l l.length).1 = P at hO3 hN hl1
  have hE23 : Ext H2 H3 := fun i o e => hG.keep.2 _ _ (fun e => by cases e) e
  have hat3 := (hE2.trans hE23) _ _ hat
  simp -implicitDefEqProofs only [↓gP, gQ, ↓reduceIte, Nat.reduceAdd, Nat.reduceEqDiff, Nat.reduceLT, Nat.reduceLeDiff, Int.reduceEq, h0]
  refine CS_fn (lpool_spec P wv _ hO3.shows hN (by omega)) ?_
  rintro _ H4 ⟨pid, mid, nv, rfl, hP4, hE4, hge4⟩
  have hat4 := hE4 _ _ hat3
  have ix0 : ixO (some (false, 2, 1)) (.ptr H.length 0 2) (.int .i64 0) = some (.ptr H.length 0 2) := by rw [ixO_arr (by decide) (by decide)]; rfl
  have ix1 : ixO (some (false, 2, 1)) (.ptr H.length 0 2) (.int .i64 1) = some (.ptr H.length 1 2) := by rw [ixO_arr (by decide) (by decide)]; rfl
  have b1 : (1 : Nat) ≤ 2 := by decide
  simp -implicitDefEqProofs only [↓gP, gQ, ↓reduceIte, Nat.reduceAdd, Nat.reduceEqDiff, Nat.reduceLT, Nat.reduceLeDiff, Int.reduceEq, h0, h1, ix0, ix1, hat4]
  have hD := chB_len hN (D := 60) (by omega)
  refine CS_fn (sMake_spec op a0 a1 P 60 pid mid 60 nv _ hP4 hN hD (by decide) (fun i hi => hD i op hi) (by omega)) ?_
  intro r H5 hr
  have hO4 := hO3.ext hE4
  have hlenP : ∀ H', RowAt H' wv P → lenA Try.prog 22 wv = some (.int .i64 (P.length : Nat)) := fun H' h => by
    have := h.shows.lenA isSl_22
    rw [List.length_map] at this; exact this
  have hlP := hlenP _ hO4
  by_cases c1 : op ∈ ops10
  case neg =>
    rw [if_pos c1] at hr
    obtain ⟨rfl, hE5⟩ := hr
    simp -implicitDefEqProofs only [↓gP, gQ, ↓reduceIte, Nat.reduceAdd, Nat.reduceEqDiff, Nat.reduceLT, Nat.reduceLeDiff, Int.reduceEq, h0, h1]
    refine CS_fn (isop_spec op _) ?_
    rintro _ _ ⟨rfl, rfl⟩
    simp -implicitDefEqProofs only [↓gP, gQ, ↓reduceIte, Nat.reduceAdd, Nat.reduceEqDiff, Nat.reduceLT, Nat.reduceLeDiff, Int.reduceEq, h0, h1, decide_eq_false c1]
  rw [if_neg (fun h => h c1)] at hr
  by_cases c2 : ¬ (0 ≤ a0 ∧ a0 < P.length) ∨ (¬ (0 ≤ a1 ∧ a1 < P.length) ∧ op ≠ 128)
  · rw [if_pos c2] at hr
    obtain ⟨rfl, hE5⟩ := hr
    simp -implicitDefEqProofs only [↓gP, gQ, ↓reduceIte, Nat.reduceAdd, Nat.reduceEqDiff, Nat.reduceLT, Nat.reduceLeDiff, Int.reduceEq, h0, h1]
    refine CS_fn (isop_spec op _) ?_
    rintro _ _ ⟨rfl, rfl⟩
    have hat5 := hE5 _ _ hat4
    simp -implicitDefEqProofs only [↓gP, gQ, ↓reduceIte, Nat.reduceAdd, Nat.reduceEqDiff, Nat.reduceLT, Nat.reduceLeDiff, Int.reduceEq, h0, h1, decide_eq_true c1, ix0, ix1, hat5, hlP]
    iterate 6 (all_goals (try (refine Br_dec (fun h => ?_) (fun h => ?_) <;> simp -implicitDefEqProofs only [↓gP, gQ, ↓reduceIte, Nat.reduceAdd, Nat.reduceEqDiff, Nat.reduceLT, Nat.reduceLeDiff, Int.reduceEq, h0, h1, ix0, ix1, hat5, hlP, h])))
    all_goals (exfalso; omega)
  · rw [if_neg c2] at hr
    have ca : 0 ≤ a0 ∧ a0 < P.length := Classical.byContradiction fun h => c2 (.inl h)
    have cb : (0 ≤ a1 ∧ a1 < P.length) ∨ op = 128 := by
      by_cases h : op = 128
      · exact .inr h
      · exact .inl (Classical.byContradiction fun h' => c2 (.inr ⟨h', h⟩))
    obtain ⟨nv5, P5, x, hg5, rfl, hx5, ht5⟩ := hr
    have j1 : ¬ a0 < 0 := by omega
    have j2 : ¬ (P.length : Int) ≤ a0 := by omega
    have notFoot : ∀ j, j < H3.length → ¬ Foot pid mid nv j := fun j hj e => by have := hge4 j e; omega
    have hat5 := hg5.keep.2 _ _ (notFoot _ (by rw [List.getElem?_eq_some_iff] at hat3; exact hat3.1)) hat4
    have hwlt : ∀ j, slId wv = some j → j < H3.length := fun j e => by
      rcases hO3.2 with ⟨rfl, -⟩ | ⟨id, b, -, rfl, -, g⟩
      · cases e
      · cases e; rw [List.getElem?_eq_some_iff] at g; exact g.1
    have hO5 : RowAt H5 wv P := hO4.keep fun j o e hj => hg5.keep.2 _ _ (notFoot j (hwlt j e)) hj
    simp -implicitDefEqProofs only [↓gP, gQ, ↓reduceIte, Nat.reduceAdd, Nat.reduceEqDiff, Nat.reduceLT, Nat.reduceLeDiff, Int.reduceEq, h0, h1]
    refine CS_fn (isop_spec op _) ?_
    rintro _ _ ⟨rfl, rfl⟩
    -- where the reference goes on
    have ref : ∀ b : Int, (0 ≤ b ∧ (b < P.length ∨ op = 128)) → F X 35 [wv, .int .i64 op, .int .i64 a0, .int .i64 b] H5 fun r H' => MadeR H5 H' wv P 60 62 r (if op = 128 then negT (tr P a0.toNat) else mkT op (tr P a0.toNat) (tr P b.toNat)) := by
      rintro b ⟨hb0, hb1⟩
      obtain ⟨x0, rfl⟩ : ∃ x0 : Nat, a0 = x0 := ⟨a0.toNat, (Int.toNat_of_nonneg ca.1).symm⟩
      obtain ⟨y0, rfl⟩ : ∃ y0 : Nat, b = y0 := ⟨b.toNat, (Int.toNat_of_nonneg hb0).symm⟩
      exact rMake_spec op x0 y0 P 60 60 wv _ hO5 hN hD (by decide) (by omega) (by omega) c1 (fun i hi => hD i op hi) (by omega)
    have d1 := decide_eq_true c1
    by_cases e128 : op = 128
    focus
      simp -implicitDefEqProofs only [↓gP, gQ, ↓reduceIte, Nat.reduceAdd, Nat.reduceEqDiff, Nat.reduceLT, Nat.reduceLeDiff, Int.reduceEq, h0, h1, d1, ix0, ix1, hat5, hlP, j1, j2, eq_true e128]
      refine CS_fn (ref 0 ⟨by omega, .inr e128⟩) ?_
      rw [if_pos e128] at ht5 ⊢
    rotate_left
    focus
      obtain ⟨k1, k2⟩ := cb.resolve_right e128
      have j3 : ¬ a1 < 0 := by omega
      have j4 : ¬ (P.length : Int) ≤ a1 := by omega
      simp -implicitDefEqProofs only [↓gP, gQ, ↓reduceIte, Nat.reduceAdd, Nat.reduceEqDiff, Nat.reduceLT, Nat.reduceLeDiff, Int.reduceEq, h0, h1, d1, ix0, ix1, hat5, hlP, j1, j2, j3, j4, eq_false e128]
      refine CS_fn (ref a1 ⟨k1, .inl k2⟩) ?_
      rw [if_neg e128] at ht5 ⊢
    all_goals
      rintro _ H6 ⟨v6, W, y, hg6, rfl, hy6, ht6⟩
      simp -implicitDefEqProofs only [↓gP, gQ, ↓reduceIte, Nat.reduceAdd, Nat.reduceEqDiff, Nat.reduceLT, Nat.reduceLeDiff, Int.reduceEq, h0, h1]
      have hP6 : PoolAt H6 pid mid nv5 P5 := hg5.at'.keep fun j o f hj => hg6.grown.keep.2 _ _ (fun e => by
        rcases hg5.foot j f with q | q
        · have := hge4 j q; have := hwlt j e; omega
        · have := hwlt j e; have := hE4.len; omega) hj
      have hl5 := hg5.len
      have hl6 := hg6.len
      refine CS_fn (nodes_spec P5 pid mid nv5 _ hP6 (by omega)) ?_
      rintro av H7 ⟨hE7, hOa⟩
      have hSa : Shows H7 av 4 (P5.map Nd.c) := OwnV.shows hOa nd_rows (by decide)
      have hla := hSa.lenA isSl_22
      rw [List.length_map] at hla
      have hSw : Shows H7 wv 4 (P.map Nd.c) := hg6.grown.old.ext hE7
      have hpre := hg5.pre
      have hlPP : P.length ≤ P5.length := by obtain ⟨r, hr⟩ := hpre; rw [hr, List.length_append]; omega
      have k1 : ¬ ((x : Nat) : Int) < 0 := by omega
      have k2 : ¬ ((P5.length : Nat) : Int) ≤ (x : Nat) := by omega
      simp -implicitDefEqProofs only [↓gP, gQ, ↓reduceIte, Nat.reduceAdd, Nat.reduceEqDiff, Nat.reduceLT, Nat.reduceLeDiff, Int.reduceEq, h0, h1, k1, k2, hla, eq_self]
      refine CS_fn (right_spec P5 av _ hSa) ?_
      rintro _ H8 ⟨rfl, hE8⟩
      have hc5 : (checkP P5).2 = 0 := rcheck_may (by omega) hg5.nice.may
      have hR5 := rightB_of hc5
      have k3 : ¬ ((P5.length : Nat) : Int) < (P.length : Nat) := by omega
      obtain ⟨sv, hsl, hSs⟩ := (hSa.ext hE8).pre (k := .i64) (n := P.length) slT_22 (by rw [List.length_map]; exact hlPP)
      rw [← List.map_take] at hSs
      simp -implicitDefEqProofs only [↓gP, gQ, ↓reduceIte, Nat.reduceAdd, Nat.reduceEqDiff, Nat.reduceLT, Nat.reduceLeDiff, Int.reduceEq, h0, h1, hR5, hla, hlP, k3, Option.map_none, hsl]
      refine CS_fn (rsame_spec _ _ _ _ _ hSs (hSw.ext hE8) (by rw [List.length_take]; omega)) ?_
      rintro _ _ ⟨rfl, rfl⟩
      have htk : P5.take P.length = P := by obtain ⟨r, hr⟩ := hpre; rw [hr]; simp
      rw [htk]
      simp -implicitDefEqProofs only [↓gP, gQ, ↓reduceIte, Nat.reduceAdd, Nat.reduceEqDiff, Nat.reduceLT, Nat.reduceLeDiff, Int.reduceEq, h0, h1, eq_self]
      have hE78 := hE7.trans hE8
      obtain ⟨cv, H9, e9, hO9, hE9, -⟩ := copySl (H := H8) slT_22 rfl (by decide) ((hg6.row.ext hE78).shows) nds_one' (by rw [List.length_map]; omega) (by rw [List.length_map]; omega)
      rw [List.length_map] at hO9
      have hO9' : RowAt H9 cv W := ⟨hO9.1, hO9.2.imp id fun ⟨id, b, _, h⟩ => ⟨id, b, Nat.zero_le _, h⟩⟩
      simp -implicitDefEqProofs only [↓gP, gQ, ↓reduceIte, Nat.reduceAdd, Nat.reduceEqDiff, Nat.reduceLT, Nat.reduceLeDiff, Int.reduceEq, h0, h1, bldSl0 (k := 0) slT_22 rfl (by decide), e9]
      refine CS_fn (into_spec W P5 cv av _ hO9' ((hSa.ext hE8).ext hE9) hc5 (fun i e1 e2 => ?_) (by omega)) ?_
      · have hlt : i < H8.length := by
          have h' := hSa.2
          have : ∃ o, H7[i]? = some o := by
            cases av <;> simp only [slId, reduceCtorEq] at e1
            cases e1
            obtain ⟨-, -, c, e, bb, ro, g, -⟩ := h'
            exact ⟨_, g⟩
          obtain ⟨o, ho⟩ := this
          rw [List.getElem?_eq_some_iff] at ho; have := ho.1; have := hE8.len; omega
        rcases hO9.2 with ⟨rfl, -⟩ | ⟨id, b, hge, rfl, -, -⟩
        · cases e2
        · cases e2; omega
      rintro _ H10 ⟨v10, b10, rfl, -, hb10, ho10, -, -⟩
      have hsame := into_same hg6.nice hg5.nice.may hg5.nice.ok hx5 hy6 (by rw [ht5, ht6])
      obtain ⟨hlo, -⟩ := intoP_len (P0 := W) (l := P5) (m := P5.length) (Nat.le_refl _)
      have hWl : (WK .i64 (intoP W P5 P5.length).2).length = P5.length := by rw [WK_len, hlo]
      have hgx := getD_map_int (xs := (intoP W P5 P5.length).2) (j := x) (by omega)
      rw [hsame] at hgx
      simp -implicitDefEqProofs only [↓gP, gQ, ↓reduceIte, Nat.reduceAdd, Nat.reduceEqDiff, Nat.reduceLT, Nat.reduceLeDiff, Int.reduceEq, h0, h1, ix_own1 hx5, ho10, hWl, hb10, hx5, hgx, eq_self]
end Go.Va
end
