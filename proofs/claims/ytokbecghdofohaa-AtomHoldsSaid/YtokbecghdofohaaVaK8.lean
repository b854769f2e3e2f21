/- Part 8 of the proof: EB EC ED EE EF. -/
import Derived.Test.YtokbecghdofohaaVaK7
section
set_option linter.unusedSimpArgs false
set_option linter.unusedVariables false
set_option linter.unusedSectionVars false
namespace Go.Va
open Go.Proofs

theorem mk_comm {op : Int} (h : eitherB op = true) (h' : op ≠ 128) (k : Nat) (t : Tm) : mkT op (.num k) t = mkT op t (.num k) := by
  unfold mkT
  rw [if_neg h', if_neg h']
  cases e : numOf t with
  | some j =>
    simp only [numOf]
    rw [alu_comm h]
  | none => simp only [numOf, h, if_true]

theorem law_turns (l : List Nd) (k : Nat) (op : Int) (v : AV) (H : Heap) (hl : ∀ n ∈ l, n.ok) (hk : k < 4294967296) (hS : Shows H v 4 (l.map Nd.c)) :
    F X 16 [v, .int .u32 (k : Nat), .int .i64 op] H fun r _ => r = .bool true := by
  refine F_slim S16_eq rfl fun ρ hρ => ?_
  simp only [AGs] at hρ
  obtain ⟨h0, h1, h2, -⟩ := hρ
  have hlen := hS.lenA isSl_22
  rw [List.length_map] at hlen
  simp -implicitDefEqProofs only [↓gP, gQ, ↓reduceIte, Nat.reduceAdd, Nat.reduceEqDiff, Nat.reduceLT, Nat.reduceLeDiff, Int.reduceEq, S16, h0, h1, h2]
  refine CS_fn (F_tru rfl) ?_
  rintro _ _ ⟨rfl, rfl⟩
  simp -implicitDefEqProofs only [↓gP, gQ, ↓reduceIte, Nat.reduceAdd, Nat.reduceEqDiff, Nat.reduceLT, Nat.reduceLeDiff, Int.reduceEq, h0, h1, h2, hlen]
  refine Br_dec (fun h => ?_) (fun h => ?_) <;> simp -implicitDefEqProofs only [↓gP, gQ, ↓reduceIte, Nat.reduceAdd, Nat.reduceEqDiff, Nat.reduceLT, Nat.reduceLeDiff, Int.reduceEq, h0, h1, h2, hlen, h]
  · refine CS_fn (F_tru rfl) ?_
    rintro _ _ ⟨rfl, rfl⟩
    simp -implicitDefEqProofs only [↓gP, gQ, ↓reduceIte, Nat.reduceAdd, Nat.reduceEqDiff, Nat.reduceLT, Nat.reduceLeDiff, Int.reduceEq, h0, hlen]
  refine Br_dec (fun h40 => ?_) (fun h40 => ?_) <;> simp -implicitDefEqProofs only [↓gP, gQ, ↓reduceIte, Nat.reduceAdd, Nat.reduceEqDiff, Nat.reduceLT, Nat.reduceLeDiff, Int.reduceEq, h0, h1, h2, hlen, h40]
  · refine CS_fn (F_tru rfl) ?_
    rintro _ _ ⟨rfl, rfl⟩
    simp -implicitDefEqProofs only [↓gP, gQ, ↓reduceIte, Nat.reduceAdd, Nat.reduceEqDiff, Nat.reduceLT, Nat.reduceLeDiff, Int.reduceEq, h0, hlen]
  refine CS_fn (right_spec l v _ hS) ?_
  rintro _ H2 ⟨rfl, hE2⟩
  simp -implicitDefEqProofs only [↓gP, gQ, ↓reduceIte, Nat.reduceAdd, Nat.reduceEqDiff, Nat.reduceLT, Nat.reduceLeDiff, Int.reduceEq, h0, h1, h2, hlen]
  refine Br_bool (fun hR => ?_) (fun hR => ?_) <;> simp -implicitDefEqProofs only [↓gP, gQ, ↓reduceIte, Nat.reduceAdd, Nat.reduceEqDiff, Nat.reduceLT, Nat.reduceLeDiff, Int.reduceEq, h0, h1, h2, hlen, hR]
  case' refine_2 =>
    refine CS_fn (F_tru rfl) ?_
    rintro _ _ ⟨rfl, rfl⟩
    simp -implicitDefEqProofs only [↓gP, gQ, ↓reduceIte, Nat.reduceAdd, Nat.reduceEqDiff, Nat.reduceLT, Nat.reduceLeDiff, Int.reduceEq, h0, hlen]
  have hc := right_ok'.1 hR
  obtain ⟨hn, hmay⟩ := checkP_ok hc
  have hops : ∀ o : Int, o = 0 ∨ o = 32 ∨ o = 64 ∨ o = 80 ∨ o = 160 → o ∈ ops10 ∧ o ≠ 128 ∧ eitherB o = true := by
    intro o ho
    rcases ho with rfl | rfl | rfl | rfl | rfl <;> decide
  by_cases hop : op = 0 ∨ op = 32 ∨ op = 64 ∨ op = 80 ∨ op = 160
  case neg =>
    have b0 : ¬ op = 0 := by omega
    have b1 : ¬ op = 32 := by omega
    have b2 : ¬ op = 64 := by omega
    have b3 : ¬ op = 80 := by omega
    have b4 : ¬ op = 160 := by omega
    simp -implicitDefEqProofs only [↓gP, gQ, ↓reduceIte, Nat.reduceAdd, Nat.reduceEqDiff, Nat.reduceLT, Nat.reduceLeDiff, Int.reduceEq, h0, h1, h2, hlen, b0, b1, b2, b3, b4]
  obtain ⟨o1, o2, o3⟩ := hops _ hop
  rcases hop with rfl | rfl | rfl | rfl | rfl
  all_goals
    simp -implicitDefEqProofs only [↓gP, gQ, ↓reduceIte, Nat.reduceAdd, Nat.reduceEqDiff, Nat.reduceLT, Nat.reduceLeDiff, Int.reduceEq, h0, h1, h2]
    refine CS_fn (into_spec [] l .nilsl v _ OwnV.nil (hS.ext hE2) hc (fun i _ e => by cases e) (by simp; omega)) ?_
    rintro _ H3 ⟨wv, born, rfl, hO3, hborn, hobj, hne, hG⟩
    obtain ⟨hN, -, -⟩ := into_tr Nice.nil hmay hl (Nat.le_refl l.length)
    obtain ⟨-, hl1⟩ := intoP_len (P0 := []) (l := l) (m := l.length) (Nat.le_refl _)
    simp only [List.length_nil, Nat.zero_add] at hl1
    generalize (intoP [] l l.length).1 = P at hO3 hN hl1
    simp -implicitDefEqProofs only [↓gP, gQ, ↓reduceIte, Nat.reduceAdd, Nat.reduceEqDiff, Nat.reduceLT, Nat.reduceLeDiff, Int.reduceEq, h0, h1, h2]
    refine CS_fn (lpool_spec P wv _ hO3.shows hN (by omega)) ?_
    rintro _ H4 ⟨pid, mid, nv, rfl, hP4, hE4, hge4⟩
    have hlP : lenA Try.prog 22 wv = some (.int .i64 (P.length : Nat)) := by
      have := (hO3.ext hE4).shows.lenA isSl_22
      rw [List.length_map] at this; exact this
    simp -implicitDefEqProofs only [↓gP, gQ, ↓reduceIte, Nat.reduceAdd, Nat.reduceEqDiff, Nat.reduceLT, Nat.reduceLeDiff, Int.reduceEq, h0, h1, h2]
    refine CS_fn (snumber_spec k P 60 pid mid nv _ hP4 hN (chB_len hN (by omega)) hk (by omega)) ?_
    rintro _ H5 ⟨nv5, P5, x, hg5, rfl, hx5, ht5⟩
    have hl5 := hg5.len
    simp -implicitDefEqProofs only [↓gP, gQ, ↓reduceIte, Nat.reduceAdd, Nat.reduceEqDiff, Nat.reduceLT, Nat.reduceLeDiff, Int.reduceEq, h0, h1, h2, hlP]
    refine loop_rule (fun k' ρ' H' D' => ∃ i nv Q, k' = P.length - i ∧ i ≤ P.length ∧ ρ' 72 = .int .i64 (i : Nat) ∧ ρ' 71 = .int .i64 (P.length : Nat) ∧ ρ' 11 = .int .i64 (x : Nat) ∧ ρ' 2 = ρ 2 ∧ ρ' 9 = .ptr pid 0 2 ∧ ρ' 10 = .bool true ∧ ρ' 12 = .int .i64 0 ∧ PoolAt H' pid mid nv Q ∧
        Nice Q ∧ ChB 60 Q ∧ P.length ≤ Q.length ∧ Q.length ≤ 41 + i * 124 ∧ x < Q.length ∧ tr Q x = .num k ∧ D' = []) P.length
      ⟨0, nv5, P5, by simp, by simp, by simp only [up_get]; rfl, by simp only [up_get]; rfl, by simp only [up_get]; rfl, by simp only [up_get]; rfl, by simp only [up_get]; rfl, by simp only [up_get]; rfl, by simp only [up_get]; rfl, hg5.at', hg5.nice, hg5.ch, by (obtain ⟨r, hr⟩ := hg5.pre; rw [hr, List.length_append]; omega), by omega, hx5, ht5, rfl⟩ ?_
    rintro k' ρ' H' D' ⟨i, nv6, Q, hk', hi, e72, e71, e11, e2, e9, e10, e12, hP6, hN6, hD6, hPl, hQl, hxQ, htQ, rfl⟩
    simp -implicitDefEqProofs only [↓gP, gQ, ↓reduceIte, Nat.reduceAdd, Nat.reduceEqDiff, Nat.reduceLT, Nat.reduceLeDiff, Int.reduceEq, S16L1, e72, e71, e11, e2, e9, e10, e12]
    refine Br_dec (fun g => ?_) (fun g => ?_)
    focus
      have hiP : i < P.length := by omega
      have hw : IntKind.i64.wrap ((i : Int) + 1) = ((i + 1 : Nat) : Int) := by rw [wrap64 (by omega) (by omega)]; rfl
      simp -implicitDefEqProofs only [↓gP, gQ, ↓reduceIte, Nat.reduceAdd, Nat.reduceEqDiff, Nat.reduceLT, Nat.reduceLeDiff, Int.reduceEq, e72, e71, e11, e2, e9, e10, e12, h2]
      refine CS_fn (sMake_spec _ i x Q 60 pid mid 60 nv6 _ hP6 hN6 hD6 (by decide) (fun j hj => hD6 j _ hj) (by omega)) ?_
      intro r6 H6 hr6
      rw [if_neg (fun h => h o1), if_neg (by rintro (h | ⟨h, -⟩) <;> exact h (by omega)), if_neg o2, Int.toNat_natCast, Int.toNat_natCast] at hr6
      obtain ⟨nv7, Q7, y, hg7, rfl, hy7, ht7⟩ := hr6
      have hl7 := hg7.len
      have hQ7 : Q.length ≤ Q7.length := by obtain ⟨r, hr⟩ := hg7.pre; rw [hr, List.length_append]; omega
      simp -implicitDefEqProofs only [↓gP, gQ, ↓reduceIte, Nat.reduceAdd, Nat.reduceEqDiff, Nat.reduceLT, Nat.reduceLeDiff, Int.reduceEq, e72, e71, e11, e2, e9, e10, e12, h2]
      refine CS_fn (sMake_spec _ x i Q7 60 pid mid 60 nv7 _ hg7.at' hg7.nice hg7.ch (by decide) (fun j hj => hg7.ch j _ hj) (by omega)) ?_
      intro r8 H8 hr8
      rw [if_neg (fun h => h o1), if_neg (by rintro (h | ⟨h, -⟩) <;> exact h (by omega)), if_neg o2, Int.toNat_natCast, Int.toNat_natCast] at hr8
      obtain ⟨nv8, Q8, z, hg8, rfl, hz8, ht8⟩ := hr8
      have hl8 := hg8.len
      have hQ8 : Q7.length ≤ Q8.length := by obtain ⟨r, hr⟩ := hg8.pre; rw [hr, List.length_append]; omega
      have hyz : y = z := by
        refine tr_inj hg8.nice _ _ (hg8.lt hy7) hz8 ?_
        rw [hg8.tr hy7, ht7, ht8, hg7.tr hxQ, hg7.tr (by omega), htQ, mk_comm o3 o2]
      simp -implicitDefEqProofs only [↓gP, gQ, ↓reduceIte, Nat.reduceAdd, Nat.reduceEqDiff, Nat.reduceLT, Nat.reduceLeDiff, Int.reduceEq, e72, e71, e11, e2, e9, e10, e12, h2, hyz, eq_self, hw]
      refine ⟨P.length - (i + 1), by omega, i + 1, nv8, Q8, rfl, hiP, by first | exact True.intro | rfl, by first | exact True.intro | rfl, by first | exact True.intro | rfl, by first | exact True.intro | rfl, by first | exact True.intro | rfl, by first | exact True.intro | rfl, by first | exact True.intro | rfl, hg8.at', hg8.nice, hg8.ch, by omega, by omega, by omega, ?_, by first | exact True.intro | rfl⟩
      rw [hg8.tr (by omega), hg7.tr hxQ, htQ]
    focus
      simp -implicitDefEqProofs only [↓gP, gQ, ↓reduceIte, Nat.reduceAdd, Nat.reduceEqDiff, Nat.reduceLT, Nat.reduceLeDiff, Int.reduceEq, e72, e71, e11, e2, e9, e10, e12, h2]
end Go.Va
end

section
set_option linter.unusedSimpArgs false
set_option linter.unusedVariables false
set_option linter.unusedSectionVars false
namespace Go.Va
open Go.Proofs

theorem alus_sub {op : Int} (h : op ∈ alus) (h' : op ≠ 384) : op - 256 ∈ ops9 := by
  simp [alus] at h
  simp [ops9]; omega
theorem PoolAt.set {H : Heap} {pid mid id : Nat} {nv : AV} {l : List Nd} {o : AObj} (h : PoolAt H pid mid nv l) (hq : ¬ Foot pid mid nv id) : PoolAt (H.set id o) pid mid nv l :=
  h.keep fun i x f e => by
    have hne : id ≠ i := fun hh => hq (by rw [hh]; exact f)
    rw [List.getElem?_set_ne hne]; exact e
theorem MkAt.set {H : Heap} {qid pid id : Nat} {o : AObj} (h : MkAt H qid pid) (hq : id ≠ qid) : MkAt (H.set id o) qid pid := by
  obtain ⟨b, h1, h2⟩ := h
  exact ⟨b, h1, by rw [List.getElem?_set_ne hq]; exact h2⟩

/-- What all terms made anew stand as. -/
structure AnewAt (l : List Nd) (Q : List Nd) (xs : List Nat) (i : Nat) : Prop where
  nice : Nice Q
  ch : ChB 1 Q
  len : Q.length ≤ 3 * i
  xlen : xs.length = i
  at' : ∀ j, j < i → xs.getD j 0 < Q.length ∧ tr Q (xs.getD j 0) = anewT (tr l j)

/-- A number or a word. -/
theorem leaf_put {n : Nd} {i : Nat} (N : Nat) (hm : mayB n i = true) (h : n.op = 1 ∨ n.op = 2) (f g : Nat → Tm) : mayB n N = true ∧ (∀ op, chn op (nodeT n f) ≤ 1) ∧ nodeT n f = anewT (nodeT n g) := by
  rcases h with h | h
  · refine ⟨?_, fun op => ?_, ?_⟩
    · unfold mayB at hm ⊢; rw [if_pos h] at hm ⊢; exact hm
    · unfold nodeT; rw [if_pos h]; simp [chn]
    · unfold nodeT; rw [if_pos h, if_pos h]; rfl
  · have h1 : ¬ n.op = 1 := by omega
    refine ⟨?_, fun op => ?_, ?_⟩
    · unfold mayB at hm ⊢; rw [if_neg h1, if_pos h] at hm ⊢; exact hm
    · unfold nodeT; rw [if_neg h1, if_pos h]; simp [chn]
    · unfold nodeT; rw [if_neg h1, if_neg h1, if_pos h, if_pos h]; rfl
theorem Made.le {H H' : Heap} {pid mid : Nat} {nv : AV} {P : List Nd} {D k k' : Nat} {r : AV} {t : Tm} (h : Made H H' pid mid nv P D k r t) (hk : k ≤ k') : Made H H' pid mid nv P D k' r t := by
  obtain ⟨a, b, c, g, h⟩ := h
  exact ⟨a, b, c, g.le hk, h⟩
theorem rowK_full' {k : IntKind} {vs : List Nat} {n : Nat} (h : vs.length = n) : rowK k vs n = WK k vs := by
  unfold rowK; rw [h, Nat.sub_self]; simp

set_option maxHeartbeats 4000000 in
theorem anew_spec (l : List Nd) (v : AV) (H : Heap) (hS : Shows H v 4 (l.map Nd.c)) (hl : ∀ n ∈ l, n.ok) (hmay : May l) (hn : l.length ≤ 10000) :
    F X 70 [v] H fun r H' => ∃ pid mid nv Q id born xs, r = .tup [.ptr pid 0 2, .sl id 0 l.length l.length 1] ∧ PoolAt H' pid mid nv Q ∧ AnewAt l Q xs l.length ∧ Ext H H' ∧ (∀ j, Foot pid mid nv j → H.length ≤ j) ∧ H.length ≤ id ∧ ¬ Foot pid mid nv id ∧
      H'[id]? = some (.cells (WK .i64 xs) 3 born false) ∧ born ≤ l.length := by
  refine F_slim S70_eq rfl fun ρ hρ => ?_
  simp only [AGs] at hρ
  obtain ⟨h0, -⟩ := hρ
  have hlen := hS.lenA isSl_22
  rw [List.length_map] at hlen
  simp -implicitDefEqProofs only [↓gP, gQ, ↓reduceIte, Nat.reduceAdd, Nat.reduceEqDiff, Nat.reduceLT, Nat.reduceLeDiff, Int.reduceEq, S70, h0]
  refine CS_fn (new_spec _) ?_
  rintro _ H1 ⟨rfl, hP1, hE1⟩
  have hmk := fun H => mkSl (H := H) (k := .i64) (k' := .i64) (n := l.length) slT_37 (by omega) (by omega) rfl (by omega)
  simp only [rowK_zero, Nat.mul_one] at hmk
  simp -implicitDefEqProofs only [↓gP, gQ, ↓reduceIte, Nat.reduceAdd, Nat.reduceEqDiff, Nat.reduceLT, Nat.reduceLeDiff, Int.reduceEq, h0, hlen, bldMk, hmk]
  have hq1 : ∀ j, Foot (H.length + 1) H.length .nilsl j → H.length ≤ j ∧ j < H1.length := fun j e => by
    have := hP1.lt e
    refine ⟨?_, this⟩
    rcases e with e | e | e
    · omega
    · omega
    · cases e
  have hM2 : MkAt (H1 ++ [AObj.cells [AV.ptr (H.length + 1) 0 2, AV.int .i64 0] 110 0 false, AObj.cells (rowK .i64 [] l.length) 3 0 false]) H1.length (H.length + 1) := ⟨0, by decide, hp_get0⟩
  have hX2 : (H1 ++ [AObj.cells [AV.ptr (H.length + 1) 0 2, AV.int .i64 0] 110 0 false, AObj.cells (rowK .i64 [] l.length) 3 0 false])[H1.length + 1]? = some (.cells (rowK .i64 [] l.length) 3 0 false) := hp_get
  have hE2 : Ext H1 (H1 ++ [AObj.cells [AV.ptr (H.length + 1) 0 2, AV.int .i64 0] 110 0 false, AObj.cells (rowK .i64 [] l.length) 3 0 false]) := Ext.refl.app
  generalize H1 ++ [AObj.cells [AV.ptr (H.length + 1) 0 2, AV.int .i64 0] 110 0 false, AObj.cells (rowK .i64 [] l.length) 3 0 false] = H2 at hM2 hX2 hE2
  have hP2 := hP1.ext hE2
  have hQ2 : ∀ j, Foot (H.length + 1) H.length .nilsl j → H.length ≤ j ∧ j ≠ H1.length ∧ j ≠ H1.length + 1 := fun j e => by have := hq1 j e; omega
  have hEE := hE1.trans hE2
  have hL1 := hE1.len
  generalize hpid : H.length + 1 = pid at hP2 hM2 hQ2
  clear hP1 hq1 hE1
  generalize H1.length = qid at hM2 hX2 hQ2 hL1
  refine loop_rule (fun k ρ' H' D' => ∃ i nv Q xs born, k = l.length - i ∧ i ≤ l.length ∧ ρ' 16 = .int .i64 (i : Nat) ∧ ρ' 15 = .int .i64 (l.length : Nat) ∧ ρ' 14 = v ∧ ρ' 5 = .sl (qid + 1) 0 l.length l.length 1 ∧ ρ' 4 = .ptr qid 0 2 ∧ PoolAt H' pid H.length nv Q ∧ MkAt H' qid pid ∧
      AnewAt l Q xs i ∧ born ≤ l.length ∧ H'[qid + 1]? = some (.cells (rowK .i64 xs l.length) 3 born false) ∧ (∀ j, Foot pid H.length nv j → H.length ≤ j ∧ j ≠ qid ∧ j ≠ qid + 1) ∧ Ext H H' ∧ D' = []) l.length
    ⟨0, .nilsl, [], [], 0, by simp, by simp, by simp only [up_get]; rfl, by simp only [up_get]; rfl, by simp only [up_get]; rfl, by simp only [up_get]; rfl, by simp only [up_get]; rfl, hP2, hM2, ⟨Nice.nil, (fun i _ h => by simp at h), by simp, rfl, (fun j h => by omega)⟩, by omega, hX2, hQ2, hEE, rfl⟩ ?_
  rintro k ρ' H' D' ⟨i, nv, Q, xs, born, hk, hi, e16, e15, e14, e5, e4, hP, hM, hA, hborn, hobj, hF, hE, rfl⟩
  simp -implicitDefEqProofs only [↓gP, gQ, ↓reduceIte, Nat.reduceAdd, Nat.reduceEqDiff, Nat.reduceLT, Nat.reduceLeDiff, Int.reduceEq, S70L1, e16, e15, e14, e5, e4]
  have hxl := hA.xlen
  have hrl : (rowK .i64 xs l.length).length = l.length := rowK_len (by omega)
  refine Br_dec (fun g => ?_) (fun g => ?_)
  · have hil : i < l.length := by omega
    have hi1 : i + 1 ≤ l.length := hil
    have hw : IntKind.i64.wrap ((i : Int) + 1) = ((i + 1 : Nat) : Int) := by rw [wrap64 (by omega) (by omega)]; rfl
    obtain ⟨nx, -, -, -, -, -, nld⟩ := (hS.ext hE).nodes
    simp -implicitDefEqProofs only [↓gP, gQ, ↓reduceIte, Nat.reduceAdd, Nat.reduceEqDiff, Nat.reduceLT, Nat.reduceLeDiff, Int.reduceEq, e16, e15, e14, e5, e4, nx, nld _ _ hil Ext.refl, hil]
    have hEb : Ext H' (H' ++ [AObj.cells [AV.int .i64 l[i].op, AV.int .i64 l[i].a, AV.int .i64 l[i].b, AV.int .u32 l[i].k] 52 4 false]) := Ext.refl.app
    have hbox : (H' ++ [AObj.cells [AV.int .i64 l[i].op, AV.int .i64 l[i].a, AV.int .i64 l[i].b, AV.int .u32 l[i].k] 52 4 false])[H'.length]? = some (.cells [AV.int .i64 l[i].op, AV.int .i64 l[i].a, AV.int .i64 l[i].b, AV.int .u32 l[i].k] 52 4 false) := hp_get0
    generalize H' ++ [AObj.cells [AV.int .i64 l[i].op, AV.int .i64 l[i].a, AV.int .i64 l[i].b, AV.int .u32 l[i].k] 52 4 false] = HB at hEb hbox
    have hobjb := hEb _ _ hobj
    have hq : ¬ Foot pid H.length nv qid := fun e => (hF _ e).2.1 rfl
    have h4 : (4 : Nat) ≤ 4 := Nat.le_refl _
    have hlQ := hA.len
    have hmi := hmay i hil
    have hidlt : qid + 1 < HB.length := by rw [List.getElem?_eq_some_iff] at hobjb; exact hobjb.1
    have keyP : l[i].op = 1 ∨ l[i].op = 2 → F X 91 [.ptr qid 0 2, .agg [AV.int .i64 l[i].op, AV.int .i64 l[i].a, AV.int .i64 l[i].b, AV.int .u32 l[i].k]] HB fun r H3 => Made HB H3 pid H.length nv Q 1 3 r (anewT (tr l i)) := by
      intro hor
      obtain ⟨p1, p2, p3⟩ := leaf_put Q.length hmi hor (tr Q) (tr l)
      refine (mput_spec l[i] Q 1 qid pid H.length nv _ (hM.ext hEb) hq (hP.ext hEb) hA.nice hA.ch p1 (hl _ (List.getElem_mem hil)) (by omega) p2).mono ?_
      rintro r H3 h
      rw [tr_at hmay hil, ← p3]
      exact h.le (by omega)
    refine Br_dec (fun g1 => ?_) (fun g1 => ?_)
    focus
      simp -implicitDefEqProofs only [↓gP, gQ, ↓reduceIte, Nat.reduceAdd, Nat.reduceEqDiff, Nat.reduceLT, Nat.reduceLeDiff, Int.reduceEq, e16, e15, e14, e5, e4, hbox, eq_true g1, h4]
      refine CS_fn (keyP (.inl g1)) ?_
    rotate_left
    focus
      simp -implicitDefEqProofs only [↓gP, gQ, ↓reduceIte, Nat.reduceAdd, Nat.reduceEqDiff, Nat.reduceLT, Nat.reduceLeDiff, Int.reduceEq, e16, e15, e14, e5, e4, hbox, g1, h4]
      refine Br_dec (fun g2 => ?_) (fun g2 => ?_)
      focus
        simp -implicitDefEqProofs only [↓gP, gQ, ↓reduceIte, Nat.reduceAdd, Nat.reduceEqDiff, Nat.reduceLT, Nat.reduceLeDiff, Int.reduceEq, e16, e15, e14, e5, e4, hbox, g1, eq_true g2, h4]
        refine CS_fn (keyP (.inr g2)) ?_
      rotate_left
      focus
        obtain ⟨m1, -, a0, a1, b0, b1⟩ := may_alu hmi g1 g2
        have hwa : IntKind.i64.wrap (l[i].op - 256) = l[i].op - 256 := by
          simp [alus] at m1
          rw [wrap64 (by omega) (by omega)]
        have ra : l[i].a.toNat < l.length := by omega
        have rb : l[i].b.toNat < l.length := by omega
        have ga := rowK_get (k := .i64) (vs := xs) (n := l.length) (j := l[i].a.toNat) (by omega)
        have gb := rowK_get (k := .i64) (vs := xs) (n := l.length) (j := l[i].b.toNat) (by omega)
        simp -implicitDefEqProofs only [↓gP, gQ, ↓reduceIte, Nat.reduceAdd, Nat.reduceEqDiff, Nat.reduceLT, Nat.reduceLeDiff, Int.reduceEq, e16, e15, e14, e5, e4, hbox, g1, g2, h4, hobjb, hwa, ix_ownZ a0 (show l[i].a < (l.length : Nat) by omega), ix_ownZ b0 (show l[i].b < (l.length : Nat) by omega), hrl, hborn, ra, rb, ga, gb]
        have keyM : F X 65 [.ptr qid 0 2, .int .i64 (l[i].op - 256), .int .i64 (xs.getD l[i].a.toNat 0 : Nat), .int .i64 (xs.getD l[i].b.toNat 0 : Nat)] HB fun r H3 => Made HB H3 pid H.length nv Q 1 3 r (anewT (tr l i)) := by
          obtain ⟨qa1, qa2⟩ := hA.at' l[i].a.toNat (by omega)
          obtain ⟨qb1, qb2⟩ := hA.at' l[i].b.toNat (by omega)
          rw [tr_at hmay hil]
          unfold nodeT
          rw [if_neg g1, if_neg g2]
          by_cases g3 : l[i].op = 384
          · rw [if_pos g3, g3]
            refine (make_neg _ _ Q 1 qid pid H.length nv _ (hM.ext hEb) hq (hP.ext hEb) hA.nice hA.ch qa1 (by omega)).mono ?_
            rintro r H3 h
            simp only [anewT]
            rw [← qa2]; exact h.le (by omega)
          · rw [if_neg g3]
            refine (make_spec _ (alus_sub m1 g3) _ _ Q 1 qid pid H.length 1 nv _ (hM.ext hEb) hq (hP.ext hEb) hA.nice hA.ch (by decide) qa1 qb1 (hA.ch _ _ qa1) (hA.ch _ _ qb1) (by omega)).mono ?_
            rintro r H3 h
            simp only [anewT]
            rw [← qa2, ← qb2]; exact h
        refine CS_fn keyM ?_
    all_goals
      rintro _ H3 ⟨nv', Q', x, hg, rfl, hx, htx⟩
      have hobj3 := hg.keep.2 _ _ (fun e => (hF _ e).2.2 rfl) hobjb
      have hset := rowK_set (k := .i64) (vs := xs) (n := l.length) (x := x) (by omega)
      rw [hxl] at hset
      have hE3 : Ext H H3 := hg.keep.extB (hE.trans hEb) (fun j e => (hF j e).1)
      have hle := (hE.trans hEb).len
      have hF3 : ∀ j, Foot pid H.length nv' j → H.length ≤ j ∧ j ≠ qid ∧ j ≠ qid + 1 := fun j e => by
        rcases hg.foot j e with e | e
        · exact hF j e
        · omega
      simp -implicitDefEqProofs only [↓gP, gQ, ↓reduceIte, Nat.reduceAdd, Nat.reduceEqDiff, Nat.reduceLT, Nat.reduceLeDiff, Int.reduceEq, e16, e15, e14, e5, e4, ix_own1 hil, hobj3, hrl, hborn, hi1, hset, hw]
      obtain ⟨d1, d2⟩ := own_set hE3 (show H.length ≤ qid + 1 by omega) hobj3 (o' := .cells (rowK .i64 (xs ++ [x]) l.length) 3 l.length false)
      have hl3 := hg.len
      refine ⟨l.length - (i + 1), by omega, i + 1, nv', Q', xs ++ [x], l.length, rfl, hil, by first | exact True.intro | rfl, by first | exact True.intro | rfl, by first | exact True.intro | rfl, by first | exact True.intro | rfl, by first | exact True.intro | rfl, hg.at'.set (fun e => (hF3 _ e).2.2 rfl), ((hM.ext hEb).grew hq hg).1.set (by omega),
        ⟨hg.nice, hg.ch, by omega, by simp [hxl], fun j hj => ?_⟩, Nat.le_refl _, d2, hF3, d1, by first | exact True.intro | rfl⟩
      rcases Nat.eq_or_lt_of_le (Nat.le_of_lt_succ hj) with e | h'
      · subst e
        have := getD_last (S := xs) (x := x)
        rw [hxl] at this
        rw [this]; exact ⟨hx, htx⟩
      · rw [getD_pre (by omega)]
        obtain ⟨q1, q2⟩ := hA.at' j h'
        exact ⟨hg.lt q1, by rw [hg.tr q1]; exact q2⟩
  · have : i = l.length := by omega
    subst this
    obtain ⟨b, hb, hobjM⟩ := hM
    rw [rowK_full' hxl] at hobj
    simp -implicitDefEqProofs only [↓gP, gQ, ↓reduceIte, Nat.reduceAdd, Nat.reduceEqDiff, Nat.reduceLT, Nat.reduceLeDiff, Int.reduceEq, e16, e15, e14, e5, e4, hobjM, hb]
    exact ⟨pid, H.length, nv, Q, qid + 1, born, xs, rfl, hP, hA, hE, fun j e => (hF j e).1, by omega, fun e => (hF _ e).2.2 rfl, hobj, hborn⟩
end Go.Va
end

section
set_option linter.unusedSimpArgs false
set_option linter.unusedVariables false
set_option linter.unusedSectionVars false
namespace Go.Va
open Go.Proofs

theorem sl_one {P : Program} {t e : TypeId} {bytes : Nat} {z : List AV} {id n at' : Nat} (hT : slT P t = some (e, 1, bytes, z)) (h : at' < n) : sliceA P t (.sl id 0 n n 1) (some (.int .i64 (at' : Nat))) (some (.int .i64 ((at' + 1 : Nat) : Int))) = some (.sl id at' 1 n 1) := by
  obtain ⟨hu, i, zz, hi, hz, h1, h2, h3⟩ := slT_inv hT
  unfold sliceA
  rw [hu]
  simp only [boundA, hi]
  rw [if_pos (by omega), if_pos (by omega)]
  simp only [Int.toNat_natCast]
  rw [if_pos ⟨by omega, by omega, h1⟩]
  simp
theorem shows_at {H : Heap} {id n at' born x : Nat} {ty : TypeId} {xs : List Nat} (ho : H[id]? = some (.cells (WK .i64 xs) ty born false)) (hb : born ≤ n) (hn : xs.length = n) (h : at' < n) (hx : xs.getD at' 0 = x) : Shows H (.sl id at' 1 n 1) 1 (I1 .i64 [(x : Int)]) := by
  refine ⟨by simp [I1], rfl, by simp [I1], _, _, _, _, ho, hb, by rw [WK_len]; omega, by omega, fun i hi => ?_⟩
  have : i = 0 := by simp [I1] at hi; omega
  subst this
  subst hx
  have e : xs.getD at' 0 = xs[at'] := by simp [List.getD_eq_getElem?_getD, List.getElem?_eq_getElem (show at' < xs.length by omega)]
  rw [e]
  simp only [I1, WK, Nat.add_zero, Nat.mul_one, List.map_cons, List.map_nil, List.getElem_cons_zero]
  rw [List.drop_eq_getElem_cons (by simp; omega)]
  simp
theorem tr_take {l : List Nd} (h : May l) {n i : Nat} (hi : i < n) (hn : n ≤ l.length) : tr (l.take n) i = tr l i := by
  have e := List.take_append_drop n l
  have h' : May (l.take n ++ l.drop n) := by rw [e]; exact h
  have := tr_app h' i (by rw [List.length_take]; omega)
  rw [e] at this
  exact this.symm
theorem May.take {l : List Nd} (h : May l) (n : Nat) : May (l.take n) := fun i hi => by
  rw [List.getElem_take]
  exact h i (by rw [List.length_take] at hi; omega)
theorem askP_at' {l : List Nd} {i : Nat} (hc : (checkP l).2 = 0) (h : i < l.length) : askP l [(i : Int)] = 0 := by
  unfold askP
  rw [if_neg (by simpa using hc), if_neg (by simp; omega)]
theorem inL_cl {l : List Nd} (hmay : May l) {a : Nat} (ha : a < l.length) : ∀ i n, (inL l [(a : Int)]).getD i false = true → l[i]? = some n → ∀ p ∈ partsZ n, (inL l [(a : Int)]).getD p.toNat false = true := by
  have hp : ∀ p ∈ [(a : Int)], 0 ≤ p ∧ p < l.length := by simp; omega
  intro i n h1 h2 p h3
  rw [inL_iff hmay hp] at h1 ⊢
  obtain ⟨q, hq, ht⟩ := h1
  exact ⟨q, hq, ht.app h2 h3⟩

/-- A row of what one place is made of, and nothing else. -/
structure MadeAll (Q : List Nd) (y : Nat) (t : Tm) : Prop where
  nice : Nice Q
  lt : y < Q.length
  tree : tr Q y = t
  all : ∀ k, k < Q.length → Tr Q y k

theorem only_made {P : List Nd} (hN : Nice P) (hn : P.length ≤ 65536) {x : Nat} (hx : x < P.length) : MadeAll (onlyP P (inL P [(x : Int)]) P.length).1 ((onlyP P (inL P [(x : Int)]) P.length).2.getD x 0) (tr P x) ∧ (onlyP P (inL P [(x : Int)]) P.length).1.length ≤ P.length := by
  have hcl := inL_cl hN.may hx
  have hp : ∀ p ∈ [(x : Int)], 0 ≤ p ∧ p < P.length := by simp; omega
  have hL : (inL P [(x : Int)]).getD x false = true := by rw [inL_iff hN.may hp]; exact ⟨x, by simp, .refl _⟩
  have e := only_to hx (Nat.le_refl _) hL
  refine ⟨⟨only_Nice hN.may hcl hN hn, ?_, ?_, fun k hk => ?_⟩, (onlyP_len (Nat.le_refl _)).2⟩
  · rw [e]; exact only_lt hx (Nat.le_refl _) hL
  · rw [e]; exact only_tr hN.may hcl hn x hx hL
  · obtain ⟨i, hi, hLi, rfl⟩ := only_from (Nat.le_refl _) hk
    rw [e]
    have h := hLi
    rw [inL_iff hN.may hp] at h
    obtain ⟨q, hq, ht⟩ := h
    simp only [List.mem_singleton] at hq
    subst hq
    rw [Int.toNat_natCast] at ht
    exact only_Tr hN.may hcl ht hL hx

theorem all_spec (l : List Nd) (at' : Int) (v : AV) (H : Heap) (hS : Shows H v 4 (l.map Nd.c)) (hl : ∀ n ∈ l, n.ok) (hn : l.length ≤ 10000) :
    F X 39 [v, .int .i64 at'] H fun r H' => Ext H H' ∧ if (checkP l).2 ≠ 0 then r = .tup [.nilsl, .int .i64 0, .int .i64 3] else if at' < 0 ∨ l.length ≤ at' then r = .tup [.nilsl, .int .i64 0, .int .i64 2] else
      ∃ av Q, ∃ y : Nat, r = .tup [av, .int .i64 (y : Nat), .int .i64 0] ∧ Shows H' av 4 (Q.map Nd.c) ∧ MadeAll Q y (anewT (tr l at'.toNat)) ∧ Q.length ≤ 3 * (at'.toNat + 1) := by
  refine F_slim S39_eq rfl fun ρ hρ => ?_
  simp only [AGs] at hρ
  obtain ⟨h0, h1, -⟩ := hρ
  have hlen := hS.lenA isSl_22
  rw [List.length_map] at hlen
  simp -implicitDefEqProofs only [↓gP, gQ, ↓reduceIte, Nat.reduceAdd, Nat.reduceEqDiff, Nat.reduceLT, Nat.reduceLeDiff, Int.reduceEq, S39, h0, h1]
  refine CS_fn (check_spec l v _ hS) ?_
  rintro _ H1 ⟨rfl, hE1⟩
  simp -implicitDefEqProofs only [↓gP, gQ, ↓reduceIte, Nat.reduceAdd, Nat.reduceEqDiff, Nat.reduceLT, Nat.reduceLeDiff, Int.reduceEq, h0, h1]
  refine Br_dec (fun hc => ?_) (fun hc => ?_)
  rotate_left
  · simp -implicitDefEqProofs only [↓gP, gQ, ↓reduceIte, Nat.reduceAdd, Nat.reduceEqDiff, Nat.reduceLT, Nat.reduceLeDiff, Int.reduceEq, h0, h1, hc]
    exact ⟨hE1, by rw [if_pos hc]; trivial⟩
  have hc' : ¬ (checkP l).2 ≠ 0 := fun h => h hc
  obtain ⟨-, hmay⟩ := checkP_ok hc
  simp -implicitDefEqProofs only [↓gP, gQ, ↓reduceIte, Nat.reduceAdd, Nat.reduceEqDiff, Nat.reduceLT, Nat.reduceLeDiff, Int.reduceEq, h0, h1, hc]
  refine Br_dec (fun g1 => ?_) (fun g1 => ?_)
  · simp -implicitDefEqProofs only [↓gP, gQ, ↓reduceIte, Nat.reduceAdd, Nat.reduceEqDiff, Nat.reduceLT, Nat.reduceLeDiff, Int.reduceEq, h0, h1, hc, g1]
    exact ⟨hE1, by simp⟩
  simp -implicitDefEqProofs only [↓gP, gQ, ↓reduceIte, Nat.reduceAdd, Nat.reduceEqDiff, Nat.reduceLT, Nat.reduceLeDiff, Int.reduceEq, h0, h1, hc, g1, hlen]
  refine Br_dec (fun g2 => ?_) (fun g2 => ?_)
  · simp -implicitDefEqProofs only [↓gP, gQ, ↓reduceIte, Nat.reduceAdd, Nat.reduceEqDiff, Nat.reduceLT, Nat.reduceLeDiff, Int.reduceEq, h0, h1, hc, g1, g2]
    exact ⟨hE1, by simp⟩
  have g3 : ¬ (at' < 0 ∨ (l.length : Int) ≤ at') := by omega
  obtain ⟨a, rfl⟩ : ∃ a : Nat, at' = a := ⟨at'.toNat, by omega⟩
  have hal : a < l.length := by omega
  have hw : IntKind.i64.wrap ((a : Int) + 1) = ((a + 1 : Nat) : Int) := by rw [wrap64 (by omega) (by omega)]; rfl
  obtain ⟨sv, hsl, hSs⟩ := (hS.ext hE1).pre (k := .i64) (n := a + 1) slT_22 (by rw [List.length_map]; exact hal)
  rw [← List.map_take] at hSs
  have hlt : (l.take (a + 1)).length = a + 1 := by rw [List.length_take]; omega
  simp -implicitDefEqProofs only [↓gP, gQ, ↓reduceIte, Nat.reduceAdd, Nat.reduceEqDiff, Nat.reduceLT, Nat.reduceLeDiff, Int.reduceEq, h0, h1, hc, g1, g2, hw, Option.map_none, Option.map_some, hsl]
  refine CS_fn (anew_spec (l.take (a + 1)) sv _ hSs (fun n hm => hl n (List.mem_of_mem_take hm)) (May.take hmay _) (by omega)) ?_
  rintro _ H2 ⟨pid, mid, nv, Q, id, born, xs, rfl, hP, hA, hE2, -, -, -, hobj, hborn⟩
  rw [hlt] at hA hborn
  rw [hlt]
  obtain ⟨hx, htx⟩ := hA.at' a (by omega)
  rw [tr_take hmay (by omega) (by omega)] at htx
  simp -implicitDefEqProofs only [↓gP, gQ, ↓reduceIte, Nat.reduceAdd, Nat.reduceEqDiff, Nat.reduceLT, Nat.reduceLeDiff, Int.reduceEq, h0, h1]
  have hlQ := hA.len
  refine CS_fn (nodes_spec Q pid mid nv _ hP (by omega)) ?_
  rintro av H3 ⟨hE3, hOa⟩
  have hSa : Shows H3 av 4 (Q.map Nd.c) := OwnV.shows hOa nd_rows (by decide)
  simp -implicitDefEqProofs only [↓gP, gQ, ↓reduceIte, Nat.reduceAdd, Nat.reduceEqDiff, Nat.reduceLT, Nat.reduceLeDiff, Int.reduceEq, h0, h1, hw, sl_one slT_37 (show a < a + 1 by omega), Option.map_some]
  refine CS_fn (only_spec Q [((xs.getD a 0 : Nat) : Int)] av _ _ hSa (shows_at (hE3 _ _ hobj) hborn hA.xlen (by omega) rfl) (by simp)) ?_
  have hcQ : (checkP Q).2 = 0 := rcheck_may (by omega) hA.nice.may
  rintro _ H4 ⟨hE4, hr⟩
  rw [if_neg (by rw [askP_at' hcQ hx]; simp)] at hr
  obtain ⟨v', w', rfl, hSv, hSw⟩ := hr
  obtain ⟨hmade, hol⟩ := only_made hA.nice (by omega) hx
  obtain ⟨wx, wld⟩ := hSw.ints
  have h01 : (0 : Nat) < 1 := by decide
  have wx0 : ixO (some (true, 0, 1)) w' (.int .i64 0) = some (elemP w' 0) := wx 0 .i64 0 (by simp)
  have wl0 := wld _ 0 (by simp) Ext.refl
  simp only [List.map_cons, List.map_nil, List.getElem_cons_zero, Int.toNat_natCast] at wl0
  simp -implicitDefEqProofs only [↓gP, gQ, ↓reduceIte, Nat.reduceAdd, Nat.reduceEqDiff, Nat.reduceLT, Nat.reduceLeDiff, Int.reduceEq, h0, h1, wx0, wl0]
  refine ⟨((hE1.trans hE2).trans hE3).trans hE4, ?_⟩
  rw [if_neg (by simp), if_neg (by simp)]
  exact ⟨v', _, _, rfl, hSv, by rw [Int.toNat_natCast, ← htx]; exact hmade, by rw [Int.toNat_natCast]; omega⟩
end Go.Va
end

section
set_option linter.unusedSimpArgs false
set_option linter.unusedVariables false
set_option linter.unusedSectionVars false
namespace Go.Va
open Go.Proofs

theorem num_row {Q : List Nd} {y k : Nat} (h : MadeAll Q y (.num k)) : Q = [⟨1, 0, 0, k⟩] ∧ y = 0 := by
  have hnum := tr_num h.nice.may h.lt
  rw [h.tree] at hnum
  have hop : Q[y]'h.lt = Q[y]'h.lt ∧ (Q[y]'h.lt).op = 1 := by
    refine ⟨rfl, ?_⟩
    by_cases e : (Q[y]'h.lt).op = 1
    · exact e
    · rw [if_neg e] at hnum; cases hnum
  have hop := hop.2
  rw [if_pos hop] at hnum
  have hk : k = (Q[y]'h.lt).k.toNat := by simpa [numOf] using hnum
  have hone : ∀ j, j < Q.length → j = y := by
    intro j hj
    cases h.all j hj with
    | refl => rfl
    | step h1 h2 _ =>
      rw [List.getElem?_eq_getElem h.lt] at h1
      cases h1
      simp [partsZ, hop] at h2
  have hlt := h.lt
  have y0 : y = 0 := (hone 0 (by omega)).symm
  subst y0
  have h1 : Q.length = 1 := by
    rcases Nat.lt_or_ge 1 Q.length with h' | h'
    · have := hone 1 h'; omega
    · omega
  obtain ⟨q, rfl⟩ := List.length_eq_one_iff.1 h1
  refine ⟨?_, rfl⟩
  have hm := h.nice.may 0 hlt
  obtain ⟨k0, -⟩ := h.nice.ok q (by simp)
  obtain ⟨op, a, b, kk⟩ := q
  simp only [List.getElem_cons_zero] at hop hk hm k0
  subst hop
  simp [mayB] at hm
  obtain ⟨rfl, rfl⟩ := hm
  rw [hk, Int.toNat_of_nonneg k0]
theorem tr_wf' {l : List Nd} (hmay : May l) (hok : ∀ n ∈ l, n.ok) : ∀ i, i < l.length → wfT (tr l i) := by
  intro i
  induction i using Nat.strongRecOn with
  | ind i ih =>
    intro hi
    rw [tr_at hmay hi]
    have hm := hmay i hi
    obtain ⟨k0, k1, -, -⟩ := hok _ (List.getElem_mem hi)
    unfold nodeT
    split
    · show l[i].k.toNat < 4294967296; omega
    · rename_i h1
      split
      · rename_i h2
        have := may_word hm h2
        show l[i].k.toNat < 16; omega
      · rename_i h2
        obtain ⟨m1, -, a0, a1, b0, b1⟩ := may_alu hm h1 h2
        have ia := ih l[i].a.toNat (by omega) (by omega)
        have ib := ih l[i].b.toNat (by omega) (by omega)
        split
        · exact ia
        · rename_i h3
          exact ⟨alus_sub m1 h3, ia, ib⟩
theorem bldRec : buildA Try.prog 27 [] = some (.agg (List.replicate 16 (.int .u32 0))) := by kernel_rfl
theorem rec0 : RecOk (List.replicate 16 (.int .u32 0)) fun _ => 0 := ⟨by simp, fun j hj => by rw [List.getElem?_replicate, if_pos hj]; rfl⟩
theorem uses0 {l : List Nd} (hl : May l) {a : Nat} (ha : a < l.length) (h : usesP l (inL l [(a : Int)]) l.length = 0) : tws (tr l a) = [] := by
  cases e : tws (tr l a) with
  | nil => rfl
  | cons w ws =>
    have := (uses_tr hl ha (w := w)).2 (by rw [e]; simp)
    rw [h] at this
    simp at this

theorem law_numbers (l : List Nd) (v : AV) (H : Heap) (hl : ∀ n ∈ l, n.ok) (hS : Shows H v 4 (l.map Nd.c)) :
    F X 14 [v] H fun r _ => r = .bool true := by
  refine F_slim S14_eq rfl fun ρ hρ => ?_
  simp only [AGs] at hρ
  obtain ⟨h0, -⟩ := hρ
  have hlen := hS.lenA isSl_22
  rw [List.length_map] at hlen
  simp -implicitDefEqProofs only [↓gP, gQ, ↓reduceIte, Nat.reduceAdd, Nat.reduceEqDiff, Nat.reduceLT, Nat.reduceLeDiff, Int.reduceEq, S14, h0]
  refine CS_fn (F_tru rfl) ?_
  rintro _ _ ⟨rfl, rfl⟩
  simp -implicitDefEqProofs only [↓gP, gQ, ↓reduceIte, Nat.reduceAdd, Nat.reduceEqDiff, Nat.reduceLT, Nat.reduceLeDiff, Int.reduceEq, h0, hlen]
  refine Br_dec (fun h => ?_) (fun h => ?_) <;> simp -implicitDefEqProofs only [↓gP, gQ, ↓reduceIte, Nat.reduceAdd, Nat.reduceEqDiff, Nat.reduceLT, Nat.reduceLeDiff, Int.reduceEq, h0, hlen, h]
  · refine CS_fn (F_tru rfl) ?_
    rintro _ _ ⟨rfl, rfl⟩
    simp -implicitDefEqProofs only [↓gP, gQ, ↓reduceIte, Nat.reduceAdd, Nat.reduceEqDiff, Nat.reduceLT, Nat.reduceLeDiff, Int.reduceEq, h0, hlen]
  refine CS_fn (right_spec l v _ hS) ?_
  rintro _ H2 ⟨rfl, hE2⟩
  simp -implicitDefEqProofs only [↓gP, gQ, ↓reduceIte, Nat.reduceAdd, Nat.reduceEqDiff, Nat.reduceLT, Nat.reduceLeDiff, Int.reduceEq, h0, hlen]
  refine Br_bool (fun hR => ?_) (fun hR => ?_) <;> simp -implicitDefEqProofs only [↓gP, gQ, ↓reduceIte, Nat.reduceAdd, Nat.reduceEqDiff, Nat.reduceLT, Nat.reduceLeDiff, Int.reduceEq, h0, hlen, hR]
  case' refine_2 =>
    refine CS_fn (F_tru rfl) ?_
    rintro _ _ ⟨rfl, rfl⟩
    simp -implicitDefEqProofs only [↓gP, gQ, ↓reduceIte, Nat.reduceAdd, Nat.reduceEqDiff, Nat.reduceLT, Nat.reduceLeDiff, Int.reduceEq, h0, hlen]
  have hc := right_ok'.1 hR
  obtain ⟨hn, hmay⟩ := checkP_ok hc
  simp -implicitDefEqProofs only [↓gP, gQ, ↓reduceIte, Nat.reduceAdd, Nat.reduceEqDiff, Nat.reduceLT, Nat.reduceLeDiff, Int.reduceEq, h0, hlen, bldRec]
  refine CS_fn (rvalues_spec l v _ _ _ hl (fun _ => by decide) (hS.ext hE2) rec0 hc) ?_
  rintro _ H3 ⟨hE3, iv, bv, -, rfl, hbv, hov⟩
  simp -implicitDefEqProofs only [↓gP, gQ, ↓reduceIte, Nat.reduceAdd, Nat.reduceEqDiff, Nat.reduceLT, Nat.reduceLeDiff, Int.reduceEq, h0, hlen]
  refine loop_rule (fun k ρ' H' D' => ∃ i, k = l.length - i ∧ i ≤ l.length ∧ ρ' 26 = .int .i64 (i : Nat) ∧ ρ' 25 = .int .i64 (l.length : Nat) ∧ ρ' 3 = .sl iv 0 l.length l.length 1 ∧ ρ' 0 = v ∧ Ext H3 H' ∧ D' = []) l.length
    ⟨0, by simp, by simp, by simp only [up_get]; rfl, by simp only [up_get]; rfl, by simp only [up_get]; rfl, by simp only [up_get]; exact h0, Ext.refl, rfl⟩ ?_
  rintro k ρ' H' D' ⟨i, hk, hi, e26, e25, e3, e0, hE, rfl⟩
  have hEn : Ext H H' := (hE2.trans hE3).trans hE
  simp -implicitDefEqProofs only [↓gP, gQ, ↓reduceIte, Nat.reduceAdd, Nat.reduceEqDiff, Nat.reduceLT, Nat.reduceLeDiff, Int.reduceEq, S14L1, e26, e25, e3, e0]
  refine Br_dec (fun g => ?_) (fun g => ?_)
  rotate_left
  · simp -implicitDefEqProofs only [↓gP, gQ, ↓reduceIte, Nat.reduceAdd, Nat.reduceEqDiff, Nat.reduceLT, Nat.reduceLeDiff, Int.reduceEq, e26, e25, e3, e0]
  have hil : i < l.length := by omega
  have hw : IntKind.i64.wrap ((i : Int) + 1) = ((i + 1 : Nat) : Int) := by rw [wrap64 (by omega) (by omega)]; rfl
  simp -implicitDefEqProofs only [↓gP, gQ, ↓reduceIte, Nat.reduceAdd, Nat.reduceEqDiff, Nat.reduceLT, Nat.reduceLeDiff, Int.reduceEq, e26, e25, e3, e0]
  refine CS_fn (all_spec l (i : Nat) v _ (hS.ext hEn) hl (by omega)) ?_
  rintro _ H4 ⟨hE4, hr⟩
  rw [if_neg (fun h => h hc), if_neg (by omega), Int.toNat_natCast] at hr
  obtain ⟨av, Q, y, rfl, hSa, hm, -⟩ := hr
  simp -implicitDefEqProofs only [↓gP, gQ, ↓reduceIte, Nat.reduceAdd, Nat.reduceEqDiff, Nat.reduceLT, Nat.reduceLeDiff, Int.reduceEq, e26, e25, e3, e0]
  refine CS_fn (ruses_spec l i v _ hl (hS.ext (hEn.trans hE4)) hc hil) ?_
  rintro _ H5 ⟨hE5, rfl⟩
  have hE35 : Ext H3 H5 := (hE.trans hE4).trans hE5
  have hSa5 := hSa.ext hE5
  have hla := hSa5.lenA isSl_22
  rw [List.length_map] at hla
  simp -implicitDefEqProofs only [↓gP, gQ, ↓reduceIte, Nat.reduceAdd, Nat.reduceEqDiff, Nat.reduceLT, Nat.reduceLeDiff, Int.reduceEq, e26, e25, e3, e0]
  have hinL : usesP l (inL l [(i : Int)]) l.length = usesP l (reachP l l.length (markZ (List.replicate l.length false) [(i : Int)])) l.length := rfl
  refine Br_dec (fun gu => ?_) (fun gu => ?_)
  focus
    have hu := uses0 hmay hil (by rw [hinL]; omega)
    have hwf : wfT (tr l i) := tr_wf' hmay hl i hil
    have bn : ∀ q : Nat, binA X .neq 52 (.agg [.int .i64 1, .int .i64 0, .int .i64 0, .int .u32 (q : Nat)]) (.agg [.int .i64 1, .int .i64 0, .int .i64 0, .int .u32 (q : Nat)]) = some (.bool false) := fun q => (bin_neq_nd (n := ⟨1, 0, 0, q⟩) (m := ⟨1, 0, 0, q⟩)).trans (by simp)
    have c0 : ((0 : Nat) : Int) = 0 := rfl
    have c1 : ((0 + 1 : Nat) : Int) = 1 := rfl
    rw [anew_num hwf hu (rc := fun _ => 0), ← vals_ev hmay i hil] at hm
    obtain ⟨rfl, rfl⟩ := num_row hm
    have hWl : (W32 (valsL l (fun _ => 0) l.length)).length = l.length := by rw [W32_len, valsL_len]
    have hg : (W32 (valsL l (fun _ => 0) l.length))[i]? = some (.int .u32 ((valsL l (fun _ => 0) l.length).getD i 0 : Nat)) := by
      have : i < (valsL l (fun _ => 0) l.length).length := by rw [valsL_len]; exact hil
      simp [W32, List.getElem?_eq_getElem this]
    generalize (valsL l (fun _ => 0) l.length).getD i 0 = kk at hg hSa5 hla hm
    obtain ⟨nx, -, -, -, -, -, nld⟩ := hSa5.nodes
    have nx0 : ixO (some (true, 0, 4)) av (.int .i64 0) = some (elemP av 0) := nx 0 .i64 0 (by simp)
    have nl0 := nld _ 0 (by simp) Ext.refl
    simp only [List.getElem_cons_zero] at nl0
    simp -implicitDefEqProofs only [↓gP, gQ, ↓reduceIte, Nat.reduceAdd, Nat.reduceEqDiff, Nat.reduceLT, Nat.reduceLeDiff, Int.reduceEq, e26, e25, e3, e0, eq_true gu, hla, nx0, nl0, List.length_cons, List.length_nil, ix_own1 hil, hE35 _ _ hov, hWl, hbv, hil, hg, bldNum, bn, eq_self, c0, c1, hw]
  rotate_left
  focus
    simp -implicitDefEqProofs only [↓gP, gQ, ↓reduceIte, Nat.reduceAdd, Nat.reduceEqDiff, Nat.reduceLT, Nat.reduceLeDiff, Int.reduceEq, e26, e25, e3, e0, gu, hw]
  all_goals
    exact ⟨l.length - (i + 1), by omega, i + 1, rfl, hil, by first | exact True.intro | rfl, by first | exact True.intro | rfl, by first | exact True.intro | rfl, by first | exact True.intro | rfl, hE35, by first | exact True.intro | rfl⟩
end Go.Va
end

section
set_option linter.unusedSimpArgs false
set_option linter.unusedVariables false
set_option linter.unusedSectionVars false
namespace Go.Va
open Go.Proofs

theorem u16_andNot {a b : Nat} (h : ∀ w, a.testBit w = true → b.testBit w = true) : IntKind.u16.wrap ((BitVec.ofInt IntKind.u16.bits (a : Int) &&& ~~~BitVec.ofInt IntKind.u16.bits (b : Int)).toNat : Nat) = 0 := by
  have : (BitVec.ofInt IntKind.u16.bits (a : Int) &&& ~~~BitVec.ofInt IntKind.u16.bits (b : Int)) = 0#_ := by
    apply BitVec.eq_of_getLsbD_eq
    intro i hi
    rw [BitVec.getLsbD_and, BitVec.getLsbD_not, BitVec.ofInt_natCast, BitVec.ofInt_natCast, BitVec.getLsbD_ofNat, BitVec.getLsbD_ofNat, BitVec.getLsbD_zero]
    have := h i
    cases e : a.testBit i
    · simp
    · rw [e] at this
      rw [this rfl]; simp
  rw [this]; decide
theorem bin_andNot {t : TypeId} {k : IntKind} {a b : Int} : binA X .andNot t (.int k a) (.int k b) = some (.int k (k.wrap ((BitVec.ofInt k.bits a &&& ~~~BitVec.ofInt k.bits b).toNat : Nat))) := by simp [binA]
theorem uses_sub {l Q : List Nd} (hl : May l) (hQ : May Q) {i y : Nat} (hi : i < l.length) (hy : y < Q.length) (h : ∀ w ∈ tws (tr Q y), w ∈ tws (tr l i)) : ∀ w, (usesP Q (inL Q [(y : Int)]) Q.length).testBit w = true → (usesP l (inL l [(i : Int)]) l.length).testBit w = true := by
  intro w hw
  rw [uses_tr hQ hy] at hw
  rw [uses_tr hl hi]
  exact h w hw
theorem WK_get {k : IntKind} {xs : List Nat} {j : Nat} (h : j < xs.length) : (WK k xs)[j]? = some (.int k (xs.getD j 0 : Nat)) := by
  simp [WK, List.getElem?_eq_getElem h]

theorem law_size (l : List Nd) (v : AV) (H : Heap) (hl : ∀ n ∈ l, n.ok) (hS : Shows H v 4 (l.map Nd.c)) :
    F X 15 [v] H fun r _ => r = .bool true := by
  refine F_slim S15_eq rfl fun ρ hρ => ?_
  simp only [AGs] at hρ
  obtain ⟨h0, -⟩ := hρ
  have hlen := hS.lenA isSl_22
  rw [List.length_map] at hlen
  simp -implicitDefEqProofs only [↓gP, gQ, ↓reduceIte, Nat.reduceAdd, Nat.reduceEqDiff, Nat.reduceLT, Nat.reduceLeDiff, Int.reduceEq, S15, h0]
  refine CS_fn (F_tru rfl) ?_
  rintro _ _ ⟨rfl, rfl⟩
  simp -implicitDefEqProofs only [↓gP, gQ, ↓reduceIte, Nat.reduceAdd, Nat.reduceEqDiff, Nat.reduceLT, Nat.reduceLeDiff, Int.reduceEq, h0, hlen]
  refine Br_dec (fun h => ?_) (fun h => ?_) <;> simp -implicitDefEqProofs only [↓gP, gQ, ↓reduceIte, Nat.reduceAdd, Nat.reduceEqDiff, Nat.reduceLT, Nat.reduceLeDiff, Int.reduceEq, h0, hlen, h]
  · refine CS_fn (F_tru rfl) ?_
    rintro _ _ ⟨rfl, rfl⟩
    simp -implicitDefEqProofs only [↓gP, gQ, ↓reduceIte, Nat.reduceAdd, Nat.reduceEqDiff, Nat.reduceLT, Nat.reduceLeDiff, Int.reduceEq, h0, hlen]
  refine CS_fn (right_spec l v _ hS) ?_
  rintro _ H2 ⟨rfl, hE2⟩
  simp -implicitDefEqProofs only [↓gP, gQ, ↓reduceIte, Nat.reduceAdd, Nat.reduceEqDiff, Nat.reduceLT, Nat.reduceLeDiff, Int.reduceEq, h0, hlen]
  refine Br_bool (fun hR => ?_) (fun hR => ?_) <;> simp -implicitDefEqProofs only [↓gP, gQ, ↓reduceIte, Nat.reduceAdd, Nat.reduceEqDiff, Nat.reduceLT, Nat.reduceLeDiff, Int.reduceEq, h0, hlen, hR]
  case' refine_2 =>
    refine CS_fn (F_tru rfl) ?_
    rintro _ _ ⟨rfl, rfl⟩
    simp -implicitDefEqProofs only [↓gP, gQ, ↓reduceIte, Nat.reduceAdd, Nat.reduceEqDiff, Nat.reduceLT, Nat.reduceLeDiff, Int.reduceEq, h0, hlen]
  have hc := right_ok'.1 hR
  obtain ⟨hn, hmay⟩ := checkP_ok hc
  refine CS_fn (rsizes_spec l v _ (hS.ext hE2) hc) ?_
  rintro _ H3 ⟨hE3, iv, bv, -, rfl, hbv, hov⟩
  simp -implicitDefEqProofs only [↓gP, gQ, ↓reduceIte, Nat.reduceAdd, Nat.reduceEqDiff, Nat.reduceLT, Nat.reduceLeDiff, Int.reduceEq, h0, hlen]
  refine loop_rule (fun k ρ' H' D' => ∃ i, k = l.length - i ∧ i ≤ l.length ∧ ρ' 25 = .int .i64 (i : Nat) ∧ ρ' 24 = .int .i64 (l.length : Nat) ∧ ρ' 3 = .sl iv 0 l.length l.length 1 ∧ ρ' 0 = v ∧ Ext H3 H' ∧ D' = []) l.length
    ⟨0, by simp, by simp, by simp only [up_get]; rfl, by simp only [up_get]; rfl, by simp only [up_get]; rfl, by simp only [up_get]; exact h0, Ext.refl, rfl⟩ ?_
  rintro k ρ' H' D' ⟨i, hk, hi, e25, e24, e3, e0, hE, rfl⟩
  have hEn : Ext H H' := (hE2.trans hE3).trans hE
  simp -implicitDefEqProofs only [↓gP, gQ, ↓reduceIte, Nat.reduceAdd, Nat.reduceEqDiff, Nat.reduceLT, Nat.reduceLeDiff, Int.reduceEq, S15L1, e25, e24, e3, e0]
  refine Br_dec (fun g => ?_) (fun g => ?_)
  rotate_left
  · simp -implicitDefEqProofs only [↓gP, gQ, ↓reduceIte, Nat.reduceAdd, Nat.reduceEqDiff, Nat.reduceLT, Nat.reduceLeDiff, Int.reduceEq, e25, e24, e3, e0]
  have hil : i < l.length := by omega
  have hw : IntKind.i64.wrap ((i : Int) + 1) = ((i + 1 : Nat) : Int) := by rw [wrap64 (by omega) (by omega)]; rfl
  simp -implicitDefEqProofs only [↓gP, gQ, ↓reduceIte, Nat.reduceAdd, Nat.reduceEqDiff, Nat.reduceLT, Nat.reduceLeDiff, Int.reduceEq, e25, e24, e3, e0]
  refine CS_fn (all_spec l (i : Nat) v _ (hS.ext hEn) hl (by omega)) ?_
  rintro _ H4 ⟨hE4, hr⟩
  rw [if_neg (fun h => h hc), if_neg (by omega), Int.toNat_natCast] at hr
  obtain ⟨av, Q, y, rfl, hSa, hm, hQl⟩ := hr
  simp -implicitDefEqProofs only [↓gP, gQ, ↓reduceIte, Nat.reduceAdd, Nat.reduceEqDiff, Nat.reduceLT, Nat.reduceLeDiff, Int.reduceEq, e25, e24, e3, e0, eq_self]
  refine CS_fn (right_spec Q av _ hSa) ?_
  rintro _ H5 ⟨rfl, hE5⟩
  have hcQ : (checkP Q).2 = 0 := rcheck_may (by omega) hm.nice.may
  have hRQ := rightB_of hcQ
  have hla := (hSa.ext hE5).lenA isSl_22
  rw [List.length_map] at hla
  have hy := hm.lt
  have g1 : ¬ ((y : Nat) : Int) < 0 := by omega
  have g2 : ¬ ((Q.length : Nat) : Int) ≤ (y : Nat) := by omega
  simp -implicitDefEqProofs only [↓gP, gQ, ↓reduceIte, Nat.reduceAdd, Nat.reduceEqDiff, Nat.reduceLT, Nat.reduceLeDiff, Int.reduceEq, e25, e24, e3, e0, hRQ, hla, g1, g2]
  have hwf : wfT (tr l i) := tr_wf' hmay hl i hil
  obtain ⟨z1, z2⟩ := anew_size hwf
  rw [← hm.tree] at z1 z2
  have hsub := uses_sub hmay hm.nice.may hil hy z2
  have hsz : ¬ (((sizesL l l.length).getD i 0 : Nat) : Int) < ((sizesL Q Q.length).getD y 0 : Nat) := by
    rw [sizes_tr hmay i hil, sizes_tr hm.nice.may y hy]; omega
  have hsl : (WK .u64 (sizesL l l.length)).length = l.length := by rw [WK_len, sizesL_len]
  have hsl' : (WK .u64 (sizesL Q Q.length)).length = Q.length := by rw [WK_len, sizesL_len]
  have hgl := WK_get (k := .u64) (xs := sizesL l l.length) (j := i) (by rw [WK_len] at hsl; omega)
  have hgQ := WK_get (k := .u64) (xs := sizesL Q Q.length) (j := y) (by rw [WK_len] at hsl'; omega)
  have hE35 : Ext H3 H5 := (hE.trans hE4).trans hE5
  simp -implicitDefEqProofs only [↓gP, gQ, ↓gL, gM, ↓reduceIte, Nat.reduceAdd, Nat.reduceEqDiff, Nat.reduceLT, Nat.reduceLeDiff, Int.reduceEq, e25, e24, e3, e0]
  refine CSL_fn (rsizes_spec Q av _ (hSa.ext hE5) hcQ) ?_
  rintro _ H6 ⟨hE6, jv, bj, -, rfl, hbj, hoj⟩
  have hE36 := hE35.trans hE6
  simp -implicitDefEqProofs only [↓gP, gQ, ↓gL, gM, ↓reduceIte, Nat.reduceAdd, Nat.reduceEqDiff, Nat.reduceLT, Nat.reduceLeDiff, Int.reduceEq, e25, e24, e3, e0, ix_own1 hil, ix_own1 hy, hE36 _ _ hov, hoj, hsl, hsl', hbv, hbj, hil, hy, hgl, hgQ, hsz]
  refine CSL_fn (ruses_spec Q y av _ hm.nice.ok ((hSa.ext hE5).ext hE6) hcQ hy) ?_
  rintro _ H7 ⟨hE7, rfl⟩
  have hE37 := hE36.trans hE7
  simp -implicitDefEqProofs only [↓gP, gQ, ↓gL, gM, ↓reduceIte, Nat.reduceAdd, Nat.reduceEqDiff, Nat.reduceLT, Nat.reduceLeDiff, Int.reduceEq, e25, e24, e3, e0]
  refine CSL_fn (ruses_spec l i v _ hl (hS.ext ((hE2.trans hE3).trans hE37)) hc hil) ?_
  rintro _ H8 ⟨hE8, rfl⟩
  have hE38 := hE37.trans hE8
  have hbit := u16_andNot hsub
  simp only [inL] at hbit
  simp -implicitDefEqProofs only [↓gP, gQ, ↓gL, gM, ↓reduceIte, Nat.reduceAdd, Nat.reduceEqDiff, Nat.reduceLT, Nat.reduceLeDiff, Int.reduceEq, e25, e24, e3, e0, bin_andNot, hbit, eq_self]
  rw [thenL_eq]
  refine ⟨?_, ?_⟩
  · intro q hq
    simp only [List.mem_singleton] at hq
    subst hq
    refine same_load (v := .int .u64 ((sizesL l l.length).getD i 0 : Nat)) rfl rfl rfl ?_ ?_
    · simp -implicitDefEqProofs only [↓gP, gQ, ↓reduceIte, Nat.reduceAdd, Nat.reduceEqDiff, Nat.reduceLT, Nat.reduceLeDiff, Int.reduceEq, e25, e24, e3, e0, hE36 _ _ hov, hsl, hbv, hil, hgl]
    · simp -implicitDefEqProofs only [↓gP, gQ, ↓reduceIte, Nat.reduceAdd, Nat.reduceEqDiff, Nat.reduceLT, Nat.reduceLeDiff, Int.reduceEq, e25, e24, e3, e0, hE35 _ _ hov, hsl, hbv, hil, hgl]
  · simp -implicitDefEqProofs only [↓gP, gQ, ↓reduceIte, Nat.reduceAdd, Nat.reduceEqDiff, Nat.reduceLT, Nat.reduceLeDiff, Int.reduceEq, e25, e24, e3, e0, hw]
    exact ⟨l.length - (i + 1), by omega, i + 1, rfl, hil, by first | exact True.intro | rfl, by first | exact True.intro | rfl, by first | exact True.intro | rfl, by first | exact True.intro | rfl, hE38, by first | exact True.intro | rfl⟩
end Go.Va
end
