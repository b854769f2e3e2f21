/- Equality of values, operators, and composite values. -/
import Derived.Test.YtkofbgicfmojjaaVaD
set_option linter.unusedSimpArgs false
set_option linter.unusedVariables false
set_option linter.unusedSectionVars false
namespace Go.Va

variable {P : Program} {M : Plc} {w : World}

theorem eqCells_len : ∀ {ks : List Bool} {xs ys : List AV} {r : Bool}, eqCells ks xs ys = some r → xs.length = ks.length ∧ ys.length = ks.length
  | [], [], [], _, _ => ⟨rfl, rfl⟩
  | true :: ks, .int j a :: xs, .int k b :: ys, r, h => by
    simp only [eqCells] at h
    split at h
    · simp only [Option.map_eq_some_iff] at h
      obtain ⟨r', h', _⟩ := h
      simp [eqCells_len h']
    · cases h
  | false :: ks, .bool a :: xs, .bool b :: ys, r, h => by
    simp only [eqCells, Option.map_eq_some_iff] at h
    obtain ⟨r', h', _⟩ := h
    simp [eqCells_len h']

/-- What the comparison of two rows comes to, cell by cell. -/
theorem eqFields_sound : ∀ (fs : List Field) (ks : List Bool) (k d : Nat) (xs ys : Array Value) (cs ds : List AV) (r : Bool),
    (∀ (i : Nat) (f : Field), fs[i]? = some f → f.name ≠ "_" ∧ f.offset = k + i ∧ ((ks[i]? = some true ∧ ∃ kd, P.underlying f.type = some (.int kd)) ∨ (ks[i]? = some false ∧ P.underlying f.type = some .bool))) →
    ks.length = fs.length → eqCells ks cs ds = some r →
    (∀ (i : Nat) (x : AV), cs[i]? = some x → ∃ y, xs[k + i]? = some y ∧ VR M x y) → (∀ (i : Nat) (x : AV), ds[i]? = some x → ∃ y, ys[k + i]? = some y ∧ VR M x y) →
    (Op.eqFields (d + 1) xs ys fs).run P w = .ok r w := by
  intro fs
  induction fs with
  | nil =>
    intro ks k d xs ys cs ds r _ hl he _ _
    obtain rfl : ks = [] := List.eq_nil_of_length_eq_zero (by simpa using hl)
    have hc := eqCells_len he
    obtain rfl : cs = [] := List.eq_nil_of_length_eq_zero (by simpa using hc.1)
    obtain rfl : ds = [] := List.eq_nil_of_length_eq_zero (by simpa using hc.2)
    simp [eqCells] at he; subst he; simp [Op.eqFields]
  | cons f fs ihfs =>
    intro ks k d xs ys cs ds r hf hl he hx hy
    obtain ⟨hn, ho, ht⟩ := hf 0 f rfl
    have hnd : ∃ dd, P.underlying f.type = some dd ∧ aggD dd = false := by
      rcases ht with ⟨_, kd, h⟩ | ⟨_, h⟩
      · exact ⟨_, h, rfl⟩
      · exact ⟨_, h, rfl⟩
    obtain ⟨dd, hdd, hag⟩ := hnd
    have hagg := run_isAgg hdd w
    rw [hag] at hagg
    have hc := eqCells_len he
    cases ks with
    | nil => simp at hl
    | cons kb ks =>
      cases cs with
      | nil => simp at hc
      | cons c cs =>
        cases ds with
        | nil => simp at hc
        | cons c' ds =>
          obtain ⟨x, hxx, hvx⟩ := hx 0 c rfl
          obtain ⟨y, hyy, hvy⟩ := hy 0 c' rfl
          simp only [Nat.add_zero] at ho hxx hyy
          have ih := fun r' h' => ihfs ks (k + 1) d xs ys cs ds r' (fun i f' hi => by have := hf (i + 1) f' hi; rwa [show k + 1 + i = k + (i + 1) by omega])
            (by simpa using hl) h' (fun i z hz => by have := hx (i + 1) z hz; rwa [show k + 1 + i = k + (i + 1) by omega]) (fun i z hz => by have := hy (i + 1) z hz; rwa [show k + 1 + i = k + (i + 1) by omega])
          have p1 : (part f.type xs f.offset).run P w = .ok x w := by simp [part, hagg, ho, hxx]
          have p2 : (part f.type ys f.offset).run P w = .ok y w := by simp [part, hagg, ho, hyy]
          simp only [Op.eqFields, hn, ne_eq, not_false_eq_true, if_true, Sem.run_bind, p1, p2, Result.andThen_ok]
          unfold eqCells at he
          split at he
          · rename_i h1 h2 h3; cases h1
          · rename_i ks' j a xs' kk b ys' h1 h2 h3
            cases h1; cases h2; cases h3
            rcases ht with ⟨_, kd, hb⟩ | ⟨h0, _⟩
            · split at he
              · rename_i hk
                subst hk
                simp only [Option.map_eq_some_iff] at he
                obtain ⟨r', hr', rfl⟩ := he
                cases hvx; cases hvy
                rw [run_equalIn_int w d f.type j kd a b hb]
                simp only [Result.andThen_ok, Sem.run_ite, Sem.run_pure, ih r' hr']
                cases hab : (a == b) <;> simp
              · cases he
            · simp at h0
          · rename_i ks' a xs' b ys' h1 h2 h3
            cases h1; cases h2; cases h3
            rcases ht with ⟨h0, _⟩ | ⟨_, hb⟩
            · simp at h0
            · simp only [Option.map_eq_some_iff] at he
              obtain ⟨r', hr', rfl⟩ := he
              cases hvx; cases hvy
              rw [run_equalIn_bool' w d f.type a b hb]
              simp only [Result.andThen_ok, Sem.run_ite, Sem.run_pure, ih r' hr']
              cases hab : (a == b) <;> simp
          · cases he

/-- Structs are equal as their cells are. -/
theorem eqAgg_sound {t : TypeId} {ks : List Bool} (hp : PlainEq P t ks) {cs ds : List AV} {r : Bool} (he : eqCells ks cs ds = some r) {xs ys : Array Value} (hx : VRs M cs xs) (hy : VRs M ds ys) (d : Nat) :
    (Op.equalIn (d + 2) t (.agg xs) (.agg ys)).run P w = .ok r w := by
  obtain ⟨fs, hfs, hkl, hf⟩ := hp.fields
  have hfo : P.fieldsOf t = fs := by simp [Program.fieldsOf, hfs]
  rw [run_equalIn_struct w (d + 1) t xs ys (by rw [hfo]; exact hfs) hp.stood, hfo]
  exact eqFields_sound (M := M) fs.toList ks 0 d xs ys cs ds r (fun i f hi => by have := hf i f (by simpa using hi); rwa [Nat.zero_add]) (by simpa using hkl) he
    (fun i x hi => by rw [Nat.zero_add]; exact hx.2 i x hi) (fun i x hi => by rw [Nat.zero_add]; exact hy.2 i x hi)

theorem VR.sl_inv {id off len ver sz : Nat} {x : Value} (h : VR M (.sl id off len ver sz) x) : ∃ a cap pl, x = .slice (some a) len cap ∧ M id ver = some pl ∧ pl.sz = sz ∧ off + cap = pl.cap ∧ len ≤ cap ∧
    (off + len) * sz ≤ ver ∧ (cap ≠ 0 → a = ⟨pl.blk, pl.base + off * sz, none⟩) := by
  cases h with | sl _ _ _ _ _ cap a pl hp hs hc hl he ha => exact ⟨a, cap, pl, rfl, hp, hs, hc, hl, he, ha⟩

theorem eqIn_bool {t : TypeId} (h : P.underlying t = some .bool) (d : Nat) (a b : Bool) : (Op.equalIn (d + 1) t (.bool a) (.bool b)).run P w = .ok (a == b) w := by
  simp only [Op.equalIn, Sem.run_bind, run_underlying h, Result.andThen_ok]; rfl
theorem eqIn_ptr {t e : TypeId} (h : P.underlying t = some (.pointer e)) (d : Nat) (b : Option Addr) : (Op.equalIn (d + 1) t (.pointer none) (.pointer b)).run P w = .ok b.isNone w := by
  simp only [Op.equalIn, Sem.run_bind, run_underlying h, Result.andThen_ok]; rfl
theorem eqIn_ptr' {t e : TypeId} (h : P.underlying t = some (.pointer e)) (d : Nat) (a : Addr) : (Op.equalIn (d + 1) t (.pointer (some a)) (.pointer none)).run P w = .ok false w := by
  simp only [Op.equalIn, Sem.run_bind, run_underlying h, Result.andThen_ok]; rfl
theorem eqIn_sl {t e : TypeId} (h : P.underlying t = some (.slice e)) (d n c m k : Nat) (b : Option Addr) : (Op.equalIn (d + 1) t (.slice none n c) (.slice b m k)).run P w = .ok b.isNone w := by
  simp only [Op.equalIn, Sem.run_bind, run_underlying h, Result.andThen_ok]; rfl
theorem eqIn_sl' {t e : TypeId} (h : P.underlying t = some (.slice e)) (d n c m k : Nat) (a : Addr) : (Op.equalIn (d + 1) t (.slice (some a) n c) (.slice none m k)).run P w = .ok false w := by
  simp only [Op.equalIn, Sem.run_bind, run_underlying h, Result.andThen_ok]; rfl
theorem eqIn_map {t k e : TypeId} (h : P.underlying t = some (.map k e)) (d : Nat) (b : Option Nat) : (Op.equalIn (d + 1) t (.map none) (.map b)).run P w = .ok b.isNone w := by
  simp only [Op.equalIn, Sem.run_bind, run_underlying h, Result.andThen_ok]; rfl
theorem eqIn_map' {t k e : TypeId} (h : P.underlying t = some (.map k e)) (d : Nat) (a : Nat) : (Op.equalIn (d + 1) t (.map (some a)) (.map none)).run P w = .ok false w := by
  simp only [Op.equalIn, Sem.run_bind, run_underlying h, Result.andThen_ok]; rfl

theorem eq_sound {C : Ctx} (hC : C.ok) {t : TypeId} {u v : AV} {r : Bool} (h : eqA C t u v = some r) {x y : Value} (hx : VR M u x) (hy : VR M v y) (X Y : Operand) (op : BinOp) (hop : op = .eql ∨ op = .neq) :
    (eqGuard op t X Y x y).run C.P w = .ok () w ∧ (Op.equal t x y).run C.P w = .ok r w := by
  unfold eqA at h
  split at h
  · split at h
    · rename_i ht
      cases h; cases hx; cases hy
      exact ⟨by rcases hop with rfl | rfl <;> simp [eqGuard], eqIn_bool ht 9999 _ _⟩
    · cases h
  · split at h
    · rename_i ht
      cases h; cases hx; cases hy
      exact ⟨by rcases hop with rfl | rfl <;> simp [eqGuard], eqIn_ptr ht 9999 none⟩
    · cases h
  · split at h
    · rename_i ht
      cases h; cases hx; cases hy
      exact ⟨by rcases hop with rfl | rfl <;> simp [eqGuard], eqIn_ptr ht 9999 (some _)⟩
    · cases h
  · split at h
    · rename_i ht
      cases h; cases hx; cases hy
      exact ⟨by rcases hop with rfl | rfl <;> simp [eqGuard], eqIn_ptr' ht 9999 _⟩
    · cases h
  · split at h
    · rename_i ht
      cases h; cases hx; cases hy
      exact ⟨by rcases hop with rfl | rfl <;> simp [eqGuard], eqIn_sl ht 9999 0 0 0 0 none⟩
    · cases h
  · split at h
    · rename_i ht
      cases h; cases hx; cases hy
      exact ⟨by rcases hop with rfl | rfl <;> simp [eqGuard], eqIn_sl ht 9999 0 0 _ _ (some _)⟩
    · cases h
  · split at h
    · rename_i ht
      cases h; cases hx; cases hy
      exact ⟨by rcases hop with rfl | rfl <;> simp [eqGuard], eqIn_sl' ht 9999 _ _ 0 0 _⟩
    · cases h
  · split at h
    · rename_i ht
      cases h; cases hx; cases hy
      exact ⟨by rcases hop with rfl | rfl <;> simp [eqGuard], eqIn_sl ht 9999 0 0 0 0 (some _)⟩
    · cases h
  · split at h
    · rename_i ht
      cases h; cases hx; cases hy
      exact ⟨by rcases hop with rfl | rfl <;> simp [eqGuard], eqIn_sl' ht 9999 0 0 0 0 _⟩
    · cases h
  · split at h
    · rename_i ht
      cases h; cases hx; cases hy
      exact ⟨by rcases hop with rfl | rfl <;> simp [eqGuard], eqIn_map ht 9999 none⟩
    · cases h
  · split at h
    · rename_i ht
      cases h; cases hx; cases hy
      exact ⟨by rcases hop with rfl | rfl <;> simp [eqGuard], eqIn_map ht 9999 (some _)⟩
    · cases h
  · split at h
    · rename_i ht
      cases h; cases hx; cases hy
      exact ⟨by rcases hop with rfl | rfl <;> simp [eqGuard], eqIn_map' ht 9999 _⟩
    · cases h
  · simp only [Option.bind_eq_some_iff] at h
    obtain ⟨ks, hk, he⟩ := h
    obtain ⟨xs, rfl, hxs⟩ := hx.agg_inv
    obtain ⟨ys, rfl, hys⟩ := hy.agg_inv
    have hp := hC.eq t ks hk
    exact ⟨run_eqGuard_agg w op t X Y xs ys hp.guard, eqAgg_sound hp he hxs hys 9998⟩
  · cases h

theorem eqBin {C : Ctx} {t : TypeId} {u v : AV} {r : Bool} (h : eqA C t u v = some r) {x y : Value} (hx : VR M u x) (hy : VR M v y) :
    (binOp .eql t x y = Op.equal t x y >>= fun b => pure (.bool b)) ∧ (binOp .neq t x y = Op.equal t x y >>= fun b => pure (.bool (!b))) := by
  unfold eqA at h
  split at h
  all_goals first
    | (cases hx; cases hy; exact ⟨rfl, rfl⟩)
    | (cases h)

theorem bin_sound {C : Ctx} (hC : C.ok) {op : BinOp} {t : TypeId} {u v r : AV} (h : binA C op t u v = some r) {x y : Value} (hx : VR M u x) (hy : VR M v y) (X Y : Operand) :
    ∃ z, (eqGuard op t X Y x y >>= fun _ => binOp op t x y).run C.P w = .ok z w ∧ VR M r z := by
  have lift : ∀ {op : BinOp} {u v : AV} {r : AV} {x y : Value}, (VR M u x) → (VR M v y) →
      (match op with | .eql => (eqA C t u v).map AV.bool | .neq => (eqA C t u v).map fun r => .bool (!r) | _ => none) = some r →
      ∃ z, (eqGuard op t X Y x y >>= fun _ => binOp op t x y).run C.P w = .ok z w ∧ VR M r z := by
    intro op u v r x y hx hy h
    cases op <;> simp only at h <;> try (cases h)
    · simp only [Option.map_eq_some_iff] at h
      obtain ⟨b, hb, rfl⟩ := h
      obtain ⟨h1, h2⟩ := eq_sound (w := w) hC hb hx hy X Y .eql (.inl rfl)
      exact ⟨.bool b, by simp only [Sem.run_bind, h1, Result.andThen_ok, (eqBin hb hx hy).1, h2, Sem.run_pure], .bool b⟩
    · simp only [Option.map_eq_some_iff] at h
      obtain ⟨b, hb, rfl⟩ := h
      obtain ⟨h1, h2⟩ := eq_sound (w := w) hC hb hx hy X Y .neq (.inr rfl)
      exact ⟨.bool (!b), by simp only [Sem.run_bind, h1, Result.andThen_ok, (eqBin hb hx hy).2, h2, Sem.run_pure], .bool _⟩
  unfold binA at h
  split at h
  · rename_i k a k' b
    cases hx; cases hy
    have hg : (eqGuard op t X Y (.int k a) (.int k' b)).run C.P w = .ok () w := by cases op <;> simp [eqGuard]
    simp only [Sem.run_bind, hg, Result.andThen_ok]
    split at h
    case h_1 | h_2 =>
      split at h
      · cases h
      · rename_i hb
        cases h
        exact ⟨_, by simp [binOp, Op.shift, hb], .int _ _⟩
    case h_6 | h_7 =>
      split at h
      · rename_i hb
        obtain ⟨rfl, hb⟩ := hb
        cases h
        exact ⟨_, by simp [binOp, Op.intDiv, hb], .int _ _⟩
      · cases h
    all_goals
      split at h
      · rename_i hb
        subst hb
        cases h
        first
        | (refine ⟨_, ?_, .int _ _⟩; simp only [binOp, ne_eq, not_true_eq_false, if_false]; rfl)
        | (refine ⟨_, ?_, .bool _⟩; simp only [binOp, ne_eq, not_true_eq_false, if_false]; rfl)
      · cases h
  · rename_i hne
    exact lift hx hy h

theorem putAll_len : ∀ (vs : List AV) (c : List AV) (o : Nat), (putAll c o vs).length = c.length
  | [], _, _ => rfl
  | v :: vs, c, o => by simp [putAll, putAll_len vs]
theorem putAll_get : ∀ (vs : List AV) (c : List AV) (o i : Nat), o + vs.length ≤ c.length → (putAll c o vs)[i]? = if o ≤ i ∧ i < o + vs.length then vs[i - o]? else c[i]?
  | [], c, o, i, _ => by
    simp only [putAll, List.length_nil, Nat.add_zero]
    rw [if_neg (by omega)]
  | v :: vs, c, o, i, h => by
    simp only [List.length_cons] at h
    rw [putAll, putAll_get vs _ _ _ (by simp; omega)]
    simp only [List.length_cons]
    by_cases h1 : i = o
    · subst h1
      rw [if_neg (by omega), if_pos (by omega), List.getElem?_set_self (by omega)]
      simp
    · rw [List.getElem?_set_ne (Ne.symm h1)]
      by_cases h2 : o + 1 ≤ i ∧ i < o + 1 + vs.length
      · rw [if_pos h2, if_pos (by omega), show i - o = (i - (o + 1)) + 1 by omega, List.getElem?_cons_succ]
      · rw [if_neg h2, if_neg (by omega)]

/-- The cells of a row written over, in the model: as 'fill' does it. -/
theorem foldl_set (xs : Array Value) : ∀ (vs : List (Value × Nat)) (cells : Array Value) (off : Nat),
    (vs.foldl (fun cs (p : Value × Nat) => cs.setIfInBounds (off + p.2) p.1) cells).size = cells.size
  | [], _, _ => rfl
  | v :: vs, cells, off => by simp [foldl_set xs vs]

theorem fold_get (off : Nat) : ∀ (l : List Value) (n : Nat) (cells : Array Value) (i : Nat), off + n + l.length ≤ cells.size →
    ((l.zipIdx n).foldl (fun cs (p : Value × Nat) => cs.setIfInBounds (off + p.2) p.1) cells)[i]? = if off + n ≤ i ∧ i < off + n + l.length then l[i - (off + n)]? else cells[i]?
  | [], n, cells, i, _ => by
    simp only [List.zipIdx_nil, List.foldl_nil, List.length_nil, Nat.add_zero]
    rw [if_neg (by omega)]
  | v :: l, n, cells, i, h => by
    simp only [List.length_cons] at h
    simp only [List.zipIdx_cons, List.foldl_cons]
    rw [fold_get off l (n + 1) _ i (by simp; omega)]
    simp only [List.length_cons]
    by_cases h1 : i = off + n
    · subst h1
      rw [if_neg (by omega), if_pos (by omega), Array.getElem?_setIfInBounds_self_of_lt (by omega)]
      simp
    · rw [Array.getElem?_setIfInBounds_ne (Ne.symm h1)]
      by_cases h2 : off + (n + 1) ≤ i ∧ i < off + (n + 1) + l.length
      · rw [if_pos h2, if_pos (by omega), show i - (off + n) = (i - (off + (n + 1))) + 1 by omega, List.getElem?_cons_succ]
      · rw [if_neg h2, if_neg (by omega)]

theorem fill_sound (place : Nat → Option (Nat × Nat)) : ∀ (ps : List (Nat × AV)) (qs : List (Nat × Value)) (c r : List AV) (cells : Array Value),
    ps.length = qs.length → (∀ (i : Nat) p, ps[i]? = some p → ∃ q, qs[i]? = some q ∧ q.1 = p.1 ∧ VR M p.2 q.2) → VRs M c cells → fillA place c ps = some r →
    ∃ cells', Instr.fill place cells qs = some cells' ∧ VRs M r cells'
  | [], [], c, r, cells, _, _, hc, h => by
    simp only [fillA, Option.some.injEq] at h
    subst h
    exact ⟨cells, rfl, hc⟩
  | (i, v) :: ps, q :: qs, c, r, cells, hl, hr, hc, h => by
    obtain ⟨q', hq, h1, hv⟩ := hr 0 _ rfl
    simp only [List.getElem?_cons_zero, Option.some.injEq] at hq
    subst hq
    obtain ⟨i', x⟩ := q
    simp only at h1 hv
    subst h1
    simp only [fillA] at h
    cases hp : place i' with
    | none => simp [hp] at h
    | some os =>
      obtain ⟨off, size⟩ := os
      simp only [hp] at h
      split at h
      · cases h
      · rename_i hn
        simp only [not_or] at hn
        obtain ⟨hd, hsz, hfit⟩ := hn
        have hcells := hv.cells (by simpa using hd)
        have hl1 := hcells.1
        have hl2 := hc.1
        have hnew : VRs M (putAll c off v.cells) (x.cells.zipIdx.foldl (fun cs (c, j) => cs.setIfInBounds (off + j) c) cells) := by
          have e : x.cells.zipIdx.foldl (fun cs (p : Value × Nat) => cs.setIfInBounds (off + p.2) p.1) cells =
              (x.cells.toList.zipIdx 0).foldl (fun cs (p : Value × Nat) => cs.setIfInBounds (off + p.2) p.1) cells := by
            rw [← Array.foldl_toList]; simp
          have e' : (x.cells.zipIdx.foldl (fun cs (c, j) => cs.setIfInBounds (off + j) c) cells) = x.cells.zipIdx.foldl (fun cs (p : Value × Nat) => cs.setIfInBounds (off + p.2) p.1) cells := rfl
          rw [e', e]
          refine ⟨by rw [putAll_len, foldl_set #[]]; exact hl2, ?_⟩
          intro k z hz
          rw [putAll_get _ _ _ _ (by omega)] at hz
          rw [fold_get off _ 0 cells k (by simp; omega)]
          simp only [Nat.add_zero, Array.length_toList]
          by_cases hk : off ≤ k ∧ k < off + v.cells.length
          · rw [if_pos hk] at hz
            rw [if_pos (by omega)]
            obtain ⟨y, hy, hvy⟩ := hcells.2 _ _ hz
            exact ⟨y, by simpa using hy, hvy⟩
          · rw [if_neg hk] at hz
            rw [if_neg (by omega)]
            exact hc.2 k z hz
        obtain ⟨cells', h2, h3⟩ := fill_sound place ps qs _ r _ (by simpa using hl) (fun j p hj => hr (j + 1) p hj) hnew h
        refine ⟨cells', ?_, h3⟩
        simp only [Instr.fill, hp]
        rw [if_neg]
        · exact h2
        · simp only [ne_eq, Bool.or_eq_true, decide_eq_true_eq, not_or]
          omega

theorem zero_cells {z : AV} {x : Value} (hz : z = ofV x) (hd : z.isDead = false) : VRs M z.cells x.cells := by
  subst hz
  exact (VR.ofV x).cells hd

end Go.Va
