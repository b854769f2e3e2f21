/- Slices that a function makes: fresh ones, appended to. -/
import Derived.Test.YtkofbgicfmojjaaVaLA
set_option linter.unusedSimpArgs false
set_option linter.unusedVariables false
set_option linter.unusedSectionVars false
namespace Go.Va

/-- Of a type of slices: the elements' type, their cells and bytes, and a zero's cells. -/
def slT (P : Program) (t : TypeId) : Option (TypeId × Nat × Nat × List AV) :=
  match P.underlying t with
  | some (.slice e) => match P.info? e, zeroA P e with
    | some i, some z => some (e, i.size, i.bytes, z.cells)
    | _, _ => none
  | _ => none

section
variable {P : Program} {t e : TypeId} {sz bytes : Nat} {z : List AV} {H : Heap}

theorem slT_inv (hT : slT P t = some (e, sz, bytes, z)) : P.underlying t = some (.slice e) ∧ ∃ i zz, P.info? e = some i ∧ zeroA P e = some zz ∧ i.size = sz ∧ i.bytes = bytes ∧ zz.cells = z := by
  unfold slT at hT
  split at hT
  · rename_i e' he
    split at hT
    · rename_i i zz h1 h2
      simp only [Option.some.injEq, Prod.mk.injEq] at hT
      obtain ⟨rfl, rfl, rfl, rfl⟩ := hT
      exact ⟨he, i, zz, h1, h2, rfl, rfl, rfl⟩
    · cases hT
  · cases hT

theorem mkSl {k k' : IntKind} {n : Nat} (hT : slT P t = some (e, sz, bytes, z)) (h1 : n ≤ 140737488355328) (h2 : bytes * n ≤ 281474976710656) (h3 : z.length = sz) (h4 : 0 < sz) :
    makeSliceA P t (.int k (n : Int)) (.int k' (n : Int)) H = some (.sl H.length 0 n (n * sz) sz, H ++ [.cells (zeros z n) e 0 false]) := by
  obtain ⟨hu, i, zz, hi, hz, rfl, rfl, rfl⟩ := slT_inv hT
  unfold makeSliceA
  rw [hu]
  simp only [hi, hz]
  have hb : (i.bytes : Int) * n ≤ 2 ^ 48 := by exact_mod_cast h2
  rw [if_pos ⟨by omega, by omega, by omega, hb, h3, h4⟩]
  rw [Int.toNat_natCast]

theorem bldSl1 {v : AV} (hT : slT P t = some (e, sz, bytes, z)) (h3 : z.length = sz) (h4 : 0 < sz) (h5 : sz ≤ 16777216) (hd : v.isDead = false) (hv : v.cells.length = sz) :
    buildSliceA P t 1 [(0, v)] H = some (.sl H.length 0 1 sz sz, H ++ [.cells v.cells e 0 false]) := by
  obtain ⟨hu, i, zz, hi, hz, rfl, rfl, rfl⟩ := slT_inv hT
  unfold buildSliceA
  rw [hu]
  simp only [hi, hz]
  rw [if_pos ⟨by omega, h3, h4⟩]
  have hzl : (zeros zz.cells 1) = zz.cells := by simp [zeros]
  have hput : ∀ (c vs : List AV), vs.length = c.length → putAll c 0 vs = vs := by
    have gen : ∀ (vs pre c : List AV), vs.length = c.length → putAll (pre ++ c) pre.length vs = pre ++ vs := by
      intro vs
      induction vs with
      | nil => intro pre c h; cases c with
        | nil => rfl
        | cons => simp at h
      | cons x xs ih => intro pre c h; cases c with
        | nil => simp at h
        | cons y ys =>
          rw [putAll_cons, List.set_append_right _ _ (Nat.le_refl _), Nat.sub_self, List.set_cons_zero]
          have := ih (pre ++ [x]) ys (by simpa using h)
          simpa using this
    intro c vs h
    exact gen vs [] c h
  rw [hzl]
  simp only [fillA, Nat.zero_mul, Nat.zero_add]
  rw [if_neg (by rw [hd, hv, h3]; simp)]
  simp only [Option.map_some]
  rw [hput _ _ (by rw [hv, h3])]
  simp

theorem slCells_own {id n : Nat} {c : List AV} {born : Nat} {ro : Bool} (h : H[id]? = some (.cells c e born ro)) (hb : born ≤ c.length) (hc : c.length = n * sz) : slCells H (.sl id 0 n (n * sz) sz) = some c := by
  simp only [slCells, h]
  rw [if_pos ⟨by omega, by omega, by simp⟩]
  simp [← hc]

theorem app_own {id n m born : Nat} {c ys : List AV} {y : AV} (hT : slT P t = some (e, sz, bytes, z)) (h3 : z.length = sz) (h4 : 0 < sz) (hid : H[id]? = some (.cells c e born false)) (hc : c.length = n * sz) (hb : born ≤ c.length)
    (hy : slCells H y = some ys) (hl : slLen y = m) (hm : 0 < m) (hys : ys.length = m * sz) (ho : ys.all AV.one = true) (hbd : (n + m) * bytes ≤ 140737488355328) (hbd' : n + m ≤ 140737488355328) :
    appendA P t t (.sl id 0 n (n * sz) sz) y H = some (.sl id 0 (n + m) ((n + m) * sz) sz, H.set id (.cells (c ++ ys) e born false)) := by
  obtain ⟨hu, i, zz, hi, hz, rfl, rfl, rfl⟩ := slT_inv hT
  unfold appendA
  rw [hu]
  simp only [hi, hz, hy, hl]
  rw [if_pos ⟨h3, h4, by rw [hys], ho, hbd, hbd'⟩, if_neg (by omega)]
  simp only [hid]
  have hpos : 0 < ys.length := by rw [hys]; exact Nat.mul_pos hm h4
  rw [if_pos ⟨trivial, trivial, hc.symm, by omega, trivial, trivial, Nat.le_refl _⟩, if_neg (by omega), if_pos hc.symm, ← hc, List.take_length, hys, hc, ← Nat.add_mul]

theorem app_nil {m : Nat} {ys : List AV} {y : AV} (hT : slT P t = some (e, sz, bytes, z)) (h3 : z.length = sz) (h4 : 0 < sz)
    (hy : slCells H y = some ys) (hl : slLen y = m) (hm : 0 < m) (hys : ys.length = m * sz) (ho : ys.all AV.one = true) (hbd : m * bytes ≤ 140737488355328) (hbd' : m ≤ 140737488355328) :
    appendA P t t .nilsl y H = some (.sl H.length 0 m (m * sz) sz, H ++ [.cells ys e 0 false]) := by
  obtain ⟨hu, i, zz, hi, hz, rfl, rfl, rfl⟩ := slT_inv hT
  unfold appendA
  rw [hu]
  have h0 : slLen AV.nilsl = 0 := rfl
  simp only [hi, hz, hy, hl, h0, Nat.zero_add]
  rw [if_pos ⟨h3, h4, by rw [hys], ho, hbd, hbd'⟩, if_neg (by omega), hys]

/-- A slice of one-cell elements shows its object. -/
theorem shows_own {id n born : Nat} {c : List AV} {ro : Bool} (h : H[id]? = some (.cells c e born ro)) (hb : born ≤ c.length) (hc : c.length = n) : Shows H (.sl id 0 n n 1) 1 (c.map fun x => [x]) := by
  refine ⟨by simp, rfl, by simpa using hc.symm, c, e, born, ro, h, by omega, by omega, by omega, ?_⟩
  intro i hi
  rw [List.length_map] at hi
  simp only [Nat.zero_add, Nat.mul_one, List.getElem_map]
  rw [List.drop_eq_getElem_cons hi, List.take_succ_cons, List.take_zero]

/-- A slice of a function's own: nil, or the whole of an object from b on. -/
def OwnV (b : Nat) (H : Heap) (v : AV) (e : TypeId) (sz n : Nat) (c : List AV) : Prop :=
  c.length = n * sz ∧ ((v = .nilsl ∧ n = 0) ∨ ∃ id born, b ≤ id ∧ v = .sl id 0 n (n * sz) sz ∧ born ≤ c.length ∧ H[id]? = some (.cells c e born false))

theorem OwnV.nil {b : Nat} : OwnV b H .nilsl e sz 0 [] := ⟨by simp, .inl ⟨rfl, rfl⟩⟩
theorem OwnV.ext {b n : Nat} {v : AV} {c : List AV} {H' : Heap} (h : OwnV b H v e sz n c) (he : Ext H H') : OwnV b H' v e sz n c := by
  refine ⟨h.1, ?_⟩
  rcases h.2 with h | ⟨id, born, h1, h2, h3, h4⟩
  · exact .inl h
  · exact .inr ⟨id, born, h1, h2, h3, he _ _ h4⟩

theorem OwnV.shows1 {b n : Nat} {v : AV} {c : List AV} (h : OwnV b H v e 1 n c) : Shows H v 1 (c.map fun x => [x]) := by
  obtain ⟨hc, hv⟩ := h
  rcases hv with ⟨rfl, rfl⟩ | ⟨id, born, h1, rfl, h3, h4⟩
  · have : c = [] := by cases c with
      | nil => rfl
      | cons a l => simp at hc
    subst this
    exact ⟨by simp, rfl⟩
  · have := shows_own h4 h3 rfl
    rw [Nat.mul_one] at hc ⊢
    rw [hc] at this; exact this

theorem ix_own {id n ver m i : Nat} {k : IntKind} (hi : i < n) : ixO (some (true, m, sz)) (.sl id 0 n ver sz) (.int k (i : Int)) = some (.ptr id (i * sz) ver) := by
  simp only [ixO]
  rw [if_pos ⟨by omega, by omega, trivial⟩, Int.toNat_natCast, Nat.zero_add]
theorem ix_own1 {id n ver m i : Nat} {k : IntKind} (hi : i < n) : ixO (some (true, m, 1)) (.sl id 0 n ver 1) (.int k (i : Int)) = some (.ptr id i ver) := by
  have := ix_own (id := id) (n := n) (ver := ver) (m := m) (sz := 1) (k := k) hi
  rwa [Nat.mul_one] at this

/-- One element more. -/
theorem OwnV.push {b n : Nat} {v : AV} {c xs : List AV} {H0 : Heap} (h : OwnV b H v e sz n c) (hT : slT P t = some (e, sz, bytes, z)) (h3 : z.length = sz) (h4 : 0 < sz) (hx : xs.length = sz) (ho : xs.all AV.one = true)
    (hbd : (n + 1) * bytes ≤ 140737488355328) (hbd' : n + 1 ≤ 140737488355328) (hE : Ext H0 H) (hb : H0.length ≤ b) (hb' : b ≤ H.length) :
    ∃ v' H', appendA P t t v (.sl H.length 0 1 sz sz) (H ++ [.cells xs e 0 false]) = some (v', H') ∧ OwnV b H' v' e sz (n + 1) (c ++ xs) ∧ Ext H0 H' ∧ H.length ≤ H'.length := by
  have hy : (H ++ [AObj.cells xs e 0 false])[H.length]? = some (.cells xs e 0 false) := hp_get0
  have hys : slCells (H ++ [AObj.cells xs e 0 false]) (.sl H.length 0 1 sz sz) = some xs := by
    have := slCells_own (n := 1) (sz := sz) hy (Nat.zero_le _) (by rw [hx, Nat.one_mul])
    rwa [Nat.one_mul] at this
  obtain ⟨hc, hv⟩ := h
  have hcl : (c ++ xs).length = (n + 1) * sz := by rw [List.length_append, hc, hx, Nat.add_mul, Nat.one_mul]
  rcases hv with ⟨rfl, rfl⟩ | ⟨id, born, hid1, rfl, hborn, hid2⟩
  · refine ⟨_, _, app_nil (m := 1) hT h3 h4 hys rfl (by omega) (by rw [hx, Nat.one_mul]) ho (by omega) (by omega), ⟨hcl, .inr ⟨(H ++ [AObj.cells xs e 0 false]).length, 0, ?_, rfl, Nat.zero_le _, ?_⟩⟩, hE.app.app, ?_⟩
    · exact Nat.le_trans hb' (by simp)
    · have : c = [] := by cases c with
        | nil => rfl
        | cons a l => simp at hc
      subst this
      exact hp_get0
    · simp
  · have hlt : id < H.length := by rw [List.getElem?_eq_some_iff] at hid2; exact hid2.1
    refine ⟨_, _, app_own (m := 1) hT h3 h4 (Ext.refl.app _ _ hid2) hc hborn hys rfl (by omega) (by rw [hx, Nat.one_mul]) ho hbd hbd', ⟨hcl, .inr ⟨id, born, hid1, rfl, by rw [List.length_append]; omega, ?_⟩⟩, hE.app.set (by omega), ?_⟩
    · rw [List.getElem?_set_self (by simp; omega)]
    · simp
end

end Go.Va
