/- Rows as cells; one slice appended to another. -/
import Derived.Test.YtkofbgicfmojjaaVaLC
set_option linter.unusedSimpArgs false
set_option linter.unusedVariables false
set_option linter.unusedSectionVars false
namespace Go.Va

theorem flat_len {sz : Nat} : ∀ {L : List (List AV)}, (∀ x ∈ L, x.length = sz) → L.flatten.length = L.length * sz
  | [], _ => by simp
  | x :: L, h => by
    rw [List.flatten_cons, List.length_append, flat_len (fun y hy => h y (by simp [hy])), h x (by simp), List.length_cons, Nat.succ_mul, Nat.add_comm]

theorem flat_row {sz : Nat} : ∀ {L : List (List AV)} (_ : ∀ x ∈ L, x.length = sz) (i : Nat) (hi : i < L.length), (L.flatten.drop (i * sz)).take sz = L[i]
  | [], _, i, hi => by simp at hi
  | x :: L, h, 0, hi => by
    have hx := h x (by simp)
    simp only [Nat.zero_mul, List.drop_zero, List.flatten_cons, List.getElem_cons_zero]
    rw [List.take_append_of_le_length (by omega), List.take_of_length_le (by omega)]
  | x :: L, h, i + 1, hi => by
    have hx := h x (by simp)
    have := flat_row (L := L) (fun y hy => h y (by simp [hy])) i (by simpa using hi)
    rw [List.flatten_cons, List.getElem_cons_succ, ← this, Nat.succ_mul, Nat.add_comm, ← List.drop_drop]
    congr 2
    rw [List.drop_append_of_le_length (by omega), List.drop_of_length_le (by omega), List.nil_append]

theorem rows_flat {sz : Nat} : ∀ {L : List (List AV)} {c : List AV} {off : Nat}, (∀ i (h : i < L.length), (c.drop ((off + i) * sz)).take sz = L[i]) → (∀ x ∈ L, x.length = sz) → (c.drop (off * sz)).take (L.length * sz) = L.flatten
  | [], c, off, _, _ => by simp
  | x :: L, c, off, h, hl => by
    have h0 := h 0 (by simp)
    simp only [Nat.add_zero, List.getElem_cons_zero] at h0
    have ih := rows_flat (L := L) (c := c) (off := off + 1) (fun i hi => by
      have := h (i + 1) (by simpa using hi)
      rw [List.getElem_cons_succ] at this
      rw [← this]; congr 2; congr 1; omega) (fun y hy => hl y (by simp [hy]))
    rw [List.length_cons, Nat.succ_mul, Nat.add_comm (L.length * sz) sz, List.take_add, h0, List.flatten_cons, List.drop_drop, ← ih, Nat.succ_mul]

theorem Shows.cells {H : Heap} {v : AV} {sz : Nat} {L : List (List AV)} (h : Shows H v sz L) : slCells H v = some L.flatten := by
  obtain ⟨hl, h⟩ := h
  cases v <;> try exact h.elim
  · have e : L = [] := h
    subst e; rfl
  · have e : L = [] := h
    subst e; rfl
  · obtain ⟨h1, h2, c, e, born, ro, h3, h4, h5, h6, h7⟩ := h
    subst h1 h2
    simp only [slCells, h3]
    rw [if_pos ⟨h4, h5, h6⟩, rows_flat h7 hl]

section
variable {P : Program} {t e : TypeId} {sz bytes : Nat} {z : List AV} {H : Heap}

theorem OwnV.shows {b n : Nat} {v : AV} {L : List (List AV)} (h : OwnV b H v e sz n L.flatten) (hl : ∀ x ∈ L, x.length = sz) (h0 : 0 < sz) : Shows H v sz L := by
  obtain ⟨hc, hv⟩ := h
  rw [flat_len hl] at hc
  have hn : n = L.length := (Nat.eq_of_mul_eq_mul_right h0 hc).symm
  subst hn
  refine ⟨hl, ?_⟩
  rcases hv with ⟨rfl, hz⟩ | ⟨id, born, h1, rfl, h3, h4⟩
  · exact List.eq_nil_of_length_eq_zero hz
  · refine ⟨rfl, rfl, _, e, born, false, h4, ?_, ?_, by simp, ?_⟩
    · rw [flat_len hl] at h3; exact h3
    · rw [flat_len hl]; exact Nat.le_refl _
    · intro i hi; rw [Nat.zero_add]; exact flat_row hl i hi

theorem bldSl0 {k : Nat} (hT : slT P t = some (e, sz, bytes, z)) (h3 : z.length = sz) (h4 : 0 < sz) : buildSliceA P t 0 [] H = some (.sl H.length 0 0 0 sz, H ++ [.cells [] e 0 false]) := by
  obtain ⟨hu, i, zz, hi, hz, rfl, rfl, rfl⟩ := slT_inv hT
  unfold buildSliceA
  rw [hu]
  simp only [hi, hz]
  rw [if_pos ⟨by omega, h3, h4⟩]
  simp [fillA, zeros]

/-- A whole slice more. -/
theorem OwnV.app {b n m : Nat} {v y : AV} {c ys : List AV} {H0 : Heap} (h : OwnV b H v e sz n c) (hT : slT P t = some (e, sz, bytes, z)) (h3 : z.length = sz) (h4 : 0 < sz) (hy : slCells H y = some ys) (hm : slLen y = m) (hl : ys.length = m * sz) (ho : ys.all AV.one = true)
    (hbd : (n + m) * bytes ≤ 140737488355328) (hbd' : n + m ≤ 140737488355328) (hE : Ext H0 H) (hb : H0.length ≤ b) (hb' : b ≤ H.length) :
    ∃ v' H', appendA P t t v y H = some (v', H') ∧ OwnV b H' v' e sz (n + m) (c ++ ys) ∧ Ext H0 H' ∧ H.length ≤ H'.length := by
  obtain ⟨hc, hv⟩ := h
  have hcl : (c ++ ys).length = (n + m) * sz := by rw [List.length_append, hc, hl, Nat.add_mul]
  rcases Nat.eq_zero_or_pos m with hm0 | hmp
  · subst hm0
    have hys : ys = [] := List.eq_nil_of_length_eq_zero (by rw [hl]; simp)
    subst hys
    rw [List.append_nil, Nat.add_zero]
    refine ⟨v, H, ?_, ⟨hc, hv⟩, hE, Nat.le_refl _⟩
    obtain ⟨hu, i, zz, hi, hz, rfl, rfl, rfl⟩ := slT_inv hT
    unfold appendA
    rw [hu]
    have hln : slLen v = n := by rcases hv with ⟨rfl, rfl⟩ | ⟨id, born, -, rfl, -, -⟩ <;> rfl
    simp only [hi, hz, hy, hm, hln]
    rw [if_pos ⟨h3, h4, by simp, by simp, by omega, by omega⟩]
    rcases hv with ⟨rfl, rfl⟩ | ⟨id, born, -, rfl, -, -⟩
    · simp
    · simp
  · rcases hv with ⟨rfl, rfl⟩ | ⟨id, born, hid1, rfl, hborn, hid2⟩
    · have : c = [] := List.eq_nil_of_length_eq_zero (by rw [hc]; simp)
      subst this
      refine ⟨_, _, app_nil hT h3 h4 hy hm hmp hl ho (by rw [Nat.zero_add] at hbd; exact hbd) (by omega), ⟨hcl, .inr ⟨H.length, 0, hb', by rw [Nat.zero_add], Nat.zero_le _, hp_get0⟩⟩, hE.app, by simp⟩
    · have hlt : id < H.length := by rw [List.getElem?_eq_some_iff] at hid2; exact hid2.1
      refine ⟨_, _, app_own hT h3 h4 hid2 hc hborn hy hm hmp hl ho hbd hbd', ⟨hcl, .inr ⟨id, born, hid1, rfl, by rw [List.length_append]; omega, ?_⟩⟩, hE.set (by omega), by simp⟩
      rw [List.getElem?_set_self hlt]

/-- A copy of a slice: append([]T{}, y...). -/
theorem copySl {y : AV} {L : List (List AV)} (hT : slT P t = some (e, sz, bytes, z)) (h3 : z.length = sz) (h4 : 0 < sz) (hS : Shows H y sz L) (ho : L.flatten.all AV.one = true) (hbd : L.length * bytes ≤ 140737488355328) (hbd' : L.length ≤ 140737488355328) :
    ∃ v' H', appendA P t t (.sl H.length 0 0 0 sz) y (H ++ [.cells [] e 0 false]) = some (v', H') ∧ OwnV H.length H' v' e sz L.length L.flatten ∧ Ext H H' ∧ Shows H' v' sz L := by
  have hO : OwnV (sz := sz) H.length (H ++ [AObj.cells [] e 0 false]) (.sl H.length 0 0 0 sz) e 0 [] := ⟨by simp, .inr ⟨H.length, 0, Nat.le_refl _, by simp, Nat.zero_le _, hp_get0⟩⟩
  obtain ⟨v', H', h1, h2, h5, h6⟩ := hO.app (b := H.length) (H0 := H) hT h3 h4 (hS.ext Ext.refl.app).cells hS.len (flat_len hS.1) ho (by rw [Nat.zero_add]; exact hbd) (by omega) Ext.refl.app (Nat.le_refl _) (by simp)
  rw [Nat.zero_add, List.nil_append] at h2
  exact ⟨v', H', h1, h2, h5, h2.shows hS.1 h4⟩
end
end Go.Va
