/- What is ahead of what, whatever the order. -/
import Derived.Test.YtkofbgicfmojjaaVaN
set_option linter.unusedSimpArgs false
set_option linter.unusedVariables false
set_option linter.unusedSectionVars false
namespace Go.Va

def befF (acc : Array Nat) (o : Oper) : Array Nat :=
  acc.push (o.after.foldl (fun s e => if Region.binds .any e then s ||| 2 ^ e.on ||| acc.getD e.on 0 else s) 0)

theorem before_eq (ops : Array Oper) : Region.before ops = ops.toList.foldl befF #[] := by
  unfold Region.before
  rw [← Array.foldl_toList]
  rfl

theorem bef_size : ∀ (l : List Oper) (acc : Array Nat), (l.foldl befF acc).size = acc.size + l.length
  | [], acc => rfl
  | o :: l, acc => by simp only [List.foldl_cons, bef_size l, befF, Array.size_push, List.length_cons]; omega
theorem bef_old : ∀ (l : List Oper) (acc : Array Nat) (k : Nat), k < acc.size → (l.foldl befF acc).getD k 0 = acc.getD k 0
  | [], acc, k, _ => rfl
  | o :: l, acc, k, h => by
    simp only [List.foldl_cons]
    rw [bef_old l _ k (by simp [befF]; omega)]
    simp only [befF, Array.getD_eq_getD_getElem?, Array.getElem?_push]
    rw [if_neg (by omega)]

theorem orFold_bit (acc : Array Nat) (i : Nat) : ∀ (l : List Edge) (s : Nat), ((l.foldl (fun s e => if Region.binds .any e then s ||| 2 ^ e.on ||| acc.getD e.on 0 else s) s).testBit i = true) →
    s.testBit i = true ∨ ∃ e ∈ l, Region.binds .any e = true ∧ (i = e.on ∨ (acc.getD e.on 0).testBit i = true)
  | [], s, h => .inl h
  | e :: l, s, h => by
    simp only [List.foldl_cons] at h
    rcases orFold_bit acc i l _ h with h | ⟨e', he', h⟩
    · split at h
      · rename_i hb
        simp only [Nat.testBit_or, Nat.testBit_two_pow, Bool.or_eq_true, decide_eq_true_eq] at h
        rcases h with (h | h) | h
        · exact .inl h
        · exact .inr ⟨e, by simp, hb, .inl h.symm⟩
        · exact .inr ⟨e, by simp, hb, .inr h⟩
      · exact .inl h
    · exact .inr ⟨e', by simp [he'], h⟩

theorem ahead_edge {ops : Array Oper} {i j : Nat} (h : ahead ops i j = true) : ∃ o e, ops[j]? = some o ∧ e ∈ o.after ∧ Region.binds .any e = true ∧ (i = e.on ∨ (e.on < j ∧ ahead ops i e.on = true)) := by
  unfold ahead at h ⊢
  rw [before_eq] at h ⊢
  by_cases hj : j < ops.toList.length
  · have hsplit : ops.toList = ops.toList.take j ++ ops.toList[j] :: ops.toList.drop (j + 1) := by
      rw [← List.drop_eq_getElem_cons hj, List.take_append_drop]
    have hsz : ((ops.toList.take j).foldl befF #[]).size = j := by rw [bef_size, List.length_take, Nat.min_eq_left (by omega)]; simp
    have hval : (ops.toList.foldl befF #[]).getD j 0 = ops.toList[j].after.foldl (fun s e => if Region.binds .any e then s ||| 2 ^ e.on ||| ((ops.toList.take j).foldl befF #[]).getD e.on 0 else s) 0 := by
      conv => lhs; rw [hsplit]
      rw [List.foldl_append, List.foldl_cons, bef_old _ _ j (by rw [befF, Array.size_push, hsz]; omega)]
      simp only [befF, Array.getD_eq_getD_getElem?, Array.getElem?_push]
      rw [if_pos hsz.symm]
      rfl
    rw [hval, ← Array.foldl_toList] at h
    rcases orFold_bit _ i _ 0 h with h | ⟨e, he, hb, h⟩
    · simp at h
    · refine ⟨ops.toList[j], e, by simp [Array.getElem?_eq_getElem (show j < ops.size by simpa using hj)], by simpa using he, hb, ?_⟩
      rcases h with h | h
      · exact .inl h
      · by_cases hon : e.on < j
        · refine .inr ⟨hon, ?_⟩
          conv at h => rw [← bef_old (ops.toList.drop j) _ e.on (by rw [hsz]; exact hon), ← List.foldl_append, List.take_append_drop]
          exact h
        · simp only [Array.getD_eq_getD_getElem?] at h
          rw [Array.getElem?_eq_none (by rw [hsz]; omega)] at h
          simp at h
  · rw [Array.getD_eq_getD_getElem?, Array.getElem?_eq_none (by rw [bef_size]; simp at hj ⊢; omega)] at h
    simp at h

/-- What the check of a region's order gives. -/
structure Ordered (ops : Array Oper) : Prop where
  edge : ∀ j o e, ops[j]? = some o → e ∈ o.after → Region.binds .any e = true → e.on < j
  pair : ∀ i j x y, i < j → ops[i]? = some x → ops[j]? = some y → ahead ops i j = true ∨ (x.apart ops y = true ∧ ¬ (heavy x = true ∧ heavy y = true ∧ floats y = false))

theorem ordered_of {ops : Array Oper} (h : orderOk ops = true) : Ordered ops := by
  unfold orderOk at h
  rw [Bool.and_eq_true] at h
  obtain ⟨h1, h2⟩ := h
  rw [List.all_eq_true] at h1 h2
  refine ⟨?_, ?_⟩
  · intro j o e hj he hb
    have hlt := (Array.getElem?_eq_some_iff.1 hj).1
    have := h1 j (by simp [hlt])
    simp only [hj, Array.all_eq_true'] at this
    have := this e he
    simpa [hb] using this
  · intro i j x y hij hi hj
    have hlt := (Array.getElem?_eq_some_iff.1 hj).1
    have := h2 j (by simp [hlt])
    rw [List.all_eq_true] at this
    have := this i (by simp [hij])
    simp only [hi, hj, Bool.or_eq_true, Bool.and_eq_true] at this
    rcases this with h | ⟨h, h'⟩
    · exact .inl h
    · refine .inr ⟨h, ?_⟩
      rintro ⟨a, b, c⟩
      simp [a, b, c] at h'

theorem ahead_lt {ops : Array Oper} (ho : Ordered ops) : ∀ (j i : Nat), ahead ops i j = true → i < j := by
  intro j
  induction j using Nat.strongRecOn with
  | _ j ih =>
    intro i h
    obtain ⟨o, e, h1, h2, h3, h4⟩ := ahead_edge h
    have hlt := ho.edge j o e h1 h2 h3
    rcases h4 with rfl | ⟨_, h5⟩
    · exact hlt
    · exact Nat.lt_trans (ih _ hlt i h5) hlt

/-- What is done: closed under what is ahead. -/
def Done (listed : Array Bool) (i : Nat) : Prop := listed.getD i false = true
def Closed (ops : Array Oper) (listed : Array Bool) : Prop := ∀ j o e, Done listed j → ops[j]? = some o → e ∈ o.after → Region.binds .any e = true → Done listed e.on

theorem Closed.ahead {ops : Array Oper} {listed : Array Bool} (hc : Closed ops listed) (ho : Ordered ops) : ∀ (j i : Nat), Done listed j → Va.ahead ops i j = true → Done listed i := by
  intro j
  induction j using Nat.strongRecOn with
  | _ j ih =>
    intro i hd h
    obtain ⟨o, e, h1, h2, h3, h4⟩ := ahead_edge h
    have hlt := ho.edge j o e h1 h2 h3
    have hde := hc j o e hd h1 h2 h3
    rcases h4 with rfl | ⟨_, h5⟩
    · exact hde
    · exact ih _ hlt i hde h5

theorem done_set {listed : Array Bool} {i j : Nat} (hi : i < listed.size) : Done (listed.setIfInBounds i true) j ↔ j = i ∨ Done listed j := by
  unfold Done
  simp only [Array.getD_eq_getD_getElem?]
  by_cases h : i = j
  · subst h; simp [hi]
  · rw [Array.getElem?_setIfInBounds_ne h]
    constructor
    · exact .inr
    · rintro (rfl | h')
      · exact absurd rfl h
      · exact h'

theorem ready_spec {ops : Array Oper} {listed : Array Bool} (hs : listed.size = ops.size) {i : Nat} (h : i ∈ Region.ready .any ops listed) :
    i < ops.size ∧ ¬ Done listed i ∧ ∃ o, ops[i]? = some o ∧ ∀ e ∈ o.after, Region.binds .any e = true → Done listed e.on := by
  unfold Region.ready at h
  simp only [List.mem_filter, List.mem_range, Bool.and_eq_true] at h
  obtain ⟨hi, h1, h2⟩ := h
  refine ⟨hi, ?_, ops[i], Array.getElem?_eq_getElem hi, ?_⟩
  · unfold Done
    simp only [Array.getD_eq_getD_getElem?] at h1 ⊢
    rw [Array.getElem?_eq_getElem (by omega)] at h1 ⊢
    simpa using h1
  · intro e he hb
    rw [Array.getElem?_eq_getElem hi] at h2
    simp only [Option.map_some, Option.getD_some, Array.all_eq_true'] at h2
    have := h2 e he
    simpa [hb, Done] using this

theorem ready_ne {ops : Array Oper} (ho : Ordered ops) {listed : Array Bool} (hs : listed.size = ops.size) (h : ∃ i, i < ops.size ∧ ¬ Done listed i) : Region.ready .any ops listed ≠ [] := by
  obtain ⟨i, hi, hd⟩ := h
  -- the least that is not done
  have : ∃ i, i < ops.size ∧ ¬ Done listed i ∧ ∀ j, j < i → Done listed j := by
    induction i using Nat.strongRecOn with
    | _ i ih =>
      by_cases hall : ∀ j, j < i → Done listed j
      · exact ⟨i, hi, hd, hall⟩
      · have ⟨j, hj⟩ := Classical.not_forall.1 hall
        have ⟨hj1, hj2⟩ := Classical.not_imp.1 hj
        exact ih j hj1 (by omega) hj2
  obtain ⟨i, hi, hd, hall⟩ := this
  intro hnil
  have hm : i ∈ Region.ready .any ops listed := by
    unfold Region.ready
    simp only [List.mem_filter, List.mem_range, Bool.and_eq_true]
    refine ⟨hi, ?_, ?_⟩
    · unfold Done at hd
      simp only [Array.getD_eq_getD_getElem?] at hd ⊢
      rw [Array.getElem?_eq_getElem (by omega)] at hd ⊢
      simpa using hd
    · rw [Array.getElem?_eq_getElem hi]
      simp only [Option.map_some, Option.getD_some, Array.all_eq_true']
      intro e he
      cases hb : Region.binds .any e with
      | false => simp
      | true =>
        have := ho.edge i ops[i] e (Array.getElem?_eq_getElem hi) he hb
        have := hall _ this
        simpa [Done] using this
  rw [hnil] at hm
  cases hm

end Go.Va
