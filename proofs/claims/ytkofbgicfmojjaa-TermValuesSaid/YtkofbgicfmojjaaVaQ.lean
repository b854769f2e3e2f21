/- A region whose order is open: whatever the order, it comes to what the text's order comes to. -/
import Derived.Test.YtkofbgicfmojjaaVaO
set_option linter.unusedSimpArgs false
set_option linter.unusedVariables false
set_option linter.unusedSectionVars false
namespace Go.Va

variable {C : Ctx} {call : CallF} {ops : Array Oper}

theorem same_eq_aux : (∀ a b, AV.same a b = true → a = b) ∧ (∀ xs ys, AV.sames xs ys = true → xs = ys) := by
  have key : ∀ n, (∀ a b, SizeOf.sizeOf a ≤ n → AV.same a b = true → a = b) ∧ (∀ xs ys, SizeOf.sizeOf xs ≤ n → AV.sames xs ys = true → xs = ys) := by
    intro n
    induction n with
    | zero =>
      constructor
      · intro a b h; cases a <;> simp at h <;> omega
      · intro xs ys h; cases xs <;> simp at h <;> omega
    | succ n ih =>
      constructor
      · intro a b hs h
        cases a <;> cases b <;> simp only [AV.same, Bool.and_eq_true, beq_iff_eq, reduceCtorEq] at h <;> first
          | rfl
          | (simp_all; done)
          | (cases h; done)
          | (rename_i x y; cases x; cases y; simp_all; done)
          | (obtain ⟨h1, h2⟩ := h; rw [h1, ih.2 _ _ (by simp at hs; omega) h2])
          | (rw [ih.2 _ _ (by simp at hs; omega) h])
      · intro xs ys hs h
        cases xs <;> cases ys <;> simp only [AV.sames, Bool.and_eq_true, reduceCtorEq] at h <;> first
          | rfl
          | (cases h; done)
          | (obtain ⟨h1, h2⟩ := h; rw [ih.1 _ _ (by simp at hs; omega) h1, ih.2 _ _ (by simp at hs; omega) h2])
  exact ⟨fun a b => (key _).1 a b (Nat.le_refl _), fun xs ys => (key _).2 xs ys (Nat.le_refl _)⟩
theorem same_eq {a b : AV} (h : a.same b = true) : a = b := same_eq_aux.1 a b h

theorem light_heap {o : Oper} (h : heavy o = false) {ρ : Env} {H H' : Heap} {v : AV} (hr : opA C call o ρ H = some (v, H')) : H' = H := by
  unfold opA at hr
  split at hr
  case h_26 =>
    rename_i b args ts ho
    simp only [heavy, ho] at h
    cases b <;> first | (simp at h; done) | skip
    all_goals
      unfold builtinA at hr
      split at hr
      all_goals first
        | (cases hr; done)
        | (simp_all; done)
        | (simp only [Option.bind_eq_some_iff, Option.map_eq_some_iff] at hr)
        | skip
      all_goals first
        | (obtain ⟨t, _, r, _, hr⟩ := hr; cases hr; rfl)
        | (obtain ⟨r, _, hr⟩ := hr; cases hr; rfl)
        | (simp_all; done)
  case h_27 => simp_all [heavy]
  all_goals first
    | (simp_all [heavy]; done)
    | (cases hr; rfl)
    | (simp only [Option.map_eq_some_iff] at hr; obtain ⟨r, _, hr⟩ := hr; cases hr; rfl)
    | (split at hr
       all_goals first
       | (cases hr; rfl)
       | (cases hr; done)
       | (simp only [Option.map_eq_some_iff] at hr; obtain ⟨r, _, hr⟩ := hr; cases hr; rfl))

theorem light_builtin {b : Builtin} (hb : b = .len ∨ b = .min ∨ b = .max) {P : Program} {ts : Array TypeId} {args : List AV} {H H' : Heap} {v : AV} (hr : builtinA P b ts args H = some (v, H')) (H₂ : Heap) : builtinA P b ts args H₂ = some (v, H₂) := by
  rcases hb with rfl | rfl | rfl
  all_goals
    unfold builtinA at hr ⊢
    split at hr
    all_goals first
      | (cases hr; done)
      | (simp_all; done)
      | (simp only [Option.bind_eq_some_iff, Option.map_eq_some_iff] at hr; obtain ⟨t, ht, r, hr', hr⟩ := hr; cases hr; simp_all; done)
      | (simp only [Option.map_eq_some_iff] at hr; obtain ⟨r, hr', hr⟩ := hr; cases hr; simp_all; done)

theorem light_any {o : Oper} (h : heavy o = false) (h2 : reads o = false) {ρ : Env} {H H' : Heap} {v : AV} (hr : opA C call o ρ H = some (v, H')) (H₂ : Heap) : opA C call o ρ H₂ = some (v, H₂) := by
  obtain ⟨dst, op, ty, pos, after, guard⟩ := o
  cases op
  case call c =>
    obtain ⟨callee, args, ts⟩ := c
    cases callee
    case builtin b =>
      simp only [opA] at hr ⊢
      exact light_builtin (by cases b <;> simp [heavy] at h <;> simp) hr H₂
    all_goals simp [heavy] at h
  case makeFunc fn a b =>
    cases fn <;> simp only [opA] at hr ⊢ <;> first | (cases hr; done) | skip
    split at hr
    · rename_i h0; cases hr; rw [if_pos h0]
    · cases hr
  case makeMap t r => simp [heavy] at h
  case slice t x lo hi mx =>
    cases mx <;> simp only [opA] at hr ⊢ <;> first | (cases hr; done) | skip
    simp only [Option.map_eq_some_iff] at hr ⊢
    obtain ⟨r, hr, h⟩ := hr
    cases h
    exact ⟨_, hr, rfl⟩
  all_goals first
    | (simp [heavy] at h; done)
    | (simp [reads] at h2; done)
    | (simp only [opA] at hr; cases hr; done)
    | (simp only [opA] at hr ⊢; cases hr; rfl)
    | (simp only [opA, Option.map_eq_some_iff] at hr ⊢; obtain ⟨r, hr, h⟩ := hr; cases h; exact ⟨_, hr, rfl⟩)
    | (simp only [opA] at hr ⊢
       split at hr
       all_goals first
       | (cases hr; rfl)
       | (cases hr; done)
       | (simp only [Option.map_eq_some_iff] at hr ⊢; obtain ⟨r, hr, h⟩ := hr; cases h; exact ⟨_, hr, rfl⟩))

/-- What a step comes to where nothing is deferred. -/
theorem step_cases {o : Oper} (hd : defers o = false) {s s' : St} (h : stepA C call ops o s = some s') :
    (wantedA ops o s.ρ = some false ∧ s' = { s with ρ := putSlot s.ρ o.dst (.tup []) }) ∨
    (wantedA ops o s.ρ = some true ∧ ∃ v H', opA C call o s.ρ s.H = some (v, H') ∧ s' = { s with ρ := putSlot s.ρ o.dst v, H := H' }) := by
  unfold stepA at h
  split at h
  · cases h
  · cases h; exact .inl ⟨‹_›, rfl⟩
  · rename_i hw
    have hdn : deferA o s.ρ = none := by
      unfold deferA
      split
      · rename_i ho; simp [defers, ho] at hd
      · rfl
    rw [hdn] at h
    simp only [Option.map_eq_some_iff] at h
    obtain ⟨r, hr, h⟩ := h
    cases h
    exact .inr ⟨hw, r.1, r.2, hr, rfl⟩

/-- A run in the text's order, as a row of states. -/
structure Run (C : Ctx) (call : CallF) (ops : Array Oper) (S : Nat → St) : Prop where
  step : ∀ (i : Nat) (o : Oper), ops[i]? = some o → stepA C call ops o (S i) = some (S (i + 1))
  nodef : ∀ (i : Nat) (o : Oper), ops[i]? = some o → defers o = false

variable {S : Nat → St}

theorem Run.D (hr : Run C call ops S) : ∀ i, i ≤ ops.size → (S i).D = (S 0).D
  | 0, _ => rfl
  | i + 1, h => by
    have ho : ops[i]? = some ops[i] := Array.getElem?_eq_getElem (by omega)
    rw [← hr.D i (by omega)]
    rcases step_cases (hr.nodef i _ ho) (hr.step i _ ho) with ⟨_, e⟩ | ⟨_, v, H', _, e⟩ <;> rw [e]
theorem Run.ρlen (hr : Run C call ops S) : ∀ i, i ≤ ops.size → (S i).ρ.length = (S 0).ρ.length
  | 0, _ => rfl
  | i + 1, h => by
    have ho : ops[i]? = some ops[i] := Array.getElem?_eq_getElem (by omega)
    rw [← hr.ρlen i (by omega)]
    rcases step_cases (hr.nodef i _ ho) (hr.step i _ ho) with ⟨_, e⟩ | ⟨_, v, H', _, e⟩ <;> rw [e] <;> simp [putSlot_len]
theorem Run.Hlen (hc : CallLen call) (hr : Run C call ops S) {i j : Nat} (hij : i ≤ j) (hj : j ≤ ops.size) : (S i).H.length ≤ (S j).H.length := by
  induction j with
  | zero => obtain rfl : i = 0 := by omega
            exact Nat.le_refl _
  | succ j ih =>
    by_cases h : i = j + 1
    · subst h; exact Nat.le_refl _
    · have ho : ops[j]? = some ops[j] := Array.getElem?_eq_getElem (by omega)
      exact Nat.le_trans (ih (by omega) (by omega)) (step_len hc (hr.step j _ ho))
/-- Where nothing heavy stands, the heap is as it was. -/
theorem Run.Hsame (hr : Run C call ops S) {i j : Nat} (hij : i ≤ j) (hj : j ≤ ops.size) (hl : ∀ (k : Nat) (o : Oper), i ≤ k → k < j → ops[k]? = some o → heavy o = false) : (S j).H = (S i).H := by
  induction j with
  | zero => obtain rfl : i = 0 := by omega
            rfl
  | succ j ih =>
    by_cases h : i = j + 1
    · subst h; rfl
    · have ho : ops[j]? = some ops[j] := Array.getElem?_eq_getElem (by omega)
      rw [← ih (by omega) (by omega) (fun k o h1 h2 => hl k o h1 (by omega))]
      have hlt := hl j _ (by omega) (by omega) ho
      rcases step_cases (hr.nodef j _ ho) (hr.step j _ ho) with ⟨_, e⟩ | ⟨_, v, H', hop, e⟩
      · rw [e]
      · rw [e]; exact light_heap hlt hop
/-- Where nothing writes a slot, it is as it was. -/
theorem Run.ρsame (hr : Run C call ops S) {t i j : Nat} (hij : i ≤ j) (hj : j ≤ ops.size) (hl : ∀ (k : Nat) (o : Oper), i ≤ k → k < j → ops[k]? = some o → o.dst ≠ some t) : (S j).ρ.getD t .dead = (S i).ρ.getD t .dead := by
  induction j with
  | zero => obtain rfl : i = 0 := by omega
            rfl
  | succ j ih =>
    by_cases h : i = j + 1
    · subst h; rfl
    · have ho : ops[j]? = some ops[j] := Array.getElem?_eq_getElem (by omega)
      rw [← ih (by omega) (by omega) (fun k o h1 h2 => hl k o h1 (by omega))]
      have hne := hl j _ (by omega) (by omega) ho
      have hput : ∀ v, (putSlot (S j).ρ ops[j].dst v).getD t .dead = (S j).ρ.getD t .dead := by
        intro v
        unfold putSlot
        split
        · rename_i d hd
          rw [getD_set, if_neg]
          rintro ⟨rfl, _⟩
          exact hne hd
        · rfl
      rcases step_cases (hr.nodef j _ ho) (hr.step j _ ho) with ⟨_, e⟩ | ⟨_, v, H', _, e⟩ <;> rw [e] <;> exact hput _

end Go.Va
