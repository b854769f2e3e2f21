/- Lengths: the heap never shrinks. -/
import Derived.Test.YtkofbgicfmojjaaVaK
set_option linter.unusedSimpArgs false
set_option linter.unusedVariables false
set_option linter.unusedSectionVars false
namespace Go.Va

def CallLen (call : CallF) : Prop := ∀ f args H v H', call f args H = some (v, H') → H.length ≤ H'.length

theorem append_len {P : Program} {t u : TypeId} {s y r : AV} {H H' : Heap} (h : appendA P t u s y H = some (r, H')) : H.length ≤ H'.length := by
  unfold appendA at h
  split at h
  · split at h
    · split at h
      · split at h
        · split at h <;> cases h <;> simp
        · split at h <;> cases h <;> simp
        · split at h
          · cases h; simp
          · split at h
            · simp only at h
              split at h
              · split at h <;> cases h <;> simp
              · cases h
            · cases h
        · cases h
      · cases h
    · cases h
  · cases h
theorem store_len {P : Program} {t : TypeId} {id off ver : Nat} {v : AV} {H H' : Heap} (h : storeA P t H id off ver v = some H') : H.length ≤ H'.length := by
  unfold storeA at h
  split at h
  · split at h
    · cases h; simp
    · cases h
  · cases h
theorem mapUpdate_len {C : Ctx} {t : TypeId} {m k v : AV} {H H' : Heap} (h : mapUpdateA C t m k v H = some H') : H.length ≤ H'.length := by
  unfold mapUpdateA at h
  split at h
  · split at h
    · split at h
      · split at h
        · cases h; simp
        · cases h; simp
        · cases h
      · cases h
    · cases h
  · cases h
theorem buildSlice_len {P : Program} {t : TypeId} {n : Nat} {ps : List (Nat × AV)} {r : AV} {H H' : Heap} (h : buildSliceA P t n ps H = some (r, H')) : H.length ≤ H'.length := by
  unfold buildSliceA at h
  split at h
  · split at h
    · split at h
      · simp only [Option.map_eq_some_iff] at h
        obtain ⟨cs, _, h⟩ := h
        cases h; simp
      · cases h
    · cases h
  · cases h
theorem makeSlice_len {P : Program} {t : TypeId} {l c r : AV} {H H' : Heap} (h : makeSliceA P t l c H = some (r, H')) : H.length ≤ H'.length := by
  unfold makeSliceA at h
  split at h
  · split at h
    · split at h
      · cases h; simp
      · cases h
    · cases h
  · cases h
theorem clear_len {P : Program} {t : TypeId} {v : AV} {H H' : Heap} (h : clearA P t v H = some H') : H.length ≤ H'.length := by
  unfold clearA at h
  split at h
  · cases h; simp
  · split at h
    · split at h
      · cases h; simp
      · split at h
        · cases h; simp
        · cases h
    · cases h
  · cases h
theorem builtin_len {P : Program} {b : Builtin} {ts : Array TypeId} {args : List AV} {v : AV} {H H' : Heap} (h : builtinA P b ts args H = some (v, H')) : H.length ≤ H'.length := by
  unfold builtinA at h
  split at h
  · simp only [Option.bind_eq_some_iff, Option.map_eq_some_iff] at h
    obtain ⟨t, _, r, _, h⟩ := h
    cases h; simp
  · split at h
    · split at h
      · exact append_len h
      · cases h
    · cases h
  · simp only [Option.map_eq_some_iff] at h
    obtain ⟨r, _, h⟩ := h
    cases h; simp
  · simp only [Option.map_eq_some_iff] at h
    obtain ⟨r, _, h⟩ := h
    cases h; simp
  · simp only [Option.bind_eq_some_iff, Option.map_eq_some_iff] at h
    obtain ⟨t, _, r, hr, h⟩ := h
    cases h
    exact clear_len hr
  · cases h

theorem op_len {C : Ctx} {call : CallF} (hc : CallLen call) {o : Oper} {ρ : Env} {v : AV} {H H' : Heap} (h : opA C call o ρ H = some (v, H')) : H.length ≤ H'.length := by
  unfold opA at h
  split at h
  case h_27 =>
    split at h
    · exact hc _ _ _ _ _ h
    · cases h
  case h_26 => exact builtin_len h
  all_goals first
    | exact buildSlice_len h
    | exact makeSlice_len h
    | (cases h; first | exact Nat.le_refl _ | (simp; done))
    | (cases h; done)
    | (simp only [Option.map_eq_some_iff] at h; obtain ⟨r, hr, h⟩ := h; cases h; first | exact Nat.le_refl _ | exact mapUpdate_len hr | (simp; done))
    | (split at h
       all_goals first
       | (cases h; first | exact Nat.le_refl _ | (simp; done))
       | (cases h; done)
       | (simp only [Option.map_eq_some_iff] at h; obtain ⟨r, hr, h⟩ := h; cases h; first | exact Nat.le_refl _ | exact store_len hr | (simp; done)))

theorem step_len {C : Ctx} {call : CallF} (hc : CallLen call) {ops : Array Oper} {o : Oper} {s s' : St} (h : stepA C call ops o s = some s') : s.H.length ≤ s'.H.length := by
  unfold stepA at h
  split at h
  · cases h
  · cases h; exact Nat.le_refl _
  · split at h
    · cases h; exact Nat.le_refl _
    · simp only [Option.map_eq_some_iff] at h
      obtain ⟨r, hr, h⟩ := h
      cases h
      exact op_len hc (v := r.1) (H' := r.2) hr

theorem runOps_len {C : Ctx} {call : CallF} (hc : CallLen call) {ops : Array Oper} : ∀ {l : List Oper} {s s' : St}, runOps C call ops l s = some s' → s.H.length ≤ s'.H.length
  | [], s, s', h => by simp only [runOps, Option.some.injEq] at h; subst h; exact Nat.le_refl _
  | o :: l, s, s', h => by
    simp only [runOps] at h
    split at h
    · rename_i s₁ h₁
      exact Nat.le_trans (step_len hc h₁) (runOps_len hc h)
    · cases h

/-- The states of a run, one by one. -/
theorem runStates_spec {C : Ctx} {call : CallF} {ops : Array Oper} : ∀ {l : List Oper} {s : St} {L : List St}, runStates C call ops l s = some L →
    L.length = l.length + 1 ∧ L[0]? = some s ∧ ∀ (i : Nat) (o : Oper), l[i]? = some o → ∃ a b, L[i]? = some a ∧ L[i + 1]? = some b ∧ stepA C call ops o a = some b
  | [], s, L, h => by
    simp only [runStates, Option.some.injEq] at h
    subst h
    exact ⟨rfl, rfl, fun i o hi => by simp at hi⟩
  | o :: l, s, L, h => by
    simp only [runStates] at h
    split at h
    · rename_i s₁ h₁
      simp only [Option.map_eq_some_iff] at h
      obtain ⟨L', hL, rfl⟩ := h
      obtain ⟨h2, h3, h4⟩ := runStates_spec hL
      refine ⟨by simp [h2], rfl, ?_⟩
      intro i o' hi
      cases i with
      | zero =>
        simp only [List.getElem?_cons_zero, Option.some.injEq] at hi
        subst hi
        exact ⟨s, s₁, rfl, by simpa using h3, h₁⟩
      | succ i =>
        obtain ⟨a, b, ha, hb, hs⟩ := h4 i o' (by simpa using hi)
        exact ⟨a, b, by simpa using ha, by simpa using hb, hs⟩
    · cases h

theorem runStates_len {C : Ctx} {call : CallF} (hc : CallLen call) {ops : Array Oper} {l : List Oper} {s : St} {L : List St} (h : runStates C call ops l s = some L) :
    ∀ (i j : Nat) (a b : St), i ≤ j → L[i]? = some a → L[j]? = some b → a.H.length ≤ b.H.length := by
  obtain ⟨h1, h2, h3⟩ := runStates_spec h
  intro i j a b hij ha hb
  induction j generalizing b with
  | zero =>
    obtain rfl : i = 0 := by omega
    rw [ha] at hb; cases hb; exact Nat.le_refl _
  | succ j ih =>
    by_cases hi : i = j + 1
    · subst hi; rw [ha] at hb; cases hb; exact Nat.le_refl _
    · have hjl : j < l.length := by have := (List.getElem?_eq_some_iff.1 hb).1; omega
      obtain ⟨u, v, hu, hv, hs⟩ := h3 j _ (List.getElem?_eq_getElem hjl)
      rw [hb] at hv; cases hv
      exact Nat.le_trans (ih u (by omega) hu) (step_len hc hs)

theorem draw_len {C : Ctx} {call : CallF} (hc : CallLen call) {ops : Array Oper} {s s' : St} (h : drawA C call ops s = some s') : s.H.length ≤ s'.H.length := by
  unfold drawA at h
  split at h
  · split at h
    · rename_i L hL
      split at h
      · exact runStates_len hc hL 0 ops.size s s' (Nat.zero_le _) (runStates_spec hL).2.1 h
      · cases h
    · cases h
  · cases h

theorem iter_len {body : St → Option (AExit × St)} (hb : ∀ s x s', body s = some (x, s') → s.H.length ≤ s'.H.length) : ∀ (k : Nat) (s : St) (x : AExit) (s' : St), iterA body k s = some (x, s') → s.H.length ≤ s'.H.length
  | 0, s, x, s', h => by simp [iterA] at h
  | k + 1, s, x, s', h => by
    simp only [iterA] at h
    split at h
    · rename_i s₁ h₁
      exact Nat.le_trans (hb _ _ _ h₁) (iter_len hb k _ _ _ h)
    · exact hb _ _ _ h

theorem exec_len {C : Ctx} {call : CallF} (hc : CallLen call) (k : Nat) : ∀ (c : Code) (s : St) (x : AExit) (s' : St), exec C call k c s = some (x, s') → s.H.length ≤ s'.H.length := by
  intro c
  induction c with
  | skip => intro s x s' h; simp only [exec, Option.some.injEq, Prod.mk.injEq] at h; rw [h.2]; exact Nat.le_refl _
  | region id ops draw =>
    intro s x s' h
    simp only [exec, Option.map_eq_some_iff] at h
    obtain ⟨r, hr, h⟩ := h
    cases h
    split at hr
    · exact draw_len hc hr
    · exact runOps_len hc hr
  | seq a b iha ihb =>
    intro s x s' h
    simp only [exec] at h
    split at h
    · rename_i s₁ h₁
      exact Nat.le_trans (iha _ _ _ h₁) (ihb _ _ _ h)
    · exact iha _ _ _ h
  | cond c a b iha ihb =>
    intro s x s' h
    simp only [exec] at h
    split at h
    · exact iha _ _ _ h
    · exact ihb _ _ _ h
    · cases h
  | block id c ih =>
    intro s x s' h
    simp only [exec] at h
    split at h
    · rename_i j s₁ h₁
      split at h
      · cases h; exact ih _ _ _ h₁
      · cases h; exact ih _ _ _ h₁
    · exact ih _ _ _ h
  | loop c ih =>
    intro s x s' h
    exact iter_len ih k s x s' h
  | exit id => intro s x s' h; simp only [exec, Option.some.injEq, Prod.mk.injEq] at h; rw [h.2]; exact Nat.le_refl _
  | ret => intro s x s' h; simp only [exec, Option.some.injEq, Prod.mk.injEq] at h; rw [h.2]; exact Nat.le_refl _
  | _ => intro s x s' h; simp [exec] at h

theorem runF_len {C : Ctx} {call : CallF} (hc : CallLen call) {n : Nat} {f : FuncId} {args : List AV} {H : Heap} {fn : Func} {s : St} (h : runF C call n f args H = some (fn, s)) : H.length ≤ s.H.length := by
  unfold runF at h
  split at h
  · split at h
    · split at h
      · cases h
      · split at h
        · rename_i s₁ h₁; cases h; exact exec_len hc n _ _ _ _ h₁
        · rename_i s₁ h₁; cases h; exact exec_len hc n _ _ _ _ h₁
        · cases h
    · cases h
  · cases h

theorem leave_len {dcall : FuncId → List AV → Heap → Option Heap} (hd : ∀ f args H H', dcall f args H = some H' → H.length ≤ H'.length) : ∀ (ds : List (FuncId × List AV)) (H H' : Heap), leaveA dcall ds H = some H' → H.length ≤ H'.length
  | [], H, H', h => by simp only [leaveA, Option.some.injEq] at h; subst h; exact Nat.le_refl _
  | d :: ds, H, H', h => by
    simp only [leaveA] at h
    split at h
    · rename_i H₁ h₁
      exact Nat.le_trans (hd _ _ _ _ h₁) (leave_len hd ds _ _ h)
    · cases h

theorem dcall_len {C : Ctx} {call : CallF} (hc : CallLen call) {n : Nat} {f : FuncId} {args : List AV} {H H' : Heap} (h : dcallA C call n f args H = some H') : H.length ≤ H'.length := by
  unfold dcallA at h
  split at h
  · rename_i fn s hr
    split at h
    · simp only [Option.map_eq_some_iff] at h
      obtain ⟨_, _, rfl⟩ := h
      exact runF_len hc hr
    · cases h
  · cases h

theorem call_len (C : Ctx) : ∀ n, CallLen (callA C n)
  | 0 => fun f args H v H' h => by simp [callA] at h
  | n + 1 => fun f args H v H' h => by
    have ih := call_len C n
    rw [callA] at h
    split at h
    · cases h; exact Nat.le_refl _
    split at h
    · rename_i fn s hr
      simp only [Option.bind_eq_some_iff, Option.map_eq_some_iff] at h
      obtain ⟨H₁, hl, r, _, h⟩ := h
      cases h
      exact Nat.le_trans (runF_len ih hr) (leave_len (fun _ _ _ _ h => dcall_len ih h) _ _ _ hl)
    · cases h

end Go.Va
