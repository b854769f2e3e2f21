/- More rounds tell the same. -/
import Derived.Test.YtkofbgicfmojjaaVaU
set_option linter.unusedSimpArgs false
set_option linter.unusedVariables false
set_option linter.unusedSectionVars false
namespace Go.Va

variable {C : Ctx} {call call' : CallF} {ops : Array Oper}

def CallLe (call call' : CallF) : Prop := ∀ f args H r, call f args H = some r → call' f args H = some r

theorem op_mono (hc : CallLe call call') {o : Oper} {ρ : Env} {H : Heap} {r : AV × Heap} (h : opA C call o ρ H = some r) : opA C call' o ρ H = some r := by
  obtain ⟨dst, op, ty, pos, after, guard⟩ := o
  cases op
  case call c =>
    obtain ⟨callee, args, ts⟩ := c
    cases callee
    case value f =>
      simp only [opA] at h ⊢
      split at h
      · exact hc _ _ _ _ h
      · cases h
    all_goals exact h
  case makeFunc fn a b => cases fn <;> exact h
  case makeMap t r => cases r <;> exact h
  case slice t x l hi mx => cases mx <;> exact h
  all_goals exact h

theorem step_mono (hc : CallLe call call') {o : Oper} {s s' : St} (h : stepA C call ops o s = some s') : stepA C call' ops o s = some s' := by
  unfold stepA at h ⊢
  split at h
  · cases h
  · exact h
  · split at h
    · exact h
    · simp only [Option.map_eq_some_iff] at h ⊢
      obtain ⟨r, hr, h⟩ := h
      exact ⟨r, op_mono hc hr, h⟩

theorem runOps_mono (hc : CallLe call call') : ∀ {l : List Oper} {s s' : St}, runOps C call ops l s = some s' → runOps C call' ops l s = some s'
  | [], s, s', h => h
  | o :: l, s, s', h => by
    simp only [runOps] at h ⊢
    split at h
    · rename_i s₁ h₁; rw [step_mono hc h₁]; exact runOps_mono hc h
    · cases h

theorem runStates_mono (hc : CallLe call call') : ∀ {l : List Oper} {s : St} {L : List St}, runStates C call ops l s = some L → runStates C call' ops l s = some L
  | [], s, L, h => h
  | o :: l, s, L, h => by
    simp only [runStates] at h ⊢
    split at h
    · rename_i s₁ h₁
      rw [step_mono hc h₁]
      simp only [Option.map_eq_some_iff] at h ⊢
      obtain ⟨L', hL, h⟩ := h
      exact ⟨L', runStates_mono hc hL, h⟩
    · cases h

theorem loose_mono (hc : CallLe call call') {L : List St} {p : Nat × Nat} (h : looseOk C call ops L p = true) : looseOk C call' ops L p = true := by
  unfold looseOk at h ⊢
  split at h
  · rename_i o s u h1 h2 h3
    split at h
    · simp only [Option.any_eq_true] at h ⊢
      obtain ⟨a, ha, b, hb, hs⟩ := h
      exact ⟨a, op_mono hc ha, b, op_mono hc hb, hs⟩
    · rfl
  · cases h

theorem draw_mono (hc : CallLe call call') {s s' : St} (h : drawA C call ops s = some s') : drawA C call' ops s = some s' := by
  unfold drawA at h ⊢
  split at h
  · rename_i hok
    rw [if_pos hok]
    split at h
    · rename_i L hL
      rw [runStates_mono hc hL]
      simp only
      split at h
      · rename_i hall
        rw [if_pos]
        · exact h
        · rw [List.all_eq_true] at hall ⊢
          exact fun p hp => loose_mono hc (hall p hp)
      · cases h
    · cases h
  · cases h

theorem iter_mono {body body' : St → Option (AExit × St)} (hb : ∀ s r, body s = some r → body' s = some r) : ∀ {k k' : Nat}, k ≤ k' → ∀ {s : St} {r : AExit × St}, iterA body k s = some r → iterA body' k' s = some r
  | 0, k', _, s, r, h => by simp [iterA] at h
  | k + 1, 0, hk, s, r, h => by omega
  | k + 1, k' + 1, hk, s, r, h => by
    simp only [iterA] at h ⊢
    split at h
    · rename_i s₁ h₁; rw [hb _ _ h₁]; exact iter_mono hb (by omega) h
    · rename_i hn
      obtain ⟨x, s'⟩ := r
      rw [hb _ _ h]
      cases x with
      | normal => exact absurd h (hn s')
      | exit id => rfl
      | ret => rfl

theorem exec_mono (hc : CallLe call call') {k k' : Nat} (hk : k ≤ k') : ∀ (c : Code) {s : St} {r : AExit × St}, exec C call k c s = some r → exec C call' k' c s = some r := by
  intro c
  induction c with
  | region id ops draw =>
    intro s r h
    simp only [exec, Option.map_eq_some_iff] at h ⊢
    obtain ⟨s', hr, h⟩ := h
    refine ⟨s', ?_, h⟩
    split at hr
    · rename_i hd; rw [if_pos hd]; exact draw_mono hc hr
    · rename_i hd; rw [if_neg hd]; exact runOps_mono hc hr
  | seq a b iha ihb =>
    intro s r h
    simp only [exec] at h ⊢
    split at h
    · rename_i s₁ h₁; rw [iha h₁]; exact ihb h
    · rename_i hn
      obtain ⟨x, s'⟩ := r
      rw [iha h]
      cases x with
      | normal => exact absurd h (hn s')
      | exit id => rfl
      | ret => rfl
  | cond c a b iha ihb =>
    intro s r h
    simp only [exec] at h ⊢
    split at h
    · exact iha h
    · exact ihb h
    · cases h
  | block id c ih =>
    intro s r h
    simp only [exec] at h ⊢
    split at h
    · rename_i j s₁ h₁; rw [ih h₁]; exact h
    · rename_i hn
      obtain ⟨x, s'⟩ := r
      rw [ih h]
      cases x with
      | normal => rfl
      | exit j => exact absurd h (hn j s')
      | ret => rfl
  | loop c ih =>
    intro s r h
    simp only [exec] at h ⊢
    exact iter_mono (fun s r h => ih h) hk h
  | skip => intro s r h; exact h
  | exit id => intro s r h; exact h
  | ret => intro s r h; exact h
  | _ => intro s r h; simp [exec] at h

theorem runF_mono (hc : CallLe call call') {n n' : Nat} (hn : n ≤ n') {f : FuncId} {args : List AV} {H : Heap} {r : Func × St} (h : runF C call n f args H = some r) : runF C call' n' f args H = some r := by
  unfold runF at h ⊢
  split at h
  · split at h
    · split at h
      · cases h
      · rename_i hname
        rw [if_neg hname]
        split at h
        · rename_i h₁; rw [exec_mono hc hn _ h₁]; exact h
        · rename_i h₁; rw [exec_mono hc hn _ h₁]; exact h
        · cases h
    · cases h
  · cases h

theorem dcall_mono (hc : CallLe call call') {n n' : Nat} (hn : n ≤ n') {f : FuncId} {args : List AV} {H H' : Heap} (h : dcallA C call n f args H = some H') : dcallA C call' n' f args H = some H' := by
  unfold dcallA at h ⊢
  split at h
  · rename_i h₁; rw [runF_mono hc hn h₁]; exact h
  · cases h

theorem leave_mono {d d' : FuncId → List AV → Heap → Option Heap} (hd : ∀ f args H H', d f args H = some H' → d' f args H = some H') : ∀ {D : List (FuncId × List AV)} {H H' : Heap}, leaveA d D H = some H' → leaveA d' D H = some H'
  | [], H, H', h => h
  | x :: D, H, H', h => by
    simp only [leaveA] at h ⊢
    split at h
    · rename_i h₁; rw [hd _ _ _ _ h₁]; exact leave_mono hd h
    · cases h

theorem call_succ (C : Ctx) : ∀ n, CallLe (callA C n) (callA C (n + 1))
  | 0 => fun f args H r h => by simp [callA] at h
  | n + 1 => fun f args H r h => by
    have ih := call_succ C n
    rw [callA] at h ⊢
    by_cases ht : (C.T.contains f && args.isEmpty) = true
    · rw [if_pos ht] at h ⊢; exact h
    rw [if_neg ht] at h ⊢
    split at h
    · rename_i fn s hr
      rw [runF_mono ih (Nat.le_succ n) hr]
      simp only [Option.bind_eq_some_iff] at h ⊢
      obtain ⟨H', hl, h⟩ := h
      exact ⟨H', leave_mono (fun _ _ _ _ h => dcall_mono ih (Nat.le_succ n) h) hl, h⟩
    · cases h
theorem call_mono (C : Ctx) {n m : Nat} (h : n ≤ m) : CallLe (callA C n) (callA C m) := by
  induction m with
  | zero => obtain rfl : n = 0 := by omega
            exact fun _ _ _ _ h => h
  | succ m ih =>
    by_cases hn : n = m + 1
    · subst hn; exact fun _ _ _ _ h => h
    · exact fun f args H r hr => call_succ C m f args H r (ih (by omega) f args H r hr)

end Go.Va
