/- Part 1 of the proof: L N O Q R T U X Y Z W V LA LB LC LD LW. -/
import Derived.Test.YtokbecghdofohaaVaK0
section
set_option linter.unusedSimpArgs false
set_option linter.unusedVariables false
set_option linter.unusedSectionVars false
namespace Go.Va

def CallLen (call : CallF) : Prop := ∀ f args H v H', call f args H = some (v, H') → H.length ≤ H'.length

theorem append_len {P : Program} {t u : TypeId} {s y r : AV} {H H' : Heap} (h : appendA P t u s y H = some (r, H')) : H.length ≤ H'.length := by
  unfold appendA at h
  split at h
  · split at h
    · split at h
      · split at h
        · split at h <;> cases h <;> simp
        · split at h <;> cases h <;> simp
        · split at h
          · cases h; simp
          · split at h
            · simp only at h
              split at h
              · split at h <;> cases h <;> simp
              · cases h
            · cases h
        · cases h
      · cases h
    · cases h
  · cases h
theorem store_len {P : Program} {t : TypeId} {id off ver : Nat} {v : AV} {H H' : Heap} (h : storeA P t H id off ver v = some H') : H.length ≤ H'.length := by
  unfold storeA at h
  split at h
  · split at h
    · cases h; simp
    · cases h
  · cases h
theorem mapUpdate_len {C : Ctx} {t : TypeId} {m k v : AV} {H H' : Heap} (h : mapUpdateA C t m k v H = some H') : H.length ≤ H'.length := by
  unfold mapUpdateA at h
  split at h
  · split at h
    · split at h
      · split at h
        · cases h; simp
        · cases h; simp
        · cases h
      · cases h
    · cases h
  · cases h
theorem buildSlice_len {P : Program} {t : TypeId} {n : Nat} {ps : List (Nat × AV)} {r : AV} {H H' : Heap} (h : buildSliceA P t n ps H = some (r, H')) : H.length ≤ H'.length := by
  unfold buildSliceA at h
  split at h
  · split at h
    · split at h
      · simp only [Option.map_eq_some_iff] at h
        obtain ⟨cs, _, h⟩ := h
        cases h; simp
      · cases h
    · cases h
  · cases h
theorem makeSlice_len {P : Program} {t : TypeId} {l c r : AV} {H H' : Heap} (h : makeSliceA P t l c H = some (r, H')) : H.length ≤ H'.length := by
  unfold makeSliceA at h
  split at h
  · split at h
    · split at h
      · cases h; simp
      · cases h
    · cases h
  · cases h
theorem clear_len {P : Program} {t : TypeId} {v : AV} {H H' : Heap} (h : clearA P t v H = some H') : H.length ≤ H'.length := by
  unfold clearA at h
  split at h
  · cases h; simp
  · split at h
    · split at h
      · cases h; simp
      · split at h
        · cases h; simp
        · cases h
    · cases h
  · cases h
theorem builtin_len {P : Program} {b : Builtin} {ts : Array TypeId} {args : List AV} {v : AV} {H H' : Heap} (h : builtinA P b ts args H = some (v, H')) : H.length ≤ H'.length := by
  unfold builtinA at h
  split at h
  · simp only [Option.bind_eq_some_iff, Option.map_eq_some_iff] at h
    obtain ⟨t, _, r, _, h⟩ := h
    cases h; simp
  · split at h
    · split at h
      · exact append_len h
      · cases h
    · cases h
  · simp only [Option.map_eq_some_iff] at h
    obtain ⟨r, _, h⟩ := h
    cases h; simp
  · simp only [Option.map_eq_some_iff] at h
    obtain ⟨r, _, h⟩ := h
    cases h; simp
  · simp only [Option.bind_eq_some_iff, Option.map_eq_some_iff] at h
    obtain ⟨t, _, r, hr, h⟩ := h
    cases h
    exact clear_len hr
  · cases h

theorem op_len {C : Ctx} {call : CallF} (hc : CallLen call) {o : Oper} {ρ : Env} {v : AV} {H H' : Heap} (h : opA C call o ρ H = some (v, H')) : H.length ≤ H'.length := by
  unfold opA at h
  split at h
  case h_27 =>
    split at h
    · exact hc _ _ _ _ _ h
    · cases h
  case h_26 => exact builtin_len h
  all_goals first
    | exact buildSlice_len h
    | exact makeSlice_len h
    | (cases h; first | exact Nat.le_refl _ | (simp; done))
    | (cases h; done)
    | (simp only [Option.map_eq_some_iff] at h; obtain ⟨r, hr, h⟩ := h; cases h; first | exact Nat.le_refl _ | exact mapUpdate_len hr | (simp; done))
    | (split at h
       all_goals first
       | (cases h; first | exact Nat.le_refl _ | (simp; done))
       | (cases h; done)
       | (simp only [Option.map_eq_some_iff] at h; obtain ⟨r, hr, h⟩ := h; cases h; first | exact Nat.le_refl _ | exact store_len hr | (simp; done)))

theorem step_len {C : Ctx} {call : CallF} (hc : CallLen call) {ops : Array Oper} {o : Oper} {s s' : St} (h : stepA C call ops o s = some s') : s.H.length ≤ s'.H.length := by
  unfold stepA at h
  split at h
  · cases h
  · cases h; exact Nat.le_refl _
  · split at h
    · cases h; exact Nat.le_refl _
    · simp only [Option.map_eq_some_iff] at h
      obtain ⟨r, hr, h⟩ := h
      cases h
      exact op_len hc (v := r.1) (H' := r.2) hr

theorem runOps_len {C : Ctx} {call : CallF} (hc : CallLen call) {ops : Array Oper} : ∀ {l : List Oper} {s s' : St}, runOps C call ops l s = some s' → s.H.length ≤ s'.H.length
  | [], s, s', h => by simp only [runOps, Option.some.injEq] at h; subst h; exact Nat.le_refl _
  | o :: l, s, s', h => by
    simp only [runOps] at h
    split at h
    · rename_i s₁ h₁
      exact Nat.le_trans (step_len hc h₁) (runOps_len hc h)
    · cases h

/-- The states of a run, one by one. -/
theorem runStates_spec {C : Ctx} {call : CallF} {ops : Array Oper} : ∀ {l : List Oper} {s : St} {L : List St}, runStates C call ops l s = some L →
    L.length = l.length + 1 ∧ L[0]? = some s ∧ ∀ (i : Nat) (o : Oper), l[i]? = some o → ∃ a b, L[i]? = some a ∧ L[i + 1]? = some b ∧ stepA C call ops o a = some b
  | [], s, L, h => by
    simp only [runStates, Option.some.injEq] at h
    subst h
    exact ⟨rfl, rfl, fun i o hi => by simp at hi⟩
  | o :: l, s, L, h => by
    simp only [runStates] at h
    split at h
    · rename_i s₁ h₁
      simp only [Option.map_eq_some_iff] at h
      obtain ⟨L', hL, rfl⟩ := h
      obtain ⟨h2, h3, h4⟩ := runStates_spec hL
      refine ⟨by simp [h2], rfl, ?_⟩
      intro i o' hi
      cases i with
      | zero =>
        simp only [List.getElem?_cons_zero, Option.some.injEq] at hi
        subst hi
        exact ⟨s, s₁, rfl, by simpa using h3, h₁⟩
      | succ i =>
        obtain ⟨a, b, ha, hb, hs⟩ := h4 i o' (by simpa using hi)
        exact ⟨a, b, by simpa using ha, by simpa using hb, hs⟩
    · cases h

theorem runStates_len {C : Ctx} {call : CallF} (hc : CallLen call) {ops : Array Oper} {l : List Oper} {s : St} {L : List St} (h : runStates C call ops l s = some L) :
    ∀ (i j : Nat) (a b : St), i ≤ j → L[i]? = some a → L[j]? = some b → a.H.length ≤ b.H.length := by
  obtain ⟨h1, h2, h3⟩ := runStates_spec h
  intro i j a b hij ha hb
  induction j generalizing b with
  | zero =>
    obtain rfl : i = 0 := by omega
    rw [ha] at hb; cases hb; exact Nat.le_refl _
  | succ j ih =>
    by_cases hi : i = j + 1
    · subst hi; rw [ha] at hb; cases hb; exact Nat.le_refl _
    · have hjl : j < l.length := by have := (List.getElem?_eq_some_iff.1 hb).1; omega
      obtain ⟨u, v, hu, hv, hs⟩ := h3 j _ (List.getElem?_eq_getElem hjl)
      rw [hb] at hv; cases hv
      exact Nat.le_trans (ih u (by omega) hu) (step_len hc hs)

theorem draw_len {C : Ctx} {call : CallF} (hc : CallLen call) {ops : Array Oper} {s s' : St} (h : drawA C call ops s = some s') : s.H.length ≤ s'.H.length := by
  unfold drawA at h
  split at h
  · split at h
    · rename_i L hL
      split at h
      · exact runStates_len hc hL 0 ops.size s s' (Nat.zero_le _) (runStates_spec hL).2.1 h
      · cases h
    · cases h
  · cases h

theorem iter_len {body : St → Option (AExit × St)} (hb : ∀ s x s', body s = some (x, s') → s.H.length ≤ s'.H.length) : ∀ (k : Nat) (s : St) (x : AExit) (s' : St), iterA body k s = some (x, s') → s.H.length ≤ s'.H.length
  | 0, s, x, s', h => by simp [iterA] at h
  | k + 1, s, x, s', h => by
    simp only [iterA] at h
    split at h
    · rename_i s₁ h₁
      exact Nat.le_trans (hb _ _ _ h₁) (iter_len hb k _ _ _ h)
    · exact hb _ _ _ h

theorem exec_len {C : Ctx} {call : CallF} (hc : CallLen call) (k : Nat) : ∀ (c : Code) (s : St) (x : AExit) (s' : St), exec C call k c s = some (x, s') → s.H.length ≤ s'.H.length := by
  intro c
  induction c with
  | skip => intro s x s' h; simp only [exec, Option.some.injEq, Prod.mk.injEq] at h; rw [h.2]; exact Nat.le_refl _
  | region id ops draw =>
    intro s x s' h
    simp only [exec, Option.map_eq_some_iff] at h
    obtain ⟨r, hr, h⟩ := h
    cases h
    split at hr
    · exact draw_len hc hr
    · exact runOps_len hc hr
  | seq a b iha ihb =>
    intro s x s' h
    simp only [exec] at h
    split at h
    · rename_i s₁ h₁
      exact Nat.le_trans (iha _ _ _ h₁) (ihb _ _ _ h)
    · exact iha _ _ _ h
  | cond c a b iha ihb =>
    intro s x s' h
    simp only [exec] at h
    split at h
    · exact iha _ _ _ h
    · exact ihb _ _ _ h
    · cases h
  | block id c ih =>
    intro s x s' h
    simp only [exec] at h
    split at h
    · rename_i j s₁ h₁
      split at h
      · cases h; exact ih _ _ _ h₁
      · cases h; exact ih _ _ _ h₁
    · exact ih _ _ _ h
  | loop c ih =>
    intro s x s' h
    exact iter_len ih k s x s' h
  | exit id => intro s x s' h; simp only [exec, Option.some.injEq, Prod.mk.injEq] at h; rw [h.2]; exact Nat.le_refl _
  | ret => intro s x s' h; simp only [exec, Option.some.injEq, Prod.mk.injEq] at h; rw [h.2]; exact Nat.le_refl _
  | _ => intro s x s' h; simp [exec] at h

theorem runF_len {C : Ctx} {call : CallF} (hc : CallLen call) {n : Nat} {f : FuncId} {args : List AV} {H : Heap} {fn : Func} {s : St} (h : runF C call n f args H = some (fn, s)) : H.length ≤ s.H.length := by
  unfold runF at h
  split at h
  · split at h
    · split at h
      · cases h
      · split at h
        · rename_i s₁ h₁; cases h; exact exec_len hc n _ _ _ _ h₁
        · rename_i s₁ h₁; cases h; exact exec_len hc n _ _ _ _ h₁
        · cases h
    · cases h
  · cases h

theorem leave_len {dcall : FuncId → List AV → Heap → Option Heap} (hd : ∀ f args H H', dcall f args H = some H' → H.length ≤ H'.length) : ∀ (ds : List (FuncId × List AV)) (H H' : Heap), leaveA dcall ds H = some H' → H.length ≤ H'.length
  | [], H, H', h => by simp only [leaveA, Option.some.injEq] at h; subst h; exact Nat.le_refl _
  | d :: ds, H, H', h => by
    simp only [leaveA] at h
    split at h
    · rename_i H₁ h₁
      exact Nat.le_trans (hd _ _ _ _ h₁) (leave_len hd ds _ _ h)
    · cases h

theorem dcall_len {C : Ctx} {call : CallF} (hc : CallLen call) {n : Nat} {f : FuncId} {args : List AV} {H H' : Heap} (h : dcallA C call n f args H = some H') : H.length ≤ H'.length := by
  unfold dcallA at h
  split at h
  · rename_i fn s hr
    split at h
    · simp only [Option.map_eq_some_iff] at h
      obtain ⟨_, _, rfl⟩ := h
      exact runF_len hc hr
    · cases h
  · cases h

theorem call_len (C : Ctx) : ∀ n, CallLen (callA C n)
  | 0 => fun f args H v H' h => by simp [callA] at h
  | n + 1 => fun f args H v H' h => by
    have ih := call_len C n
    rw [callA] at h
    split at h
    · cases h; exact Nat.le_refl _
    split at h
    · rename_i fn s hr
      simp only [Option.bind_eq_some_iff, Option.map_eq_some_iff] at h
      obtain ⟨H₁, hl, r, _, h⟩ := h
      cases h
      exact Nat.le_trans (runF_len ih hr) (leave_len (fun _ _ _ _ h => dcall_len ih h) _ _ _ hl)
    · cases h

end Go.Va
end

section
set_option linter.unusedSimpArgs false
set_option linter.unusedVariables false
set_option linter.unusedSectionVars false
namespace Go.Va

variable {C : Ctx} {M : Plc} {H : Heap} {w : World}

def DefR (M : Plc) (d : FuncId × List AV) (x : Deferred) : Prop :=
  ∃ cap args, x = { target := .fn (.func d.1) cap, args := args } ∧ VRs M d.2 (args ++ cap)
def DsR (M : Plc) : List (FuncId × List AV) → List Deferred → Prop
  | [], [] => True
  | d :: ds, x :: xs => DefR M d x ∧ DsR M ds xs
  | _, _ => False
theorem DsR.mono {M M' : Plc} (h : Le M M') : ∀ {ds : List (FuncId × List AV)} {xs : List Deferred}, DsR M ds xs → DsR M' ds xs
  | [], [], _ => trivial
  | d :: ds, x :: xs, ⟨⟨cap, args, h1, h2⟩, h3⟩ => ⟨⟨cap, args, h1, h2.mono h⟩, DsR.mono h h3⟩

/-- A state of the interpreter stands for an activation and a world. -/
structure SR (M : Plc) (s : St) (a : Act) (w : World) : Prop where
  size : a.tmps.size = s.ρ.length
  env : ∀ t, VR M (s.ρ.getD t .dead) (a.tmps.getD t undef)
  heap : HR M s.H w
  defs : DsR M s.D a.defers

theorem opnd_sound {ρ : Env} {a : Act} (h : ∀ t, VR M (ρ.getD t .dead) (a.tmps.getD t undef)) (x : Operand) : VR M (opnd ρ x) (a.eval x) := by
  cases x with
  | tmp t => exact h t
  | const v => exact .ofV v
  | global g => exact .dead _
  | func f => exact .fn f [] #[] rfl (fun i h => by simp at h)

theorem wanted_sound {ops : Array Oper} {o : Oper} {ρ : Env} {a : Act} {b : Bool} (h : wantedA ops o ρ = some b)
    (hg : ∀ j want d, o.guard = some (j, want) → (ops[j]?).bind (·.dst) = some d → VR M (ρ.getD d .dead) (a.tmps.getD d undef)) : Region.wanted o (yielded ops a.tmps) = b := by
  unfold wantedA at h
  unfold Region.wanted
  cases hgd : o.guard with
  | none => simp [hgd] at h; subst h; rfl
  | some jw =>
    obtain ⟨j, want⟩ := jw
    simp only [hgd] at h
    simp only [yielded]
    cases hd : (ops[j]?).bind (·.dst) with
    | none => simp [hd] at h; subst h; simp
    | some d =>
      simp only [hd] at h
      have hv := hg j want d hgd hd
      simp only [Option.bind_some]
      have hget : a.tmps.getD d undef = (a.tmps[d]?).getD undef := by simp [Array.getD_eq_getD_getElem?]
      rw [hget] at hv
      generalize hρ : ρ.getD d .dead = u at h hv
      cases htm : a.tmps[d]? with
      | none =>
        rw [htm] at hv
        simp only [Option.getD_none, undef] at hv
        cases u <;> first | (cases hv; done) | skip
        · simp at h
        · simp only [Option.some.injEq] at h; subst h; simp
      | some x =>
        rw [htm] at hv
        simp only [Option.getD_some] at hv
        cases hv <;> simp only [Option.some.injEq, reduceCtorEq] at h <;> first
          | (subst h; rfl)
          | (subst h; simp)

theorem getD_set (ρ : Env) (d t : Nat) (v : AV) : (ρ.set d v).getD t .dead = if d = t ∧ d < ρ.length then v else ρ.getD t .dead := by
  simp only [List.getD_eq_getElem?_getD]
  by_cases h : d = t
  · subst h
    by_cases hl : d < ρ.length
    · simp [hl]
    · simp [hl]
  · simp [List.getElem?_set_ne h, h]
theorem tmps_put (a : Act) (d t : Nat) (x : Value) : (a.put (some d) x).tmps.getD t undef = if d = t ∧ d < a.tmps.size then x else a.tmps.getD t undef := by
  simp only [Act.put, Array.getD_eq_getD_getElem?]
  by_cases h : d = t
  · subst h
    by_cases hl : d < a.tmps.size
    · simp [hl]
    · simp [hl]
  · simp [Array.getElem?_setIfInBounds_ne h, h]

theorem putSlot_len (ρ : Env) (dst : Option Tmp) (v : AV) : (putSlot ρ dst v).length = ρ.length := by
  cases dst <;> simp [putSlot]
theorem put_size (a : Act) (dst : Option Tmp) (x : Value) : (a.put dst x).tmps.size = a.tmps.size := by
  cases dst <;> simp [Act.put]
theorem put_defers (a : Act) (dst : Option Tmp) (x : Value) : (a.put dst x).defers = a.defers := by
  cases dst <;> simp [Act.put]

theorem env_put {ρ : Env} {a : Act} (hs : a.tmps.size = ρ.length) (h : ∀ t, VR M (ρ.getD t .dead) (a.tmps.getD t undef)) (dst : Option Tmp) {v : AV} {x : Value} (hv : VR M v x) :
    ∀ t, VR M ((putSlot ρ dst v).getD t .dead) ((a.put dst x).tmps.getD t undef) := by
  intro t
  cases dst with
  | none => exact h t
  | some d =>
    simp only [putSlot]
    rw [getD_set, tmps_put, hs]
    split
    · exact hv
    · exact h t

/-- What one operation asks of the slots. -/
def Needs (M : Plc) (ops : Array Oper) (o : Oper) (ρ : Env) (a : Act) : Prop :=
  (∀ x ∈ o.op.operands, VR M (opnd ρ x) (a.eval x)) ∧
  ∀ j want d, o.guard = some (j, want) → (ops[j]?).bind (·.dst) = some d → VR M (ρ.getD d .dead) (a.tmps.getD d undef)

theorem Needs.of_env {ops : Array Oper} {o : Oper} {ρ : Env} {a : Act} (h : ∀ t, VR M (ρ.getD t .dead) (a.tmps.getD t undef)) : Needs M ops o ρ a :=
  ⟨fun x _ => opnd_sound h x, fun _ _ d _ _ => h d⟩

/-- What a step leaves, slot by slot: the value for its slot, the heap, the world; or a deferred call. -/
theorem step_sound (hC : C.ok) {call : CallF} (hcall : CallOk C call) {ops : Array Oper} {o : Oper} {s s' : St} (h : stepA C call ops o s = some s') {a : Act} (hn : Needs M ops o s.ρ a) (hH : HR M s.H w) (hf : Free M s.H.length s'.H.length)
    {K : Act → World → Prop} {Q : Exit → Act → World → Prop}
    (hk : ∀ v x w' M', s'.ρ = putSlot s.ρ o.dst v → VR M' v x → HR M' s'.H w' → Fr M s.H w M' s'.H w' → s'.D = s.D → K (a.put o.dst x) w')
    (hd : ∀ d x, s'.ρ = putSlot s.ρ o.dst (.tup []) → s'.H = s.H → s'.D = d :: s.D → DefR M d x → K ({ a with defers := x :: a.defers }.put o.dst undef) w) :
    if Region.wanted o (yielded ops a.tmps) then o.wp C.P a w K Q else K (a.put o.dst undef) w := by
  unfold stepA at h
  split at h
  · cases h
  · rename_i hw
    rw [wanted_sound hw hn.2]
    simp only [Bool.false_eq_true, if_false]
    cases h
    exact hk (.tup []) undef w M rfl .undef hH (.refl M _ w) rfl
  · rename_i hw
    rw [wanted_sound hw hn.2]
    simp only [if_true]
    split at h
    · rename_i d hdf
      cases h
      unfold deferA at hdf
      split at hdf
      · rename_i f args ts ho
        split at hdf
        · rename_i g cap hfn
          cases hdf
          have hv := hn.1 f (by simp [ho, Op.operands, Call.operands])
          rw [hfn] at hv
          obtain ⟨xs, he, hcap⟩ := hv.fn_inv
          have hargs := vrs_map args (fun x hx => hn.1 x (by simp [ho, Op.operands, Call.operands, hx]))
          have := hd (g, args.toList.map (opnd s.ρ) ++ cap) { target := .fn (.func g) xs, args := args.map a.eval } rfl rfl rfl ⟨xs, _, rfl, hargs.append hcap⟩
          unfold Oper.wp
          simp only [execOp, ho, resolve, he, Deferred.ofValue, Sem.run_bind, Sem.run_pure, Result.andThen_ok, Array.empty_append]
          exact this
        · cases hdf
      · cases hdf
    · simp only [Option.map_eq_some_iff] at h
      obtain ⟨r, hr, h⟩ := h
      cases h
      obtain ⟨v, H'⟩ := r
      obtain ⟨_, hdo⟩ := op_sound hC hcall hr hH hf hn.1
      refine hdo.wp ?_
      rintro x w' ⟨M', h1, h2, h3⟩
      exact hk v x w' M' rfl h1 h2 h3 rfl

theorem SR.put {s : St} {a : Act} (h : SR M s a w) {M' : Plc} {w' : World} {s' : St} {dst : Option Tmp} {v : AV} {x : Value} (hle : Le M M') (hρ : s'.ρ = putSlot s.ρ dst v) (hv : VR M' v x) (hH : HR M' s'.H w') (hD : s'.D = s.D) :
    SR M' s' (a.put dst x) w' := by
  refine ⟨by rw [put_size, hρ, putSlot_len]; exact h.size, ?_, hH, by rw [hD, put_defers]; exact h.defs.mono hle⟩
  rw [hρ]
  exact env_put h.size (fun t => (h.env t).mono hle) dst hv

/-- Operations one behind the other. -/
theorem runOps_sound (hC : C.ok) {call : CallF} (hcall : CallOk C call) (hlen : CallLen call) {ops : Array Oper} {Q : Exit → Act → World → Prop} : ∀ (n k : Nat) (s s' : St) (M : Plc) (a : Act) (w : World), ops.size = k + n → runOps C call ops (ops.toList.drop k) s = some s' → SR M s a w →
    Free M s.H.length s'.H.length → (∀ M' a' w', SR M' s' a' w' → Fr M s.H w M' s'.H w' → Q .normal a' w') → wpOps C.P ops Q (List.range' k n) a w
  | 0, k, s, s', M, a, w, hn, h, hs, hf, hq => by
    rw [List.drop_eq_nil_of_le (by simp; omega)] at h
    simp only [runOps, Option.some.injEq] at h
    subst h
    exact hq M a w hs (.refl M _ w)
  | n + 1, k, s, s', M, a, w, hn, h, hs, hf, hq => by
    have hk : k < ops.toList.length := by simp; omega
    rw [List.drop_eq_getElem_cons hk] at h
    simp only [runOps] at h
    split at h
    · rename_i s₁ h₁
      have ho : ops[k]? = some ops.toList[k] := by
        rw [Array.getElem?_eq_getElem (by omega)]
        simp
      have l1 := step_len hlen h₁
      have l2 := runOps_len hlen h
      rw [List.range'_succ, wpOps_cons]
      unfold wpOp
      simp only [ho]
      have key := step_sound (Q := Q) hC hcall h₁ (.of_env hs.env) hs.heap (hf.mono (Nat.le_refl _) l2)
        (K := wpOps C.P ops Q (List.range' (k + 1) n))
        (fun v x w' M' hρ hv hH hfr hD => runOps_sound hC hcall hlen n (k + 1) s₁ s' M' _ w' (by omega) h (hs.put hfr.le hρ hv hH hD)
          (fun id u h1 h2 => by rw [hfr.beyond id h1]; exact hf id u (by omega) h2) (fun M₂ a₂ w₂ hs₂ hfr₂ => hq M₂ a₂ w₂ hs₂ (hfr.trans hfr₂)))
        (fun d x hρ hH hD hdef => runOps_sound hC hcall hlen n (k + 1) s₁ s' M _ w (by omega) h
          ⟨by rw [put_size, hρ, putSlot_len]; exact hs.size, by rw [hρ]; exact env_put (a := { a with defers := x :: a.defers }) hs.size hs.env _ .undef, by rw [hH]; exact hs.heap, by rw [hD, put_defers]; exact ⟨hdef, hs.defs⟩⟩
          (by rw [hH]; exact hf) (fun M₂ a₂ w₂ hs₂ hfr₂ => hq M₂ a₂ w₂ hs₂ (by rw [hH] at hfr₂; exact hfr₂)))
      split at key
      · rename_i hw; rw [if_pos hw]; exact .inl key
      · rename_i hw; rw [if_neg hw]; exact key
    · cases h

end Go.Va
end

section
set_option linter.unusedSimpArgs false
set_option linter.unusedVariables false
set_option linter.unusedSectionVars false
namespace Go.Va

def befF (acc : Array Nat) (o : Oper) : Array Nat :=
  acc.push (o.after.foldl (fun s e => if Region.binds .any e then s ||| 2 ^ e.on ||| acc.getD e.on 0 else s) 0)

theorem before_eq (ops : Array Oper) : Region.before ops = ops.toList.foldl befF #[] := by
  unfold Region.before
  rw [← Array.foldl_toList]
  rfl

theorem bef_size : ∀ (l : List Oper) (acc : Array Nat), (l.foldl befF acc).size = acc.size + l.length
  | [], acc => rfl
  | o :: l, acc => by simp only [List.foldl_cons, bef_size l, befF, Array.size_push, List.length_cons]; omega
theorem bef_old : ∀ (l : List Oper) (acc : Array Nat) (k : Nat), k < acc.size → (l.foldl befF acc).getD k 0 = acc.getD k 0
  | [], acc, k, _ => rfl
  | o :: l, acc, k, h => by
    simp only [List.foldl_cons]
    rw [bef_old l _ k (by simp [befF]; omega)]
    simp only [befF, Array.getD_eq_getD_getElem?, Array.getElem?_push]
    rw [if_neg (by omega)]

theorem orFold_bit (acc : Array Nat) (i : Nat) : ∀ (l : List Edge) (s : Nat), ((l.foldl (fun s e => if Region.binds .any e then s ||| 2 ^ e.on ||| acc.getD e.on 0 else s) s).testBit i = true) →
    s.testBit i = true ∨ ∃ e ∈ l, Region.binds .any e = true ∧ (i = e.on ∨ (acc.getD e.on 0).testBit i = true)
  | [], s, h => .inl h
  | e :: l, s, h => by
    simp only [List.foldl_cons] at h
    rcases orFold_bit acc i l _ h with h | ⟨e', he', h⟩
    · split at h
      · rename_i hb
        simp only [Nat.testBit_or, Nat.testBit_two_pow, Bool.or_eq_true, decide_eq_true_eq] at h
        rcases h with (h | h) | h
        · exact .inl h
        · exact .inr ⟨e, by simp, hb, .inl h.symm⟩
        · exact .inr ⟨e, by simp, hb, .inr h⟩
      · exact .inl h
    · exact .inr ⟨e', by simp [he'], h⟩

theorem ahead_edge {ops : Array Oper} {i j : Nat} (h : ahead ops i j = true) : ∃ o e, ops[j]? = some o ∧ e ∈ o.after ∧ Region.binds .any e = true ∧ (i = e.on ∨ (e.on < j ∧ ahead ops i e.on = true)) := by
  unfold ahead at h ⊢
  rw [before_eq] at h ⊢
  by_cases hj : j < ops.toList.length
  · have hsplit : ops.toList = ops.toList.take j ++ ops.toList[j] :: ops.toList.drop (j + 1) := by
      rw [← List.drop_eq_getElem_cons hj, List.take_append_drop]
    have hsz : ((ops.toList.take j).foldl befF #[]).size = j := by rw [bef_size, List.length_take, Nat.min_eq_left (by omega)]; simp
    have hval : (ops.toList.foldl befF #[]).getD j 0 = ops.toList[j].after.foldl (fun s e => if Region.binds .any e then s ||| 2 ^ e.on ||| ((ops.toList.take j).foldl befF #[]).getD e.on 0 else s) 0 := by
      conv => lhs; rw [hsplit]
      rw [List.foldl_append, List.foldl_cons, bef_old _ _ j (by rw [befF, Array.size_push, hsz]; omega)]
      simp only [befF, Array.getD_eq_getD_getElem?, Array.getElem?_push]
      rw [if_pos hsz.symm]
      rfl
    rw [hval, ← Array.foldl_toList] at h
    rcases orFold_bit _ i _ 0 h with h | ⟨e, he, hb, h⟩
    · simp at h
    · refine ⟨ops.toList[j], e, by simp [Array.getElem?_eq_getElem (show j < ops.size by simpa using hj)], by simpa using he, hb, ?_⟩
      rcases h with h | h
      · exact .inl h
      · by_cases hon : e.on < j
        · refine .inr ⟨hon, ?_⟩
          conv at h => rw [← bef_old (ops.toList.drop j) _ e.on (by rw [hsz]; exact hon), ← List.foldl_append, List.take_append_drop]
          exact h
        · simp only [Array.getD_eq_getD_getElem?] at h
          rw [Array.getElem?_eq_none (by rw [hsz]; omega)] at h
          simp at h
  · rw [Array.getD_eq_getD_getElem?, Array.getElem?_eq_none (by rw [bef_size]; simp at hj ⊢; omega)] at h
    simp at h

/-- What the check of a region's order gives. -/
structure Ordered (ops : Array Oper) : Prop where
  edge : ∀ j o e, ops[j]? = some o → e ∈ o.after → Region.binds .any e = true → e.on < j
  pair : ∀ i j x y, i < j → ops[i]? = some x → ops[j]? = some y → ahead ops i j = true ∨ (x.apart ops y = true ∧ ¬ (heavy x = true ∧ heavy y = true ∧ floats y = false))

theorem ordered_of {ops : Array Oper} (h : orderOk ops = true) : Ordered ops := by
  unfold orderOk at h
  rw [Bool.and_eq_true] at h
  obtain ⟨h1, h2⟩ := h
  rw [List.all_eq_true] at h1 h2
  refine ⟨?_, ?_⟩
  · intro j o e hj he hb
    have hlt := (Array.getElem?_eq_some_iff.1 hj).1
    have := h1 j (by simp [hlt])
    simp only [hj, Array.all_eq_true'] at this
    have := this e he
    simpa [hb] using this
  · intro i j x y hij hi hj
    have hlt := (Array.getElem?_eq_some_iff.1 hj).1
    have := h2 j (by simp [hlt])
    rw [List.all_eq_true] at this
    have := this i (by simp [hij])
    simp only [hi, hj, Bool.or_eq_true, Bool.and_eq_true] at this
    rcases this with h | ⟨h, h'⟩
    · exact .inl h
    · refine .inr ⟨h, ?_⟩
      rintro ⟨a, b, c⟩
      simp [a, b, c] at h'

theorem ahead_lt {ops : Array Oper} (ho : Ordered ops) : ∀ (j i : Nat), ahead ops i j = true → i < j := by
  intro j
  induction j using Nat.strongRecOn with
  | _ j ih =>
    intro i h
    obtain ⟨o, e, h1, h2, h3, h4⟩ := ahead_edge h
    have hlt := ho.edge j o e h1 h2 h3
    rcases h4 with rfl | ⟨_, h5⟩
    · exact hlt
    · exact Nat.lt_trans (ih _ hlt i h5) hlt

/-- What is done: closed under what is ahead. -/
def Done (listed : Array Bool) (i : Nat) : Prop := listed.getD i false = true
def Closed (ops : Array Oper) (listed : Array Bool) : Prop := ∀ j o e, Done listed j → ops[j]? = some o → e ∈ o.after → Region.binds .any e = true → Done listed e.on

theorem Closed.ahead {ops : Array Oper} {listed : Array Bool} (hc : Closed ops listed) (ho : Ordered ops) : ∀ (j i : Nat), Done listed j → Va.ahead ops i j = true → Done listed i := by
  intro j
  induction j using Nat.strongRecOn with
  | _ j ih =>
    intro i hd h
    obtain ⟨o, e, h1, h2, h3, h4⟩ := ahead_edge h
    have hlt := ho.edge j o e h1 h2 h3
    have hde := hc j o e hd h1 h2 h3
    rcases h4 with rfl | ⟨_, h5⟩
    · exact hde
    · exact ih _ hlt i hde h5

theorem done_set {listed : Array Bool} {i j : Nat} (hi : i < listed.size) : Done (listed.setIfInBounds i true) j ↔ j = i ∨ Done listed j := by
  unfold Done
  simp only [Array.getD_eq_getD_getElem?]
  by_cases h : i = j
  · subst h; simp [hi]
  · rw [Array.getElem?_setIfInBounds_ne h]
    constructor
    · exact .inr
    · rintro (rfl | h')
      · exact absurd rfl h
      · exact h'

theorem ready_spec {ops : Array Oper} {listed : Array Bool} (hs : listed.size = ops.size) {i : Nat} (h : i ∈ Region.ready .any ops listed) :
    i < ops.size ∧ ¬ Done listed i ∧ ∃ o, ops[i]? = some o ∧ ∀ e ∈ o.after, Region.binds .any e = true → Done listed e.on := by
  unfold Region.ready at h
  simp only [List.mem_filter, List.mem_range, Bool.and_eq_true] at h
  obtain ⟨hi, h1, h2⟩ := h
  refine ⟨hi, ?_, ops[i], Array.getElem?_eq_getElem hi, ?_⟩
  · unfold Done
    simp only [Array.getD_eq_getD_getElem?] at h1 ⊢
    rw [Array.getElem?_eq_getElem (by omega)] at h1 ⊢
    simpa using h1
  · intro e he hb
    rw [Array.getElem?_eq_getElem hi] at h2
    simp only [Option.map_some, Option.getD_some, Array.all_eq_true'] at h2
    have := h2 e he
    simpa [hb, Done] using this

theorem ready_ne {ops : Array Oper} (ho : Ordered ops) {listed : Array Bool} (hs : listed.size = ops.size) (h : ∃ i, i < ops.size ∧ ¬ Done listed i) : Region.ready .any ops listed ≠ [] := by
  obtain ⟨i, hi, hd⟩ := h
  -- the least that is not done
  have : ∃ i, i < ops.size ∧ ¬ Done listed i ∧ ∀ j, j < i → Done listed j := by
    induction i using Nat.strongRecOn with
    | _ i ih =>
      by_cases hall : ∀ j, j < i → Done listed j
      · exact ⟨i, hi, hd, hall⟩
      · have ⟨j, hj⟩ := Classical.not_forall.1 hall
        have ⟨hj1, hj2⟩ := Classical.not_imp.1 hj
        exact ih j hj1 (by omega) hj2
  obtain ⟨i, hi, hd, hall⟩ := this
  intro hnil
  have hm : i ∈ Region.ready .any ops listed := by
    unfold Region.ready
    simp only [List.mem_filter, List.mem_range, Bool.and_eq_true]
    refine ⟨hi, ?_, ?_⟩
    · unfold Done at hd
      simp only [Array.getD_eq_getD_getElem?] at hd ⊢
      rw [Array.getElem?_eq_getElem (by omega)] at hd ⊢
      simpa using hd
    · rw [Array.getElem?_eq_getElem hi]
      simp only [Option.map_some, Option.getD_some, Array.all_eq_true']
      intro e he
      cases hb : Region.binds .any e with
      | false => simp
      | true =>
        have := ho.edge i ops[i] e (Array.getElem?_eq_getElem hi) he hb
        have := hall _ this
        simpa [Done] using this
  rw [hnil] at hm
  cases hm

end Go.Va
end

section
set_option linter.unusedSimpArgs false
set_option linter.unusedVariables false
set_option linter.unusedSectionVars false
namespace Go.Va

variable {C : Ctx} {call : CallF} {ops : Array Oper}

theorem same_eq_aux : (∀ a b, AV.same a b = true → a = b) ∧ (∀ xs ys, AV.sames xs ys = true → xs = ys) := by
  have key : ∀ n, (∀ a b, SizeOf.sizeOf a ≤ n → AV.same a b = true → a = b) ∧ (∀ xs ys, SizeOf.sizeOf xs ≤ n → AV.sames xs ys = true → xs = ys) := by
    intro n
    induction n with
    | zero =>
      constructor
      · intro a b h; cases a <;> simp at h <;> omega
      · intro xs ys h; cases xs <;> simp at h <;> omega
    | succ n ih =>
      constructor
      · intro a b hs h
        cases a <;> cases b <;> simp only [AV.same, Bool.and_eq_true, beq_iff_eq, reduceCtorEq] at h <;> first
          | rfl
          | (simp_all; done)
          | (cases h; done)
          | (rename_i x y; cases x; cases y; simp_all; done)
          | (obtain ⟨h1, h2⟩ := h; rw [h1, ih.2 _ _ (by simp at hs; omega) h2])
          | (rw [ih.2 _ _ (by simp at hs; omega) h])
      · intro xs ys hs h
        cases xs <;> cases ys <;> simp only [AV.sames, Bool.and_eq_true, reduceCtorEq] at h <;> first
          | rfl
          | (cases h; done)
          | (obtain ⟨h1, h2⟩ := h; rw [ih.1 _ _ (by simp at hs; omega) h1, ih.2 _ _ (by simp at hs; omega) h2])
  exact ⟨fun a b => (key _).1 a b (Nat.le_refl _), fun xs ys => (key _).2 xs ys (Nat.le_refl _)⟩
theorem same_eq {a b : AV} (h : a.same b = true) : a = b := same_eq_aux.1 a b h

theorem light_heap {o : Oper} (h : heavy o = false) {ρ : Env} {H H' : Heap} {v : AV} (hr : opA C call o ρ H = some (v, H')) : H' = H := by
  unfold opA at hr
  split at hr
  case h_26 =>
    rename_i b args ts ho
    simp only [heavy, ho] at h
    cases b <;> first | (simp at h; done) | skip
    all_goals
      unfold builtinA at hr
      split at hr
      all_goals first
        | (cases hr; done)
        | (simp_all; done)
        | (simp only [Option.bind_eq_some_iff, Option.map_eq_some_iff] at hr)
        | skip
      all_goals first
        | (obtain ⟨t, _, r, _, hr⟩ := hr; cases hr; rfl)
        | (obtain ⟨r, _, hr⟩ := hr; cases hr; rfl)
        | (simp_all; done)
  case h_27 => simp_all [heavy]
  all_goals first
    | (simp_all [heavy]; done)
    | (cases hr; rfl)
    | (simp only [Option.map_eq_some_iff] at hr; obtain ⟨r, _, hr⟩ := hr; cases hr; rfl)
    | (split at hr
       all_goals first
       | (cases hr; rfl)
       | (cases hr; done)
       | (simp only [Option.map_eq_some_iff] at hr; obtain ⟨r, _, hr⟩ := hr; cases hr; rfl))

theorem light_builtin {b : Builtin} (hb : b = .len ∨ b = .min ∨ b = .max) {P : Program} {ts : Array TypeId} {args : List AV} {H H' : Heap} {v : AV} (hr : builtinA P b ts args H = some (v, H')) (H₂ : Heap) : builtinA P b ts args H₂ = some (v, H₂) := by
  rcases hb with rfl | rfl | rfl
  all_goals
    unfold builtinA at hr ⊢
    split at hr
    all_goals first
      | (cases hr; done)
      | (simp_all; done)
      | (simp only [Option.bind_eq_some_iff, Option.map_eq_some_iff] at hr; obtain ⟨t, ht, r, hr', hr⟩ := hr; cases hr; simp_all; done)
      | (simp only [Option.map_eq_some_iff] at hr; obtain ⟨r, hr', hr⟩ := hr; cases hr; simp_all; done)

theorem light_any {o : Oper} (h : heavy o = false) (h2 : reads o = false) {ρ : Env} {H H' : Heap} {v : AV} (hr : opA C call o ρ H = some (v, H')) (H₂ : Heap) : opA C call o ρ H₂ = some (v, H₂) := by
  obtain ⟨dst, op, ty, pos, after, guard⟩ := o
  cases op
  case call c =>
    obtain ⟨callee, args, ts⟩ := c
    cases callee
    case builtin b =>
      simp only [opA] at hr ⊢
      exact light_builtin (by cases b <;> simp [heavy] at h <;> simp) hr H₂
    all_goals simp [heavy] at h
  case makeFunc fn a b =>
    cases fn <;> simp only [opA] at hr ⊢ <;> first | (cases hr; done) | skip
    split at hr
    · rename_i h0; cases hr; rw [if_pos h0]
    · cases hr
  case makeMap t r => simp [heavy] at h
  case slice t x lo hi mx =>
    cases mx <;> simp only [opA] at hr ⊢ <;> first | (cases hr; done) | skip
    simp only [Option.map_eq_some_iff] at hr ⊢
    obtain ⟨r, hr, h⟩ := hr
    cases h
    exact ⟨_, hr, rfl⟩
  all_goals first
    | (simp [heavy] at h; done)
    | (simp [reads] at h2; done)
    | (simp only [opA] at hr; cases hr; done)
    | (simp only [opA] at hr ⊢; cases hr; rfl)
    | (simp only [opA, Option.map_eq_some_iff] at hr ⊢; obtain ⟨r, hr, h⟩ := hr; cases h; exact ⟨_, hr, rfl⟩)
    | (simp only [opA] at hr ⊢
       split at hr
       all_goals first
       | (cases hr; rfl)
       | (cases hr; done)
       | (simp only [Option.map_eq_some_iff] at hr ⊢; obtain ⟨r, hr, h⟩ := hr; cases h; exact ⟨_, hr, rfl⟩))

/-- What a step comes to where nothing is deferred. -/
theorem step_cases {o : Oper} (hd : defers o = false) {s s' : St} (h : stepA C call ops o s = some s') :
    (wantedA ops o s.ρ = some false ∧ s' = { s with ρ := putSlot s.ρ o.dst (.tup []) }) ∨
    (wantedA ops o s.ρ = some true ∧ ∃ v H', opA C call o s.ρ s.H = some (v, H') ∧ s' = { s with ρ := putSlot s.ρ o.dst v, H := H' }) := by
  unfold stepA at h
  split at h
  · cases h
  · cases h; exact .inl ⟨‹_›, rfl⟩
  · rename_i hw
    have hdn : deferA o s.ρ = none := by
      unfold deferA
      split
      · rename_i ho; simp [defers, ho] at hd
      · rfl
    rw [hdn] at h
    simp only [Option.map_eq_some_iff] at h
    obtain ⟨r, hr, h⟩ := h
    cases h
    exact .inr ⟨hw, r.1, r.2, hr, rfl⟩

/-- A run in the text's order, as a row of states. -/
structure Run (C : Ctx) (call : CallF) (ops : Array Oper) (S : Nat → St) : Prop where
  step : ∀ (i : Nat) (o : Oper), ops[i]? = some o → stepA C call ops o (S i) = some (S (i + 1))
  nodef : ∀ (i : Nat) (o : Oper), ops[i]? = some o → defers o = false

variable {S : Nat → St}

theorem Run.D (hr : Run C call ops S) : ∀ i, i ≤ ops.size → (S i).D = (S 0).D
  | 0, _ => rfl
  | i + 1, h => by
    have ho : ops[i]? = some ops[i] := Array.getElem?_eq_getElem (by omega)
    rw [← hr.D i (by omega)]
    rcases step_cases (hr.nodef i _ ho) (hr.step i _ ho) with ⟨_, e⟩ | ⟨_, v, H', _, e⟩ <;> rw [e]
theorem Run.ρlen (hr : Run C call ops S) : ∀ i, i ≤ ops.size → (S i).ρ.length = (S 0).ρ.length
  | 0, _ => rfl
  | i + 1, h => by
    have ho : ops[i]? = some ops[i] := Array.getElem?_eq_getElem (by omega)
    rw [← hr.ρlen i (by omega)]
    rcases step_cases (hr.nodef i _ ho) (hr.step i _ ho) with ⟨_, e⟩ | ⟨_, v, H', _, e⟩ <;> rw [e] <;> simp [putSlot_len]
theorem Run.Hlen (hc : CallLen call) (hr : Run C call ops S) {i j : Nat} (hij : i ≤ j) (hj : j ≤ ops.size) : (S i).H.length ≤ (S j).H.length := by
  induction j with
  | zero => obtain rfl : i = 0 := by omega
            exact Nat.le_refl _
  | succ j ih =>
    by_cases h : i = j + 1
    · subst h; exact Nat.le_refl _
    · have ho : ops[j]? = some ops[j] := Array.getElem?_eq_getElem (by omega)
      exact Nat.le_trans (ih (by omega) (by omega)) (step_len hc (hr.step j _ ho))
/-- Where nothing heavy stands, the heap is as it was. -/
theorem Run.Hsame (hr : Run C call ops S) {i j : Nat} (hij : i ≤ j) (hj : j ≤ ops.size) (hl : ∀ (k : Nat) (o : Oper), i ≤ k → k < j → ops[k]? = some o → heavy o = false) : (S j).H = (S i).H := by
  induction j with
  | zero => obtain rfl : i = 0 := by omega
            rfl
  | succ j ih =>
    by_cases h : i = j + 1
    · subst h; rfl
    · have ho : ops[j]? = some ops[j] := Array.getElem?_eq_getElem (by omega)
      rw [← ih (by omega) (by omega) (fun k o h1 h2 => hl k o h1 (by omega))]
      have hlt := hl j _ (by omega) (by omega) ho
      rcases step_cases (hr.nodef j _ ho) (hr.step j _ ho) with ⟨_, e⟩ | ⟨_, v, H', hop, e⟩
      · rw [e]
      · rw [e]; exact light_heap hlt hop
/-- Where nothing writes a slot, it is as it was. -/
theorem Run.ρsame (hr : Run C call ops S) {t i j : Nat} (hij : i ≤ j) (hj : j ≤ ops.size) (hl : ∀ (k : Nat) (o : Oper), i ≤ k → k < j → ops[k]? = some o → o.dst ≠ some t) : (S j).ρ.getD t .dead = (S i).ρ.getD t .dead := by
  induction j with
  | zero => obtain rfl : i = 0 := by omega
            rfl
  | succ j ih =>
    by_cases h : i = j + 1
    · subst h; rfl
    · have ho : ops[j]? = some ops[j] := Array.getElem?_eq_getElem (by omega)
      rw [← ih (by omega) (by omega) (fun k o h1 h2 => hl k o h1 (by omega))]
      have hne := hl j _ (by omega) (by omega) ho
      have hput : ∀ v, (putSlot (S j).ρ ops[j].dst v).getD t .dead = (S j).ρ.getD t .dead := by
        intro v
        unfold putSlot
        split
        · rename_i d hd
          rw [getD_set, if_neg]
          rintro ⟨rfl, _⟩
          exact hne hd
        · rfl
      rcases step_cases (hr.nodef j _ ho) (hr.step j _ ho) with ⟨_, e⟩ | ⟨_, v, H', _, e⟩ <;> rw [e] <;> exact hput _

end Go.Va
end

section
set_option linter.unusedSimpArgs false
set_option linter.unusedVariables false
set_option linter.unusedSectionVars false
namespace Go.Va

variable {C : Ctx} {call : CallF} {ops : Array Oper} {S : Nat → St}

/-- A variable that was made ahead of its turn: it lies in a block of its own. -/
def Extra (M : Plc) (H H' : Heap) (w : World) : Prop :=
  ∃ cs e pl arr, H' = H ++ [.cells cs e 0 false] ∧ M H.length cs.length = some pl ∧ (∀ v p, M H.length v = some p → v = cs.length) ∧ pl.ro = false ∧ pl.base = 0 ∧
    w.heap[pl.blk]? = some (.cells arr e (0, 0)) ∧ CellsR M cs cs.length arr 0 ∧ cs.length ≤ arr.size ∧ arr.size = pl.cap * pl.sz

theorem HR.absorb {M : Plc} {H H' : Heap} {w : World} (h : HR M H w) (hx : Extra M H H' w) : HR M H' w := by
  obtain ⟨cs, e, pl, arr, rfl, hp, hu, hro, hb, ha, hc, hl, hs⟩ := hx
  refine ⟨?_, ?_, h.excl, h.inb⟩
  · intro id c e' born ro hid v p hv
    rw [getElem?_snoc] at hid
    split at hid
    · rename_i hi
      subst hi
      cases hid
      obtain rfl := hu v p hv
      rw [hp] at hv; cases hv
      exact ⟨Nat.le_refl _, hro, fun _ => ⟨arr, e, (0, 0), ha, by rw [hb]; simpa using hl, by rw [hb]; exact hc, fun _ => ⟨hb, rfl, hs, by rw [← hs]; exact hl, rfl⟩⟩⟩
    · exact h.cells id c e' born ro hid v p hv
  · intro id es hid
    rw [getElem?_snoc] at hid
    split at hid
    · cases hid
    · exact h.maps id es hid

theorem Extra.keep {M M' : Plc} {H H' K K' : Heap} {w w' : World} (hx : Extra M K K' w) (h : HR M H w) (hf : Fr M H w M' H' w') (hk : H'.length ≤ K.length) : Extra M' K K' w' := by
  obtain ⟨cs, e, pl, arr, rfl, hp, hu, hro, hb, ha, hc, hl, hs⟩ := hx
  have hM : M' K.length = M K.length := hf.beyond _ hk
  refine ⟨cs, e, pl, arr, rfl, by rw [hM]; exact hp, by rw [hM]; exact hu, hro, hb, ?_, ?_, hl, hs⟩
  · rw [hf.block _ (h.inb _ _ _ hp) ?_, ha]
    intro id v p hid hv hr he
    have := (h.excl id v p K.length cs.length pl hv hp (by have := hf.len; omega) he).1
    rw [hr] at this; cases this
  · intro i x hi hx
    obtain ⟨y, hy, hv⟩ := hc i x hi hx
    exact ⟨y, hy, hv.mono hf.le⟩

/-- What has become of the world since the region began. -/
structure BF (M₀ : Plc) (H₀ : Heap) (w₀ : World) (M : Plc) (Hn : Heap) (w : World) : Prop where
  le : Le M₀ M
  beyond : ∀ id, Hn.length ≤ id → M id = M₀ id
  os : w.os = w₀.os
  output : w.output = w₀.output
  tape : w.tape = w₀.tape
  size : w₀.heap.size ≤ w.heap.size
  block : ∀ b, b < w₀.heap.size → (∀ id v pl, id < H₀.length → M₀ id v = some pl → pl.ro = false → pl.blk ≠ b) → w.heap[b]? = w₀.heap[b]?
  new : ∀ id v pl, id < Hn.length → M id v = some pl → pl.ro = false → pl.blk < w₀.heap.size → ∃ v₀ pl₀, id < H₀.length ∧ M₀ id v₀ = some pl₀ ∧ pl₀.ro = false ∧ pl₀.blk = pl.blk

theorem BF.step {M₀ M M' : Plc} {H₀ H H' Hn : Heap} {w₀ w w' : World} (h : BF M₀ H₀ w₀ M Hn w) (hf : Fr M H w M' H' w') (hl : H'.length ≤ Hn.length) : BF M₀ H₀ w₀ M' Hn w' := by
  have hlen := hf.len
  refine ⟨h.le.trans hf.le, fun id hi => (hf.beyond id (by omega)).trans (h.beyond id hi), hf.os.trans h.os, hf.output.trans h.output, hf.tape.trans h.tape, Nat.le_trans h.size hf.size, ?_, ?_⟩
  · intro b hb hn
    have := h.size
    rw [hf.block b (by omega) ?_, h.block b hb hn]
    intro id v pl hi hM hr he
    obtain ⟨v₀, pl₀, hi₀, h₀, hr₀, hb₀⟩ := h.new id v pl (by omega) hM hr (by omega)
    exact hn id v₀ pl₀ hi₀ h₀ hr₀ (by omega)
  · intro id v pl hi hM hr hb
    by_cases h1 : id < H'.length
    · have := h.size
      obtain ⟨v₁, pl₁, hi₁, h₁, hr₁, hb₁⟩ := hf.new id v pl h1 hM hr (by omega)
      obtain ⟨v₀, pl₀, hi₀, h₀, hr₀, hb₀⟩ := h.new id v₁ pl₁ (by omega) h₁ hr₁ (by omega)
      exact ⟨v₀, pl₀, hi₀, h₀, hr₀, by omega⟩
    · rw [hf.beyond id (by omega)] at hM
      exact h.new id v pl hi hM hr hb

/-- The invariant: p is where the first of the heavy operations stands that is not done. -/
structure Inv (M₀ : Plc) (w₀ : World) (ops : Array Oper) (S : Nat → St) (p : Nat) (listed : Array Bool) (M : Plc) (a : Act) (w : World) : Prop where
  size : listed.size = ops.size
  closed : Closed ops listed
  hp : p ≤ ops.size
  below : ∀ (k : Nat) (o : Oper), k < p → ops[k]? = some o → heavy o = true → Done listed k
  atp : p < ops.size → ∃ o, ops[p]? = some o ∧ heavy o = true ∧ ¬ Done listed p
  heap : HR M (S p).H w
  extra : ∀ (k : Nat) (o : Oper), p < k → ops[k]? = some o → heavy o = true → Done listed k → Extra M (S k).H (S (k + 1)).H w
  free : ∀ id v, (S p).H.length ≤ id → id < (S ops.size).H.length → (∀ (k : Nat) (o : Oper), p < k → ops[k]? = some o → heavy o = true → Done listed k → id ≠ (S k).H.length) → M id v = none
  env : ∀ t q, q ≤ ops.size → (∀ (j : Nat) (o : Oper), ops[j]? = some o → o.dst = some t → (Done listed j ↔ j < q)) → VR M ((S q).ρ.getD t .dead) (a.tmps.getD t undef)
  asize : a.tmps.size = (S 0).ρ.length
  defs : DsR M (S 0).D a.defers
  base : BF M₀ (S 0).H w₀ M (S ops.size).H w

variable {M₀ M M' : Plc} {w₀ w w' : World} {p : Nat} {listed : Array Bool} {a : Act}

theorem looks_opnd {o : Oper} {t : Tmp} (h : Operand.tmp t ∈ o.op.operands) : t ∈ o.looksAt ops := by
  unfold Oper.looksAt
  refine List.mem_append_left _ (List.mem_filterMap.2 ⟨.tmp t, by simpa using h, rfl⟩)
theorem looks_guard {o : Oper} {j : Nat} {want : Bool} {d : Tmp} (h : o.guard = some (j, want)) (hd : (ops[j]?).bind (·.dst) = some d) : d ∈ o.looksAt ops := by
  unfold Oper.looksAt
  refine List.mem_append_right _ ?_
  simp [h, hd]

/-- An operation that is ready: what it looks at is as the text's order has it. -/
theorem Inv.slot (h : Inv M₀ w₀ ops S p listed M a w) (ho : Ordered ops) {i : Nat} {o : Oper} (hi : i ∈ Region.ready .any ops listed) (hio : ops[i]? = some o) {t : Tmp} (ht : t ∈ o.looksAt ops) :
    VR M ((S i).ρ.getD t .dead) (a.tmps.getD t undef) := by
  obtain ⟨hlt, hnd, o', ho', hedge⟩ := ready_spec h.size hi
  rw [hio] at ho'; cases ho'
  refine h.env t i (by omega) ?_
  intro j oj hj hd
  constructor
  · intro hdj
    by_cases hji : j < i
    · exact hji
    · exfalso
      have hne : j ≠ i := by rintro rfl; exact hnd hdj
      rcases ho.pair i j o oj (by omega) hio hj with hah | ⟨hap, _⟩
      · exact hnd (h.closed.ahead ho j i hdj hah)
      · exact (Oper.apart_spec hap).2.2 t hd ht
  · intro hji
    rcases ho.pair j i oj o hji hj hio with hah | ⟨hap, _⟩
    · obtain ⟨o₂, e, h1, h2, h3, h4⟩ := ahead_edge hah
      rw [hio] at h1; cases h1
      have hde := hedge e h2 h3
      rcases h4 with rfl | ⟨_, h5⟩
      · exact hde
      · exact h.closed.ahead ho _ j hde h5
    · exact absurd ht ((Oper.apart_spec hap).1 t hd)

theorem Inv.needs (h : Inv M₀ w₀ ops S p listed M a w) (ho : Ordered ops) {i : Nat} {o : Oper} (hi : i ∈ Region.ready .any ops listed) (hio : ops[i]? = some o) : Needs M ops o (S i).ρ a := by
  refine ⟨?_, fun j want d hg hd => h.slot ho hi hio (looks_guard hg hd)⟩
  intro x hx
  cases x with
  | tmp t => exact h.slot ho hi hio (looks_opnd hx)
  | const v => exact .ofV v
  | global g => exact .dead _
  | func f => exact .fn f [] #[] rfl (fun i h => by simp at h)

theorem ready_ahead (hs : listed.size = ops.size) (hc : Closed ops listed) (ho : Ordered ops) {i : Nat} (hi : i ∈ Region.ready .any ops listed) {j : Nat} (hah : ahead ops j i = true) : Done listed j := by
  obtain ⟨hlt, hnd, o', ho', hedge⟩ := ready_spec hs hi
  obtain ⟨o₂, e, h1, h2, h3, h4⟩ := ahead_edge hah
  rw [ho'] at h1; cases h1
  have hde := hedge e h2 h3
  rcases h4 with rfl | ⟨_, h5⟩
  · exact hde
  · exact hc.ahead ho _ j hde h5

theorem closed_set (hs : listed.size = ops.size) (hc : Closed ops listed) {i : Nat} (hi : i ∈ Region.ready .any ops listed) : Closed ops (listed.setIfInBounds i true) := by
  obtain ⟨hlt, hnd, o', ho', hedge⟩ := ready_spec hs hi
  intro j o e hj hjo he hb
  rw [done_set (by omega)] at hj ⊢
  rcases hj with rfl | hj
  · rw [ho'] at hjo; cases hjo
    exact .inr (hedge e he hb)
  · exact .inr (hc j o e hj hjo he hb)

/-- The slots, behind an operation. -/
theorem Inv.env_step (h : Inv M₀ w₀ ops S p listed M a w) (hr : Run C call ops S) (ho : Ordered ops) {i : Nat} {o : Oper} (hi : i ∈ Region.ready .any ops listed) (hio : ops[i]? = some o) (hle : Le M M')
    {v : AV} {x : Value} (hρ : (S (i + 1)).ρ = putSlot (S i).ρ o.dst v) (hv : VR M' v x) :
    ∀ t q, q ≤ ops.size → (∀ (j : Nat) (o : Oper), ops[j]? = some o → o.dst = some t → (Done (listed.setIfInBounds i true) j ↔ j < q)) → VR M' ((S q).ρ.getD t .dead) ((a.put o.dst x).tmps.getD t undef) := by
  obtain ⟨hlt, hnd, o', ho', hedge⟩ := ready_spec h.size hi
  rw [hio] at ho'; cases ho'
  have hls : i < listed.size := by rw [h.size]; exact hlt
  intro t q hq hw
  by_cases hd : o.dst = some t
  · have hiq : i < q := (hw i o hio hd).1 ((done_set hls).2 (.inl rfl))
    have hconst : (S q).ρ.getD t .dead = (S (i + 1)).ρ.getD t .dead := by
      refine hr.ρsame (by omega) hq ?_
      intro k ok hk1 hk2 hko hdk
      have hdone := (hw k ok hko hdk).2 hk2
      rw [done_set hls] at hdone
      rcases hdone with rfl | hdone
      · omega
      · rcases ho.pair i k o ok (by omega) hio hko with hah | ⟨hap, _⟩
        · exact hnd (h.closed.ahead ho k i hdone hah)
        · exact (Oper.apart_spec hap).2.1 t hd hdk
    rw [hconst, hρ, hd]
    simp only [putSlot]
    rw [getD_set, tmps_put, h.asize, ← hr.ρlen i (by omega)]
    by_cases hin : t = t ∧ t < (S i).ρ.length
    · rw [if_pos hin, if_pos hin]; exact hv
    · rw [if_neg hin, if_neg hin]
      -- beyond the frame: nothing is there
      have h1 : (S i).ρ.getD t .dead = .dead := by
        rw [List.getD_eq_getElem?_getD, List.getElem?_eq_none (by simp at hin; exact hin)]; rfl
      rw [h1]; exact .dead _
  · have hold := h.env t q hq (fun j oj hj hdj => by
      have hne : j ≠ i := by rintro rfl; rw [hio] at hj; cases hj; exact hd hdj
      have := hw j oj hj hdj
      rw [done_set hls] at this
      constructor
      · intro hdj'; exact this.1 (.inr hdj')
      · intro hjq; rcases this.2 hjq with h' | h'
        · exact absurd h' hne
        · exact h')
    have hput : (a.put o.dst x).tmps.getD t undef = a.tmps.getD t undef := by
      cases hdst : o.dst with
      | none => rfl
      | some d =>
        rw [tmps_put, if_neg]
        rintro ⟨rfl, _⟩
        exact hd hdst
    rw [hput]
    exact hold.mono hle

/-- Heavy operations done behind p are new variables. -/
theorem Inv.later (h : Inv M₀ w₀ ops S p listed M a w) (ho : Ordered ops) {k : Nat} {o : Oper} (hk : p < k) (hko : ops[k]? = some o) (hh : heavy o = true) (hd : Done listed k ∨ k ∈ Region.ready .any ops listed) : floats o = true := by
  have hkn := (Array.getElem?_eq_some_iff.1 hko).1
  obtain ⟨o', ho', hh', hnd⟩ := h.atp (by omega)
  rcases ho.pair p k o' o hk ho' hko with hah | ⟨_, hn⟩
  · exfalso
    rcases hd with hd | hd
    · exact hnd (h.closed.ahead ho k p hd hah)
    · exact hnd (ready_ahead h.size h.closed ho hd hah)
  · cases hf : floats o with
    | true => rfl
    | false => exact absurd ⟨hh', hh, hf⟩ hn

/-- The next heavy operation that is not done. -/
theorem next_heavy (ops : Array Oper) (listed : Array Bool) : ∀ (n p : Nat), ops.size = p + n → ∃ q, p ≤ q ∧ q ≤ ops.size ∧ (∀ (k : Nat) (o : Oper), p ≤ k → k < q → ops[k]? = some o → heavy o = true → Done listed k) ∧
    (q < ops.size → ∃ o, ops[q]? = some o ∧ heavy o = true ∧ ¬ Done listed q)
  | 0, p, hn => ⟨p, Nat.le_refl _, by omega, fun k o h1 h2 => by omega, fun h => by omega⟩
  | n + 1, p, hn => by
    have hpo : ops[p]? = some ops[p] := Array.getElem?_eq_getElem (by omega)
    by_cases hc : heavy ops[p] = true ∧ ¬ Done listed p
    · exact ⟨p, Nat.le_refl _, by omega, fun k o h1 h2 => by omega, fun _ => ⟨_, hpo, hc⟩⟩
    · obtain ⟨q, h1, h2, h3, h4⟩ := next_heavy ops listed n (p + 1) (by omega)
      refine ⟨q, by omega, h2, ?_, h4⟩
      intro k o hk1 hk2 hko hh
      by_cases hkp : k = p
      · subst hkp
        rw [hpo] at hko; cases hko
        exact Classical.byContradiction fun hnd => hc ⟨hh, hnd⟩
      · exact h3 k o (by omega) hk2 hko hh

theorem absorb_all (hr : Run C call ops S) {q : Nat} : ∀ (n p : Nat), q = p + n → q ≤ ops.size → HR M (S p).H w → (∀ (k : Nat) (o : Oper), p ≤ k → k < q → ops[k]? = some o → heavy o = true → Extra M (S k).H (S (k + 1)).H w) → HR M (S q).H w
  | 0, p, hq, _, h, _ => by obtain rfl : q = p := by omega
                            exact h
  | n + 1, p, hq, hn, h, hx => by
    have hpo : ops[p]? = some ops[p] := Array.getElem?_eq_getElem (by omega)
    refine absorb_all hr n (p + 1) (by omega) hn ?_ (fun k o h1 h2 => hx k o (by omega) h2)
    cases hh : heavy ops[p] with
    | true => exact h.absorb (hx p _ (Nat.le_refl _) (by omega) hpo hh)
    | false =>
      have hl : ∀ (k : Nat) (o : Oper), p ≤ k → k < p + 1 → ops[k]? = some o → heavy o = false := by
        intro k o h1 h2 hko
        obtain rfl : k = p := by omega
        rw [hpo] at hko; cases hko; exact hh
      rw [hr.Hsame (i := p) (j := p + 1) (by omega) (by omega) hl]
      exact h

/-- Behind an operation that leaves the heap where it was. -/
theorem Inv.light (h : Inv M₀ w₀ ops S p listed M a w) (hr : Run C call ops S) (hlen : CallLen call) (ho : Ordered ops) {i : Nat} {o : Oper} (hi : i ∈ Region.ready .any ops listed) (hio : ops[i]? = some o) (hh : heavy o = false)
    {v : AV} {x : Value} (hρ : (S (i + 1)).ρ = putSlot (S i).ρ o.dst v) (hv : VR M' v x) (hH : HR M' (S p).H w') (hf : Fr M (S p).H w M' (S p).H w') :
    Inv M₀ w₀ ops S p (listed.setIfInBounds i true) M' (a.put o.dst x) w' := by
  obtain ⟨hlt, hnd, o', ho', hedge⟩ := ready_spec h.size hi
  have hls : i < listed.size := by rw [h.size]; exact hlt
  have hdone : ∀ (k : Nat) (ok : Oper), ops[k]? = some ok → heavy ok = true → (Done (listed.setIfInBounds i true) k ↔ Done listed k) := by
    intro k ok hko hhk
    rw [done_set hls]
    constructor
    · rintro (rfl | h')
      · rw [hio] at hko; cases hko; rw [hh] at hhk; cases hhk
      · exact h'
    · exact .inr
  refine ⟨by simp [h.size], closed_set h.size h.closed hi, h.hp, ?_, ?_, hH, ?_, ?_, h.env_step hr ho hi hio hf.le hρ hv, by rw [put_size]; exact h.asize, by rw [put_defers]; exact h.defs.mono hf.le, h.base.step hf (hr.Hlen hlen h.hp (Nat.le_refl _))⟩
  · intro k ok hk hko hhk; exact (hdone k ok hko hhk).2 (h.below k ok hk hko hhk)
  · intro hp
    obtain ⟨op, h1, h2, h3⟩ := h.atp hp
    exact ⟨op, h1, h2, fun hd => h3 ((hdone p op h1 h2).1 hd)⟩
  · intro k ok hk hko hhk hd
    have hkn := (Array.getElem?_eq_some_iff.1 hko).1
    exact (h.extra k ok hk hko hhk ((hdone k ok hko hhk).1 hd)).keep h.heap hf (hr.Hlen hlen (by omega) (by omega))
  · intro id u h1 h2 h3
    rw [hf.beyond id h1]
    exact h.free id u h1 h2 (fun k ok hk hko hhk hd => h3 k ok hk hko hhk ((hdone k ok hko hhk).2 hd))

/-- Behind the heavy operation whose turn it is. -/
theorem Inv.heavy (h : Inv M₀ w₀ ops S p listed M a w) (hr : Run C call ops S) (hlen : CallLen call) (ho : Ordered ops) {o : Oper} (hi : p ∈ Region.ready .any ops listed) (hio : ops[p]? = some o)
    {v : AV} {x : Value} (hρ : (S (p + 1)).ρ = putSlot (S p).ρ o.dst v) (hv : VR M' v x) (hH : HR M' (S (p + 1)).H w') (hf : Fr M (S p).H w M' (S (p + 1)).H w') :
    ∃ q, Inv M₀ w₀ ops S q (listed.setIfInBounds p true) M' (a.put o.dst x) w' := by
  obtain ⟨hlt, hnd, o', ho', hedge⟩ := ready_spec h.size hi
  have hls : p < listed.size := by rw [h.size]; exact hlt
  obtain ⟨q, hq1, hq2, hq3, hq4⟩ := next_heavy ops (listed.setIfInBounds p true) (ops.size - (p + 1)) (p + 1) (by omega)
  have hextra : ∀ (k : Nat) (ok : Oper), p < k → ops[k]? = some ok → Va.heavy ok = true → Done (listed.setIfInBounds p true) k → Extra M' (S k).H (S (k + 1)).H w' := by
    intro k ok hk hko hhk hd
    rw [done_set hls] at hd
    have hkn := (Array.getElem?_eq_some_iff.1 hko).1
    rcases hd with rfl | hd
    · omega
    · exact (h.extra k ok hk hko hhk hd).keep h.heap hf (hr.Hlen hlen (by omega) (by omega))
  refine ⟨q, by simp [h.size], closed_set h.size h.closed hi, hq2, ?_, hq4, ?_, ?_, ?_, h.env_step hr ho hi hio hf.le hρ hv, by rw [put_size]; exact h.asize, by rw [put_defers]; exact h.defs.mono hf.le, h.base.step hf (hr.Hlen hlen (by omega) (Nat.le_refl _))⟩
  · intro k ok hk hko hhk
    by_cases hkp : k < p
    · exact (done_set hls).2 (.inr (h.below k ok hkp hko hhk))
    · by_cases hkp' : k = p
      · subst hkp'; exact (done_set hls).2 (.inl rfl)
      · exact hq3 k ok (by omega) hk hko hhk
  · exact absorb_all hr (q - (p + 1)) (p + 1) (by omega) hq2 hH (fun k ok h1 h2 hko hhk => hextra k ok (by omega) hko hhk (hq3 k ok h1 h2 hko hhk))
  · intro k ok hk hko hhk hd
    exact hextra k ok (by omega) hko hhk hd
  · intro id u h1 h2 h3
    have hl1 := hr.Hlen hlen hq1 hq2
    rw [hf.beyond id (by omega)]
    refine h.free id u (by have := hf.len; omega) h2 ?_
    intro k ok hk hko hhk hd heq
    have hkn := (Array.getElem?_eq_some_iff.1 hko).1
    by_cases hkq : q < k
    · exact h3 k ok hkq hko hhk ((done_set hls).2 (.inr hd)) heq
    · -- an operation that stands ahead of q: its variable is among q's objects
      have hx := hextra k ok hk hko hhk ((done_set hls).2 (.inr hd))
      obtain ⟨cs, e, pl, arr, hHk, _⟩ := hx
      have hlk : (S (k + 1)).H.length = (S k).H.length + 1 := by rw [hHk]; simp
      by_cases hkq' : k = q
      · subst hkq'
        obtain ⟨o₂, h5, h6, h7⟩ := hq4 hkn
        exact h7 ((done_set hls).2 (.inr hd))
      · have := hr.Hlen hlen (i := k + 1) (j := q) (by omega) hq2
        omega

end Go.Va
end

section
set_option linter.unusedSimpArgs false
set_option linter.unusedVariables false
set_option linter.unusedSectionVars false
namespace Go.Va

variable {C : Ctx} {call : CallF} {ops : Array Oper} {S : Nat → St}
variable {M₀ M M' : Plc} {w₀ w w' : World} {p : Nat} {listed : Array Bool} {a : Act}

theorem HR.aside {H : Heap} (h : HR M H w) {id v : Nat} (hid : H.length ≤ id) (hn : ∀ u, M id u = none) (pl : Pl) (hb : pl.blk = w.heap.size) (hro : pl.ro = false) (o : Obj) : HR (upd M id v pl) H (w.alloc o) := by
  have hnone : H[id]? = none := List.getElem?_eq_none hid
  refine h.turn id (fun _ _ => rfl) (fun i u hi => upd_other (.inl hi)) (Le.upd (hn v)) (fun i u q _ hq => heap_push w _ _ (h.inb i u q hq)) (by rw [size_push]; omega) ?_ ?_ ?_
  · intro c e born ro hi; rw [hnone] at hi; cases hi
  · intro es hi; rw [hnone] at hi; cases hi
  · intro u q hq
    by_cases hu : u = v
    · subst hu
      rw [upd_same] at hq; cases hq
      exact ⟨hro, by rw [size_push]; omega, fun i v' q' _ hq' => by have := h.inb i v' q' hq'; omega⟩
    · rw [upd_other (.inr hu), hn] at hq; cases hq

/-- Behind a new variable that is made ahead of its turn. -/
theorem Inv.float (h : Inv M₀ w₀ ops S p listed M a w) (hr : Run C call ops S) (hlen : CallLen call) (ho : Ordered ops) {i : Nat} {o : Oper} (hi : i ∈ Region.ready .any ops listed) (hio : ops[i]? = some o) (hhv : Va.heavy o = true) (hip : p < i)
    {t : TypeId} {z : AV} {zx : Value} (hzo : z = ofV zx) (hzd : z.isDead = false) (hρ : (S (i + 1)).ρ = putSlot (S i).ρ o.dst (.ptr (S i).H.length 0 z.cells.length)) (hS : (S (i + 1)).H = (S i).H ++ [.cells z.cells t 0 false]) :
    ∃ M', Inv M₀ w₀ ops S p (listed.setIfInBounds i true) M' (a.put o.dst (.pointer (some ⟨w.heap.size, 0, none⟩))) (w.alloc (.cells zx.cells t)) := by
  obtain ⟨hlt, hnd, o', ho', hedge⟩ := ready_spec h.size hi
  have hls : i < listed.size := by rw [h.size]; exact hlt
  have hX : (S (i + 1)).H.length = (S i).H.length + 1 := by rw [hS]; simp
  have hle1 := hr.Hlen hlen (i := p) (j := i) (by omega) (by omega)
  have hle2 := hr.Hlen hlen (i := i + 1) (j := ops.size) (by omega) (Nat.le_refl _)
  -- the other new variables stand elsewhere
  have hother : ∀ (k : Nat) (ok : Oper), p < k → ops[k]? = some ok → Va.heavy ok = true → Done listed k → (S k).H.length ≠ (S i).H.length := by
    intro k ok hk hko hhk hd heq
    have hkn := (Array.getElem?_eq_some_iff.1 hko).1
    obtain ⟨cs, e, pl, arr, hHk, _⟩ := h.extra k ok hk hko hhk hd
    have hlk : (S (k + 1)).H.length = (S k).H.length + 1 := by rw [hHk]; simp
    have hne : k ≠ i := by rintro rfl; exact hnd hd
    by_cases hki : k < i
    · have := hr.Hlen hlen (i := k + 1) (j := i) (by omega) (by omega); omega
    · have := hr.Hlen hlen (i := i + 1) (j := k) (by omega) (by omega); omega
  have hn : ∀ u, M (S i).H.length u = none := fun u => h.free _ u hle1 (by omega) (fun k ok hk hko hhk hd heq => hother k ok hk hko hhk hd heq.symm)
  have hzc := zero_cells (M := M) hzo hzd
  have hsz := hzc.1
  have hle : Le M (upd M (S i).H.length z.cells.length ⟨w.heap.size, 0, 1, zx.cells.size, false⟩) := Le.upd (hn _)
  refine ⟨upd M (S i).H.length z.cells.length ⟨w.heap.size, 0, 1, zx.cells.size, false⟩, by simp [h.size], closed_set h.size h.closed hi, h.hp, ?_, ?_, h.heap.aside hle1 hn _ rfl rfl _, ?_, ?_, ?_, by rw [put_size]; exact h.asize,
    by rw [put_defers]; exact h.defs.mono hle, ?_⟩
  · intro k ok hk hko hhk; exact (done_set hls).2 (.inr (h.below k ok hk hko hhk))
  · intro hp
    obtain ⟨op, h1, h2, h3⟩ := h.atp hp
    refine ⟨op, h1, h2, fun hd => ?_⟩
    rcases (done_set hls).1 hd with rfl | hd
    · omega
    · exact h3 hd
  · intro k ok hk hko hhk hd
    rcases (done_set hls).1 hd with rfl | hd
    · refine ⟨z.cells, t, ⟨w.heap.size, 0, 1, zx.cells.size, false⟩, zx.cells, hS, upd_same _ _ _ _, ?_, rfl, rfl, heap_top w _, vrs_cells (hzc.mono hle), by omega, by simp⟩
      intro v q hq
      by_cases hv : v = z.cells.length
      · exact hv
      · rw [upd_other (.inr hv), hn] at hq; cases hq
    · obtain ⟨cs, e, pl, arr, hHk, hp1, hp2, hp3, hp4, hp5, hp6, hp7⟩ := h.extra k ok hk hko hhk hd
      have hne := hother k ok hk hko hhk hd
      refine ⟨cs, e, pl, arr, hHk, by rw [upd_other (.inl hne)]; exact hp1, ?_, hp3, hp4, by rw [heap_push w _ _ (h.heap.inb _ _ _ hp1)]; exact hp5, ?_, hp7⟩
      · intro v q hq; rw [upd_other (.inl hne)] at hq; exact hp2 v q hq
      · intro k' x hk' hx
        obtain ⟨y, hy, hv⟩ := hp6 k' x hk' hx
        exact ⟨y, hy, hv.mono hle⟩
  · intro id u h1 h2 h3
    have hne : id ≠ (S i).H.length := h3 i o hip hio hhv ((done_set hls).2 (.inl rfl))
    rw [upd_other (.inl hne)]
    exact h.free id u h1 h2 (fun k ok hk hko hhk hd => h3 k ok hk hko hhk ((done_set hls).2 (.inr hd)))
  · exact h.env_step hr ho hi hio hle hρ (.ptr _ 0 _ ⟨w.heap.size, 0, 1, zx.cells.size, false⟩ upd_ver)
  · have hb := h.base
    refine ⟨hb.le.trans hle, ?_, hb.os, hb.output, hb.tape, by rw [size_push]; exact Nat.le_trans hb.size (Nat.le_succ _), ?_, ?_⟩
    · intro id hid
      rw [← hb.beyond id hid]
      funext u
      exact upd_other (.inl (by omega))
    · intro b hb1 hb2
      rw [heap_push w _ b (by have := hb.size; omega)]
      exact hb.block b hb1 hb2
    · intro id u q hid hq hr' hlt'
      by_cases hu : id = (S i).H.length ∧ u = z.cells.length
      · obtain ⟨rfl, rfl⟩ := hu
        rw [upd_same] at hq; cases hq
        have := hb.size
        simp only at hlt'
        omega
      · have hq' : M id u = some q := by
          by_cases h1 : id = (S i).H.length
          · subst h1; rw [upd_other (.inr (by simpa using hu))] at hq; exact hq
          · rw [upd_other (.inl h1)] at hq; exact hq
        exact hb.new id u q hid hq' hr' hlt'

theorem mem_loose {i k : Nat} {x y : Oper} (hi : ops[i]? = some x) (hk : ops[k]? = some y) (hr : reads x = true) (hh : heavy y = true) (h1 : ahead ops i k = false) (h2 : ahead ops k i = false) : (i, k) ∈ loose ops := by
  unfold loose
  refine List.mem_flatMap.2 ⟨i, by simp [(Array.getElem?_eq_some_iff.1 hi).1], List.mem_filterMap.2 ⟨k, by simp [(Array.getElem?_eq_some_iff.1 hk).1], ?_⟩⟩
  simp [hi, hk, hr, hh, h1, h2]

theorem heavy_or (i p : Nat) (ops : Array Oper) (hp : p ≤ ops.size) : (∀ (k : Nat) (o : Oper), i ≤ k → k < p → ops[k]? = some o → heavy o = false) ∨
    ∃ (k : Nat) (o : Oper), i ≤ k ∧ k < p ∧ ops[k]? = some o ∧ heavy o = true ∧ ∀ (j : Nat) (o' : Oper), k + 1 ≤ j → j < p → ops[j]? = some o' → heavy o' = false := by
  induction p with
  | zero => exact .inl fun k o h1 h2 => by omega
  | succ p ih =>
    have hpo : ops[p]? = some ops[p] := Array.getElem?_eq_getElem (by omega)
    by_cases hip : i ≤ p
    · cases hh : heavy ops[p] with
      | true => exact .inr ⟨p, _, hip, by omega, hpo, hh, fun j o' h1 h2 => by omega⟩
      | false =>
        rcases ih (by omega) with h | ⟨k, o, h1, h2, h3, h4, h5⟩
        · refine .inl fun k o h1 h2 h3 => ?_
          by_cases hkp : k = p
          · subst hkp; rw [hpo] at h3; cases h3; exact hh
          · exact h k o h1 (by omega) h3
        · refine .inr ⟨k, o, h1, by omega, h3, h4, fun j o' h6 h7 h8 => ?_⟩
          by_cases hjp : j = p
          · subst hjp; rw [hpo] at h8; cases h8; exact hh
          · exact h5 j o' h6 (by omega) h8
    · exact .inl fun k o h1 h2 => by omega

/-- What a light operation finds, where the heap stands. -/
theorem Inv.finds (h : Inv M₀ w₀ ops S p listed M a w) (hr : Run C call ops S) (ho : Ordered ops)
    (hloose : ∀ (i k : Nat) (o : Oper) (v : AV) (H' : Heap), (i, k) ∈ loose ops → ops[i]? = some o → wantedA ops o (S i).ρ = some true → opA C call o (S i).ρ (S i).H = some (v, H') →
      ∃ H'', opA C call o (S i).ρ (S (if k < i then k else k + 1)).H = some (v, H''))
    {i : Nat} {o : Oper} (hi : i ∈ Region.ready .any ops listed) (hio : ops[i]? = some o) (hh : Va.heavy o = false) {v : AV} {H' : Heap} (hw : wantedA ops o (S i).ρ = some true) (hop : opA C call o (S i).ρ (S i).H = some (v, H')) :
    opA C call o (S i).ρ (S p).H = some (v, (S p).H) := by
  obtain ⟨hlt, hnd, o', ho', hedge⟩ := ready_spec h.size hi
  cases hrd : reads o with
  | false => exact light_any hh hrd hop _
  | true =>
    have fin : ∀ {H₂ H'' : Heap}, opA C call o (S i).ρ H₂ = some (v, H'') → (S p).H = H₂ → opA C call o (S i).ρ (S p).H = some (v, (S p).H) := by
      intro H₂ H'' h1 h2
      have := light_heap hh h1
      rw [h2, h1, this]
    by_cases hip : i < p
    · rcases heavy_or i p ops h.hp with hn | ⟨k, ok, h1, h2, h3, h4, h5⟩
      · exact fin hop (hr.Hsame (by omega) h.hp hn)
      · have hki : i < k := by
          rcases Nat.lt_or_ge i k with h' | h'
          · exact h'
          · obtain rfl : k = i := by omega
            rw [hio] at h3; cases h3; rw [hh] at h4; cases h4
        have hdk := h.below k ok h2 h3 h4
        have na : ahead ops i k = false := by
          cases hah : ahead ops i k with
          | false => rfl
          | true => exact absurd (h.closed.ahead ho k i hdk hah) hnd
        have nb : ahead ops k i = false := by
          cases hah : ahead ops k i with
          | false => rfl
          | true => have := ahead_lt ho i k hah; omega
        obtain ⟨H'', hfd⟩ := hloose i k o v H' (mem_loose hio h3 hrd h4 na nb) hio hw hop
        rw [if_neg (by omega)] at hfd
        exact fin hfd (hr.Hsame (i := k + 1) (by omega) h.hp h5)
    · have hip' : p < i ∨ p = i := by omega
      rcases hip' with hip' | rfl
      · obtain ⟨op, h1, h2, h3⟩ := h.atp (by omega)
        have na : ahead ops i p = false := by
          cases hah : ahead ops i p with
          | false => rfl
          | true => have := ahead_lt ho p i hah; omega
        have nb : ahead ops p i = false := by
          cases hah : ahead ops p i with
          | false => rfl
          | true => exact absurd (ready_ahead h.size h.closed ho hi hah) h3
        obtain ⟨H'', hfd⟩ := hloose i p o v H' (mem_loose hio h1 hrd h2 na nb) hio hw hop
        rw [if_pos hip'] at hfd
        exact fin hfd rfl
      · obtain ⟨op, h1, h2, _⟩ := h.atp hlt
        rw [hio] at h1; cases h1; rw [hh] at h2; cases h2

/-- Whatever is chosen, the end is the same. -/
theorem any_sound (hC : C.ok) (hcall : CallOk C call) (hlen : CallLen call) (hr : Run C call ops S) (ho : Ordered ops)
    (hloose : ∀ (i k : Nat) (o : Oper) (v : AV) (H' : Heap), (i, k) ∈ loose ops → ops[i]? = some o → wantedA ops o (S i).ρ = some true → opA C call o (S i).ρ (S i).H = some (v, H') →
      ∃ H'', opA C call o (S i).ρ (S (if k < i then k else k + 1)).H = some (v, H''))
    {Q : Exit → Act → World → Prop} (hq : ∀ M a w, HR M (S ops.size).H w → (∀ t, VR M ((S ops.size).ρ.getD t .dead) (a.tmps.getD t undef)) → a.tmps.size = (S 0).ρ.length → DsR M (S 0).D a.defers → BF M₀ (S 0).H w₀ M (S ops.size).H w → Q .normal a w) :
    ∀ (fuel : Nat) (T : List Nat) (listed : Array Bool) (p : Nat) (M : Plc) (a : Act) (w : World), T.Nodup → (∀ i, i ∈ T ↔ i < ops.size ∧ ¬ Done listed i) → T.length = fuel → Inv M₀ w₀ ops S p listed M a w →
      wpAny C.P .any ops Q fuel listed a w := by
  intro fuel
  induction fuel with
  | zero =>
    intro T listed p M a w hnd hT hl hI
    have hTn : T = [] := List.eq_nil_of_length_eq_zero hl
    have hall : ∀ i, i < ops.size → Done listed i := fun i hi => Classical.byContradiction fun hd => by
      have := (hT i).2 ⟨hi, hd⟩
      rw [hTn] at this; cases this
    have hpn : p = ops.size := by
      by_cases hp : p < ops.size
      · obtain ⟨o, _, _, hd⟩ := hI.atp hp
        exact absurd (hall p hp) hd
      · have := hI.hp; omega
    subst hpn
    refine ⟨?_, hq M a w hI.heap ?_ hI.asize hI.defs hI.base⟩
    · apply Classical.byContradiction
      intro hne
      obtain ⟨i, hi⟩ := List.exists_mem_of_ne_nil _ hne
      obtain ⟨h1, h2, _⟩ := ready_spec hI.size hi
      exact h2 (hall i h1)
    · intro t
      exact hI.env t ops.size (Nat.le_refl _) (fun j o hj _ => ⟨fun _ => (Array.getElem?_eq_some_iff.1 hj).1, fun hj' => hall j hj'⟩)
  | succ fuel ih =>
    intro T listed p M a w hnd hT hl hI
    have hTne : T ≠ [] := by intro h; rw [h] at hl; simp at hl
    obtain ⟨i₀, hi₀⟩ := List.exists_mem_of_ne_nil _ hTne
    refine ⟨fun hnil => absurd hnil (ready_ne ho hI.size ⟨i₀, (hT i₀).1 hi₀⟩), ?_⟩
    intro i hi
    obtain ⟨hlt, hndi, o, hio, hedge⟩ := ready_spec hI.size hi
    have hls : i < listed.size := by rw [hI.size]; exact hlt
    -- what is left
    have hT' : ∀ j, j ∈ T.erase i ↔ j < ops.size ∧ ¬ Done (listed.setIfInBounds i true) j := by
      intro j
      rw [hnd.mem_erase_iff, hT j, done_set hls]
      constructor
      · rintro ⟨h1, h2, h3⟩; exact ⟨h2, fun h => by rcases h with h | h; exact h1 h; exact h3 h⟩
      · rintro ⟨h1, h2⟩; exact ⟨fun h => h2 (.inl h), h1, fun h => h2 (.inr h)⟩
    have hl' : (T.erase i).length = fuel := by
      rw [List.length_erase_of_mem ((hT i).2 ⟨hlt, hndi⟩), hl]; rfl
    have next : ∀ {p' : Nat} {M' : Plc} {a' : Act} {w' : World}, Inv M₀ w₀ ops S p' (listed.setIfInBounds i true) M' a' w' → wpAny C.P .any ops Q fuel (listed.setIfInBounds i true) a' w' :=
      fun hI' => ih (T.erase i) _ _ _ _ _ (hnd.erase i) hT' hl' hI'
    have hneeds := hI.needs ho hi hio
    unfold wpOp
    simp only [hio]
    have hle1 := hr.Hlen hlen (i := p) (j := ops.size) hI.hp (Nat.le_refl _)
    rcases step_cases (hr.nodef i o hio) (hr.step i o hio) with ⟨hw, e⟩ | ⟨hw, v, H', hop, e⟩
    · rw [wanted_sound hw hneeds.2]
      simp only [Bool.false_eq_true, if_false]
      have hρ : (S (i + 1)).ρ = putSlot (S i).ρ o.dst (.tup []) := by rw [e]
      have hHe : (S (i + 1)).H = (S i).H := by rw [e]
      cases hh : heavy o with
      | false => exact next (hI.light hr hlen ho hi hio hh hρ .undef hI.heap (.refl M _ w))
      | true =>
        by_cases hip : i = p
        · subst hip
          obtain ⟨q, hI'⟩ := hI.heavy hr hlen ho hi hio hρ .undef (by rw [hHe]; exact hI.heap) (by rw [hHe]; exact .refl M _ w)
          exact next hI'
        · exfalso
          have hip' : p < i := by
            rcases Nat.lt_or_ge i p with h' | h'
            · exact absurd (hI.below i o h' hio hh) hndi
            · omega
          have hfl := hI.later ho hip' hio hh (.inr hi)
          have hg : o.guard = none := by
            unfold floats at hfl
            split at hfl
            · simpa using hfl
            · cases hfl
          simp [wantedA, hg] at hw
    · rw [wanted_sound hw hneeds.2]
      simp only [if_true]
      left
      have hρ : (S (i + 1)).ρ = putSlot (S i).ρ o.dst v := by rw [e]
      have hHe : (S (i + 1)).H = H' := by rw [e]
      cases hh : heavy o with
      | false =>
        have hfd := hI.finds hr ho hloose hi hio hh hw hop
        obtain ⟨_, hdo⟩ := op_sound hC hcall hfd hI.heap (fun id u h1 h2 => by omega) hneeds.1
        refine hdo.wp ?_
        rintro x w' ⟨M', h1, h2, h3⟩
        exact next (hI.light hr hlen ho hi hio hh hρ h1 h2 h3)
      | true =>
        by_cases hip : i = p
        · subst hip
          have hX := hr.Hlen hlen (i := i + 1) (j := ops.size) (by omega) (Nat.le_refl _)
          obtain ⟨_, hdo⟩ := op_sound hC hcall hop hI.heap (fun id u h1 h2 => hI.free id u h1 (by rw [hHe] at hX; omega) (fun k ok hk hko hhk hd heq => by
            have hkn := (Array.getElem?_eq_some_iff.1 hko).1
            have := hr.Hlen hlen (i := i + 1) (j := k) (by omega) (by omega)
            rw [hHe] at this
            omega)) hneeds.1
          refine hdo.wp ?_
          rintro x w' ⟨M', h1, h2, h3⟩
          obtain ⟨q, hI'⟩ := hI.heavy hr hlen ho hi hio hρ h1 (by rw [hHe]; exact h2) (by rw [hHe]; exact h3)
          exact next hI'
        · have hip' : p < i := by
            rcases Nat.lt_or_ge i p with h' | h'
            · exact absurd (hI.below i o h' hio hh) hndi
            · omega
          have hfl := hI.later ho hip' hio hh (.inr hi)
          have hal : ∃ t, o.op = .alloc t := by
            unfold floats at hfl
            split at hfl
            · exact ⟨_, ‹_›⟩
            · cases hfl
          obtain ⟨t, hal⟩ := hal
          have hop' := hop
          simp only [opA, hal, Option.map_eq_some_iff] at hop'
          obtain ⟨z, hz, hop'⟩ := hop'
          cases hop'
          obtain ⟨zx, j, hj, hzj, hzo, hzd, hzb⟩ := zeroA_inv hz
          obtain ⟨M', hI'⟩ := hI.float hr hlen ho hi hio hh hip' hzo hzd hρ hHe
          have hrun : (execOp a.eval o).run C.P w = .ok (.value (.pointer (some ⟨w.heap.size, 0, none⟩))) (w.alloc (.cells zx.cells t)) := by
            simp only [execOp, hal, Instr.alloc, Sem.run_bind, run_zero hzb, Result.andThen_ok, newVar, newRow, run_newObj, Sem.run_pure]
            rfl
          unfold Oper.wp
          rw [hrun]
          exact next hI'

theorem replicate_done (n i : Nat) : ¬ Done (Array.replicate n false) i := by
  unfold Done
  simp only [Array.getD_eq_getD_getElem?, Array.getElem?_replicate]
  split <;> simp

/-- A region whose order is open. -/
theorem draw_sound (hC : C.ok) (hcall : CallOk C call) (hlen : CallLen call) {ops : Array Oper} {s s' : St} (h : drawA C call ops s = some s') {M : Plc} {a : Act} {w : World} (hs : SR M s a w) (hf : Free M s.H.length s'.H.length)
    {Q : Exit → Act → World → Prop} (hq : ∀ M' a' w', SR M' s' a' w' → Fr M s.H w M' s'.H w' → Q .normal a' w') (id : Nat) : (Code.region id ops true).wp C.P Q a w := by
  unfold drawA at h
  split at h
  · rename_i hok
    simp only [Bool.and_eq_true, Bool.not_eq_true'] at hok
    obtain ⟨⟨hok, hnd⟩, hns⟩ := hok
    split at h
    · rename_i L hL
      split at h
      · rename_i hall
        obtain ⟨hl1, hl2, hl3⟩ := runStates_spec hL
        have hlen' : L.length = ops.size + 1 := by simpa using hl1
        let S : Nat → St := fun i => (L[i]?).getD s
        have hSi : ∀ i, i ≤ ops.size → L[i]? = some (S i) := by
          intro i hi
          show L[i]? = some ((L[i]?).getD s)
          rw [List.getElem?_eq_getElem (by omega)]
          rfl
        have hS0 : S 0 = s := by have := hSi 0 (by omega); rw [hl2] at this; exact (Option.some.inj this).symm
        have hSn : S ops.size = s' := by have := hSi ops.size (Nat.le_refl _); rw [h] at this; exact (Option.some.inj this).symm
        have hrun : Run C call ops S := by
          refine ⟨?_, ?_⟩
          · intro i o hio
            have hi := (Array.getElem?_eq_some_iff.1 hio).1
            obtain ⟨b, c, hb, hc, hst⟩ := hl3 i o (by simpa using hio)
            rw [hSi i (by omega)] at hb
            rw [hSi (i + 1) (by omega)] at hc
            rw [Option.some.inj hb, Option.some.inj hc]
            exact hst
          · intro i o hio
            have hi := (Array.getElem?_eq_some_iff.1 hio)
            rw [Array.any_eq_false] at hnd
            have := hnd i hi.1
            rw [hi.2] at this
            simpa using this
        have ho := ordered_of hok
        have hloose : ∀ (i k : Nat) (o : Oper) (v : AV) (H' : Heap), (i, k) ∈ loose ops → ops[i]? = some o → wantedA ops o (S i).ρ = some true → opA C call o (S i).ρ (S i).H = some (v, H') →
            ∃ H'', opA C call o (S i).ρ (S (if k < i then k else k + 1)).H = some (v, H'') := by
          intro i k o v H' hm hio hw hop
          have hi := (Array.getElem?_eq_some_iff.1 hio).1
          have hk : k < ops.size := by
            unfold loose at hm
            obtain ⟨i', hi', hm⟩ := List.mem_flatMap.1 hm
            obtain ⟨k', hk', hm⟩ := List.mem_filterMap.1 hm
            split at hm
            · split at hm
              · cases hm; simpa using hk'
              · cases hm
            · cases hm
          have := (List.all_eq_true.1 hall) (i, k) hm
          unfold looseOk at this
          simp only [hio, hSi i (by omega)] at this
          have hidx : (if k < i then k else k + 1) ≤ ops.size := by split <;> omega
          rw [hSi _ hidx] at this
          simp only [hw, hop, Option.any_some, Option.any_eq_true] at this
          obtain ⟨b, hb, hsm⟩ := this
          have := same_eq hsm
          exact ⟨b.2, by rw [hb, this]⟩
        obtain ⟨q, _, hq2, hq3, hq4⟩ := next_heavy ops (Array.replicate ops.size false) ops.size 0 (by omega)
        have hnh : ∀ (k : Nat) (o : Oper), 0 ≤ k → k < q → ops[k]? = some o → heavy o = false := by
          intro k o h1 h2 h3
          cases hh : heavy o with
          | false => rfl
          | true => exact absurd (hq3 k o h1 h2 h3 hh) (replicate_done _ _)
        have hHq : (S q).H = s.H := by rw [hrun.Hsame (Nat.zero_le q) hq2 hnh, hS0]
        have hinit : Inv M w ops S q (Array.replicate ops.size false) M a { w with drawn := w.drawn + 1 } := by
          refine ⟨by simp, fun j o e hj => absurd hj (replicate_done _ _), hq2, fun k o hk hko hh => hq3 k o (Nat.zero_le _) hk hko hh, hq4, ?_, fun k o _ _ _ hd => absurd hd (replicate_done _ _), ?_, ?_, by rw [hS0]; exact hs.size, by rw [hS0]; exact hs.defs, ?_⟩
          · rw [hHq]; exact hs.heap.drew rfl
          · intro id v h1 h2 _
            rw [hHq] at h1
            rw [hSn] at h2
            exact hf id v h1 h2
          · intro t q' hq' hw
            have hsame : (S q').ρ.getD t .dead = (S 0).ρ.getD t .dead := hrun.ρsame (Nat.zero_le _) hq' (fun k o _ hk hko hd => replicate_done _ _ ((hw k o hko hd).2 hk))
            rw [hsame, hS0]
            exact hs.env t
          · rw [hS0, hSn]
            refine ⟨.refl M, fun _ _ => rfl, rfl, rfl, rfl, Nat.le_refl _, fun _ _ _ => rfl, fun id v pl hid hM hr hb => ⟨v, pl, ?_, hM, hr, rfl⟩⟩
            apply Classical.byContradiction
            intro hn
            rw [hf id v (by omega) hid] at hM
            cases hM
        refine wp_region_any hC.mixed (any_sound (M₀ := M) (w₀ := w) (S := S) hC hcall hlen hrun ho hloose ?_ ops.size (List.range ops.size) _ q M a _ List.nodup_range
          (fun i => by simp [replicate_done]) (by simp) ?_)
        · intro M' a' w' h1 h2 h3 h4 h5
          rw [hS0] at h3 h4 h5
          rw [hSn] at h1 h2 h5
          have hρl := hrun.ρlen ops.size (Nat.le_refl _)
          rw [hS0, hSn] at hρl
          have hD := hrun.D ops.size (Nat.le_refl _)
          rw [hS0, hSn] at hD
          exact hq M' a' w' ⟨by rw [hρl]; exact h3, h2, h1, by rw [hD]; exact h4⟩
            ⟨h5.le, h5.beyond, runStates_len hlen hL 0 ops.size s s' (Nat.zero_le _) hl2 h, h5.os, h5.output, h5.tape, h5.size, h5.block, h5.new⟩
        · exact hinit
      · cases h
    · cases h
  · cases h

end Go.Va
end

section
set_option linter.unusedSimpArgs false
set_option linter.unusedVariables false
set_option linter.unusedSectionVars false
namespace Go.Va

variable {C : Ctx} {call : CallF}

def AExit.up : AExit → Exit
  | .normal => .normal
  | .exit id => .exit id
  | .ret => .ret

/-- What a piece of code leaves. -/
def PostS (M : Plc) (s : St) (w : World) (x : AExit) (s' : St) (e : Exit) (a' : Act) (w' : World) : Prop :=
  e = x.up ∧ ∃ M', SR M' s' a' w' ∧ Fr M s.H w M' s'.H w'

/-- A loop, from its body's begin on. -/
def LoopW (P : Program) (c : Code) (Q : Exit → Act → World → Prop) (a : Act) (w : World) : Prop :=
  ∀ (b : Frame) (k : List Item) (cs : List Frame), ∃ e a' w', Q e a' w' ∧ Arrives P (lone (b.at a (.code c :: .inLoop c :: k)) cs w) b k cs e a' w'

theorem loop_of {P : Program} {c : Code} {Q : Exit → Act → World → Prop} {a : Act} {w : World} (h : LoopW P c Q a w) : (Code.loop c).wp P Q a w := fun b k cs =>
  let ⟨e, a', w', hq, harr⟩ := h b k cs
  ⟨e, a', w', hq, .of_steps (.one step_loop) harr⟩

theorem loop_round {P : Program} {c : Code} {Q : Exit → Act → World → Prop} {a : Act} {w : World} (h : c.wp P (Exit.then (LoopW P c Q) Q) a w) : LoopW P c Q a w := by
  intro b k cs
  obtain ⟨e, a₁, w₁, hq, harr⟩ := h b (.inLoop c :: k) cs
  cases e with
  | normal =>
    obtain ⟨e₂, a₂, w₂, hq₂, harr₂⟩ := hq b k cs
    exact ⟨e₂, a₂, w₂, hq₂, .of_steps (Steps.trans harr (.one step_inLoop)) harr₂⟩
  | exit id => exact ⟨_, a₁, w₁, hq, .pass (x := .inLoop c) rfl (fun _ _ => .inl (by simp)) harr⟩
  | goto l => exact ⟨_, a₁, w₁, hq, .pass (x := .inLoop c) rfl (fun _ _ => .inl (by simp)) harr⟩
  | ret => exact ⟨_, a₁, w₁, hq, .pass (x := .inLoop c) rfl (fun _ _ => .inl (by simp)) harr⟩
  | panic ch => exact ⟨_, a₁, w₁, hq, .pass (x := .inLoop c) rfl (fun _ _ => .inl (by simp)) harr⟩
  | outgrown => exact ⟨_, a₁, w₁, hq, .pass (x := .inLoop c) rfl (fun _ _ => .inl (by simp)) harr⟩

theorem PostS.trans {M M₁ : Plc} {s s₁ s' : St} {w w₁ : World} {x : AExit} {e : Exit} {a' : Act} {w' : World} (hf : Fr M s.H w M₁ s₁.H w₁) (h : PostS M₁ s₁ w₁ x s' e a' w') : PostS M s w x s' e a' w' := by
  obtain ⟨he, M', h1, h2⟩ := h
  exact ⟨he, M', h1, hf.trans h2⟩

theorem Free.later {M M₁ : Plc} {H H₁ Hn : Heap} {w w₁ : World} (hf : Free M H.length Hn.length) (h : Fr M H w M₁ H₁ w₁) : Free M₁ H₁.length Hn.length := fun id v h1 h2 => by
  rw [h.beyond id h1]; exact hf id v (by have := h.len; omega) h2

theorem exec_sound (hC : C.ok) (hcall : CallOk C call) (hlen : CallLen call) (k : Nat) : ∀ (c : Code) (s : St) (x : AExit) (s' : St) (M : Plc) (a : Act) (w : World), exec C call k c s = some (x, s') → SR M s a w → Free M s.H.length s'.H.length →
    c.wp C.P (PostS M s w x s') a w := by
  intro c
  induction c with
  | skip =>
    intro s x s' M a w h hs hf
    simp only [exec, Option.some.injEq, Prod.mk.injEq] at h
    obtain ⟨rfl, rfl⟩ := h
    exact wp_skip ⟨rfl, M, hs, .refl M _ w⟩
  | region id ops draw =>
    intro s x s' M a w h hs hf
    simp only [exec, Option.map_eq_some_iff] at h
    obtain ⟨r, hr, h⟩ := h
    cases h
    cases draw with
    | true =>
      simp only [if_true] at hr
      exact draw_sound hC hcall hlen hr hs hf (fun M' a' w' h1 h2 => ⟨rfl, M', h1, h2⟩) id
    | false =>
      simp only [Bool.false_eq_true, if_false] at hr
      refine wp_region ?_
      rw [List.range_eq_range']
      exact runOps_sound hC hcall hlen ops.size 0 s _ M a w (by omega) (by simpa using hr) hs hf (fun M' a' w' h1 h2 => ⟨rfl, M', h1, h2⟩)
  | seq c₁ c₂ ih1 ih2 =>
    intro s x s' M a w h hs hf
    simp only [exec] at h
    split at h
    · rename_i s₁ h₁
      have l1 := exec_len hlen k _ _ _ _ h
      refine wp_seq (wp_mono (ih1 s .normal s₁ M a w h₁ hs (hf.mono (Nat.le_refl _) l1)) ?_)
      rintro e a₁ w₁ ⟨rfl, M₁, h1, h2⟩
      exact wp_mono (ih2 s₁ x s' M₁ a₁ w₁ h h1 (hf.later h2)) (fun e a' w' h' => h'.trans h2)
    · rename_i hne
      refine wp_seq (wp_mono (ih1 s x s' M a w h hs hf) ?_)
      rintro e a₁ w₁ ⟨rfl, hp⟩
      cases x with
      | normal => exact absurd h (hne s')
      | exit id => exact ⟨rfl, hp⟩
      | ret => exact ⟨rfl, hp⟩
  | cond c c₁ c₂ ih1 ih2 =>
    intro s x s' M a w h hs hf
    simp only [exec] at h
    have hv := opnd_sound hs.env c
    split at h
    · rename_i hc
      rw [hc] at hv
      generalize hce : a.eval c = cv at hv
      cases hv
      exact wp_cond_true hce (ih1 s x s' M a w h hs hf)
    · rename_i hc
      rw [hc] at hv
      generalize hce : a.eval c = cv at hv
      cases hv
      exact wp_cond_false hce (ih2 s x s' M a w h hs hf)
    · cases h
  | block id c ih =>
    intro s x s' M a w h hs hf
    simp only [exec] at h
    split at h
    · rename_i j s₁ h₁
      split at h
      · rename_i hj
        cases h
        refine wp_block (wp_mono (ih s (.exit j) s' M a w h₁ hs hf) ?_)
        rintro e a₁ w₁ ⟨rfl, hp⟩
        simp only [AExit.up, Exit.inBlock, hj, if_true]
        exact ⟨rfl, hp⟩
      · rename_i hj
        cases h
        refine wp_block (wp_mono (ih s (.exit j) s' M a w h₁ hs hf) ?_)
        rintro e a₁ w₁ ⟨rfl, hp⟩
        simp only [AExit.up, Exit.inBlock, hj, if_false]
        exact ⟨rfl, hp⟩
    · rename_i hne
      refine wp_block (wp_mono (ih s x s' M a w h hs hf) ?_)
      rintro e a₁ w₁ ⟨rfl, hp⟩
      cases x with
      | normal => exact ⟨rfl, hp⟩
      | exit j => exact absurd h (hne j s')
      | ret => exact ⟨rfl, hp⟩
  | loop c ih =>
    intro s x s' M a w h hs hf
    simp only [exec] at h
    refine loop_of ?_
    have key : ∀ (n : Nat) (s : St) (M : Plc) (a : Act) (w : World), iterA (exec C call k c) n s = some (x, s') → SR M s a w → Free M s.H.length s'.H.length → LoopW C.P c (PostS M s w x s') a w := by
      intro n
      induction n with
      | zero => intro s M a w h; simp [iterA] at h
      | succ n ihn =>
        intro s M a w h hs hf
        simp only [iterA] at h
        split at h
        · rename_i s₁ h₁
          have l1 := iter_len (exec_len hlen k c) n _ _ _ h
          refine loop_round (wp_mono (ih s .normal s₁ M a w h₁ hs (hf.mono (Nat.le_refl _) l1)) ?_)
          rintro e a₁ w₁ ⟨rfl, M₁, h1, h2⟩
          have := ihn s₁ M₁ a₁ w₁ h h1 (hf.later h2)
          intro b kk cs
          obtain ⟨e, a', w', hq, harr⟩ := this b kk cs
          exact ⟨e, a', w', hq.trans h2, harr⟩
        · rename_i hne
          refine loop_round (wp_mono (ih s x s' M a w h hs hf) ?_)
          rintro e a₁ w₁ ⟨rfl, hp⟩
          cases x with
          | normal => exact absurd h (hne s')
          | exit id => exact ⟨rfl, hp⟩
          | ret => exact ⟨rfl, hp⟩
    exact key k s M a w h hs hf
  | exit id =>
    intro s x s' M a w h hs hf
    simp only [exec, Option.some.injEq, Prod.mk.injEq] at h
    obtain ⟨rfl, rfl⟩ := h
    exact wp_exit ⟨rfl, M, hs, .refl M _ w⟩
  | ret =>
    intro s x s' M a w h hs hf
    simp only [exec, Option.some.injEq, Prod.mk.injEq] at h
    obtain ⟨rfl, rfl⟩ := h
    exact wp_ret ⟨rfl, M, hs, .refl M _ w⟩
  | _ => intro s x s' M a w h; simp [exec] at h

theorem enter_env {M : Plc} {args : List AV} {xs : Array Value} (h : VRs M args xs) (n : Nat) : (xs ++ Array.replicate (n - xs.size) undef).size = (enterA n args).length ∧
    ∀ t, VR M ((enterA n args).getD t .dead) ((xs ++ Array.replicate (n - xs.size) undef).getD t undef) := by
  have hl := h.1
  constructor
  · simp [enterA, hl]
  · intro t
    simp only [enterA, List.getD_eq_getElem?_getD, Array.getD_eq_getD_getElem?]
    by_cases ht : t < args.length
    · rw [List.getElem?_append_left ht, Array.getElem?_append_left (by omega)]
      obtain ⟨y, hy, hv⟩ := h.2 t _ (List.getElem?_eq_getElem ht)
      rw [List.getElem?_eq_getElem ht, hy]
      exact hv
    · rw [List.getElem?_append_right (by omega), Array.getElem?_append_right (by omega), List.getElem?_replicate, Array.getElem?_replicate, hl]
      split
      · exact .undef
      · exact .dead _

/-- One result, in the model. -/
def resF (tmps : Array Value) : ResultVar → Sem Value
  | .tmp t => pure (tmps.getD t undef)
  | .cell a t => do loadVar t (← asAddr (tmps.getD a undef))
theorem results_eq (fn : Func) (tmps : Array Value) : results fn tmps = (fn.results.mapM (resF tmps) >>= fun vs => pure (if h : vs.size = 1 then vs[0] else .tuple vs)) := by
  unfold results
  congr 2

theorem result_sound {P : Program} {M : Plc} {H : Heap} {w : World} (hH : HR M H w) {ρ : Env} {tmps : Array Value} (he : ∀ t, VR M (ρ.getD t .dead) (tmps.getD t undef)) {r : ResultVar} {v : AV} (h : resultA P ρ H r = some v) :
    ∃ x, (resF tmps r).run P w = .ok x w ∧ VR M v x := by
  cases r with
  | tmp t =>
    simp only [resultA, Option.some.injEq] at h
    subst h
    exact ⟨_, rfl, he t⟩
  | cell a t =>
    simp only [resultA] at h
    split at h
    · rename_i id off ver ha
      have hv := he a
      rw [ha] at hv
      obtain ⟨pl, hp, hx⟩ := hv.ptr_inv
      obtain ⟨y, hy, hv'⟩ := load_sound (P := P) hH h hp
      exact ⟨y, by simp [resF, hx, asAddr, hy], hv'⟩
    · cases h

theorem results_sound {P : Program} {M : Plc} {H : Heap} {w : World} (hH : HR M H w) {ρ : Env} {tmps : Array Value} (he : ∀ t, VR M (ρ.getD t .dead) (tmps.getD t undef)) {fn : Func} {v : AV} (h : resultsA P ρ H fn.results.toList = some v) :
    ∃ x, (results fn tmps).run P w = .ok x w ∧ VR M v x := by
  have many : ∀ (rs : List ResultVar) (vs : List AV), rs.mapM (resultA P ρ H) = some vs → ∃ xs : List Value, (rs.mapM (resF tmps)).run P w = .ok xs w ∧
      vs.length = xs.length ∧ ∀ (i : Nat) (u : AV), vs[i]? = some u → ∃ y, xs[i]? = some y ∧ VR M u y := by
    intro rs
    induction rs with
    | nil => intro vs h; simp at h; subst h; exact ⟨[], rfl, rfl, fun i u hi => by simp at hi⟩
    | cons r rs ih =>
      intro vs h
      simp only [List.mapM_cons, Option.bind_eq_bind, Option.bind_eq_some_iff, Option.pure_def, Option.some.injEq] at h
      obtain ⟨v, hv, vs', hvs, rfl⟩ := h
      obtain ⟨x, hx, hvx⟩ := result_sound hH he hv
      obtain ⟨xs, hxs, hl, hvxs⟩ := ih vs' hvs
      refine ⟨x :: xs, ?_, by simp [hl], ?_⟩
      · simp only [List.mapM_cons, Sem.run_bind, hx, Result.andThen_ok, hxs, Sem.run_pure]
      · intro i u hi
        cases i with
        | zero => simp at hi; subst hi; exact ⟨x, rfl, hvx⟩
        | succ i => exact hvxs i u (by simpa using hi)
  have hmap : ∀ xs : List Value, (fn.results.toList.mapM (resF tmps)).run P w = .ok xs w →
      (results fn tmps).run P w = .ok (if h : xs.toArray.size = 1 then xs.toArray[0] else .tuple xs.toArray) w := by
    intro xs hxs
    rw [results_eq, ← Array.toArray_toList (xs := fn.results), List.mapM_toArray]
    simp only [Sem.run_bind, Sem.run_map]
    rw [hxs]
    rfl
  unfold resultsA at h
  split at h
  · rename_i r hrs
    obtain ⟨x, hx, hv⟩ := result_sound hH he h
    refine ⟨x, ?_, hv⟩
    have := hmap [x] (by rw [hrs]; simp only [List.mapM_cons, List.mapM_nil, Sem.run_bind, hx, Result.andThen_ok, Sem.run_pure])
    rw [this]
    rfl
  · rename_i hne
    simp only [Option.map_eq_some_iff] at h
    obtain ⟨vs, hvs, rfl⟩ := h
    obtain ⟨xs, hxs, hl, hv⟩ := many _ vs hvs
    have hlen : xs.length ≠ 1 := by
      intro h1
      have hr1 : fn.results.toList.length = 1 := by
        have : ∀ (rs : List ResultVar) (vs : List AV), rs.mapM (resultA P ρ H) = some vs → vs.length = rs.length := by
          intro rs
          induction rs with
          | nil => intro vs h; simp at h; subst h; rfl
          | cons r rs ih =>
            intro vs h
            simp only [List.mapM_cons, Option.bind_eq_bind, Option.bind_eq_some_iff, Option.pure_def, Option.some.injEq] at h
            obtain ⟨v, _, vs', hvs, rfl⟩ := h
            simp [ih vs' hvs]
        rw [← this _ _ hvs, hl, h1]
      match hfl : fn.results.toList, hr1 with
      | [r], _ => exact hne r hfl
    refine ⟨.tuple xs.toArray, ?_, .tup' ⟨by simpa using hl, fun i u hi => by obtain ⟨y, hy, hvy⟩ := hv i u hi; exact ⟨y, by simpa using hy, hvy⟩⟩⟩
    rw [hmap xs hxs, dif_neg (by simpa using hlen)]

/-- A body that was run to its end. -/
theorem runF_inv {n : Nat} {f : FuncId} {args : List AV} {H : Heap} {fn : Func} {s : St} (h : runF C call n f args H = some (fn, s)) :
    C.P.funcs[f]? = some fn ∧ ∃ c, fn.body = some c ∧ fn.name ≠ "runtime.NumGoroutine" ∧ ∃ x : AExit, (x = .normal ∨ x = .ret) ∧ exec C call n c ⟨enterA fn.ntmps args, H, []⟩ = some (x, s) := by
  unfold runF at h
  split at h
  · rename_i fn' hf
    split at h
    · rename_i c hb
      split at h
      · cases h
      · rename_i hn
        split at h
        · rename_i s₁ h₁; cases h; exact ⟨hf, c, hb, hn, .normal, .inl rfl, h₁⟩
        · rename_i s₁ h₁; cases h; exact ⟨hf, c, hb, hn, .ret, .inr rfl, h₁⟩
        · cases h
    · cases h
  · cases h

theorem enter_SR {M : Plc} {args : List AV} {xs : Array Value} (h : VRs M args xs) {H : Heap} {w : World} (hH : HR M H w) (n : Nat) :
    SR M ⟨enterA n args, H, []⟩ { tmps := xs ++ Array.replicate (n - xs.size) undef, defers := [] } w :=
  ⟨(enter_env h n).1, (enter_env h n).2, hH, trivial⟩

/-- A deferred call. -/
theorem dcall_sound (hC : C.ok) (hcall : CallOk C call) (hlen : CallLen call) {n : Nat} {f : FuncId} {args : List AV} {H H' : Heap} (h : dcallA C call n f args H = some H') {M : Plc} {w : World} {xs : Array Value} (hH : HR M H w) (hf : Free M H.length H'.length)
    (hx : VRs M args xs) (u : FrameMode) : (∃ fn, C.P.funcs[f]? = some fn ∧ fn.body.isSome = true ∧ fn.name ≠ "runtime.NumGoroutine") ∧
      CallsD C.P f xs u w fun e u' w' => u' = u ∧ ∃ x, e = .returned x ∧ ∃ M', HR M' H' w' ∧ Fr M H w M' H' w' := by
  unfold dcallA at h
  split at h
  · rename_i fn s hr
    split at h
    · rename_i hD
      simp only [Option.map_eq_some_iff] at h
      obtain ⟨r, hres, rfl⟩ := h
      obtain ⟨hfn, c, hb, hn, x, hx', hex⟩ := runF_inv hr
      refine ⟨⟨fn, hfn, by simp [hb], hn⟩, ?_⟩
      refine callsD_of_wp hfn hb (wp_mono (exec_sound hC hcall hlen n c _ x s M _ w hex (enter_SR hx hH _) hf) ?_)
      rintro e a' w' ⟨rfl, M', h1, h2⟩
      have hdef : a'.defers = [] := by
        have := h1.defs
        have hD' : s.D = [] := List.isEmpty_iff.1 hD
        rw [hD'] at this
        cases hdd : a'.defers with
        | nil => rfl
        | cons y ys => rw [hdd] at this; exact this.elim
      obtain ⟨v, hv, _⟩ := results_sound (P := C.P) h1.heap h1.env hres
      rcases hx' with rfl | rfl <;> exact ⟨hdef, v, hv, v, rfl, M', h1.heap, h2⟩
    · cases h
  · cases h

/-- The deferred calls, one behind the other; then the results. -/
theorem leave_sound (hC : C.ok) (hcall : CallOk C call) (hlen : CallLen call) {n : Nat} {fn : Func} {tmps : Array Value} {R : Ending → World → Prop} : ∀ (D : List (FuncId × List AV)) (ds : List Deferred) (H H' : Heap) (M : Plc) (w : World),
    leaveA (dcallA C call n) D H = some H' → DsR M D ds → HR M H w → Free M H.length H'.length →
    (∀ M' w', HR M' H' w' → Fr M H w M' H' w' → ∃ v, (results fn tmps).run C.P w' = .ok v w' ∧ R (.returned v) w') → Leaves C.P fn tmps R ds .returning w
  | [], [], H, H', M, w, h, _, hH, hf, hk => by
    simp only [leaveA, Option.some.injEq] at h
    subst h
    exact hk M w hH (.refl M _ w)
  | d :: D, y :: ds, H, H', M, w, h, ⟨⟨cap, args, hy, hv⟩, hds⟩, hH, hf, hk => by
    simp only [leaveA] at h
    split at h
    · rename_i H₁ h₁
      have l1 := leave_len (fun _ _ _ _ h => dcall_len hlen h) _ _ _ h
      have l0 := dcall_len hlen h₁
      obtain ⟨⟨fn', hfn, hbody, hname⟩, hc⟩ := dcall_sound hC hcall hlen h₁ hH (hf.mono (Nat.le_refl _) l1) hv .returning
      subst hy
      refine leaves_cons (by simp) ?_ (hc.mono ?_) (f := d.1) (args := args ++ cap)
      · have hb : fn'.body.isNone = false := by cases hh : fn'.body <;> simp_all
        have hn : (fn'.name == "runtime.NumGoroutine") = false := by simpa using hname
        simp only [invoke, callFunc, Sem.run_bind, run_program, Result.andThen_ok, hfn, hn, hb, Bool.false_eq_true, if_false, Sem.run_pure]
      · rintro e u' w' ⟨rfl, x, rfl, M', h1, h2⟩
        exact leave_sound hC hcall hlen D ds H₁ H' M' w' h (hds.mono h2.le) h1 (hf.later h2) (fun M'' w'' h3 h4 => hk M'' w'' h3 (h2.trans h4))
    · cases h

theorem HR_keep {M : Plc} {H : Heap} {w w' : World} (h : HR M H w) (hs : w.heap.size ≤ w'.heap.size) (hb : ∀ b, b < w.heap.size → w'.heap[b]? = w.heap[b]?) : HR M H w' := by
  refine ⟨?_, ?_, h.excl, fun id v pl hm => Nat.lt_of_lt_of_le (h.inb id v pl hm) hs⟩
  · intro id c e born ro hc v pl hm
    rw [hb _ (h.inb id v pl hm)]
    exact h.cells id c e born ro hc v pl hm
  · intro id es hc v pl hm
    rw [hb _ (h.inb id v pl hm)]
    exact h.maps id es hc v pl hm
theorem Fr_keep {M : Plc} {H : Heap} {w w' : World} (h : HR M H w) (g1 : w'.os = w.os) (g2 : w'.output = w.output) (g3 : w'.tape = w.tape) (hs : w.heap.size ≤ w'.heap.size) (hb : ∀ b, b < w.heap.size → w'.heap[b]? = w.heap[b]?) : Fr M H w M H w' :=
  ⟨.refl M, fun _ _ => rfl, Nat.le_refl _, g1, g2, g3, hs, fun b h1 _ => hb b h1, fun id v pl hi h hr _ => ⟨v, pl, hi, h, hr, rfl⟩⟩

theorem call_sound (hC : C.ok) : ∀ n, CallOk C (callA C n)
  | 0 => fun f args H v H' h => by simp [callA] at h
  | n + 1 => fun f args H v H' h M w xs hH hf hx => by
    have ih := call_sound hC n
    have hlen := call_len C n
    have hl := call_len C (n + 1) f args H v H' h
    rw [callA] at h
    split at h
    · rename_i ht
      cases h
      simp only [Bool.and_eq_true, List.contains_iff_mem, List.isEmpty_iff] at ht
      obtain ⟨ht, rfl⟩ := ht
      obtain ⟨h1, h2⟩ := hC.tru f ht
      refine ⟨hl, h1, ?_⟩
      have hx0 : xs = #[] := by
        have := hx.1
        simpa using this.symm
      subst hx0
      refine (h2 w).mono ?_
      rintro e w' ⟨rfl, g1, g2, g3, g4, g5⟩
      exact ⟨_, rfl, M, .bool _, HR_keep hH g4 g5, Fr_keep hH g1 g2 g3 g4 g5⟩
    split at h
    · rename_i fn s hr
      simp only [Option.bind_eq_some_iff, Option.map_eq_some_iff] at h
      obtain ⟨H₁, hlv, r, hres, h⟩ := h
      cases h
      obtain ⟨hfn, c, hb, hn, x, hx', hex⟩ := runF_inv hr
      refine ⟨hl, ⟨fn, hfn, by simp [hb], hn⟩, ?_⟩
      have l1 := leave_len (fun _ _ _ _ h => dcall_len hlen h) _ _ _ hlv
      refine calls_of_wp_defers hfn hb (wp_mono (exec_sound hC ih hlen n c _ x s M _ w hex (enter_SR hx hH _) (hf.mono (Nat.le_refl _) l1)) ?_)
      rintro e a' w' ⟨rfl, M', h1, h2⟩
      have hleave := leave_sound (fn := fn) (tmps := a'.tmps) (R := fun e w' => ∃ x, e = .returned x ∧ Post M H w v H' x w') hC ih hlen s.D a'.defers s.H H' M' w' hlv h1.defs h1.heap (hf.later h2) (by
        intro M'' w'' h3 h4
        obtain ⟨y, hy, hv⟩ := results_sound (P := C.P) h3 (fun t => (h1.env t).mono h4.le) hres
        exact ⟨y, hy, y, rfl, M'', hv, h3, h2.trans h4⟩)
      rcases hx' with rfl | rfl <;> exact hleave
    · cases h

/-- What is evaluated in the empty heap is so in any world. -/
theorem truth_of (hC : C.ok) {n : Nat} {f : FuncId} (h : (match callA C n f [] [] with | some (.bool b, _) => b | _ => false) = true) : Truth C.P f := by
  split at h
  · rename_i b H' hc
    subst h
    have key := fun w => call_sound hC n f [] [] _ _ hc (fun _ _ => none) w #[] ⟨fun _ _ _ _ _ h => by simp at h, fun _ _ h => by simp at h, fun _ _ _ _ _ _ h => by simp at h, fun _ _ _ h => by simp at h⟩ (fun _ _ _ _ => rfl) ⟨rfl, fun _ _ h => by simp at h⟩
    refine ⟨(key default).2.1, fun w => (key w).2.2.mono ?_⟩
    rintro e w' ⟨x, rfl, M', hv, -, hF⟩
    cases hv
    exact ⟨rfl, hF.os, hF.output, hF.tape, hF.size, fun b hb => hF.block b hb fun id v pl hi => by simp at hi⟩
  · cases h

end Go.Va
end

section
set_option linter.unusedSimpArgs false
set_option linter.unusedVariables false
set_option linter.unusedSectionVars false
namespace Go.Va

variable {C : Ctx} {call call' : CallF} {ops : Array Oper}

def CallLe (call call' : CallF) : Prop := ∀ f args H r, call f args H = some r → call' f args H = some r

theorem op_mono (hc : CallLe call call') {o : Oper} {ρ : Env} {H : Heap} {r : AV × Heap} (h : opA C call o ρ H = some r) : opA C call' o ρ H = some r := by
  obtain ⟨dst, op, ty, pos, after, guard⟩ := o
  cases op
  case call c =>
    obtain ⟨callee, args, ts⟩ := c
    cases callee
    case value f =>
      simp only [opA] at h ⊢
      split at h
      · exact hc _ _ _ _ h
      · cases h
    all_goals exact h
  case makeFunc fn a b => cases fn <;> exact h
  case makeMap t r => cases r <;> exact h
  case slice t x l hi mx => cases mx <;> exact h
  all_goals exact h

theorem step_mono (hc : CallLe call call') {o : Oper} {s s' : St} (h : stepA C call ops o s = some s') : stepA C call' ops o s = some s' := by
  unfold stepA at h ⊢
  split at h
  · cases h
  · exact h
  · split at h
    · exact h
    · simp only [Option.map_eq_some_iff] at h ⊢
      obtain ⟨r, hr, h⟩ := h
      exact ⟨r, op_mono hc hr, h⟩

theorem runOps_mono (hc : CallLe call call') : ∀ {l : List Oper} {s s' : St}, runOps C call ops l s = some s' → runOps C call' ops l s = some s'
  | [], s, s', h => h
  | o :: l, s, s', h => by
    simp only [runOps] at h ⊢
    split at h
    · rename_i s₁ h₁; rw [step_mono hc h₁]; exact runOps_mono hc h
    · cases h

theorem runStates_mono (hc : CallLe call call') : ∀ {l : List Oper} {s : St} {L : List St}, runStates C call ops l s = some L → runStates C call' ops l s = some L
  | [], s, L, h => h
  | o :: l, s, L, h => by
    simp only [runStates] at h ⊢
    split at h
    · rename_i s₁ h₁
      rw [step_mono hc h₁]
      simp only [Option.map_eq_some_iff] at h ⊢
      obtain ⟨L', hL, h⟩ := h
      exact ⟨L', runStates_mono hc hL, h⟩
    · cases h

theorem loose_mono (hc : CallLe call call') {L : List St} {p : Nat × Nat} (h : looseOk C call ops L p = true) : looseOk C call' ops L p = true := by
  unfold looseOk at h ⊢
  split at h
  · rename_i o s u h1 h2 h3
    split at h
    · simp only [Option.any_eq_true] at h ⊢
      obtain ⟨a, ha, b, hb, hs⟩ := h
      exact ⟨a, op_mono hc ha, b, op_mono hc hb, hs⟩
    · rfl
  · cases h

theorem draw_mono (hc : CallLe call call') {s s' : St} (h : drawA C call ops s = some s') : drawA C call' ops s = some s' := by
  unfold drawA at h ⊢
  split at h
  · rename_i hok
    rw [if_pos hok]
    split at h
    · rename_i L hL
      rw [runStates_mono hc hL]
      simp only
      split at h
      · rename_i hall
        rw [if_pos]
        · exact h
        · rw [List.all_eq_true] at hall ⊢
          exact fun p hp => loose_mono hc (hall p hp)
      · cases h
    · cases h
  · cases h

theorem iter_mono {body body' : St → Option (AExit × St)} (hb : ∀ s r, body s = some r → body' s = some r) : ∀ {k k' : Nat}, k ≤ k' → ∀ {s : St} {r : AExit × St}, iterA body k s = some r → iterA body' k' s = some r
  | 0, k', _, s, r, h => by simp [iterA] at h
  | k + 1, 0, hk, s, r, h => by omega
  | k + 1, k' + 1, hk, s, r, h => by
    simp only [iterA] at h ⊢
    split at h
    · rename_i s₁ h₁; rw [hb _ _ h₁]; exact iter_mono hb (by omega) h
    · rename_i hn
      obtain ⟨x, s'⟩ := r
      rw [hb _ _ h]
      cases x with
      | normal => exact absurd h (hn s')
      | exit id => rfl
      | ret => rfl

theorem exec_mono (hc : CallLe call call') {k k' : Nat} (hk : k ≤ k') : ∀ (c : Code) {s : St} {r : AExit × St}, exec C call k c s = some r → exec C call' k' c s = some r := by
  intro c
  induction c with
  | region id ops draw =>
    intro s r h
    simp only [exec, Option.map_eq_some_iff] at h ⊢
    obtain ⟨s', hr, h⟩ := h
    refine ⟨s', ?_, h⟩
    split at hr
    · rename_i hd; rw [if_pos hd]; exact draw_mono hc hr
    · rename_i hd; rw [if_neg hd]; exact runOps_mono hc hr
  | seq a b iha ihb =>
    intro s r h
    simp only [exec] at h ⊢
    split at h
    · rename_i s₁ h₁; rw [iha h₁]; exact ihb h
    · rename_i hn
      obtain ⟨x, s'⟩ := r
      rw [iha h]
      cases x with
      | normal => exact absurd h (hn s')
      | exit id => rfl
      | ret => rfl
  | cond c a b iha ihb =>
    intro s r h
    simp only [exec] at h ⊢
    split at h
    · exact iha h
    · exact ihb h
    · cases h
  | block id c ih =>
    intro s r h
    simp only [exec] at h ⊢
    split at h
    · rename_i j s₁ h₁; rw [ih h₁]; exact h
    · rename_i hn
      obtain ⟨x, s'⟩ := r
      rw [ih h]
      cases x with
      | normal => rfl
      | exit j => exact absurd h (hn j s')
      | ret => rfl
  | loop c ih =>
    intro s r h
    simp only [exec] at h ⊢
    exact iter_mono (fun s r h => ih h) hk h
  | skip => intro s r h; exact h
  | exit id => intro s r h; exact h
  | ret => intro s r h; exact h
  | _ => intro s r h; simp [exec] at h

theorem runF_mono (hc : CallLe call call') {n n' : Nat} (hn : n ≤ n') {f : FuncId} {args : List AV} {H : Heap} {r : Func × St} (h : runF C call n f args H = some r) : runF C call' n' f args H = some r := by
  unfold runF at h ⊢
  split at h
  · split at h
    · split at h
      · cases h
      · rename_i hname
        rw [if_neg hname]
        split at h
        · rename_i h₁; rw [exec_mono hc hn _ h₁]; exact h
        · rename_i h₁; rw [exec_mono hc hn _ h₁]; exact h
        · cases h
    · cases h
  · cases h

theorem dcall_mono (hc : CallLe call call') {n n' : Nat} (hn : n ≤ n') {f : FuncId} {args : List AV} {H H' : Heap} (h : dcallA C call n f args H = some H') : dcallA C call' n' f args H = some H' := by
  unfold dcallA at h ⊢
  split at h
  · rename_i h₁; rw [runF_mono hc hn h₁]; exact h
  · cases h

theorem leave_mono {d d' : FuncId → List AV → Heap → Option Heap} (hd : ∀ f args H H', d f args H = some H' → d' f args H = some H') : ∀ {D : List (FuncId × List AV)} {H H' : Heap}, leaveA d D H = some H' → leaveA d' D H = some H'
  | [], H, H', h => h
  | x :: D, H, H', h => by
    simp only [leaveA] at h ⊢
    split at h
    · rename_i h₁; rw [hd _ _ _ _ h₁]; exact leave_mono hd h
    · cases h

theorem call_succ (C : Ctx) : ∀ n, CallLe (callA C n) (callA C (n + 1))
  | 0 => fun f args H r h => by simp [callA] at h
  | n + 1 => fun f args H r h => by
    have ih := call_succ C n
    rw [callA] at h ⊢
    by_cases ht : (C.T.contains f && args.isEmpty) = true
    · rw [if_pos ht] at h ⊢; exact h
    rw [if_neg ht] at h ⊢
    split at h
    · rename_i fn s hr
      rw [runF_mono ih (Nat.le_succ n) hr]
      simp only [Option.bind_eq_some_iff] at h ⊢
      obtain ⟨H', hl, h⟩ := h
      exact ⟨H', leave_mono (fun _ _ _ _ h => dcall_mono ih (Nat.le_succ n) h) hl, h⟩
    · cases h
theorem call_mono (C : Ctx) {n m : Nat} (h : n ≤ m) : CallLe (callA C n) (callA C m) := by
  induction m with
  | zero => obtain rfl : n = 0 := by omega
            exact fun _ _ _ _ h => h
  | succ m ih =>
    by_cases hn : n = m + 1
    · subst hn; exact fun _ _ _ _ h => h
    · exact fun f args H r hr => call_succ C m f args H r (ih (by omega) f args H r hr)

end Go.Va
end

section
set_option linter.unusedSimpArgs false
set_option linter.unusedVariables false
set_option linter.unusedSectionVars false
namespace Go.Va

/-- An operation without its edges; its guard by the slot. -/
structure SO where
  dst : Option Tmp
  op : Op
  guard : Option (Tmp × Bool)

inductive SC where
  | skip
  | reg (ops : List SO) (ps : List (Nat × Nat))
  | seq (a b : SC)
  | cond (c : Operand) (a b : SC)
  | block (id : Nat) (c : SC)
  | loop (c : SC)
  | exit (id : Nat)
  | ret

def dstOk (N : Nat) : Option Tmp → Bool
  | some d => decide (d < N)
  | none => true

def slimOp (N : Nat) (ops : Array Oper) (o : Oper) : Option SO :=
  if dstOk N o.dst = true then
    match o.guard with
    | none => some ⟨o.dst, o.op, none⟩
    | some (j, want) => ((ops[j]?).bind (·.dst)).map fun d => ⟨o.dst, o.op, some (d, want)⟩
  else none

def slimOps (N : Nat) (ops : Array Oper) : List Oper → Option (List SO)
  | [] => some []
  | o :: l => match slimOp N ops o, slimOps N ops l with
    | some a, some b => some (a :: b)
    | _, _ => none

def slim (N : Nat) : Code → Option SC
  | .skip => some .skip
  | .region _ ops draw =>
    if draw then
      if orderOk ops && !(ops.any defers) && !(ops.any selects) then (slimOps N ops ops.toList).map fun l => .reg l (loose ops) else none
    else (slimOps N ops ops.toList).map fun l => .reg l []
  | .seq a b => match slim N a, slim N b with
    | some a, some b => some (.seq a b)
    | _, _ => none
  | .cond c a b => match slim N a, slim N b with
    | some a, some b => some (.cond c a b)
    | _, _ => none
  | .block id c => (slim N c).map (.block id)
  | .loop c => (slim N c).map .loop
  | .exit id => some (.exit id)
  | .ret => some .ret
  | _ => none

abbrev SE := Nat → AV
abbrev SD := List (FuncId × List AV)

def up (ρ : SE) (d : Nat) (v : AV) : SE := fun t => if t = d then v else ρ t
def upO (ρ : SE) (d : Option Tmp) (v : AV) : SE := match d with
  | some d => up ρ d v
  | none => ρ
def ope (ρ : SE) : Operand → AV
  | .tmp t => ρ t
  | .const v => ofV v
  | .func f => .fn f []
  | .global _ => .dead

/-- One operation that is no call of a function, its operands by what they come to. -/
def opE (C : Ctx) (op : Op) (e : Operand → AV) (H : Heap) : Option (AV × Heap) :=
  match op with
  | .move x => some (e x, H)
  | .assign x => some (e x, H)
  | .pick c a b => match e c with
    | .bool t => some (if t then e a else e b, H)
    | _ => none
  | .alloc t => (zeroA C.P t).map fun z => (.ptr H.length 0 z.cells.length, H ++ [.cells z.cells t 0 false])
  | .box t x => match e x with
    | .dead => none
    | v => some (.ptr H.length 0 v.cells.length, H ++ [.cells v.cells t 0 false])
  | .build t parts => (buildA C.P t (parts.toList.map fun p => (p.1, e p.2))).map (·, H)
  | .buildSlice t len parts => buildSliceA C.P t len (parts.toList.map fun p => (p.1, e p.2)) H
  | .insert t m k v => (mapUpdateA C t (e m) (e k) (e v) H).map (.tup [], ·)
  | .load t a => match e a with
    | .ptr id off ver => (loadA C.P t H id off ver).map (·, H)
    | _ => none
  | .store t a x => match e a with
    | .ptr id off ver => (storeA C.P t H id off ver (e x)).map (.tup [], ·)
    | _ => none
  | .nilCheck x => match e x with
    | .ptr id off ver => some (.ptr id off ver, H)
    | .fn f c => some (.fn f c, H)
    | _ => none
  | .binOp op t x y _ => (binA C op t (e x) (e y)).map (·, H)
  | .unOp op _ x => (unA op (e x)).map (·, H)
  | .convert s d x => (convA C.P s d (e x)).map (·, H)
  | .makeFunc (.func f) first captured => if first.size = 0 then some (.fn f (captured.toList.map e), H) else none
  | .makeMap _ none => some (.map H.length, H ++ [.map []])
  | .makeSlice t l c => makeSliceA C.P t (e l) (e c) H
  | .slice t x lo hi none => (sliceA C.P t (e x) (lo.map e) (hi.map e)).map (·, H)
  | .fieldAddr s x f => (fieldAddrA C.P s (e x) f).map (·, H)
  | .field s x f => (fieldA C.P s (e x) f).map (·, H)
  | .indexAddr t x i => (indexAddrA C.P t (e x) (e i)).map (·, H)
  | .index t x i => (indexA C.P t (e x) (e i)).map (·, H)
  | .lookup t x k ok => (lookupA C t (e x) (e k) ok H).map (·, H)
  | .mapUpdate t m k v => (mapUpdateA C t (e m) (e k) (e v) H).map (.tup [], ·)
  | .extract t i => match e t with
    | .tup vs => (vs[i]?).map (·, H)
    | _ => none
  | .call { callee := .builtin b, args, argTypes } => builtinA C.P b argTypes (args.toList.map e) H
  | _ => none

/-- A call that comes to Q. -/
def F (C : Ctx) (f : FuncId) (args : List AV) (H : Heap) (Q : AV → Heap → Prop) : Prop :=
  ∃ n v H', callA C n f args H = some (v, H') ∧ Q v H'

theorem F.mono {C : Ctx} {f : FuncId} {args : List AV} {H : Heap} {Q Q' : AV → Heap → Prop} (h : F C f args H Q) (hq : ∀ v H', Q v H' → Q' v H') : F C f args H Q' :=
  let ⟨n, v, H', h1, h2⟩ := h
  ⟨n, v, H', h1, hq _ _ h2⟩

/-- What one operation must meet. -/
def wp1 (C : Ctx) (op : Op) (ρ : SE) (H : Heap) (D : SD) (K : AV → Heap → SD → Prop) : Prop :=
  match op with
  | .call { callee := .value f, args, argTypes := _ } => match ope ρ f with
    | .fn g cap => F C g (args.toList.map (ope ρ) ++ cap) H fun v H' => K v H' D
    | _ => False
  | .defer { callee := .value f, args, argTypes := _ } => match ope ρ f with
    | .fn g cap => K (.tup []) H ((g, args.toList.map (ope ρ) ++ cap) :: D)
    | _ => False
  | op => ∃ v H', opE C op (ope ρ) H = some (v, H') ∧ K v H' D

/-- What a row of operations must meet. -/
def wpo (C : Ctx) : List SO → SE → Heap → SD → (SE → Heap → SD → Prop) → Prop
  | [], ρ, H, D, Q => Q ρ H D
  | o :: l, ρ, H, D, Q =>
    match o.guard with
    | none => wp1 C o.op ρ H D fun v H' D' => wpo C l (upO ρ o.dst v) H' D' Q
    | some (g, want) =>
      match ρ g with
      | .bool b => if b = want then wp1 C o.op ρ H D fun v H' D' => wpo C l (upO ρ o.dst v) H' D' Q else wpo C l (upO ρ o.dst (.tup [])) H D Q
      | .dead => False
      | _ => wpo C l (upO ρ o.dst (.tup [])) H D Q

/-- What a row of operations must meet, told the states ahead of each, and behind the last. -/
def wpoL (C : Ctx) : List SO → List (SE × Heap) → SE → Heap → SD → (List (SE × Heap) → SE → Heap → SD → Prop) → Prop
  | [], L, ρ, H, D, Q => Q (L ++ [(ρ, H)]) ρ H D
  | o :: l, L, ρ, H, D, Q =>
    match o.guard with
    | none => wp1 C o.op ρ H D fun v H' D' => wpoL C l (L ++ [(ρ, H)]) (upO ρ o.dst v) H' D' Q
    | some (g, want) =>
      match ρ g with
      | .bool b => if b = want then wp1 C o.op ρ H D fun v H' D' => wpoL C l (L ++ [(ρ, H)]) (upO ρ o.dst v) H' D' Q else wpoL C l (L ++ [(ρ, H)]) (upO ρ o.dst (.tup [])) H D Q
      | .dead => False
      | _ => wpoL C l (L ++ [(ρ, H)]) (upO ρ o.dst (.tup [])) H D Q

/-- A function's slots and a row of values. -/
def AG (ρ : SE) (l : Env) : Prop := ∀ t, l.getD t .dead = ρ t

theorem AG.opnd {ρ : SE} {l : Env} (h : AG ρ l) : Va.opnd l = ope ρ := by
  funext x
  cases x <;> simp [Va.opnd, ope]
  exact h _

theorem AG.put {ρ : SE} {l : Env} (h : AG ρ l) {d : Option Tmp} (hd : ∀ t, d = some t → t < l.length) (v : AV) : AG (upO ρ d v) (putSlot l d v) := by
  intro t
  cases d with
  | none => exact h t
  | some d =>
    simp only [putSlot, upO, up]
    rw [getD_set]
    have := hd d rfl
    by_cases ht : d = t
    · subst ht; simp [this]
    · rw [if_neg (by rintro ⟨h, _⟩; exact ht h), if_neg (fun h => ht h.symm)]; exact h t

theorem opE_eq {C : Ctx} {call : CallF} {o : Oper} {ρ : Env} {H : Heap} {r : AV × Heap} (h : opE C o.op (opnd ρ) H = some r) : opA C call o ρ H = some r := by
  obtain ⟨dst, op, ty, pos, after, guard⟩ := o
  cases op
  case call c =>
    obtain ⟨callee, args, ts⟩ := c
    cases callee <;> first | exact h | (simp [opE] at h)
  case makeFunc fn a b => cases fn <;> first | exact h | (simp [opE] at h)
  case makeMap t r => cases r <;> first | exact h | (simp [opE] at h)
  case slice t x l hi mx => cases mx <;> first | exact h | (simp [opE] at h)
  all_goals first | exact h | (simp [opE] at h)

/-- One step, as wp1 has it. -/
theorem wp1_step {C : Ctx} {ops : Array Oper} {o : Oper} {ρ : SE} {s : St} (ha : AG ρ s.ρ) {K : AV → Heap → SD → Prop} (h : wp1 C o.op ρ s.H s.D K) (hw : wantedA ops o s.ρ = some true) :
    ∃ n v H' D', stepA C (callA C n) ops o s = some ⟨putSlot s.ρ o.dst v, H', D'⟩ ∧ K v H' D' := by
  have ho := ha.opnd
  unfold wp1 at h
  split at h
  · rename_i f args ts hop
    split at h
    · rename_i g cap hf
      obtain ⟨n, v, H', h1, h2⟩ := h
      refine ⟨n, v, H', s.D, ?_, h2⟩
      simp only [stepA, hw, deferA, hop, opA, ho, hf, h1, Option.map_some]
    · exact h.elim
  · rename_i f args ts hop
    split at h
    · rename_i g cap hf
      refine ⟨0, .tup [], s.H, _, ?_, h⟩
      simp only [stepA, hw, deferA, hop, ho, hf]
    · exact h.elim
  · rename_i h1 h2
    obtain ⟨v, H', h3, h4⟩ := h
    refine ⟨0, v, H', s.D, ?_, h4⟩
    rw [← ho] at h3
    have hop := opE_eq (call := callA C 0) h3
    have hdef : deferA o s.ρ = none := by
      unfold deferA
      split
      · rename_i f args ts hh; exact absurd hh (h2 f args ts)
      · rfl
    simp only [stepA, hw, hdef, hop, Option.map_some]

theorem slimOp_inv {N : Nat} {ops : Array Oper} {o : Oper} {so : SO} (h : slimOp N ops o = some so) :
    (∀ t, o.dst = some t → t < N) ∧ so.dst = o.dst ∧ so.op = o.op ∧ ((o.guard = none ∧ so.guard = none) ∨ ∃ j want d, o.guard = some (j, want) ∧ (ops[j]?).bind (·.dst) = some d ∧ so.guard = some (d, want)) := by
  unfold slimOp at h
  by_cases hd : dstOk N o.dst = true
  · rw [if_pos hd] at h
    refine ⟨?_, ?_⟩
    · intro t ht; rw [ht] at hd; simpa [dstOk] using hd
    · split at h
      · cases h; exact ⟨rfl, rfl, .inl ⟨‹_›, rfl⟩⟩
      · rename_i j want hg
        simp only [Option.map_eq_some_iff] at h
        obtain ⟨d, hd', h⟩ := h
        cases h
        exact ⟨rfl, rfl, .inr ⟨j, want, d, hg, hd', rfl⟩⟩
  · rw [if_neg hd] at h; cases h

/-- A row of operations, as wpo has it. -/
theorem wpo_run {C : Ctx} {N : Nat} {ops : Array Oper} {Q : SE → Heap → SD → Prop} : ∀ (l : List Oper) (sl : List SO) (ρ : SE) (s : St), slimOps N ops l = some sl → s.ρ.length = N → AG ρ s.ρ → wpo C sl ρ s.H s.D Q →
    ∃ n s' ρ', runOps C (callA C n) ops l s = some s' ∧ s'.ρ.length = N ∧ AG ρ' s'.ρ ∧ Q ρ' s'.H s'.D
  | [], sl, ρ, s, hs, hN, ha, h => by
    simp only [slimOps, Option.some.injEq] at hs
    subst hs
    exact ⟨0, s, ρ, rfl, hN, ha, h⟩
  | o :: l, sl, ρ, s, hs, hN, ha, h => by
    simp only [slimOps] at hs
    split at hs
    · rename_i a b hoa hlb
      cases hs
      obtain ⟨hd, hdst, hop, hg⟩ := slimOp_inv hoa
      have hput : ∀ v, AG (upO ρ a.dst v) (putSlot s.ρ o.dst v) := fun v => by rw [hdst]; exact ha.put (fun t ht => by rw [hN]; exact hd t ht) v
      have go : ∀ (n₁ : Nat) (s₁ : St) (ρ₁ : SE), stepA C (callA C n₁) ops o s = some s₁ → s₁.ρ.length = N → AG ρ₁ s₁.ρ → wpo C b ρ₁ s₁.H s₁.D Q →
          ∃ n s' ρ', runOps C (callA C n) ops (o :: l) s = some s' ∧ s'.ρ.length = N ∧ AG ρ' s'.ρ ∧ Q ρ' s'.H s'.D := by
        intro n₁ s₁ ρ₁ hst hN₁ ha₁ h₁
        obtain ⟨n, s', ρ', hr, h2, h3, h4⟩ := wpo_run l b ρ₁ s₁ hlb hN₁ ha₁ h₁
        refine ⟨max n₁ n, s', ρ', ?_, h2, h3, h4⟩
        simp only [runOps]
        rw [step_mono (call_mono C (Nat.le_max_left n₁ n)) hst]
        exact runOps_mono (call_mono C (Nat.le_max_right n₁ n)) hr
      have want : wantedA ops o s.ρ = some true → wp1 C a.op ρ s.H s.D (fun v H' D' => wpo C b (upO ρ a.dst v) H' D' Q) →
          ∃ n s' ρ', runOps C (callA C n) ops (o :: l) s = some s' ∧ s'.ρ.length = N ∧ AG ρ' s'.ρ ∧ Q ρ' s'.H s'.D := by
        intro hw h1
        rw [hop] at h1
        obtain ⟨n₁, v, H', D', hst, hk⟩ := wp1_step (ops := ops) (o := o) ha h1 hw
        exact go n₁ _ _ hst (by simp [putSlot_len, hN]) (hput v) hk
      have skip : wantedA ops o s.ρ = some false → wpo C b (upO ρ a.dst (.tup [])) s.H s.D Q →
          ∃ n s' ρ', runOps C (callA C n) ops (o :: l) s = some s' ∧ s'.ρ.length = N ∧ AG ρ' s'.ρ ∧ Q ρ' s'.H s'.D := by
        intro hw h1
        refine go 0 { s with ρ := putSlot s.ρ o.dst (.tup []) } _ ?_ (by simp [putSlot_len, hN]) (hput _) h1
        simp only [stepA, hw]
      simp only [wpo] at h
      rcases hg with ⟨hg1, hg2⟩ | ⟨j, wnt, d, hg1, hg2, hg3⟩
      · simp only [hg2] at h
        exact want (by simp [wantedA, hg1]) h
      · simp only [hg3] at h
        have hd' := ha d
        split at h
        · rename_i bb hb
          rw [hb] at hd'
          split at h
          · rename_i hbw
            exact want (by simp only [wantedA, hg1, hg2, hd']; simp [hbw]) h
          · rename_i hbw
            exact skip (by simp only [wantedA, hg1, hg2, hd']; simp [hbw]) h
        · exact h.elim
        · rename_i h1 h2
          refine skip ?_ h
          rw [← hd'] at h1 h2
          unfold wantedA
          simp only [hg1, hg2]
    · cases hs

/-- States, as they are told. -/
def AGL : List (SE × Heap) → List St → Prop
  | [], [] => True
  | m :: M, s :: L => AG m.1 s.ρ ∧ m.2 = s.H ∧ AGL M L
  | _, _ => False

theorem AGL.get : ∀ {M : List (SE × Heap)} {L : List St} (_ : AGL M L) {i : Nat} {m : SE × Heap}, M[i]? = some m → ∃ s, L[i]? = some s ∧ AG m.1 s.ρ ∧ m.2 = s.H
  | [], [], _, i, m, h => by simp at h
  | m :: M, s :: L, ha, 0, m', h => by simp only [List.getElem?_cons_zero, Option.some.injEq] at h; subst h; exact ⟨s, rfl, ha.1, ha.2.1⟩
  | m :: M, s :: L, ha, i + 1, m', h => by
    simp only [List.getElem?_cons_succ] at h ⊢
    exact AGL.get ha.2.2 h
  | [], s :: L, ha, _, _, _ => ha.elim
  | m :: M, [], ha, _, _, _ => ha.elim

/-- A row of operations, as wpoL has it. -/
theorem wpoL_run {C : Ctx} {N : Nat} {ops : Array Oper} {Q : List (SE × Heap) → SE → Heap → SD → Prop} : ∀ (l : List Oper) (sl : List SO) (L : List (SE × Heap)) (ρ : SE) (s : St), slimOps N ops l = some sl → s.ρ.length = N → AG ρ s.ρ → wpoL C sl L ρ s.H s.D Q →
    ∃ n Ls M s' ρ', runStates C (callA C n) ops l s = some Ls ∧ Ls[l.length]? = some s' ∧ AGL M Ls ∧ s'.ρ.length = N ∧ AG ρ' s'.ρ ∧ Q (L ++ M) ρ' s'.H s'.D
  | [], sl, L, ρ, s, hs, hN, ha, h => by
    simp only [slimOps, Option.some.injEq] at hs
    subst hs
    exact ⟨0, [s], [(ρ, s.H)], s, ρ, rfl, rfl, ⟨ha, rfl, trivial⟩, hN, ha, h⟩
  | o :: l, sl, L, ρ, s, hs, hN, ha, h => by
    simp only [slimOps] at hs
    split at hs
    · rename_i a b hoa hlb
      cases hs
      obtain ⟨hd, hdst, hop, hg⟩ := slimOp_inv hoa
      have hput : ∀ v, AG (upO ρ a.dst v) (putSlot s.ρ o.dst v) := fun v => by rw [hdst]; exact ha.put (fun t ht => by rw [hN]; exact hd t ht) v
      have go : ∀ (n₁ : Nat) (s₁ : St) (ρ₁ : SE), stepA C (callA C n₁) ops o s = some s₁ → s₁.ρ.length = N → AG ρ₁ s₁.ρ → wpoL C b (L ++ [(ρ, s.H)]) ρ₁ s₁.H s₁.D Q →
          ∃ n Ls M s' ρ', runStates C (callA C n) ops (o :: l) s = some Ls ∧ Ls[(o :: l).length]? = some s' ∧ AGL M Ls ∧ s'.ρ.length = N ∧ AG ρ' s'.ρ ∧ Q (L ++ M) ρ' s'.H s'.D := by
        intro n₁ s₁ ρ₁ hst hN₁ ha₁ h₁
        obtain ⟨n, Ls, M, s', ρ', hr, hl, hm, h2, h3, h4⟩ := wpoL_run l b _ ρ₁ s₁ hlb hN₁ ha₁ h₁
        refine ⟨max n₁ n, s :: Ls, (ρ, s.H) :: M, s', ρ', ?_, by simpa using hl, ⟨ha, rfl, hm⟩, h2, h3, by simpa using h4⟩
        simp only [runStates]
        rw [step_mono (call_mono C (Nat.le_max_left n₁ n)) hst]
        simp only [runStates_mono (call_mono C (Nat.le_max_right n₁ n)) hr, Option.map_some]
      have want : wantedA ops o s.ρ = some true → wp1 C a.op ρ s.H s.D (fun v H' D' => wpoL C b (L ++ [(ρ, s.H)]) (upO ρ a.dst v) H' D' Q) →
          ∃ n Ls M s' ρ', runStates C (callA C n) ops (o :: l) s = some Ls ∧ Ls[(o :: l).length]? = some s' ∧ AGL M Ls ∧ s'.ρ.length = N ∧ AG ρ' s'.ρ ∧ Q (L ++ M) ρ' s'.H s'.D := by
        intro hw h1
        rw [hop] at h1
        obtain ⟨n₁, v, H', D', hst, hk⟩ := wp1_step (ops := ops) (o := o) ha h1 hw
        exact go n₁ _ _ hst (by simp [putSlot_len, hN]) (hput v) hk
      have skip : wantedA ops o s.ρ = some false → wpoL C b (L ++ [(ρ, s.H)]) (upO ρ a.dst (.tup [])) s.H s.D Q →
          ∃ n Ls M s' ρ', runStates C (callA C n) ops (o :: l) s = some Ls ∧ Ls[(o :: l).length]? = some s' ∧ AGL M Ls ∧ s'.ρ.length = N ∧ AG ρ' s'.ρ ∧ Q (L ++ M) ρ' s'.H s'.D := by
        intro hw h1
        refine go 0 { s with ρ := putSlot s.ρ o.dst (.tup []) } _ ?_ (by simp [putSlot_len, hN]) (hput _) h1
        simp only [stepA, hw]
      simp only [wpoL] at h
      rcases hg with ⟨hg1, hg2⟩ | ⟨j, wnt, d, hg1, hg2, hg3⟩
      · simp only [hg2] at h
        exact want (by simp [wantedA, hg1]) h
      · simp only [hg3] at h
        have hd' := ha d
        split at h
        · rename_i bb hb
          rw [hb] at hd'
          split at h
          · rename_i hbw
            exact want (by simp only [wantedA, hg1, hg2, hd']; simp [hbw]) h
          · rename_i hbw
            exact skip (by simp only [wantedA, hg1, hg2, hd']; simp [hbw]) h
        · exact h.elim
        · rename_i h1 h2
          refine skip ?_ h
          rw [← hd'] at h1 h2
          unfold wantedA
          simp only [hg1, hg2]
    · cases hs

end Go.Va
end

section
set_option linter.unusedSimpArgs false
set_option linter.unusedVariables false
set_option linter.unusedSectionVars false
namespace Go.Va

abbrev SQ := SE → Heap → SD → Prop

/-- k rounds at most. -/
def itW (body : SQ → SQ) : Nat → SQ
  | 0, _, _, _ => False
  | k + 1, ρ, H, D => body (itW body k) ρ H D

/-- The looks at the heap that no order is told of, by their states. -/
def sameAt (C : Ctx) (ops : List SO) (L : List (SE × Heap)) (p : Nat × Nat) : Prop :=
  match ops[p.1]?, L[p.1]?, L[if p.2 < p.1 then p.2 else p.2 + 1]? with
  | some o, some s, some u =>
    (match o.guard with | none => True | some (g, want) => s.1 g = .bool want) →
    ∃ a Ha b Hb, opE C o.op (ope s.1) s.2 = some (a, Ha) ∧ opE C o.op (ope s.1) u.2 = some (b, Hb) ∧ a.same b = true
  | _, _, _ => False

def WS (C : Ctx) : SC → SQ → (Nat → SQ) → SQ → SQ
  | .skip, N, _, _, ρ, H, D => N ρ H D
  | .reg ops ps, N, _, _, ρ, H, D => match ps with
    | [] => wpo C ops ρ H D N
    | p :: ps => wpoL C ops [] ρ H D fun L ρ' H' D' => (∀ q ∈ p :: ps, sameAt C ops L q) ∧ N ρ' H' D'
  | .seq a b, N, X, R, ρ, H, D => WS C a (WS C b N X R) X R ρ H D
  | .cond c a b, N, X, R, ρ, H, D => match ope ρ c with
    | .bool t => if t = true then WS C a N X R ρ H D else WS C b N X R ρ H D
    | _ => False
  | .block id c, N, X, R, ρ, H, D => WS C c N (fun j => if j = id then N else X j) R ρ H D
  | .loop c, _, X, R, ρ, H, D => ∃ k, itW (fun n => WS C c n X R) k ρ H D
  | .exit id, _, X, _, ρ, H, D => X id ρ H D
  | .ret, _, _, R, ρ, H, D => R ρ H D

/-- How a run of code that WS tells of ends. -/
def Ends (N : SQ) (X : Nat → SQ) (R : SQ) : AExit → SQ
  | .normal => N
  | .exit j => X j
  | .ret => R

theorem exec_le {C : Ctx} {n m : Nat} (h : n ≤ m) {c : Code} {s : St} {r : AExit × St} (he : exec C (callA C n) n c s = some r) : exec C (callA C m) m c s = some r :=
  exec_mono (call_mono C h) h c he

theorem runStates_of_run {C : Ctx} {call : CallF} {ops : Array Oper} : ∀ {l : List Oper} {s s' : St}, runOps C call ops l s = some s' → ∃ L, runStates C call ops l s = some L ∧ L[l.length]? = some s'
  | [], s, s', h => by simp only [runOps, Option.some.injEq] at h; subst h; exact ⟨[s], rfl, rfl⟩
  | o :: l, s, s', h => by
    simp only [runOps] at h
    split at h
    · rename_i s₁ h1
      obtain ⟨L, h2, h3⟩ := runStates_of_run h
      exact ⟨s :: L, by simp only [runStates, h1, h2, Option.map_some], by simpa using h3⟩
    · cases h

theorem reg_run {C : Ctx} {W : Nat} {ops : Array Oper} {N : SQ} {sl : List SO} {ρ : SE} {s : St} (hs : slimOps W ops ops.toList = some sl) (hN : s.ρ.length = W) (ha : AG ρ s.ρ) (h : wpo C sl ρ s.H s.D N) {draw : Bool}
    (hd : draw = true → orderOk ops = true ∧ ops.any defers = false ∧ ops.any selects = false ∧ loose ops = []) {id : Nat} :
    ∃ n s' ρ', exec C (callA C n) n (.region id ops draw) s = some (.normal, s') ∧ s'.ρ.length = W ∧ AG ρ' s'.ρ ∧ N ρ' s'.H s'.D := by
  obtain ⟨n, s', ρ', h1, h2, h3, h4⟩ := wpo_run ops.toList sl ρ s hs hN ha h
  refine ⟨n, s', ρ', ?_, h2, h3, h4⟩
  cases draw with
  | false => simp only [exec, Bool.false_eq_true, if_false, h1, Option.map_some]
  | true =>
    obtain ⟨o1, o2, o3, o4⟩ := hd rfl
    simp only [exec, if_true, drawA, o1, o2, o3, Bool.not_false, Bool.and_self]
    obtain ⟨L, hL, hl⟩ := runStates_of_run h1
    simp only [hL, o4, List.all_nil, if_true]
    rw [Array.length_toList] at hl
    rw [hl]; rfl

theorem slimOps_get {N : Nat} {ops : Array Oper} : ∀ {l : List Oper} {sl : List SO}, slimOps N ops l = some sl → ∀ {i : Nat} {so : SO}, sl[i]? = some so → ∃ o, l[i]? = some o ∧ slimOp N ops o = some so
  | [], sl, hs, i, so, h => by
    simp only [slimOps, Option.some.injEq] at hs; subst hs; simp at h
  | o :: l, sl, hs, i, so, h => by
    simp only [slimOps] at hs
    split at hs
    · rename_i a b ha hb
      cases hs
      cases i with
      | zero => simp only [List.getElem?_cons_zero, Option.some.injEq] at h; subst h; exact ⟨o, rfl, ha⟩
      | succ i => simp only [List.getElem?_cons_succ] at h ⊢; exact slimOps_get hb h
    · cases hs

theorem loose_of_same {C : Ctx} {W n : Nat} {ops : Array Oper} {sl : List SO} {M : List (SE × Heap)} {Ls : List St} {p : Nat × Nat} (hs : slimOps W ops ops.toList = some sl) (hm : AGL M Ls) (h : sameAt C sl M p) : looseOk C (callA C n) ops Ls p = true := by
  unfold sameAt at h
  split at h
  · rename_i so m u h1 h2 h3
    obtain ⟨o, ho, hso⟩ := slimOps_get hs h1
    obtain ⟨s, hs1, hs2, hs3⟩ := hm.get h2
    obtain ⟨t, ht1, ht2, ht3⟩ := hm.get h3
    obtain ⟨hd, hdst, hop, hg⟩ := slimOp_inv hso
    rw [Array.getElem?_toList] at ho
    unfold looseOk
    rw [ho, hs1, ht1]
    simp only
    split
    · rename_i hw
      obtain ⟨a, Ha, b, Hb, e1, e2, e3⟩ := h (by
        rcases hg with ⟨g1, g2⟩ | ⟨j, w, d, g1, g2, g3⟩
        · rw [g2]; trivial
        · rw [g3]
          simp only [wantedA, g1, g2] at hw
          rw [hs2 d] at hw
          show m.1 d = _
          revert hw
          cases m.1 d <;> simp
          )
      rw [hop, hs3, ← hs2.opnd] at e1
      rw [hop, ht3, ← hs2.opnd] at e2
      rw [opE_eq e1, opE_eq e2]
      simpa using e3
    · rfl
  · exact h.elim

theorem regL_run {C : Ctx} {W : Nat} {ops : Array Oper} {N : SQ} {sl : List SO} {ρ : SE} {s : St} {ps : List (Nat × Nat)} (hs : slimOps W ops ops.toList = some sl) (hN : s.ρ.length = W) (ha : AG ρ s.ρ)
    (h : wpoL C sl [] ρ s.H s.D fun L ρ' H' D' => (∀ q ∈ ps, sameAt C sl L q) ∧ N ρ' H' D')
    (o1 : orderOk ops = true) (o2 : ops.any defers = false) (o3 : ops.any selects = false) (o4 : ∀ q ∈ loose ops, q ∈ ps) {id : Nat} :
    ∃ n s' ρ', exec C (callA C n) n (.region id ops true) s = some (.normal, s') ∧ s'.ρ.length = W ∧ AG ρ' s'.ρ ∧ N ρ' s'.H s'.D := by
  obtain ⟨n, Ls, M, s', ρ', h1, hl, hm, h2, h3, h4, h5⟩ := wpoL_run ops.toList sl [] ρ s hs hN ha h
  refine ⟨n, s', ρ', ?_, h2, h3, h5⟩
  have : (loose ops).all (looseOk C (callA C n) ops Ls) = true := by
    rw [List.all_eq_true]
    intro q hq
    exact loose_of_same hs hm (by simpa using h4 q (o4 q hq))
  simp only [exec, if_true, drawA, o1, o2, o3, Bool.not_false, Bool.and_self, h1, this]
  rw [Array.length_toList] at hl
  rw [hl]; rfl

theorem WS_run {C : Ctx} {W : Nat} : ∀ (c : Code) (sc : SC) (N : SQ) (X : Nat → SQ) (R : SQ) (ρ : SE) (s : St), slim W c = some sc → s.ρ.length = W → AG ρ s.ρ → WS C sc N X R ρ s.H s.D →
    ∃ n x s' ρ', exec C (callA C n) n c s = some (x, s') ∧ s'.ρ.length = W ∧ AG ρ' s'.ρ ∧ Ends N X R x ρ' s'.H s'.D
  | .skip, sc, N, X, R, ρ, s, hs, hN, ha, h => by
    simp only [slim, Option.some.injEq] at hs; subst hs
    exact ⟨0, .normal, s, ρ, rfl, hN, ha, h⟩
  | .region id ops draw, sc, N, X, R, ρ, s, hs, hN, ha, h => by
    simp only [slim] at hs
    cases draw with
    | false =>
      simp only [Bool.false_eq_true, if_false, Option.map_eq_some_iff] at hs
      obtain ⟨l, hl, rfl⟩ := hs
      obtain ⟨n, s', ρ', h1, h2, h3, h4⟩ := reg_run (id := id) (draw := false) hl hN ha h (by intro h; cases h)
      exact ⟨n, .normal, s', ρ', h1, h2, h3, h4⟩
    | true =>
      simp only [if_true] at hs
      split at hs
      · rename_i hc
        simp only [Bool.and_eq_true, Bool.not_eq_true'] at hc
        obtain ⟨⟨c1, c2⟩, c3⟩ := hc
        simp only [Option.map_eq_some_iff] at hs
        obtain ⟨l, hl, rfl⟩ := hs
        simp only [WS] at h
        split at h
        · rename_i hp
          obtain ⟨n, s', ρ', h1, h2, h3, h4⟩ := reg_run (id := id) (draw := true) hl hN ha h (fun _ => ⟨c1, c2, c3, hp⟩)
          exact ⟨n, .normal, s', ρ', h1, h2, h3, h4⟩
        · rename_i p ps hp
          obtain ⟨n, s', ρ', h1, h2, h3, h4⟩ := regL_run (id := id) hl hN ha h c1 c2 c3 (fun q hq => by rw [hp] at hq; exact hq)
          exact ⟨n, .normal, s', ρ', h1, h2, h3, h4⟩
      · cases hs
  | .seq a b, sc, N, X, R, ρ, s, hs, hN, ha, h => by
    simp only [slim] at hs
    split at hs
    · rename_i sa sb hsa hsb
      cases hs
      obtain ⟨n, x, s', ρ', h1, h2, h3, h4⟩ := WS_run a sa _ X R ρ s hsa hN ha h
      cases x with
      | normal =>
        obtain ⟨m, y, s₂, ρ₂, g1, g2, g3, g4⟩ := WS_run b sb N X R ρ' s' hsb h2 h3 h4
        refine ⟨max n m, y, s₂, ρ₂, ?_, g2, g3, g4⟩
        simp only [exec, exec_le (Nat.le_max_left n m) h1, exec_le (Nat.le_max_right n m) g1]
      | exit j => exact ⟨n, .exit j, s', ρ', by simp only [exec, h1], h2, h3, h4⟩
      | ret => exact ⟨n, .ret, s', ρ', by simp only [exec, h1], h2, h3, h4⟩
    · cases hs
  | .cond c a b, sc, N, X, R, ρ, s, hs, hN, ha, h => by
    simp only [slim] at hs
    split at hs
    · rename_i sa sb hsa hsb
      cases hs
      simp only [WS] at h
      split at h
      · rename_i t ht
        rw [← ha.opnd] at ht
        split at h
        · rename_i tt
          obtain ⟨n, x, s', ρ', h1, h2⟩ := WS_run a sa N X R ρ s hsa hN ha h
          subst tt
          exact ⟨n, x, s', ρ', by simp only [exec, ht, h1], h2⟩
        · rename_i tt
          obtain ⟨n, x, s', ρ', h1, h2⟩ := WS_run b sb N X R ρ s hsb hN ha h
          have : t = false := by simpa using tt
          subst this
          exact ⟨n, x, s', ρ', by simp only [exec, ht, h1], h2⟩
      · exact h.elim
    · cases hs
  | .block id c, sc, N, X, R, ρ, s, hs, hN, ha, h => by
    simp only [slim, Option.map_eq_some_iff] at hs
    obtain ⟨sa, hsa, rfl⟩ := hs
    obtain ⟨n, x, s', ρ', h1, h2, h3, h4⟩ := WS_run c sa _ _ R ρ s hsa hN ha h
    cases x with
    | normal => exact ⟨n, .normal, s', ρ', by simp only [exec, h1], h2, h3, h4⟩
    | exit j =>
      simp only [Ends] at h4
      by_cases hj : j = id
      · rw [if_pos hj] at h4
        exact ⟨n, .normal, s', ρ', by simp only [exec, h1, if_pos hj], h2, h3, h4⟩
      · rw [if_neg hj] at h4
        exact ⟨n, .exit j, s', ρ', by simp only [exec, h1, if_neg hj], h2, h3, h4⟩
    | ret => exact ⟨n, .ret, s', ρ', by simp only [exec, h1], h2, h3, h4⟩
  | .loop c, sc, N, X, R, ρ, s, hs, hN, ha, h => by
    simp only [slim, Option.map_eq_some_iff] at hs
    obtain ⟨sa, hsa, rfl⟩ := hs
    obtain ⟨k, h⟩ := h
    have go : ∀ (k : Nat) (ρ : SE) (s : St), s.ρ.length = W → AG ρ s.ρ → itW (fun n => WS C sa n X R) k ρ s.H s.D →
        ∃ n x s' ρ', iterA (exec C (callA C n) n c) n s = some (x, s') ∧ s'.ρ.length = W ∧ AG ρ' s'.ρ ∧ Ends N X R x ρ' s'.H s'.D := by
      intro k
      induction k with
      | zero => intro ρ s _ _ h; exact h.elim
      | succ k ih =>
        intro ρ s hN ha h
        obtain ⟨n, x, s', ρ', h1, h2, h3, h4⟩ := WS_run c sa _ X R ρ s hsa hN ha h
        cases x with
        | normal =>
          obtain ⟨m, y, s₂, ρ₂, g1, g2, g3, g4⟩ := ih ρ' s' h2 h3 h4
          refine ⟨max n m + 1, y, s₂, ρ₂, ?_, g2, g3, g4⟩
          have e1 := exec_le (m := max n m + 1) (by omega) h1
          have e2 : iterA (exec C (callA C (max n m + 1)) (max n m + 1) c) (max n m) s' = some (y, s₂) :=
            iter_mono (fun s r h => exec_le (by omega) h) (Nat.le_max_right n m) g1
          simp only [iterA, e1, e2]
        | exit j =>
          refine ⟨n + 1, .exit j, s', ρ', ?_, h2, h3, h4⟩
          simp only [iterA, exec_le (Nat.le_succ n) h1]
        | ret =>
          refine ⟨n + 1, .ret, s', ρ', ?_, h2, h3, h4⟩
          simp only [iterA, exec_le (Nat.le_succ n) h1]
    obtain ⟨n, x, s', ρ', h1, h2⟩ := go k ρ s hN ha h
    exact ⟨n, x, s', ρ', by simp only [exec, h1], h2⟩
  | .exit j, sc, N, X, R, ρ, s, hs, hN, ha, h => by
    simp only [slim, Option.some.injEq] at hs; subst hs
    exact ⟨0, .exit j, s, ρ, rfl, hN, ha, h⟩
  | .ret, sc, N, X, R, ρ, s, hs, hN, ha, h => by
    simp only [slim, Option.some.injEq] at hs; subst hs
    exact ⟨0, .ret, s, ρ, rfl, hN, ha, h⟩
  | .rangeFunc .., sc, N, X, R, ρ, s, hs, hN, ha, h => by simp [slim] at hs
  | .scope _, sc, N, X, R, ρ, s, hs, hN, ha, h => by simp [slim] at hs
  | .label _, sc, N, X, R, ρ, s, hs, hN, ha, h => by simp [slim] at hs
  | .goto _, sc, N, X, R, ρ, s, hs, hN, ha, h => by simp [slim] at hs
  | .refuse _, sc, N, X, R, ρ, s, hs, hN, ha, h => by simp [slim] at hs

/-- The slots from i on have these values. -/
def AGs (ρ : SE) : Nat → List AV → Prop
  | _, [] => True
  | i, a :: l => ρ i = a ∧ AGs ρ (i + 1) l

def resE (P : Program) (ρ : SE) (H : Heap) : ResultVar → Option AV
  | .tmp t => some (ρ t)
  | .cell a t => match ρ a with
    | .ptr id off ver => loadA P t H id off ver
    | _ => none

def resL (P : Program) (ρ : SE) (H : Heap) : List ResultVar → Option (List AV)
  | [] => some []
  | r :: l => (resE P ρ H r).bind fun a => (resL P ρ H l).map (a :: ·)

def resW (P : Program) (ρ : SE) (H : Heap) (rs : List ResultVar) : Option AV :=
  match rs with
  | [r] => resE P ρ H r
  | rs => (resL P ρ H rs).map .tup

theorem resE_eq {P : Program} {ρ : SE} {l : Env} {H : Heap} (h : AG ρ l) (r : ResultVar) : resultA P l H r = resE P ρ H r := by
  cases r with
  | tmp t => simp only [resultA, resE]; rw [h t]
  | cell a t => simp only [resultA, resE]; rw [h a]; cases ρ a <;> rfl

theorem resL_eq {P : Program} {ρ : SE} {l : Env} {H : Heap} (h : AG ρ l) : ∀ rs : List ResultVar, rs.mapM (resultA P l H) = resL P ρ H rs
  | [] => rfl
  | r :: rs => by
    rw [List.mapM_cons, resE_eq h, resL_eq h rs]
    simp only [resL]
    cases resE P ρ H r with
    | none => rfl
    | some a => cases resL P ρ H rs <;> rfl

theorem resW_eq {P : Program} {ρ : SE} {l : Env} {H : Heap} (h : AG ρ l) (rs : List ResultVar) : resultsA P l H rs = resW P ρ H rs := by
  match rs with
  | [] => simp only [resultsA, resW, resL_eq h]
  | [r] => exact resE_eq h _
  | a :: b :: l => simp only [resultsA, resW, resL_eq h]

theorem AGs_get {ρ : SE} : ∀ {l : List AV} {i : Nat}, (∀ t (h : t < l.length), ρ (i + t) = l[t]) → AGs ρ i l
  | [], _, _ => trivial
  | a :: l, i, h => ⟨h 0 (Nat.succ_pos _), AGs_get fun t ht => by
      have := h (t + 1) (by simpa using ht)
      rw [show i + 1 + t = i + (t + 1) by omega]; simpa using this⟩

/-- What a function's run must meet at its end. -/
def Fin (P : Program) (rs : List ResultVar) (Q : AV → Heap → Prop) : SQ := fun ρ H D => D = [] ∧ ∃ v, resW P ρ H rs = some v ∧ Q v H

/-- The rule for a call. -/
theorem F_of {C : Ctx} {f : FuncId} {fn : Func} {c : Code} {sc : SC} {W : Nat} {rs : List ResultVar} {args : List AV} {H : Heap} {Q : AV → Heap → Prop}
    (ht : C.T.contains f = false) (hf : C.P.funcs[f]? = some fn) (hb : fn.body = some c) (hn : fn.name ≠ "runtime.NumGoroutine") (hs : slim W c = some sc) (hW : fn.ntmps = W) (hr : fn.results.toList = rs) (ha : args.length ≤ W)
    (h : ∀ ρ : SE, AGs ρ 0 args → WS C sc (Fin C.P rs Q) (fun _ _ _ _ => False) (Fin C.P rs Q) ρ H []) : F C f args H Q := by
  subst hW hr
  have hlen : (enterA fn.ntmps args).length = fn.ntmps := by
    unfold enterA; rw [List.length_append, List.length_replicate]; omega
  have hag : AGs (fun t => (enterA fn.ntmps args).getD t .dead) 0 args := by
    refine AGs_get fun t ht => ?_
    simp only [Nat.zero_add, enterA, List.getD_eq_getElem?_getD]
    rw [List.getElem?_append_left ht, List.getElem?_eq_getElem ht]; rfl
  obtain ⟨n, x, s', ρ', h1, h2, h3, h4⟩ := WS_run (W := fn.ntmps) c sc _ _ _ _ ⟨enterA fn.ntmps args, H, []⟩ hs hlen (fun t => rfl) (h _ hag)
  have fin : Fin C.P fn.results.toList Q ρ' s'.H s'.D → runF C (callA C n) n f args H = some (fn, s') → F C f args H Q := by
    rintro ⟨hD, v, hv, hq⟩ hrun
    refine ⟨n + 1, v, s'.H, ?_, hq⟩
    rw [callA, if_neg (by rw [ht]; simp)]
    simp only [hrun, hD, leaveA, Option.bind_some, resW_eq h3, hv, Option.map_some]
  cases x with
  | normal => exact fin h4 (by simp only [runF, hf, hb, if_neg hn, h1])
  | exit j => exact h4.elim
  | ret => exact fin h4 (by simp only [runF, hf, hb, if_neg hn, h1])

/-- A call that is known to come to true. -/
theorem F_true {C : Ctx} {f : FuncId} {H : Heap} (h : C.T.contains f = true) : F C f [] H fun v H' => v = .bool true ∧ H' = H :=
  ⟨1, .bool true, H, by rw [callA, if_pos (by rw [h]; rfl)], rfl, rfl⟩

end Go.Va
end

section
set_option linter.unusedSimpArgs false
set_option linter.unusedVariables false
set_option linter.unusedSectionVars false
namespace Go.Va

theorem wp1_mono {C : Ctx} {op : Op} {ρ : SE} {H : Heap} {D : SD} {K K' : AV → Heap → SD → Prop} (hk : ∀ v H D, K v H D → K' v H D) (h : wp1 C op ρ H D K) : wp1 C op ρ H D K' := by
  unfold wp1 at h ⊢
  split at h
  · split at h
    · rename_i g cap hf; exact F.mono h fun _ _ => hk _ _ _
    · exact h.elim
  · split at h
    · exact hk _ _ _ h
    · exact h.elim
  · obtain ⟨v, H', h1, h2⟩ := h
    exact ⟨v, H', h1, hk _ _ _ h2⟩

theorem wpo_mono {C : Ctx} {Q Q' : SQ} (hq : ∀ ρ H D, Q ρ H D → Q' ρ H D) : ∀ {l : List SO} {ρ : SE} {H : Heap} {D : SD}, wpo C l ρ H D Q → wpo C l ρ H D Q'
  | [], _, _, _, h => hq _ _ _ h
  | o :: l, ρ, H, D, h => by
    simp only [wpo] at h ⊢
    split at h
    · rename_i hg; try simp only [hg]
      exact wp1_mono (fun v H D h => wpo_mono hq h) h
    · rename_i g w hg
      try simp only [hg]
      split at h
      · rename_i b hb
        try simp only [hb]
        split at h
        · rename_i hbw; rw [if_pos hbw]; exact wp1_mono (fun v H D h => wpo_mono hq h) h
        · rename_i hbw; rw [if_neg hbw]; exact wpo_mono hq h
      · exact h.elim
      · rename_i h1 h2
        exact wpo_mono hq h

theorem wpoL_mono {C : Ctx} {Q Q' : List (SE × Heap) → SQ} (hq : ∀ L ρ H D, Q L ρ H D → Q' L ρ H D) : ∀ {l : List SO} {L : List (SE × Heap)} {ρ : SE} {H : Heap} {D : SD}, wpoL C l L ρ H D Q → wpoL C l L ρ H D Q'
  | [], _, _, _, _, h => hq _ _ _ _ h
  | o :: l, L, ρ, H, D, h => by
    simp only [wpoL] at h ⊢
    split at h
    · rename_i hg; try simp only [hg]
      exact wp1_mono (fun v H D h => wpoL_mono hq h) h
    · rename_i g w hg
      try simp only [hg]
      split at h
      · rename_i b hb
        try simp only [hb]
        split at h
        · rename_i hbw; rw [if_pos hbw]; exact wp1_mono (fun v H D h => wpoL_mono hq h) h
        · rename_i hbw; rw [if_neg hbw]; exact wpoL_mono hq h
      · exact h.elim
      · exact wpoL_mono hq h

theorem WS_mono {C : Ctx} : ∀ {c : SC} {N N' : SQ} {X X' : Nat → SQ} {R R' : SQ} {ρ : SE} {H : Heap} {D : SD}, (∀ ρ H D, N ρ H D → N' ρ H D) → (∀ j ρ H D, X j ρ H D → X' j ρ H D) → (∀ ρ H D, R ρ H D → R' ρ H D) →
    WS C c N X R ρ H D → WS C c N' X' R' ρ H D
  | .skip, N, N', X, X', R, R', ρ, H, D, hn, hx, hr, h => hn _ _ _ h
  | .reg ops ps, N, N', X, X', R, R', ρ, H, D, hn, hx, hr, h => by
    simp only [WS] at h ⊢
    cases ps with
    | nil => exact wpo_mono hn h
    | cons => exact wpoL_mono (fun L ρ H D h => ⟨h.1, hn _ _ _ h.2⟩) h
  | .seq a b, N, N', X, X', R, R', ρ, H, D, hn, hx, hr, h => by
    simp only [WS] at h ⊢
    exact WS_mono (fun _ _ _ h => WS_mono hn hx hr h) hx hr h
  | .cond c a b, N, N', X, X', R, R', ρ, H, D, hn, hx, hr, h => by
    simp only [WS] at h ⊢
    split at h
    · rename_i t ht
      try simp only [ht]
      split at h
      · rename_i tt; rw [if_pos tt]; exact WS_mono hn hx hr h
      · rename_i tt; rw [if_neg tt]; exact WS_mono hn hx hr h
    · exact h.elim
  | .block id c, N, N', X, X', R, R', ρ, H, D, hn, hx, hr, h => by
    simp only [WS] at h ⊢
    refine WS_mono hn (fun j ρ H D h => ?_) hr h
    by_cases hj : j = id
    · simp only [hj, if_true] at h ⊢; exact hn _ _ _ h
    · simp only [hj, if_false] at h ⊢; exact hx _ _ _ _ h
  | .loop c, N, N', X, X', R, R', ρ, H, D, hn, hx, hr, h => by
    simp only [WS] at h ⊢
    obtain ⟨k, h⟩ := h
    refine ⟨k, ?_⟩
    induction k generalizing ρ H D with
    | zero => exact h
    | succ k ih => exact WS_mono (fun _ _ _ h => ih _ _ _ h) hx hr h
  | .exit j, N, N', X, X', R, R', ρ, H, D, hn, hx, hr, h => hx _ _ _ _ h
  | .ret, N, N', X, X', R, R', ρ, H, D, hn, hx, hr, h => hr _ _ _ h

theorem itW_le {C : Ctx} {c : SC} {X : Nat → SQ} {R : SQ} : ∀ {k m : Nat}, k ≤ m → ∀ {ρ : SE} {H : Heap} {D : SD}, itW (fun n => WS C c n X R) k ρ H D → itW (fun n => WS C c n X R) m ρ H D
  | 0, _, _, _, _, _, h => h.elim
  | k + 1, 0, hk, _, _, _, _ => by omega
  | k + 1, m + 1, hk, _, _, _, h => WS_mono (fun _ _ _ h => itW_le (by omega) h) (fun _ _ _ _ h => h) (fun _ _ _ h => h) h

/-- A loop by an invariant with a measure. -/
theorem loop_rule {C : Ctx} {c : SC} {N : SQ} {X : Nat → SQ} {R : SQ} {ρ : SE} {H : Heap} {D : SD} (I : Nat → SQ) (k : Nat) (h0 : I k ρ H D)
    (hs : ∀ k ρ H D, I k ρ H D → WS C c (fun ρ' H' D' => ∃ k', k' < k ∧ I k' ρ' H' D') X R ρ H D) : WS C (.loop c) N X R ρ H D := by
  refine ⟨k + 1, ?_⟩
  suffices ∀ k ρ H D, I k ρ H D → itW (fun n => WS C c n X R) (k + 1) ρ H D from this _ _ _ _ h0
  intro k
  induction k using Nat.strongRecOn with
  | ind k ih =>
    intro ρ H D hi
    refine WS_mono ?_ (fun _ _ _ _ h => h) (fun _ _ _ h => h) (hs k ρ H D hi)
    rintro ρ' H' D' ⟨k', hk', hi'⟩
    exact itW_le (by omega) (ih k' hk' ρ' H' D' hi')

/-- Unlocked. -/
def UN (p : Prop) : Prop := p
/-- A branch; what stands behind it is locked till its condition is known. -/
def Br (b : Bool) (A B : Prop) : Prop := if b = true then A else B
theorem Br_true {A B : Prop} : Br true A B = UN A := rfl
theorem Br_false {A B : Prop} : Br false A B = UN B := rfl
theorem Br_not {b : Bool} {A B : Prop} : Br (!b) A B = Br b B A := by cases b <;> rfl
theorem Br_dec {p : Prop} [Decidable p] {A B : Prop} (h1 : p → UN A) (h2 : ¬ p → UN B) : Br (decide p) A B := by
  by_cases h : p
  · rw [decide_eq_true h]; exact h1 h
  · rw [decide_eq_false h]; exact h2 h
theorem Br_bool {b : Bool} {A B : Prop} (h1 : b = true → UN A) (h2 : b = false → UN B) : Br b A B := by
  cases b
  · exact h2 rfl
  · exact h1 rfl
/-- A branch by a value. -/
def BrV (v : AV) (A B : Prop) : Prop := match v with
  | .bool t => if t = true then A else B
  | _ => False
theorem BrV_bool {b : Bool} {A B : Prop} : BrV (.bool b) A B = Br b A B := rfl
/-- A guard. -/
def Gd (v : AV) (w : Bool) (A B : Prop) : Prop := match v with
  | .bool b => if b = w then A else B
  | .dead => False
  | _ => B
theorem Gd_bool_true {b : Bool} {A B : Prop} : Gd (.bool b) true A B = Br b A B := rfl
theorem Gd_bool_false {b : Bool} {A B : Prop} : Gd (.bool b) false A B = Br b B A := by cases b <;> rfl
theorem Gd_tup {w : Bool} {l : List AV} {A B : Prop} : Gd (.tup l) w A B = UN B := rfl

def pickA (c a b : AV) : Option AV := match c with
  | .bool t => some (if t then a else b)
  | _ => none
theorem pick_true {a b : AV} : pickA (.bool true) a b = some a := rfl
theorem pick_false {a b : AV} : pickA (.bool false) a b = some b := rfl
theorem pick_bool {t : Bool} {a b : AV} : pickA (.bool t) a b = some (if t = true then a else b) := rfl
def loadP (P : Program) (t : TypeId) (H : Heap) (v : AV) : Option AV := match v with
  | .ptr id off ver => loadA P t H id off ver
  | _ => none
def storeP (P : Program) (t : TypeId) (H : Heap) (v x : AV) : Option Heap := match v with
  | .ptr id off ver => storeA P t H id off ver x
  | _ => none
def nilCkA (v : AV) : Option AV := match v with
  | .ptr id off ver => some (.ptr id off ver)
  | .fn f c => some (.fn f c)
  | _ => none
theorem nilCk_ptr {id off ver : Nat} : nilCkA (.ptr id off ver) = some (.ptr id off ver) := rfl
def extrA (v : AV) (i : Nat) : Option AV := match v with
  | .tup vs => vs[i]?
  | _ => none
theorem extr0 {a : AV} {l : List AV} : extrA (.tup (a :: l)) 0 = some a := rfl
theorem extr1 {a b : AV} {l : List AV} : extrA (.tup (a :: b :: l)) 1 = some b := rfl
theorem extr2 {a b c : AV} {l : List AV} : extrA (.tup (a :: b :: c :: l)) 2 = some c := rfl
def allocA (o : Option AV) (t : TypeId) (H : Heap) : Option (AV × Heap) := o.map fun z => (.ptr H.length 0 z.cells.length, H ++ [.cells z.cells t 0 false])
theorem alloc_some {z : AV} {t : TypeId} {H : Heap} : allocA (some z) t H = some (.ptr H.length 0 z.cells.length, H ++ [.cells z.cells t 0 false]) := rfl
def boxA (v : AV) (t : TypeId) (H : Heap) : Option (AV × Heap) := if v.isDead = true then none else some (.ptr H.length 0 v.cells.length, H ++ [.cells v.cells t 0 false])
theorem box_live {v : AV} {t : TypeId} {H : Heap} (h : v.isDead = false) : boxA v t H = some (.ptr H.length 0 v.cells.length, H ++ [.cells v.cells t 0 false]) := by
  unfold boxA; rw [if_neg (by simp [h])]
theorem box_agg {l : List AV} {t : TypeId} {H : Heap} : boxA (.agg l) t H = some (.ptr H.length 0 l.length, H ++ [.cells l t 0 false]) := rfl
theorem box_int {k : IntKind} {n : Int} {t : TypeId} {H : Heap} : boxA (.int k n) t H = some (.ptr H.length 0 1, H ++ [.cells [.int k n] t 0 false]) := rfl
theorem box_bool {b : Bool} {t : TypeId} {H : Heap} : boxA (.bool b) t H = some (.ptr H.length 0 1, H ++ [.cells [.bool b] t 0 false]) := rfl

section
variable {C : Ctx} {ρ : SE} {H : Heap} {D : SD} {N R : SQ} {X : Nat → SQ} {d : Option Tmp}
theorem upO_some {t : Tmp} {v : AV} : upO ρ (some t) v = up ρ t v := rfl
theorem upO_none {v : AV} : upO ρ none v = ρ := rfl
theorem up_get {d t : Nat} {v : AV} : up ρ d v t = if t = d then v else ρ t := rfl
theorem ope_tmp {t : Nat} : ope ρ (.tmp t) = ρ t := rfl
theorem ope_const {v : Value} : ope ρ (.const v) = ofV v := rfl
theorem ope_func {f : FuncId} : ope ρ (.func f) = .fn f [] := rfl
theorem ofV_int {k : IntKind} {n : Int} : ofV (.int k n) = .int k n := rfl
theorem ofV_bool {b : Bool} : ofV (.bool b) = .bool b := rfl
theorem ofV_nilsl : ofV (.slice none 0 0) = .nilsl := rfl
theorem ofV_nilp : ofV (.pointer none) = .nilp := rfl
theorem ofV_nilm : ofV (.map none) = .nilm := rfl
theorem ofV_str {s : ByteArray} : ofV (.string s) = .str s := rfl
theorem ofV_agg {a : List Value} : ofV (.agg ⟨a⟩) = .agg (a.map ofV1) := rfl
theorem ofV1_int {k : IntKind} {n : Int} : ofV1 (.int k n) = .int k n := rfl
theorem ofV1_bool {b : Bool} : ofV1 (.bool b) = .bool b := rfl

/-- A call of a function value. -/
def Cl (C : Ctx) (f : AV) (args : List AV) (H : Heap) (Q : AV → Heap → Prop) : Prop := match f with
  | .fn g cap => F C g (args ++ cap) H Q
  | _ => False

def WL := @WS
theorem UN_WL {c : SC} : UN (WL C c N X R ρ H D) = WS C c N X R ρ H D := rfl
theorem WS_skip : WS C .skip N X R ρ H D = N ρ H D := rfl
theorem WS_reg {l : List SO} : WS C (.reg l []) N X R ρ H D = wpo C l ρ H D N := rfl
/-- What stands behind a region of loose looks. -/
def thenL (C : Ctx) (l : List SO) (ps : List (Nat × Nat)) (N : SQ) (L : List (SE × Heap)) : SQ := fun ρ H D => (∀ q ∈ ps, sameAt C l L q) ∧ N ρ H D
theorem WS_regL {l : List SO} {p : Nat × Nat} {ps : List (Nat × Nat)} : WS C (.reg l (p :: ps)) N X R ρ H D = wpoL C l [] ρ H D (thenL C l (p :: ps) N) := rfl
theorem thenL_eq {l : List SO} {L : List (SE × Heap)} {ps : List (Nat × Nat)} : thenL C l ps N L ρ H D = ((∀ q ∈ ps, sameAt C l L q) ∧ N ρ H D) := rfl
theorem WS_seq {a b : SC} : WS C (.seq a b) N X R ρ H D = WS C a (WS C b N X R) X R ρ H D := rfl
theorem WS_cond {c : Operand} {a b : SC} : WS C (.cond c a b) N X R ρ H D = BrV (ope ρ c) (WL C a N X R ρ H D) (WL C b N X R ρ H D) := rfl
/-- Exits, by a block. -/
def XB (id : Nat) (N : SQ) (X : Nat → SQ) (j : Nat) : SQ := if j = id then N else X j
theorem WS_block {id : Nat} {c : SC} : WS C (.block id c) N X R ρ H D = WS C c N (XB id N X) R ρ H D := rfl
theorem XB_eq {id j : Nat} : XB id N X j = if j = id then N else X j := rfl
theorem WS_exit {j : Nat} : WS C (.exit j) N X R ρ H D = X j ρ H D := rfl
theorem WS_ret : WS C .ret N X R ρ H D = R ρ H D := rfl

end

/-- Steps. -/
def PS (C : Ctx) (o : Option AV) (d : Option Tmp) (l : List SO) (ρ : SE) (H : Heap) (D : SD) (Q : SQ) : Prop := ∃ v, o = some v ∧ wpo C l (upO ρ d v) H D Q
def ES (C : Ctx) (o : Option (AV × Heap)) (d : Option Tmp) (l : List SO) (ρ : SE) (H : Heap) (D : SD) (Q : SQ) : Prop := ∃ v H', o = some (v, H') ∧ wpo C l (upO ρ d v) H' D Q
def HS (C : Ctx) (o : Option Heap) (d : Option Tmp) (l : List SO) (ρ : SE) (H : Heap) (D : SD) (Q : SQ) : Prop := ∃ H', o = some H' ∧ wpo C l (upO ρ d (.tup [])) H' D Q
def CS (C : Ctx) (f : AV) (args : List AV) (d : Option Tmp) (l : List SO) (ρ : SE) (H : Heap) (D : SD) (Q : SQ) : Prop := Cl C f args H fun v H' => wpo C l (upO ρ d v) H' D Q
def wpZ := @wpo
def wpS (C : Ctx) (d : Option Tmp) (l : List SO) (ρ : SE) (H : Heap) (D : SD) (Q : SQ) : Prop := wpo C l (upO ρ d (.tup [])) H D Q
section
variable {C : Ctx} {ρ : SE} {H : Heap} {D : SD} {Q : SQ} {l : List SO} {d : Option Tmp}
theorem wpo_nil : wpo C [] ρ H D Q = Q ρ H D := rfl
theorem UN_Z : UN (wpZ C l ρ H D Q) = wpo C l ρ H D Q := rfl
theorem UN_S : UN (wpS C d l ρ H D Q) = wpo C l (upO ρ d (.tup [])) H D Q := rfl
theorem wpo_guard {op : Op} {g : Tmp} {w : Bool} : wpo C (⟨d, op, some (g, w)⟩ :: l) ρ H D Q = Gd (ρ g) w (wpZ C (⟨d, op, none⟩ :: l) ρ H D Q) (wpS C d l ρ H D Q) := by
  simp only [wpo, Gd, wpZ, wpS]
  all_goals (cases ρ g <;> rfl)
theorem PS_some {v : AV} : PS C (some v) d l ρ H D Q = wpo C l (upO ρ d v) H D Q := by
  refine propext ⟨?_, fun h => ⟨v, rfl, h⟩⟩
  rintro ⟨v', h, hk⟩; cases h; exact hk
theorem ES_some {v : AV} {H' : Heap} : ES C (some (v, H')) d l ρ H D Q = wpo C l (upO ρ d v) H' D Q := by
  refine propext ⟨?_, fun h => ⟨v, H', rfl, h⟩⟩
  rintro ⟨v', H', h, hk⟩; cases h; exact hk
theorem HS_some {H' : Heap} : HS C (some H') d l ρ H D Q = wpo C l (upO ρ d (.tup [])) H' D Q := by
  refine propext ⟨?_, fun h => ⟨H', rfl, h⟩⟩
  rintro ⟨v', h, hk⟩; cases h; exact hk
theorem PS_map {o : Option AV} : ES C (o.map (·, H)) d l ρ H D Q = PS C o d l ρ H D Q := by
  cases o with
  | none => simp only [ES, PS, Option.map_none]; refine propext ⟨?_, ?_⟩ <;> (rintro ⟨_, h⟩; simp at h)
  | some v => rw [PS_some]; exact ES_some
theorem HS_map {o : Option Heap} : ES C (o.map (AV.tup [], ·)) d l ρ H D Q = HS C o d l ρ H D Q := by
  cases o with
  | none => simp only [ES, HS, Option.map_none]; refine propext ⟨?_, ?_⟩ <;> (rintro ⟨_, h⟩; simp at h)
  | some v => rw [HS_some]; exact ES_some
theorem CS_fn {g : FuncId} {args : List AV} {Q' : AV → Heap → Prop} (h : F C g args H Q') (hk : ∀ v H', Q' v H' → wpo C l (upO ρ d v) H' D Q) : CS C (.fn g []) args d l ρ H D Q := by
  simp only [CS, Cl, List.append_nil]; exact h.mono hk
theorem wp_call {f : Operand} {args : List Operand} {ts : Array TypeId} : wpo C (⟨d, .call { callee := .value f, args := ⟨args⟩, argTypes := ts }, none⟩ :: l) ρ H D Q = CS C (ope ρ f) (args.map (ope ρ)) d l ρ H D Q := by
  simp only [wpo, wp1, CS, Cl]
  all_goals (cases ope ρ f <;> rfl)
theorem wp_move {x : Operand} : wpo C (⟨d, .move x, none⟩ :: l) ρ H D Q = wpo C l (upO ρ d (ope ρ x)) H D Q := ES_some (d := d) (H := H)
theorem wp_assign {x : Operand} : wpo C (⟨d, .assign x, none⟩ :: l) ρ H D Q = wpo C l (upO ρ d (ope ρ x)) H D Q := ES_some (d := d) (H := H)
theorem wp_pick {c a b : Operand} : wpo C (⟨d, .pick c a b, none⟩ :: l) ρ H D Q = PS C (pickA (ope ρ c) (ope ρ a) (ope ρ b)) d l ρ H D Q := by
  rw [← PS_map]
  simp only [wpo, wp1, opE, ES, pickA]
  all_goals (cases ope ρ c <;> rfl)
theorem wp_load {t : TypeId} {a : Operand} : wpo C (⟨d, .load t a, none⟩ :: l) ρ H D Q = PS C (loadP C.P t H (ope ρ a)) d l ρ H D Q := by
  rw [← PS_map]
  simp only [wpo, wp1, opE, ES, loadP]
  all_goals (cases ope ρ a <;> rfl)
theorem wp_store {t : TypeId} {a x : Operand} : wpo C (⟨d, .store t a x, none⟩ :: l) ρ H D Q = HS C (storeP C.P t H (ope ρ a) (ope ρ x)) d l ρ H D Q := by
  rw [← HS_map]
  simp only [wpo, wp1, opE, ES, storeP]
  all_goals (cases ope ρ a <;> rfl)
theorem wp_nilCheck {x : Operand} : wpo C (⟨d, .nilCheck x, none⟩ :: l) ρ H D Q = PS C (nilCkA (ope ρ x)) d l ρ H D Q := by
  rw [← PS_map]
  simp only [wpo, wp1, opE, ES, nilCkA]
  all_goals (cases ope ρ x <;> rfl)
theorem wp_extract {x : Operand} {i : Nat} : wpo C (⟨d, .extract x i, none⟩ :: l) ρ H D Q = PS C (extrA (ope ρ x) i) d l ρ H D Q := by
  rw [← PS_map]
  simp only [wpo, wp1, opE, ES, extrA]
  all_goals (cases ope ρ x <;> rfl)
theorem wp_alloc {t : TypeId} : wpo C (⟨d, .alloc t, none⟩ :: l) ρ H D Q = ES C (allocA (zeroA C.P t) t H) d l ρ H D Q := rfl
theorem wp_box {t : TypeId} {x : Operand} : wpo C (⟨d, .box t x, none⟩ :: l) ρ H D Q = ES C (boxA (ope ρ x) t H) d l ρ H D Q := by
  simp only [wpo, wp1, opE, ES, boxA]
  all_goals (cases hx : ope ρ x <;> rfl)
theorem wp_build {t : TypeId} {parts : List (Nat × Operand)} : wpo C (⟨d, .build t ⟨parts⟩, none⟩ :: l) ρ H D Q = PS C (buildA C.P t (parts.map fun p => (p.1, ope ρ p.2))) d l ρ H D Q := PS_map
theorem wp_buildSlice {t : TypeId} {n : Nat} {parts : List (Nat × Operand)} : wpo C (⟨d, .buildSlice t n ⟨parts⟩, none⟩ :: l) ρ H D Q = ES C (buildSliceA C.P t n (parts.map fun p => (p.1, ope ρ p.2)) H) d l ρ H D Q := rfl
theorem wp_binOp {op : BinOp} {t u : TypeId} {x y : Operand} : wpo C (⟨d, .binOp op t x y u, none⟩ :: l) ρ H D Q = PS C (binA C op t (ope ρ x) (ope ρ y)) d l ρ H D Q := PS_map
theorem wp_unOp {op : UnOp} {t : TypeId} {x : Operand} : wpo C (⟨d, .unOp op t x, none⟩ :: l) ρ H D Q = PS C (unA op (ope ρ x)) d l ρ H D Q := PS_map
theorem wp_convert {s t : TypeId} {x : Operand} : wpo C (⟨d, .convert s t x, none⟩ :: l) ρ H D Q = PS C (convA C.P s t (ope ρ x)) d l ρ H D Q := PS_map
theorem wp_makeMap {t : TypeId} : wpo C (⟨d, .makeMap t none, none⟩ :: l) ρ H D Q = wpo C l (upO ρ d (.map H.length)) (H ++ [.map []]) D Q := ES_some (d := d) (H := H)
theorem wp_makeSlice {t : TypeId} {n c : Operand} : wpo C (⟨d, .makeSlice t n c, none⟩ :: l) ρ H D Q = ES C (makeSliceA C.P t (ope ρ n) (ope ρ c) H) d l ρ H D Q := rfl
theorem wp_slice {t : TypeId} {x : Operand} {lo hi : Option Operand} : wpo C (⟨d, .slice t x lo hi none, none⟩ :: l) ρ H D Q = PS C (sliceA C.P t (ope ρ x) (lo.map (ope ρ)) (hi.map (ope ρ))) d l ρ H D Q := PS_map
theorem wp_fieldAddr {s : TypeId} {x : Operand} {f : Nat} : wpo C (⟨d, .fieldAddr s x f, none⟩ :: l) ρ H D Q = PS C (fieldAddrA C.P s (ope ρ x) f) d l ρ H D Q := PS_map
theorem wp_field {s : TypeId} {x : Operand} {f : Nat} : wpo C (⟨d, .field s x f, none⟩ :: l) ρ H D Q = PS C (fieldA C.P s (ope ρ x) f) d l ρ H D Q := PS_map
theorem wp_indexAddr {t : TypeId} {x i : Operand} : wpo C (⟨d, .indexAddr t x i, none⟩ :: l) ρ H D Q = PS C (indexAddrA C.P t (ope ρ x) (ope ρ i)) d l ρ H D Q := PS_map
theorem wp_index {t : TypeId} {x i : Operand} : wpo C (⟨d, .index t x i, none⟩ :: l) ρ H D Q = PS C (indexA C.P t (ope ρ x) (ope ρ i)) d l ρ H D Q := PS_map
theorem wp_lookup {t : TypeId} {x k : Operand} {ok : Bool} : wpo C (⟨d, .lookup t x k ok, none⟩ :: l) ρ H D Q = PS C (lookupA C t (ope ρ x) (ope ρ k) ok H) d l ρ H D Q := PS_map
theorem wp_mapUpdate {t : TypeId} {m k v : Operand} : wpo C (⟨d, .mapUpdate t m k v, none⟩ :: l) ρ H D Q = HS C (mapUpdateA C t (ope ρ m) (ope ρ k) (ope ρ v) H) d l ρ H D Q := HS_map
theorem wp_insert {t : TypeId} {m k v : Operand} : wpo C (⟨d, .insert t m k v, none⟩ :: l) ρ H D Q = HS C (mapUpdateA C t (ope ρ m) (ope ρ k) (ope ρ v) H) d l ρ H D Q := HS_map
theorem wp_len {x : Operand} {t : TypeId} : wpo C (⟨d, .call { callee := .builtin .len, args := ⟨[x]⟩, argTypes := ⟨[t]⟩ }, none⟩ :: l) ρ H D Q = PS C (lenA C.P t (ope ρ x)) d l ρ H D Q := PS_map
theorem wp_append {x y : Operand} {t : TypeId} : wpo C (⟨d, .call { callee := .builtin .append, args := ⟨[x, y]⟩, argTypes := ⟨[t, t]⟩ }, none⟩ :: l) ρ H D Q = ES C (appendA C.P t t (ope ρ x) (ope ρ y) H) d l ρ H D Q := by
  have : builtinA C.P .append ⟨[t, t]⟩ [ope ρ x, ope ρ y] H = appendA C.P t t (ope ρ x) (ope ρ y) H := by simp [builtinA]
  simp only [wpo, wp1, opE, ES, List.map, this]
theorem wp_min {x y : Operand} {ts : Array TypeId} : wpo C (⟨d, .call { callee := .builtin .min, args := ⟨[x, y]⟩, argTypes := ts }, none⟩ :: l) ρ H D Q = PS C (minA (ope ρ x) (ope ρ y)) d l ρ H D Q := PS_map
end


end Go.Va
end

section
set_option linter.unusedSimpArgs false
set_option linter.unusedVariables false
set_option linter.unusedSectionVars false
namespace Go.Va

def slimF (P : Program) (f : FuncId) : Option (Nat × List ResultVar × SC) :=
  match P.funcs[f]? with
  | some fn => match fn.body with
    | some c => if fn.name = "runtime.NumGoroutine" then none else match slim fn.ntmps c with
      | some s => some (fn.ntmps, fn.results.toList, s)
      | none => none
    | none => none
  | none => none

theorem F_slim {C : Ctx} {f : FuncId} {W : Nat} {rs : List ResultVar} {sc : SC} {args : List AV} {H : Heap} {Q : AV → Heap → Prop}
    (hf : slimF C.P f = some (W, rs, sc)) (ha : Nat.ble args.length W = true)
    (h : ∀ ρ : SE, AGs ρ 0 args → WS C sc (Fin C.P rs Q) (fun _ _ _ _ => False) (Fin C.P rs Q) ρ H []) (ht : C.T.contains f = false := by rfl) : F C f args H Q := by
  unfold slimF at hf
  split at hf
  · rename_i fn hfn
    split at hf
    · rename_i c hc
      split at hf
      · cases hf
      · rename_i hn
        split at hf
        · rename_i s hs
          cases hf
          exact F_of ht hfn hc hn hs rfl rfl (Nat.le_of_ble_eq_true ha) h
        · cases hf
    · cases hf
  · cases hf

section
variable {P : Program} {Q : AV → Heap → Prop} {ρ : SE} {H : Heap}
theorem Fin1 {a : Tmp} : Fin P [.tmp a] Q ρ H [] = Q (ρ a) H := by
  refine propext ⟨?_, fun h => ⟨rfl, _, rfl, h⟩⟩
  rintro ⟨-, v, h, hq⟩; cases h; exact hq
theorem Fin2 {a b : Tmp} : Fin P [.tmp a, .tmp b] Q ρ H [] = Q (.tup [ρ a, ρ b]) H := by
  refine propext ⟨?_, fun h => ⟨rfl, _, rfl, h⟩⟩
  rintro ⟨-, v, h, hq⟩; cases h; exact hq
theorem Fin3 {a b c : Tmp} : Fin P [.tmp a, .tmp b, .tmp c] Q ρ H [] = Q (.tup [ρ a, ρ b, ρ c]) H := by
  refine propext ⟨?_, fun h => ⟨rfl, _, rfl, h⟩⟩
  rintro ⟨-, v, h, hq⟩; cases h; exact hq
/-- A value that is there. -/
def GotV (o : Option AV) (Q : AV → Prop) : Prop := ∃ v, o = some v ∧ Q v
theorem GotV_some {v : AV} {Q : AV → Prop} : GotV (some v) Q = Q v := by
  refine propext ⟨?_, fun h => ⟨v, rfl, h⟩⟩
  rintro ⟨v', h, hq⟩; cases h; exact hq
theorem resE_cell {a : Tmp} {t : TypeId} : resE P ρ H (.cell a t) = loadP P t H (ρ a) := by
  simp only [resE, loadP]
  all_goals (cases ρ a <;> rfl)
theorem FinC {a : Tmp} {t : TypeId} : Fin P [.cell a t] Q ρ H [] = GotV (loadP P t H (ρ a)) fun v => Q v H := by
  simp only [Fin, resW, resE_cell, GotV, true_and]
theorem FinC2 {a b : Tmp} {t : TypeId} : Fin P [.cell a t, .tmp b] Q ρ H [] = GotV (loadP P t H (ρ a)) fun v => Q (.tup [v, ρ b]) H := by
  simp only [Fin, resW, resL, resE_cell, GotV, true_and]
  cases loadP P t H (ρ a) with
  | none => simp
  | some v => simp [resE]
end

end Go.Va
end

section
set_option linter.unusedSimpArgs false
set_option linter.unusedVariables false
set_option linter.unusedSectionVars false
namespace Go.Va

section
variable {C : Ctx} {t : TypeId} {k : IntKind} {a b : Int}
theorem bin_add : binA C .add t (.int k a) (.int k b) = some (.int k (k.wrap (a + b))) := by simp [binA]
theorem bin_sub : binA C .sub t (.int k a) (.int k b) = some (.int k (k.wrap (a - b))) := by simp [binA]
theorem bin_mul : binA C .mul t (.int k a) (.int k b) = some (.int k (k.wrap (a * b))) := by simp [binA]
theorem bin_quo (h : b ≠ 0) : binA C .quo t (.int k a) (.int k b) = some (.int k (k.wrap (a.tdiv b))) := by simp [binA, h]
theorem bin_rem (h : b ≠ 0) : binA C .rem t (.int k a) (.int k b) = some (.int k (a.tmod b)) := by simp [binA, h]
theorem bin_and : binA C .and t (.int k a) (.int k b) = some (.int k (k.wrap ((BitVec.ofInt k.bits a &&& BitVec.ofInt k.bits b).toNat))) := by simp [binA]
theorem bin_or : binA C .or t (.int k a) (.int k b) = some (.int k (k.wrap ((BitVec.ofInt k.bits a ||| BitVec.ofInt k.bits b).toNat))) := by simp [binA]
theorem bin_xor : binA C .xor t (.int k a) (.int k b) = some (.int k (k.wrap ((BitVec.ofInt k.bits a ^^^ BitVec.ofInt k.bits b).toNat))) := by simp [binA]
theorem bin_shl {k' : IntKind} (h : 0 ≤ b) : binA C .shl t (.int k a) (.int k' b) = some (.int k (k.wrap (a * 2 ^ (min b.toNat k.bits)))) := by
  simp only [binA]; rw [if_neg (by omega)]
theorem bin_shr {k' : IntKind} (h : 0 ≤ b) : binA C .shr t (.int k a) (.int k' b) = some (.int k (a.fdiv (2 ^ (min b.toNat k.bits)))) := by
  simp only [binA]; rw [if_neg (by omega)]
theorem bin_eql : binA C .eql t (.int k a) (.int k b) = some (.bool (decide (a = b))) := by
  simp only [binA, if_true]; congr
theorem bin_neq : binA C .neq t (.int k a) (.int k b) = some (.bool (!decide (a = b))) := by
  simp only [binA, if_true]; congr
theorem bin_lss : binA C .lss t (.int k a) (.int k b) = some (.bool (decide (a < b))) := by simp [binA]
theorem bin_leq : binA C .leq t (.int k a) (.int k b) = some (.bool (decide (a ≤ b))) := by simp [binA]
theorem bin_gtr : binA C .gtr t (.int k a) (.int k b) = some (.bool (decide (b < a))) := by simp [binA]
theorem bin_geq : binA C .geq t (.int k a) (.int k b) = some (.bool (decide (b ≤ a))) := by simp [binA]
theorem un_not {x : Bool} : unA .not (.bool x) = some (.bool !x) := rfl
theorem un_neg : unA .neg (.int k a) = some (.int k (k.wrap (0 - a))) := rfl
end

/-- Of a type: aggregate or not, and its cells. -/
def shape (P : Program) (t : TypeId) : Option (Bool × Nat) :=
  match P.info? t, P.underlying t with
  | some i, some d => (match d with
    | .struct _ => some (true, i.size)
    | .array _ _ => some (true, i.size)
    | _ => some (false, i.size))
  | _, _ => none

def ldO : Option (Bool × Nat) → Option AObj → Nat → Nat → Option AV
  | some (ag, n), some (.cells c _ born _), off, ver =>
    if born ≤ ver ∧ ver ≤ c.length then
      if ag = true then (if off + n ≤ ver then some (.agg ((c.drop off).take n)) else none) else (if off < ver then c[off]? else none)
    else none
  | _, _, _, _ => none

theorem loadP_ptr {P : Program} {t : TypeId} {H : Heap} {id off ver : Nat} : loadP P t H (.ptr id off ver) = ldO (shape P t) H[id]? off ver := by
  simp only [loadP, loadA, shape]
  cases H[id]? with
  | none => cases P.info? t <;> cases P.underlying t <;> simp [ldO] <;> rename_i d <;> cases d <;> rfl
  | some o =>
    cases o with
    | map es => cases P.info? t <;> cases P.underlying t <;> simp [ldO] <;> rename_i d <;> cases d <;> rfl
    | cells c e born ro =>
      cases P.info? t <;> cases P.underlying t <;> simp [ldO]
      rename_i d
      cases d <;> simp [ldO]

theorem ldO_ag {n off ver : Nat} {c : List AV} {e : TypeId} {born : Nat} {ro : Bool} (h1 : born ≤ ver) (h2 : ver ≤ c.length) (h3 : off + n ≤ ver) : ldO (some (true, n)) (some (.cells c e born ro)) off ver = some (.agg ((c.drop off).take n)) := by
  simp only [ldO]; rw [if_pos ⟨h1, h2⟩]; simp only [if_true]; rw [if_pos h3]
theorem ldO_1 {n off ver : Nat} {c : List AV} {e : TypeId} {born : Nat} {ro : Bool} (h1 : born ≤ ver) (h2 : ver ≤ c.length) (h3 : off < ver) : ldO (some (false, n)) (some (.cells c e born ro)) off ver = c[off]? := by
  simp only [ldO]; rw [if_pos ⟨h1, h2⟩, if_neg (by decide), if_pos h3]

/-- The cells that a type takes. -/
def tSz (P : Program) (t : TypeId) : Option Nat := (P.info? t).map (·.size)
def stO : Option Nat → Option AObj → Nat → Nat → AV → Option AObj
  | some n, some (.cells c e born ro), off, ver, v =>
    if ro = false ∧ ver = c.length ∧ born ≤ ver ∧ v.cells.length = n ∧ off + n ≤ ver ∧ v.cells.all AV.one then some (.cells (putAll c off v.cells) e ver ro) else none
  | _, _, _, _, _ => none
theorem storeP_ptr {P : Program} {t : TypeId} {H : Heap} {id off ver : Nat} {v : AV} : storeP P t H (.ptr id off ver) v = (stO (tSz P t) H[id]? off ver v).map fun o => H.set id o := by
  simp only [storeP, storeA, tSz]
  cases hh : H[id]? with
  | none => cases P.info? t <;> simp [stO]
  | some o =>
    cases o with
    | map es => cases P.info? t <;> simp [stO]
    | cells c e born ro =>
      cases P.info? t with
      | none => simp [stO]
      | some i =>
        simp only [stO, Option.map_some]
        split <;> rfl
theorem stO_cells {n off ver : Nat} {c : List AV} {e : TypeId} {born : Nat} {v : AV} (h1 : ver = c.length) (h2 : born ≤ ver) (h3 : v.cells.length = n) (h4 : off + n ≤ ver) (h5 : v.cells.all AV.one = true) :
    stO (some n) (some (.cells c e born false)) off ver v = some (.cells (putAll c off v.cells) e ver false) := by
  show (if _ then _ else _) = _; rw [if_pos ⟨rfl, h1, h2, h3, h4, h5⟩]

def fOff (P : Program) (s : TypeId) (f : Nat) : Option Nat :=
  match P.underlying s with
  | some (.struct fields) => (fields[f]?).bind fun fd => (P.info? fd.type).bind fun i => if i.size ≠ 0 then some fd.offset else none
  | _ => none
theorem fieldAddr_ptr {P : Program} {s : TypeId} {f id off ver : Nat} : fieldAddrA P s (.ptr id off ver) f = (fOff P s f).map fun o => .ptr id (off + o) ver := by
  simp only [fieldAddrA, fOff]
  cases P.underlying s with
  | none => rfl
  | some d =>
    cases d <;> try rfl
    rename_i fields
    simp only
    cases fields[f]? with
    | none => rfl
    | some fd =>
      simp only [Option.bind_some]
      cases P.info? fd.type with
      | none => rfl
      | some i => simp only [Option.bind_some]; split <;> rfl

/-- A slice's or array's elements: slice or not, how many, their cells. -/
def ixK (P : Program) (t : TypeId) : Option (Bool × Nat × Nat) :=
  match P.underlying t with
  | some (.slice e) => (P.info? e).map fun j => (true, 0, j.size)
  | some (.array n e) => (P.info? e).map fun j => (false, n, j.size)
  | _ => none
def ixO : Option (Bool × Nat × Nat) → AV → AV → Option AV
  | some (true, _, s), .sl id off len ver sz, .int _ n => if 0 ≤ n ∧ n < len ∧ s = sz then some (.ptr id ((off + n.toNat) * sz) ver) else none
  | some (false, m, s), .ptr id off ver, .int _ n => if 0 ≤ n ∧ n < m then some (.ptr id (off + n.toNat * s) ver) else none
  | _, _, _ => none
theorem indexAddr_eq {P : Program} {t : TypeId} {x i : AV} : indexAddrA P t x i = ixO (ixK P t) x i := by
  unfold indexAddrA ixK
  cases P.underlying t with
  | none => simp [ixO]
  | some d =>
    cases d <;> simp [ixO]
    all_goals
      rename_i e
      cases hP : P.info? e <;> cases x <;> cases i <;> simp [ixO, hP]

theorem ixO_arr {id off ver m s : Nat} {k : IntKind} {n : Int} (h0 : 0 ≤ n) (h1 : n < m) : ixO (some (false, m, s)) (.ptr id off ver) (.int k n) = some (.ptr id (off + n.toNat * s) ver) := by
  simp only [ixO]; rw [if_pos ⟨h0, h1⟩]

/-- What a whole number is turned to. -/
def cvK (P : Program) (s d : TypeId) : Option IntKind := match P.underlying s, P.underlying d with
  | some (.int _), some (.int k) => some k
  | _, _ => none
theorem conv_int {P : Program} {s d : TypeId} {k : IntKind} {n : Int} : convA P s d (.int k n) = (cvK P s d).map fun k => .int k (k.wrap n) := by
  unfold convA cvK
  cases P.underlying s with
  | none => rfl
  | some x => cases P.underlying d with
    | none => cases x <;> rfl
    | some y => cases x <;> cases y <;> rfl

/-- Is it a type of slices? -/
def isSl (P : Program) (t : TypeId) : Bool := match P.underlying t with
  | some (.slice _) => true
  | _ => false

/-- The address of a slice's element. -/
def elemP : AV → Nat → AV
  | .sl id off _ ver sz, i => .ptr id ((off + i) * sz) ver
  | _, _ => .dead

/-- A slice shows a list of elements, of sz cells each. -/
def Shows (H : Heap) (v : AV) (sz : Nat) (L : List (List AV)) : Prop :=
  (∀ x ∈ L, x.length = sz) ∧ match v with
  | .nilsl => L = []
  | .esl => L = []
  | .sl id off len ver z => z = sz ∧ len = L.length ∧ ∃ c e born ro, H[id]? = some (.cells c e born ro) ∧ born ≤ ver ∧ ver ≤ c.length ∧ (off + len) * sz ≤ ver ∧ ∀ i (h : i < L.length), (c.drop ((off + i) * sz)).take sz = L[i]
  | _ => False

/-- All objects stay as they are. -/
def Ext (H H' : Heap) : Prop := ∀ (i : Nat) (o : AObj), H[i]? = some o → H'[i]? = some o
theorem Ext.refl {H : Heap} : Ext H H := fun _ _ h => h
theorem Ext.trans {H H' H'' : Heap} (h : Ext H H') (g : Ext H' H'') : Ext H H'' := fun i o e => g i o (h i o e)
theorem Ext.app {H H' : Heap} {l : List AObj} (h : Ext H H') : Ext H (H' ++ l) := fun i o e => by
  have := h i o e
  rw [List.getElem?_append_left (by rw [List.getElem?_eq_some_iff] at this; exact this.1)]; exact this
theorem Ext.set {H H' : Heap} {k : Nat} {o : AObj} (h : Ext H H') (hk : H.length ≤ k) : Ext H (H'.set k o) := fun i o' e => by
  have hi : i < H.length := by rw [List.getElem?_eq_some_iff] at e; exact e.1
  rw [List.getElem?_set_ne (by omega)]; exact h i o' e
theorem Ext.len {H H' : Heap} (h : Ext H H') : H.length ≤ H'.length := by
  rcases Nat.lt_or_ge H'.length H.length with hl | hl
  · have h1 : H[H'.length]? = some (H[H'.length]'hl) := List.getElem?_eq_getElem hl
    have h2 := h _ _ h1
    rw [List.getElem?_eq_none (Nat.le_refl _)] at h2; cases h2
  · exact hl

theorem Shows.ext {H H' : Heap} {v : AV} {sz : Nat} {L : List (List AV)} (h : Shows H v sz L) (he : Ext H H') : Shows H' v sz L := by
  refine ⟨h.1, ?_⟩
  have := h.2
  cases v <;> try exact this
  obtain ⟨h1, h2, c, e, born, ro, h3, h4⟩ := this
  exact ⟨h1, h2, c, e, born, ro, he _ _ h3, h4⟩

theorem Shows.len {H : Heap} {v : AV} {sz : Nat} {L : List (List AV)} (h : Shows H v sz L) : slLen v = L.length := by
  have := h.2
  cases v <;> try exact this.elim
  · have e : L = [] := this
    subst e; rfl
  · have e : L = [] := this
    subst e; rfl
  · exact this.2.1

theorem Shows.lenA {P : Program} {t : TypeId} {H : Heap} {v : AV} {sz : Nat} {L : List (List AV)} (h : Shows H v sz L) (ht : isSl P t = true) : lenA P t v = some (.int .i64 L.length) := by
  rw [← h.len]
  have := h.2
  unfold isSl at ht
  split at ht
  · rename_i d hd
    unfold Va.lenA
    rw [hd]
    cases v <;> first | exact this.elim | rfl
  · cases ht

theorem Shows.ix {H : Heap} {v : AV} {sz m : Nat} {L : List (List AV)} {k : IntKind} {i : Nat} (h : Shows H v sz L) (hi : i < L.length) : ixO (some (true, m, sz)) v (.int k i) = some (elemP v i) := by
  have := h.2
  cases v <;> try exact this.elim
  · have e : L = [] := this
    subst e; simp at hi
  · have e : L = [] := this
    subst e; simp at hi
  · obtain ⟨h1, h2, h3⟩ := this
    simp only [ixO, elemP]
    rw [if_pos ⟨by omega, by omega, h1.symm⟩]; rfl

theorem Shows.ld {P : Program} {t : TypeId} {H H' : Heap} {v : AV} {sz : Nat} {L : List (List AV)} {i : Nat} (h : Shows H v sz L) (he : Ext H H') (ht : shape P t = some (true, sz)) (hi : i < L.length) : loadP P t H' (elemP v i) = some (.agg L[i]) := by
  have := (h.ext he).2
  cases v <;> try exact this.elim
  · have e : L = [] := this
    subst e; simp at hi
  · have e : L = [] := this
    subst e; simp at hi
  · obtain ⟨h1, h2, c, e, born, ro, h3, h4, h5, h6, h7⟩ := this
    simp only [elemP]
    rw [loadP_ptr, ht, h3]
    rename_i id off len ver z
    subst h1
    have : (off + i) * z + z ≤ (off + len) * z := by
      rw [← Nat.succ_mul]; exact Nat.mul_le_mul_right _ (by omega)
    rw [ldO_ag h4 h5 (by omega), h7 i hi]

theorem Shows.ld1 {P : Program} {t : TypeId} {H H' : Heap} {v : AV} {n : Nat} {L : List (List AV)} {i : Nat} {x : AV} (h : Shows H v 1 L) (he : Ext H H') (ht : shape P t = some (false, n)) (hi : L[i]? = some [x]) : loadP P t H' (elemP v i) = some x := by
  have := (h.ext he).2
  obtain ⟨hi', hx⟩ := List.getElem?_eq_some_iff.mp hi
  cases v <;> try exact this.elim
  · have e : L = [] := this
    subst e; simp at hi
  · have e : L = [] := this
    subst e; simp at hi
  · obtain ⟨h1, h2, c, e, born, ro, h3, h4, h5, h6, h7⟩ := this
    simp only [elemP]
    rw [loadP_ptr, ht, h3]
    rename_i id off len ver z
    subst h1
    rw [ldO_1 h4 h5 (by omega)]
    have h8 := h7 i hi'
    rw [hx] at h8
    rw [Nat.mul_one] at h8 ⊢
    have : ((c.drop (off + i)).take 1)[0]? = some x := by rw [h8]; rfl
    rw [List.getElem?_take_of_lt (by omega), List.getElem?_drop] at this
    exact this

/-- Heap terms. -/
theorem hp_get {H l : Heap} {k : Nat} : (H ++ l)[H.length + k]? = l[k]? := by
  rw [List.getElem?_append_right (by omega), Nat.add_sub_cancel_left]
theorem hp_get0 {H l : Heap} : (H ++ l)[H.length]? = l[0]? := hp_get (k := 0)
theorem hp_set {H l : Heap} {k : Nat} {o : AObj} : (H ++ l).set (H.length + k) o = H ++ l.set k o := by
  rw [List.set_append_right _ _ (by omega), Nat.add_sub_cancel_left]
theorem hp_set0 {H l : Heap} {o : AObj} : (H ++ l).set H.length o = H ++ l.set 0 o := hp_set (k := 0)
theorem cells_agg {l : List AV} : (AV.agg l).cells = l := rfl
theorem cells_int {k : IntKind} {n : Int} : (AV.int k n).cells = [.int k n] := rfl
theorem cells_bool {b : Bool} : (AV.bool b).cells = [.bool b] := rfl
theorem cells_nilsl : AV.nilsl.cells = [.nilsl] := rfl
theorem putAll_nil {c : List AV} {o : Nat} : putAll c o [] = c := rfl
theorem putAll_cons {c : List AV} {o : Nat} {v : AV} {vs : List AV} : putAll c o (v :: vs) = putAll (c.set o v) (o + 1) vs := rfl
theorem one_int {k : IntKind} {n : Int} : (AV.int k n).one = true := rfl
theorem one_bool {b : Bool} : (AV.bool b).one = true := rfl
theorem dead_agg {l : List AV} : (AV.agg l).isDead = false := rfl
theorem dead_int {k : IntKind} {n : Int} : (AV.int k n).isDead = false := rfl

end Go.Va
end

section
set_option linter.unusedSimpArgs false
set_option linter.unusedVariables false
set_option linter.unusedSectionVars false
namespace Go.Va

/-- Of a type of slices: the elements' type, their cells and bytes, and a zero's cells. -/
def slT (P : Program) (t : TypeId) : Option (TypeId × Nat × Nat × List AV) :=
  match P.underlying t with
  | some (.slice e) => match P.info? e, zeroA P e with
    | some i, some z => some (e, i.size, i.bytes, z.cells)
    | _, _ => none
  | _ => none

section
variable {P : Program} {t e : TypeId} {sz bytes : Nat} {z : List AV} {H : Heap}

theorem slT_inv (hT : slT P t = some (e, sz, bytes, z)) : P.underlying t = some (.slice e) ∧ ∃ i zz, P.info? e = some i ∧ zeroA P e = some zz ∧ i.size = sz ∧ i.bytes = bytes ∧ zz.cells = z := by
  unfold slT at hT
  split at hT
  · rename_i e' he
    split at hT
    · rename_i i zz h1 h2
      simp only [Option.some.injEq, Prod.mk.injEq] at hT
      obtain ⟨rfl, rfl, rfl, rfl⟩ := hT
      exact ⟨he, i, zz, h1, h2, rfl, rfl, rfl⟩
    · cases hT
  · cases hT

theorem mkSl {k k' : IntKind} {n : Nat} (hT : slT P t = some (e, sz, bytes, z)) (h1 : n ≤ 140737488355328) (h2 : bytes * n ≤ 281474976710656) (h3 : z.length = sz) (h4 : 0 < sz) :
    makeSliceA P t (.int k (n : Int)) (.int k' (n : Int)) H = some (.sl H.length 0 n (n * sz) sz, H ++ [.cells (zeros z n) e 0 false]) := by
  obtain ⟨hu, i, zz, hi, hz, rfl, rfl, rfl⟩ := slT_inv hT
  unfold makeSliceA
  rw [hu]
  simp only [hi, hz]
  have hb : (i.bytes : Int) * n ≤ 2 ^ 48 := by exact_mod_cast h2
  rw [if_pos ⟨by omega, by omega, by omega, hb, h3, h4⟩]
  rw [Int.toNat_natCast]

theorem bldSl1 {v : AV} (hT : slT P t = some (e, sz, bytes, z)) (h3 : z.length = sz) (h4 : 0 < sz) (h5 : sz ≤ 16777216) (hd : v.isDead = false) (hv : v.cells.length = sz) :
    buildSliceA P t 1 [(0, v)] H = some (.sl H.length 0 1 sz sz, H ++ [.cells v.cells e 0 false]) := by
  obtain ⟨hu, i, zz, hi, hz, rfl, rfl, rfl⟩ := slT_inv hT
  unfold buildSliceA
  rw [hu]
  simp only [hi, hz]
  rw [if_pos ⟨by omega, h3, h4⟩]
  have hzl : (zeros zz.cells 1) = zz.cells := by simp [zeros]
  have hput : ∀ (c vs : List AV), vs.length = c.length → putAll c 0 vs = vs := by
    have gen : ∀ (vs pre c : List AV), vs.length = c.length → putAll (pre ++ c) pre.length vs = pre ++ vs := by
      intro vs
      induction vs with
      | nil => intro pre c h; cases c with
        | nil => rfl
        | cons => simp at h
      | cons x xs ih => intro pre c h; cases c with
        | nil => simp at h
        | cons y ys =>
          rw [putAll_cons, List.set_append_right _ _ (Nat.le_refl _), Nat.sub_self, List.set_cons_zero]
          have := ih (pre ++ [x]) ys (by simpa using h)
          simpa using this
    intro c vs h
    exact gen vs [] c h
  rw [hzl]
  simp only [fillA, Nat.zero_mul, Nat.zero_add]
  rw [if_neg (by rw [hd, hv, h3]; simp)]
  simp only [Option.map_some]
  rw [hput _ _ (by rw [hv, h3])]
  simp

theorem slCells_own {id n : Nat} {c : List AV} {born : Nat} {ro : Bool} (h : H[id]? = some (.cells c e born ro)) (hb : born ≤ c.length) (hc : c.length = n * sz) : slCells H (.sl id 0 n (n * sz) sz) = some c := by
  simp only [slCells, h]
  rw [if_pos ⟨by omega, by omega, by simp⟩]
  simp [← hc]

theorem app_own {id n m born : Nat} {c ys : List AV} {y : AV} (hT : slT P t = some (e, sz, bytes, z)) (h3 : z.length = sz) (h4 : 0 < sz) (hid : H[id]? = some (.cells c e born false)) (hc : c.length = n * sz) (hb : born ≤ c.length)
    (hy : slCells H y = some ys) (hl : slLen y = m) (hm : 0 < m) (hys : ys.length = m * sz) (ho : ys.all AV.one = true) (hbd : (n + m) * bytes ≤ 140737488355328) (hbd' : n + m ≤ 140737488355328) :
    appendA P t t (.sl id 0 n (n * sz) sz) y H = some (.sl id 0 (n + m) ((n + m) * sz) sz, H.set id (.cells (c ++ ys) e born false)) := by
  obtain ⟨hu, i, zz, hi, hz, rfl, rfl, rfl⟩ := slT_inv hT
  unfold appendA
  rw [hu]
  simp only [hi, hz, hy, hl]
  rw [if_pos ⟨h3, h4, by rw [hys], ho, hbd, hbd'⟩, if_neg (by omega)]
  simp only [hid]
  have hpos : 0 < ys.length := by rw [hys]; exact Nat.mul_pos hm h4
  rw [if_pos ⟨trivial, trivial, hc.symm, by omega, trivial, trivial, Nat.le_refl _⟩, if_neg (by omega), if_pos hc.symm, ← hc, List.take_length, hys, hc, ← Nat.add_mul]

theorem app_nil {m : Nat} {ys : List AV} {y : AV} (hT : slT P t = some (e, sz, bytes, z)) (h3 : z.length = sz) (h4 : 0 < sz)
    (hy : slCells H y = some ys) (hl : slLen y = m) (hm : 0 < m) (hys : ys.length = m * sz) (ho : ys.all AV.one = true) (hbd : m * bytes ≤ 140737488355328) (hbd' : m ≤ 140737488355328) :
    appendA P t t .nilsl y H = some (.sl H.length 0 m (m * sz) sz, H ++ [.cells ys e 0 false]) := by
  obtain ⟨hu, i, zz, hi, hz, rfl, rfl, rfl⟩ := slT_inv hT
  unfold appendA
  rw [hu]
  have h0 : slLen AV.nilsl = 0 := rfl
  simp only [hi, hz, hy, hl, h0, Nat.zero_add]
  rw [if_pos ⟨h3, h4, by rw [hys], ho, hbd, hbd'⟩, if_neg (by omega), hys]

/-- A slice of one-cell elements shows its object. -/
theorem shows_own {id n born : Nat} {c : List AV} {ro : Bool} (h : H[id]? = some (.cells c e born ro)) (hb : born ≤ c.length) (hc : c.length = n) : Shows H (.sl id 0 n n 1) 1 (c.map fun x => [x]) := by
  refine ⟨by simp, rfl, by simpa using hc.symm, c, e, born, ro, h, by omega, by omega, by omega, ?_⟩
  intro i hi
  rw [List.length_map] at hi
  simp only [Nat.zero_add, Nat.mul_one, List.getElem_map]
  rw [List.drop_eq_getElem_cons hi, List.take_succ_cons, List.take_zero]

/-- A slice of a function's own: nil, or the whole of an object from b on. -/
def OwnV (b : Nat) (H : Heap) (v : AV) (e : TypeId) (sz n : Nat) (c : List AV) : Prop :=
  c.length = n * sz ∧ ((v = .nilsl ∧ n = 0) ∨ ∃ id born, b ≤ id ∧ v = .sl id 0 n (n * sz) sz ∧ born ≤ c.length ∧ H[id]? = some (.cells c e born false))

theorem OwnV.nil {b : Nat} : OwnV b H .nilsl e sz 0 [] := ⟨by simp, .inl ⟨rfl, rfl⟩⟩
theorem OwnV.ext {b n : Nat} {v : AV} {c : List AV} {H' : Heap} (h : OwnV b H v e sz n c) (he : Ext H H') : OwnV b H' v e sz n c := by
  refine ⟨h.1, ?_⟩
  rcases h.2 with h | ⟨id, born, h1, h2, h3, h4⟩
  · exact .inl h
  · exact .inr ⟨id, born, h1, h2, h3, he _ _ h4⟩

theorem OwnV.shows1 {b n : Nat} {v : AV} {c : List AV} (h : OwnV b H v e 1 n c) : Shows H v 1 (c.map fun x => [x]) := by
  obtain ⟨hc, hv⟩ := h
  rcases hv with ⟨rfl, rfl⟩ | ⟨id, born, h1, rfl, h3, h4⟩
  · have : c = [] := by cases c with
      | nil => rfl
      | cons a l => simp at hc
    subst this
    exact ⟨by simp, rfl⟩
  · have := shows_own h4 h3 rfl
    rw [Nat.mul_one] at hc ⊢
    rw [hc] at this; exact this

theorem ix_own {id n ver m i : Nat} {k : IntKind} (hi : i < n) : ixO (some (true, m, sz)) (.sl id 0 n ver sz) (.int k (i : Int)) = some (.ptr id (i * sz) ver) := by
  simp only [ixO]
  rw [if_pos ⟨by omega, by omega, trivial⟩, Int.toNat_natCast, Nat.zero_add]
theorem ix_own1 {id n ver m i : Nat} {k : IntKind} (hi : i < n) : ixO (some (true, m, 1)) (.sl id 0 n ver 1) (.int k (i : Int)) = some (.ptr id i ver) := by
  have := ix_own (id := id) (n := n) (ver := ver) (m := m) (sz := 1) (k := k) hi
  rwa [Nat.mul_one] at this

/-- One element more. -/
theorem OwnV.push {b n : Nat} {v : AV} {c xs : List AV} {H0 : Heap} (h : OwnV b H v e sz n c) (hT : slT P t = some (e, sz, bytes, z)) (h3 : z.length = sz) (h4 : 0 < sz) (hx : xs.length = sz) (ho : xs.all AV.one = true)
    (hbd : (n + 1) * bytes ≤ 140737488355328) (hbd' : n + 1 ≤ 140737488355328) (hE : Ext H0 H) (hb : H0.length ≤ b) (hb' : b ≤ H.length) :
    ∃ v' H', appendA P t t v (.sl H.length 0 1 sz sz) (H ++ [.cells xs e 0 false]) = some (v', H') ∧ OwnV b H' v' e sz (n + 1) (c ++ xs) ∧ Ext H0 H' ∧ H.length ≤ H'.length := by
  have hy : (H ++ [AObj.cells xs e 0 false])[H.length]? = some (.cells xs e 0 false) := hp_get0
  have hys : slCells (H ++ [AObj.cells xs e 0 false]) (.sl H.length 0 1 sz sz) = some xs := by
    have := slCells_own (n := 1) (sz := sz) hy (Nat.zero_le _) (by rw [hx, Nat.one_mul])
    rwa [Nat.one_mul] at this
  obtain ⟨hc, hv⟩ := h
  have hcl : (c ++ xs).length = (n + 1) * sz := by rw [List.length_append, hc, hx, Nat.add_mul, Nat.one_mul]
  rcases hv with ⟨rfl, rfl⟩ | ⟨id, born, hid1, rfl, hborn, hid2⟩
  · refine ⟨_, _, app_nil (m := 1) hT h3 h4 hys rfl (by omega) (by rw [hx, Nat.one_mul]) ho (by omega) (by omega), ⟨hcl, .inr ⟨(H ++ [AObj.cells xs e 0 false]).length, 0, ?_, rfl, Nat.zero_le _, ?_⟩⟩, hE.app.app, ?_⟩
    · exact Nat.le_trans hb' (by simp)
    · have : c = [] := by cases c with
        | nil => rfl
        | cons a l => simp at hc
      subst this
      exact hp_get0
    · simp
  · have hlt : id < H.length := by rw [List.getElem?_eq_some_iff] at hid2; exact hid2.1
    refine ⟨_, _, app_own (m := 1) hT h3 h4 (Ext.refl.app _ _ hid2) hc hborn hys rfl (by omega) (by rw [hx, Nat.one_mul]) ho hbd hbd', ⟨hcl, .inr ⟨id, born, hid1, rfl, by rw [List.length_append]; omega, ?_⟩⟩, hE.app.set (by omega), ?_⟩
    · rw [List.getElem?_set_self (by simp; omega)]
    · simp
end

end Go.Va
end

section
set_option linter.unusedSimpArgs false
set_option linter.unusedVariables false
set_option linter.unusedSectionVars false
namespace Go.Va

def plainB (P : Program) (t : TypeId) (ks : List Bool) : Bool :=
  (match P.underlying t with
  | some (.struct fs) => decide (ks.length = fs.size) && (List.range fs.size).all fun i => match fs[i]? with
    | some f => decide (f.name ≠ "_") && decide (f.offset = i) && (match ks[i]?, P.underlying f.type with
      | some true, some (.int _) => true
      | some false, some .bool => true
      | _, _ => false)
    | none => false
  | _ => false) && !P.stoodInHeld t && !P.eqGuardType P.depth t

theorem plain_of {P : Program} {t : TypeId} {ks : List Bool} (h : plainB P t ks = true) : PlainEq P t ks := by
  unfold plainB at h
  simp only [Bool.and_eq_true, Bool.not_eq_true'] at h
  obtain ⟨⟨h, h1⟩, h2⟩ := h
  refine ⟨?_, h1, h2⟩
  split at h
  · rename_i fs hfs
    simp only [Bool.and_eq_true, decide_eq_true_eq, List.all_eq_true] at h
    obtain ⟨hl, h⟩ := h
    refine ⟨fs, hfs, hl, fun i f hf => ?_⟩
    have hi : i < fs.size := by rw [Array.getElem?_eq_some_iff] at hf; exact hf.1
    have := h i (List.mem_range.2 hi)
    rw [hf] at this
    simp only [Bool.and_eq_true, decide_eq_true_eq] at this
    obtain ⟨⟨g1, g2⟩, g3⟩ := this
    refine ⟨g1, g2, ?_⟩
    split at g3
    · rename_i k k1 hk; exact .inl ⟨k1, k, hk⟩
    · rename_i k1 hk; exact .inr ⟨k1, hk⟩
    · cases g3
  · cases h

theorem ok_of {C : Ctx} (h1 : (C.E.all fun x => plainB C.P x.1 x.2) = true) (h2 : C.P.follows .mixedOrders = true) (h3 : ∀ f, f ∈ C.T → Truth C.P f) : C.ok := by
  refine ⟨h3, fun t ks hk => ?_, h2⟩
  unfold Ctx.kinds at hk
  simp only [Option.map_eq_some_iff] at hk
  obtain ⟨⟨t', ks'⟩, hf, rfl⟩ := hk
  have h4 := List.find?_some hf
  have h5 := List.mem_of_find?_eq_some hf
  simp only [beq_iff_eq] at h4
  subst h4
  rw [List.all_eq_true] at h1
  exact plain_of (h1 _ h5)

end Go.Va
end

section
set_option linter.unusedSimpArgs false
set_option linter.unusedVariables false
set_option linter.unusedSectionVars false
namespace Go.Va

theorem flat_len {sz : Nat} : ∀ {L : List (List AV)}, (∀ x ∈ L, x.length = sz) → L.flatten.length = L.length * sz
  | [], _ => by simp
  | x :: L, h => by
    rw [List.flatten_cons, List.length_append, flat_len (fun y hy => h y (by simp [hy])), h x (by simp), List.length_cons, Nat.succ_mul, Nat.add_comm]

theorem flat_row {sz : Nat} : ∀ {L : List (List AV)} (_ : ∀ x ∈ L, x.length = sz) (i : Nat) (hi : i < L.length), (L.flatten.drop (i * sz)).take sz = L[i]
  | [], _, i, hi => by simp at hi
  | x :: L, h, 0, hi => by
    have hx := h x (by simp)
    simp only [Nat.zero_mul, List.drop_zero, List.flatten_cons, List.getElem_cons_zero]
    rw [List.take_append_of_le_length (by omega), List.take_of_length_le (by omega)]
  | x :: L, h, i + 1, hi => by
    have hx := h x (by simp)
    have := flat_row (L := L) (fun y hy => h y (by simp [hy])) i (by simpa using hi)
    rw [List.flatten_cons, List.getElem_cons_succ, ← this, Nat.succ_mul, Nat.add_comm, ← List.drop_drop]
    congr 2
    rw [List.drop_append_of_le_length (by omega), List.drop_of_length_le (by omega), List.nil_append]

theorem rows_flat {sz : Nat} : ∀ {L : List (List AV)} {c : List AV} {off : Nat}, (∀ i (h : i < L.length), (c.drop ((off + i) * sz)).take sz = L[i]) → (∀ x ∈ L, x.length = sz) → (c.drop (off * sz)).take (L.length * sz) = L.flatten
  | [], c, off, _, _ => by simp
  | x :: L, c, off, h, hl => by
    have h0 := h 0 (by simp)
    simp only [Nat.add_zero, List.getElem_cons_zero] at h0
    have ih := rows_flat (L := L) (c := c) (off := off + 1) (fun i hi => by
      have := h (i + 1) (by simpa using hi)
      rw [List.getElem_cons_succ] at this
      rw [← this]; congr 2; congr 1; omega) (fun y hy => hl y (by simp [hy]))
    rw [List.length_cons, Nat.succ_mul, Nat.add_comm (L.length * sz) sz, List.take_add, h0, List.flatten_cons, List.drop_drop, ← ih, Nat.succ_mul]

theorem Shows.cells {H : Heap} {v : AV} {sz : Nat} {L : List (List AV)} (h : Shows H v sz L) : slCells H v = some L.flatten := by
  obtain ⟨hl, h⟩ := h
  cases v <;> try exact h.elim
  · have e : L = [] := h
    subst e; rfl
  · have e : L = [] := h
    subst e; rfl
  · obtain ⟨h1, h2, c, e, born, ro, h3, h4, h5, h6, h7⟩ := h
    subst h1 h2
    simp only [slCells, h3]
    rw [if_pos ⟨h4, h5, h6⟩, rows_flat h7 hl]

section
variable {P : Program} {t e : TypeId} {sz bytes : Nat} {z : List AV} {H : Heap}

theorem OwnV.shows {b n : Nat} {v : AV} {L : List (List AV)} (h : OwnV b H v e sz n L.flatten) (hl : ∀ x ∈ L, x.length = sz) (h0 : 0 < sz) : Shows H v sz L := by
  obtain ⟨hc, hv⟩ := h
  rw [flat_len hl] at hc
  have hn : n = L.length := (Nat.eq_of_mul_eq_mul_right h0 hc).symm
  subst hn
  refine ⟨hl, ?_⟩
  rcases hv with ⟨rfl, hz⟩ | ⟨id, born, h1, rfl, h3, h4⟩
  · exact List.eq_nil_of_length_eq_zero hz
  · refine ⟨rfl, rfl, _, e, born, false, h4, ?_, ?_, by simp, ?_⟩
    · rw [flat_len hl] at h3; exact h3
    · rw [flat_len hl]; exact Nat.le_refl _
    · intro i hi; rw [Nat.zero_add]; exact flat_row hl i hi

theorem bldSl0 {k : Nat} (hT : slT P t = some (e, sz, bytes, z)) (h3 : z.length = sz) (h4 : 0 < sz) : buildSliceA P t 0 [] H = some (.sl H.length 0 0 0 sz, H ++ [.cells [] e 0 false]) := by
  obtain ⟨hu, i, zz, hi, hz, rfl, rfl, rfl⟩ := slT_inv hT
  unfold buildSliceA
  rw [hu]
  simp only [hi, hz]
  rw [if_pos ⟨by omega, h3, h4⟩]
  simp [fillA, zeros]

/-- A whole slice more. -/
theorem OwnV.app {b n m : Nat} {v y : AV} {c ys : List AV} {H0 : Heap} (h : OwnV b H v e sz n c) (hT : slT P t = some (e, sz, bytes, z)) (h3 : z.length = sz) (h4 : 0 < sz) (hy : slCells H y = some ys) (hm : slLen y = m) (hl : ys.length = m * sz) (ho : ys.all AV.one = true)
    (hbd : (n + m) * bytes ≤ 140737488355328) (hbd' : n + m ≤ 140737488355328) (hE : Ext H0 H) (hb : H0.length ≤ b) (hb' : b ≤ H.length) :
    ∃ v' H', appendA P t t v y H = some (v', H') ∧ OwnV b H' v' e sz (n + m) (c ++ ys) ∧ Ext H0 H' ∧ H.length ≤ H'.length := by
  obtain ⟨hc, hv⟩ := h
  have hcl : (c ++ ys).length = (n + m) * sz := by rw [List.length_append, hc, hl, Nat.add_mul]
  rcases Nat.eq_zero_or_pos m with hm0 | hmp
  · subst hm0
    have hys : ys = [] := List.eq_nil_of_length_eq_zero (by rw [hl]; simp)
    subst hys
    rw [List.append_nil, Nat.add_zero]
    refine ⟨v, H, ?_, ⟨hc, hv⟩, hE, Nat.le_refl _⟩
    obtain ⟨hu, i, zz, hi, hz, rfl, rfl, rfl⟩ := slT_inv hT
    unfold appendA
    rw [hu]
    have hln : slLen v = n := by rcases hv with ⟨rfl, rfl⟩ | ⟨id, born, -, rfl, -, -⟩ <;> rfl
    simp only [hi, hz, hy, hm, hln]
    rw [if_pos ⟨h3, h4, by simp, by simp, by omega, by omega⟩]
    rcases hv with ⟨rfl, rfl⟩ | ⟨id, born, -, rfl, -, -⟩
    · simp
    · simp
  · rcases hv with ⟨rfl, rfl⟩ | ⟨id, born, hid1, rfl, hborn, hid2⟩
    · have : c = [] := List.eq_nil_of_length_eq_zero (by rw [hc]; simp)
      subst this
      refine ⟨_, _, app_nil hT h3 h4 hy hm hmp hl ho (by rw [Nat.zero_add] at hbd; exact hbd) (by omega), ⟨hcl, .inr ⟨H.length, 0, hb', by rw [Nat.zero_add], Nat.zero_le _, hp_get0⟩⟩, hE.app, by simp⟩
    · have hlt : id < H.length := by rw [List.getElem?_eq_some_iff] at hid2; exact hid2.1
      refine ⟨_, _, app_own hT h3 h4 hid2 hc hborn hy hm hmp hl ho hbd hbd', ⟨hcl, .inr ⟨id, born, hid1, rfl, by rw [List.length_append]; omega, ?_⟩⟩, hE.set (by omega), by simp⟩
      rw [List.getElem?_set_self hlt]

/-- A copy of a slice: append([]T{}, y...). -/
theorem copySl {y : AV} {L : List (List AV)} (hT : slT P t = some (e, sz, bytes, z)) (h3 : z.length = sz) (h4 : 0 < sz) (hS : Shows H y sz L) (ho : L.flatten.all AV.one = true) (hbd : L.length * bytes ≤ 140737488355328) (hbd' : L.length ≤ 140737488355328) :
    ∃ v' H', appendA P t t (.sl H.length 0 0 0 sz) y (H ++ [.cells [] e 0 false]) = some (v', H') ∧ OwnV H.length H' v' e sz L.length L.flatten ∧ Ext H H' ∧ Shows H' v' sz L := by
  have hO : OwnV (sz := sz) H.length (H ++ [AObj.cells [] e 0 false]) (.sl H.length 0 0 0 sz) e 0 [] := ⟨by simp, .inr ⟨H.length, 0, Nat.le_refl _, by simp, Nat.zero_le _, hp_get0⟩⟩
  obtain ⟨v', H', h1, h2, h5, h6⟩ := hO.app (b := H.length) (H0 := H) hT h3 h4 (hS.ext Ext.refl.app).cells hS.len (flat_len hS.1) ho (by rw [Nat.zero_add]; exact hbd) (by omega) Ext.refl.app (Nat.le_refl _) (by simp)
  rw [Nat.zero_add, List.nil_append] at h2
  exact ⟨v', H', h1, h2, h5, h2.shows hS.1 h4⟩
end
end Go.Va
end

section
set_option linter.unusedSimpArgs false
set_option linter.unusedVariables false
set_option linter.unusedSectionVars false
namespace Go.Va

/-- Steps. -/
def PSL (C : Ctx) (o : Option AV) (d : Option Tmp) (l : List SO) (L : List (SE × Heap)) (ρ : SE) (H : Heap) (D : SD) (Q : List (SE × Heap) → SQ) : Prop := ∃ v, o = some v ∧ wpoL C l (L ++ [(ρ, H)]) (upO ρ d v) H D Q
def ESL (C : Ctx) (o : Option (AV × Heap)) (d : Option Tmp) (l : List SO) (L : List (SE × Heap)) (ρ : SE) (H : Heap) (D : SD) (Q : List (SE × Heap) → SQ) : Prop := ∃ v H', o = some (v, H') ∧ wpoL C l (L ++ [(ρ, H)]) (upO ρ d v) H' D Q
def HSL (C : Ctx) (o : Option Heap) (d : Option Tmp) (l : List SO) (L : List (SE × Heap)) (ρ : SE) (H : Heap) (D : SD) (Q : List (SE × Heap) → SQ) : Prop := ∃ H', o = some H' ∧ wpoL C l (L ++ [(ρ, H)]) (upO ρ d (.tup [])) H' D Q
def CSL (C : Ctx) (f : AV) (args : List AV) (d : Option Tmp) (l : List SO) (L : List (SE × Heap)) (ρ : SE) (H : Heap) (D : SD) (Q : List (SE × Heap) → SQ) : Prop := Cl C f args H fun v H' => wpoL C l (L ++ [(ρ, H)]) (upO ρ d v) H' D Q
def wpZL := @wpoL
def wpSL (C : Ctx) (d : Option Tmp) (l : List SO) (L : List (SE × Heap)) (ρ : SE) (H : Heap) (D : SD) (Q : List (SE × Heap) → SQ) : Prop := wpoL C l (L ++ [(ρ, H)]) (upO ρ d (.tup [])) H D Q
section
variable {C : Ctx} {ρ : SE} {H : Heap} {D : SD} {Q : List (SE × Heap) → SQ} {L : List (SE × Heap)} {l : List SO} {d : Option Tmp}
theorem wpoL_nil : wpoL C [] L ρ H D Q = Q (L ++ [(ρ, H)]) ρ H D := rfl
theorem UN_ZL : UN (wpZL C l L ρ H D Q) = wpoL C l L ρ H D Q := rfl
theorem UN_SL : UN (wpSL C d l L ρ H D Q) = wpoL C l (L ++ [(ρ, H)]) (upO ρ d (.tup [])) H D Q := rfl
theorem wpoL_guard {op : Op} {g : Tmp} {w : Bool} : wpoL C (⟨d, op, some (g, w)⟩ :: l) L ρ H D Q = Gd (ρ g) w (wpZL C (⟨d, op, none⟩ :: l) L ρ H D Q) (wpSL C d l L ρ H D Q) := by
  simp only [wpoL, Gd, wpZL, wpSL]
  all_goals (cases ρ g <;> rfl)
theorem PSL_some {v : AV} : PSL C (some v) d l L ρ H D Q = wpoL C l (L ++ [(ρ, H)]) (upO ρ d v) H D Q := by
  refine propext ⟨?_, fun h => ⟨v, rfl, h⟩⟩
  rintro ⟨v', h, hk⟩; cases h; exact hk
theorem ESL_some {v : AV} {H' : Heap} : ESL C (some (v, H')) d l L ρ H D Q = wpoL C l (L ++ [(ρ, H)]) (upO ρ d v) H' D Q := by
  refine propext ⟨?_, fun h => ⟨v, H', rfl, h⟩⟩
  rintro ⟨v', H', h, hk⟩; cases h; exact hk
theorem HSL_some {H' : Heap} : HSL C (some H') d l L ρ H D Q = wpoL C l (L ++ [(ρ, H)]) (upO ρ d (.tup [])) H' D Q := by
  refine propext ⟨?_, fun h => ⟨H', rfl, h⟩⟩
  rintro ⟨v', h, hk⟩; cases h; exact hk
theorem PSL_map {o : Option AV} : ESL C (o.map (·, H)) d l L ρ H D Q = PSL C o d l L ρ H D Q := by
  cases o with
  | none => simp only [ESL, PSL, Option.map_none]; refine propext ⟨?_, ?_⟩ <;> (rintro ⟨_, h⟩; simp at h)
  | some v => rw [PSL_some]; exact ESL_some
theorem HSL_map {o : Option Heap} : ESL C (o.map (AV.tup [], ·)) d l L ρ H D Q = HSL C o d l L ρ H D Q := by
  cases o with
  | none => simp only [ESL, HSL, Option.map_none]; refine propext ⟨?_, ?_⟩ <;> (rintro ⟨_, h⟩; simp at h)
  | some v => rw [HSL_some]; exact ESL_some
theorem CSL_fn {g : FuncId} {args : List AV} {Q' : AV → Heap → Prop} (h : F C g args H Q') (hk : ∀ v H', Q' v H' → wpoL C l (L ++ [(ρ, H)]) (upO ρ d v) H' D Q) : CSL C (.fn g []) args d l L ρ H D Q := by
  simp only [CSL, Cl, List.append_nil]; exact h.mono hk
theorem wpL_call {f : Operand} {args : List Operand} {ts : Array TypeId} : wpoL C (⟨d, .call { callee := .value f, args := ⟨args⟩, argTypes := ts }, none⟩ :: l) L ρ H D Q = CSL C (ope ρ f) (args.map (ope ρ)) d l L ρ H D Q := by
  simp only [wpoL, wp1, CSL, Cl]
  all_goals (cases ope ρ f <;> rfl)
theorem wpL_move {x : Operand} : wpoL C (⟨d, .move x, none⟩ :: l) L ρ H D Q = wpoL C l (L ++ [(ρ, H)]) (upO ρ d (ope ρ x)) H D Q := ESL_some (d := d) (H := H)
theorem wpL_assign {x : Operand} : wpoL C (⟨d, .assign x, none⟩ :: l) L ρ H D Q = wpoL C l (L ++ [(ρ, H)]) (upO ρ d (ope ρ x)) H D Q := ESL_some (d := d) (H := H)
theorem wpL_pick {c a b : Operand} : wpoL C (⟨d, .pick c a b, none⟩ :: l) L ρ H D Q = PSL C (pickA (ope ρ c) (ope ρ a) (ope ρ b)) d l L ρ H D Q := by
  rw [← PSL_map]
  simp only [wpoL, wp1, opE, ESL, pickA]
  all_goals (cases ope ρ c <;> rfl)
theorem wpL_load {t : TypeId} {a : Operand} : wpoL C (⟨d, .load t a, none⟩ :: l) L ρ H D Q = PSL C (loadP C.P t H (ope ρ a)) d l L ρ H D Q := by
  rw [← PSL_map]
  simp only [wpoL, wp1, opE, ESL, loadP]
  all_goals (cases ope ρ a <;> rfl)
theorem wpL_store {t : TypeId} {a x : Operand} : wpoL C (⟨d, .store t a x, none⟩ :: l) L ρ H D Q = HSL C (storeP C.P t H (ope ρ a) (ope ρ x)) d l L ρ H D Q := by
  rw [← HSL_map]
  simp only [wpoL, wp1, opE, ESL, storeP]
  all_goals (cases ope ρ a <;> rfl)
theorem wpL_nilCheck {x : Operand} : wpoL C (⟨d, .nilCheck x, none⟩ :: l) L ρ H D Q = PSL C (nilCkA (ope ρ x)) d l L ρ H D Q := by
  rw [← PSL_map]
  simp only [wpoL, wp1, opE, ESL, nilCkA]
  all_goals (cases ope ρ x <;> rfl)
theorem wpL_extract {x : Operand} {i : Nat} : wpoL C (⟨d, .extract x i, none⟩ :: l) L ρ H D Q = PSL C (extrA (ope ρ x) i) d l L ρ H D Q := by
  rw [← PSL_map]
  simp only [wpoL, wp1, opE, ESL, extrA]
  all_goals (cases ope ρ x <;> rfl)
theorem wpL_alloc {t : TypeId} : wpoL C (⟨d, .alloc t, none⟩ :: l) L ρ H D Q = ESL C (allocA (zeroA C.P t) t H) d l L ρ H D Q := rfl
theorem wpL_box {t : TypeId} {x : Operand} : wpoL C (⟨d, .box t x, none⟩ :: l) L ρ H D Q = ESL C (boxA (ope ρ x) t H) d l L ρ H D Q := by
  simp only [wpoL, wp1, opE, ESL, boxA]
  all_goals (cases hx : ope ρ x <;> rfl)
theorem wpL_build {t : TypeId} {parts : List (Nat × Operand)} : wpoL C (⟨d, .build t ⟨parts⟩, none⟩ :: l) L ρ H D Q = PSL C (buildA C.P t (parts.map fun p => (p.1, ope ρ p.2))) d l L ρ H D Q := PSL_map
theorem wpL_buildSlice {t : TypeId} {n : Nat} {parts : List (Nat × Operand)} : wpoL C (⟨d, .buildSlice t n ⟨parts⟩, none⟩ :: l) L ρ H D Q = ESL C (buildSliceA C.P t n (parts.map fun p => (p.1, ope ρ p.2)) H) d l L ρ H D Q := rfl
theorem wpL_binOp {op : BinOp} {t u : TypeId} {x y : Operand} : wpoL C (⟨d, .binOp op t x y u, none⟩ :: l) L ρ H D Q = PSL C (binA C op t (ope ρ x) (ope ρ y)) d l L ρ H D Q := PSL_map
theorem wpL_unOp {op : UnOp} {t : TypeId} {x : Operand} : wpoL C (⟨d, .unOp op t x, none⟩ :: l) L ρ H D Q = PSL C (unA op (ope ρ x)) d l L ρ H D Q := PSL_map
theorem wpL_convert {s t : TypeId} {x : Operand} : wpoL C (⟨d, .convert s t x, none⟩ :: l) L ρ H D Q = PSL C (convA C.P s t (ope ρ x)) d l L ρ H D Q := PSL_map
theorem wpL_makeMap {t : TypeId} : wpoL C (⟨d, .makeMap t none, none⟩ :: l) L ρ H D Q = wpoL C l (L ++ [(ρ, H)]) (upO ρ d (.map H.length)) (H ++ [.map []]) D Q := ESL_some (d := d) (H := H)
theorem wpL_makeSlice {t : TypeId} {n c : Operand} : wpoL C (⟨d, .makeSlice t n c, none⟩ :: l) L ρ H D Q = ESL C (makeSliceA C.P t (ope ρ n) (ope ρ c) H) d l L ρ H D Q := rfl
theorem wpL_slice {t : TypeId} {x : Operand} {lo hi : Option Operand} : wpoL C (⟨d, .slice t x lo hi none, none⟩ :: l) L ρ H D Q = PSL C (sliceA C.P t (ope ρ x) (lo.map (ope ρ)) (hi.map (ope ρ))) d l L ρ H D Q := PSL_map
theorem wpL_fieldAddr {s : TypeId} {x : Operand} {f : Nat} : wpoL C (⟨d, .fieldAddr s x f, none⟩ :: l) L ρ H D Q = PSL C (fieldAddrA C.P s (ope ρ x) f) d l L ρ H D Q := PSL_map
theorem wpL_field {s : TypeId} {x : Operand} {f : Nat} : wpoL C (⟨d, .field s x f, none⟩ :: l) L ρ H D Q = PSL C (fieldA C.P s (ope ρ x) f) d l L ρ H D Q := PSL_map
theorem wpL_indexAddr {t : TypeId} {x i : Operand} : wpoL C (⟨d, .indexAddr t x i, none⟩ :: l) L ρ H D Q = PSL C (indexAddrA C.P t (ope ρ x) (ope ρ i)) d l L ρ H D Q := PSL_map
theorem wpL_index {t : TypeId} {x i : Operand} : wpoL C (⟨d, .index t x i, none⟩ :: l) L ρ H D Q = PSL C (indexA C.P t (ope ρ x) (ope ρ i)) d l L ρ H D Q := PSL_map
theorem wpL_lookup {t : TypeId} {x k : Operand} {ok : Bool} : wpoL C (⟨d, .lookup t x k ok, none⟩ :: l) L ρ H D Q = PSL C (lookupA C t (ope ρ x) (ope ρ k) ok H) d l L ρ H D Q := PSL_map
theorem wpL_mapUpdate {t : TypeId} {m k v : Operand} : wpoL C (⟨d, .mapUpdate t m k v, none⟩ :: l) L ρ H D Q = HSL C (mapUpdateA C t (ope ρ m) (ope ρ k) (ope ρ v) H) d l L ρ H D Q := HSL_map
theorem wpL_insert {t : TypeId} {m k v : Operand} : wpoL C (⟨d, .insert t m k v, none⟩ :: l) L ρ H D Q = HSL C (mapUpdateA C t (ope ρ m) (ope ρ k) (ope ρ v) H) d l L ρ H D Q := HSL_map
theorem wpL_len {x : Operand} {t : TypeId} : wpoL C (⟨d, .call { callee := .builtin .len, args := ⟨[x]⟩, argTypes := ⟨[t]⟩ }, none⟩ :: l) L ρ H D Q = PSL C (lenA C.P t (ope ρ x)) d l L ρ H D Q := PSL_map
theorem wpL_append {x y : Operand} {t : TypeId} : wpoL C (⟨d, .call { callee := .builtin .append, args := ⟨[x, y]⟩, argTypes := ⟨[t, t]⟩ }, none⟩ :: l) L ρ H D Q = ESL C (appendA C.P t t (ope ρ x) (ope ρ y) H) d l L ρ H D Q := by
  have : builtinA C.P .append ⟨[t, t]⟩ [ope ρ x, ope ρ y] H = appendA C.P t t (ope ρ x) (ope ρ y) H := by simp [builtinA]
  simp only [wpoL, wp1, opE, ESL, List.map, this]
theorem wpL_min {x y : Operand} {ts : Array TypeId} : wpoL C (⟨d, .call { callee := .builtin .min, args := ⟨[x, y]⟩, argTypes := ts }, none⟩ :: l) L ρ H D Q = PSL C (minA (ope ρ x) (ope ρ y)) d l L ρ H D Q := PSL_map
end


theorem same_refl_aux : (∀ n (a : AV), SizeOf.sizeOf a ≤ n → a.same a = true) ∧ (∀ n (xs : List AV), SizeOf.sizeOf xs ≤ n → AV.sames xs xs = true) := by
  have key : ∀ n, (∀ a : AV, SizeOf.sizeOf a ≤ n → a.same a = true) ∧ (∀ xs : List AV, SizeOf.sizeOf xs ≤ n → AV.sames xs xs = true) := by
    intro n
    induction n with
    | zero =>
      constructor
      · intro a h; cases a <;> simp at h <;> omega
      · intro xs h; cases xs <;> simp at h <;> omega
    | succ n ih =>
      constructor
      · intro a hs
        cases a <;> simp only [AV.same, beq_self_eq_true, Bool.and_self] <;> first
          | rfl
          | (simp at hs; rw [ih.2 _ (by omega)]; simp)
          | (simp at hs; exact ih.2 _ (by omega))
      · intro xs hs
        cases xs with
        | nil => rfl
        | cons x xs => simp at hs; simp only [AV.sames, Bool.and_eq_true]; exact ⟨ih.1 _ (by omega), ih.2 _ (by omega)⟩
  exact ⟨fun n => (key n).1, fun n => (key n).2⟩
theorem same_refl (a : AV) : a.same a = true := same_refl_aux.1 _ a (Nat.le_refl _)

/-- A load that finds the same on both sides. -/
theorem same_load {C : Ctx} {ops : List SO} {L : List (SE × Heap)} {p : Nat × Nat} {d : Option Tmp} {t : TypeId} {x : Operand} {s u : SE × Heap} {v : AV} (h1 : ops[p.1]? = some ⟨d, .load t x, none⟩) (h2 : L[p.1]? = some s) (h3 : L[if p.2 < p.1 then p.2 else p.2 + 1]? = some u)
    (h4 : loadP C.P t s.2 (ope s.1 x) = some v) (h5 : loadP C.P t u.2 (ope s.1 x) = some v) : sameAt C ops L p := by
  unfold sameAt
  rw [h1, h2, h3]
  intro _
  refine ⟨v, s.2, v, u.2, ?_, ?_, same_refl v⟩
  · show opE C (.load t x) (ope s.1) s.2 = _
    unfold loadP at h4
    split at h4
    · rename_i hx
      simp only [opE, hx, h4, Option.map_some]
    · cases h4
  · show opE C (.load t x) (ope s.1) u.2 = _
    unfold loadP at h5
    split at h5
    · rename_i hx
      simp only [opE, hx, h5, Option.map_some]
    · cases h5
end Go.Va
end
