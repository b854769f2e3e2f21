/- A run of operations in the text's order; the states on both sides. -/
import Derived.Test.YtkofbgicfmojjaaVaL
set_option linter.unusedSimpArgs false
set_option linter.unusedVariables false
set_option linter.unusedSectionVars false
namespace Go.Va

variable {C : Ctx} {M : Plc} {H : Heap} {w : World}

def DefR (M : Plc) (d : FuncId × List AV) (x : Deferred) : Prop :=
  ∃ cap args, x = { target := .fn (.func d.1) cap, args := args } ∧ VRs M d.2 (args ++ cap)
def DsR (M : Plc) : List (FuncId × List AV) → List Deferred → Prop
  | [], [] => True
  | d :: ds, x :: xs => DefR M d x ∧ DsR M ds xs
  | _, _ => False
theorem DsR.mono {M M' : Plc} (h : Le M M') : ∀ {ds : List (FuncId × List AV)} {xs : List Deferred}, DsR M ds xs → DsR M' ds xs
  | [], [], _ => trivial
  | d :: ds, x :: xs, ⟨⟨cap, args, h1, h2⟩, h3⟩ => ⟨⟨cap, args, h1, h2.mono h⟩, DsR.mono h h3⟩

/-- A state of the interpreter stands for an activation and a world. -/
structure SR (M : Plc) (s : St) (a : Act) (w : World) : Prop where
  size : a.tmps.size = s.ρ.length
  env : ∀ t, VR M (s.ρ.getD t .dead) (a.tmps.getD t undef)
  heap : HR M s.H w
  defs : DsR M s.D a.defers

theorem opnd_sound {ρ : Env} {a : Act} (h : ∀ t, VR M (ρ.getD t .dead) (a.tmps.getD t undef)) (x : Operand) : VR M (opnd ρ x) (a.eval x) := by
  cases x with
  | tmp t => exact h t
  | const v => exact .ofV v
  | global g => exact .dead _
  | func f => exact .fn f [] #[] rfl (fun i h => by simp at h)

theorem wanted_sound {ops : Array Oper} {o : Oper} {ρ : Env} {a : Act} {b : Bool} (h : wantedA ops o ρ = some b)
    (hg : ∀ j want d, o.guard = some (j, want) → (ops[j]?).bind (·.dst) = some d → VR M (ρ.getD d .dead) (a.tmps.getD d undef)) : Region.wanted o (yielded ops a.tmps) = b := by
  unfold wantedA at h
  unfold Region.wanted
  cases hgd : o.guard with
  | none => simp [hgd] at h; subst h; rfl
  | some jw =>
    obtain ⟨j, want⟩ := jw
    simp only [hgd] at h
    simp only [yielded]
    cases hd : (ops[j]?).bind (·.dst) with
    | none => simp [hd] at h; subst h; simp
    | some d =>
      simp only [hd] at h
      have hv := hg j want d hgd hd
      simp only [Option.bind_some]
      have hget : a.tmps.getD d undef = (a.tmps[d]?).getD undef := by simp [Array.getD_eq_getD_getElem?]
      rw [hget] at hv
      generalize hρ : ρ.getD d .dead = u at h hv
      cases htm : a.tmps[d]? with
      | none =>
        rw [htm] at hv
        simp only [Option.getD_none, undef] at hv
        cases u <;> first | (cases hv; done) | skip
        · simp at h
        · simp only [Option.some.injEq] at h; subst h; simp
      | some x =>
        rw [htm] at hv
        simp only [Option.getD_some] at hv
        cases hv <;> simp only [Option.some.injEq, reduceCtorEq] at h <;> first
          | (subst h; rfl)
          | (subst h; simp)

theorem getD_set (ρ : Env) (d t : Nat) (v : AV) : (ρ.set d v).getD t .dead = if d = t ∧ d < ρ.length then v else ρ.getD t .dead := by
  simp only [List.getD_eq_getElem?_getD]
  by_cases h : d = t
  · subst h
    by_cases hl : d < ρ.length
    · simp [hl]
    · simp [hl]
  · simp [List.getElem?_set_ne h, h]
theorem tmps_put (a : Act) (d t : Nat) (x : Value) : (a.put (some d) x).tmps.getD t undef = if d = t ∧ d < a.tmps.size then x else a.tmps.getD t undef := by
  simp only [Act.put, Array.getD_eq_getD_getElem?]
  by_cases h : d = t
  · subst h
    by_cases hl : d < a.tmps.size
    · simp [hl]
    · simp [hl]
  · simp [Array.getElem?_setIfInBounds_ne h, h]

theorem putSlot_len (ρ : Env) (dst : Option Tmp) (v : AV) : (putSlot ρ dst v).length = ρ.length := by
  cases dst <;> simp [putSlot]
theorem put_size (a : Act) (dst : Option Tmp) (x : Value) : (a.put dst x).tmps.size = a.tmps.size := by
  cases dst <;> simp [Act.put]
theorem put_defers (a : Act) (dst : Option Tmp) (x : Value) : (a.put dst x).defers = a.defers := by
  cases dst <;> simp [Act.put]

theorem env_put {ρ : Env} {a : Act} (hs : a.tmps.size = ρ.length) (h : ∀ t, VR M (ρ.getD t .dead) (a.tmps.getD t undef)) (dst : Option Tmp) {v : AV} {x : Value} (hv : VR M v x) :
    ∀ t, VR M ((putSlot ρ dst v).getD t .dead) ((a.put dst x).tmps.getD t undef) := by
  intro t
  cases dst with
  | none => exact h t
  | some d =>
    simp only [putSlot]
    rw [getD_set, tmps_put, hs]
    split
    · exact hv
    · exact h t

/-- What one operation asks of the slots. -/
def Needs (M : Plc) (ops : Array Oper) (o : Oper) (ρ : Env) (a : Act) : Prop :=
  (∀ x ∈ o.op.operands, VR M (opnd ρ x) (a.eval x)) ∧
  ∀ j want d, o.guard = some (j, want) → (ops[j]?).bind (·.dst) = some d → VR M (ρ.getD d .dead) (a.tmps.getD d undef)

theorem Needs.of_env {ops : Array Oper} {o : Oper} {ρ : Env} {a : Act} (h : ∀ t, VR M (ρ.getD t .dead) (a.tmps.getD t undef)) : Needs M ops o ρ a :=
  ⟨fun x _ => opnd_sound h x, fun _ _ d _ _ => h d⟩

/-- What a step leaves, slot by slot: the value for its slot, the heap, the world; or a deferred call. -/
theorem step_sound (hC : C.ok) {call : CallF} (hcall : CallOk C call) {ops : Array Oper} {o : Oper} {s s' : St} (h : stepA C call ops o s = some s') {a : Act} (hn : Needs M ops o s.ρ a) (hH : HR M s.H w) (hf : Free M s.H.length s'.H.length)
    {K : Act → World → Prop} {Q : Exit → Act → World → Prop}
    (hk : ∀ v x w' M', s'.ρ = putSlot s.ρ o.dst v → VR M' v x → HR M' s'.H w' → Fr M s.H w M' s'.H w' → s'.D = s.D → K (a.put o.dst x) w')
    (hd : ∀ d x, s'.ρ = putSlot s.ρ o.dst (.tup []) → s'.H = s.H → s'.D = d :: s.D → DefR M d x → K ({ a with defers := x :: a.defers }.put o.dst undef) w) :
    if Region.wanted o (yielded ops a.tmps) then o.wp C.P a w K Q else K (a.put o.dst undef) w := by
  unfold stepA at h
  split at h
  · cases h
  · rename_i hw
    rw [wanted_sound hw hn.2]
    simp only [Bool.false_eq_true, if_false]
    cases h
    exact hk (.tup []) undef w M rfl .undef hH (.refl M _ w) rfl
  · rename_i hw
    rw [wanted_sound hw hn.2]
    simp only [if_true]
    split at h
    · rename_i d hdf
      cases h
      unfold deferA at hdf
      split at hdf
      · rename_i f args ts ho
        split at hdf
        · rename_i g cap hfn
          cases hdf
          have hv := hn.1 f (by simp [ho, Op.operands, Call.operands])
          rw [hfn] at hv
          obtain ⟨xs, he, hcap⟩ := hv.fn_inv
          have hargs := vrs_map args (fun x hx => hn.1 x (by simp [ho, Op.operands, Call.operands, hx]))
          have := hd (g, args.toList.map (opnd s.ρ) ++ cap) { target := .fn (.func g) xs, args := args.map a.eval } rfl rfl rfl ⟨xs, _, rfl, hargs.append hcap⟩
          unfold Oper.wp
          simp only [execOp, ho, resolve, he, Deferred.ofValue, Sem.run_bind, Sem.run_pure, Result.andThen_ok, Array.empty_append]
          exact this
        · cases hdf
      · cases hdf
    · simp only [Option.map_eq_some_iff] at h
      obtain ⟨r, hr, h⟩ := h
      cases h
      obtain ⟨v, H'⟩ := r
      obtain ⟨_, hdo⟩ := op_sound hC hcall hr hH hf hn.1
      refine hdo.wp ?_
      rintro x w' ⟨M', h1, h2, h3⟩
      exact hk v x w' M' rfl h1 h2 h3 rfl

theorem SR.put {s : St} {a : Act} (h : SR M s a w) {M' : Plc} {w' : World} {s' : St} {dst : Option Tmp} {v : AV} {x : Value} (hle : Le M M') (hρ : s'.ρ = putSlot s.ρ dst v) (hv : VR M' v x) (hH : HR M' s'.H w') (hD : s'.D = s.D) :
    SR M' s' (a.put dst x) w' := by
  refine ⟨by rw [put_size, hρ, putSlot_len]; exact h.size, ?_, hH, by rw [hD, put_defers]; exact h.defs.mono hle⟩
  rw [hρ]
  exact env_put h.size (fun t => (h.env t).mono hle) dst hv

/-- Operations one behind the other. -/
theorem runOps_sound (hC : C.ok) {call : CallF} (hcall : CallOk C call) (hlen : CallLen call) {ops : Array Oper} {Q : Exit → Act → World → Prop} : ∀ (n k : Nat) (s s' : St) (M : Plc) (a : Act) (w : World), ops.size = k + n → runOps C call ops (ops.toList.drop k) s = some s' → SR M s a w →
    Free M s.H.length s'.H.length → (∀ M' a' w', SR M' s' a' w' → Fr M s.H w M' s'.H w' → Q .normal a' w') → wpOps C.P ops Q (List.range' k n) a w
  | 0, k, s, s', M, a, w, hn, h, hs, hf, hq => by
    rw [List.drop_eq_nil_of_le (by simp; omega)] at h
    simp only [runOps, Option.some.injEq] at h
    subst h
    exact hq M a w hs (.refl M _ w)
  | n + 1, k, s, s', M, a, w, hn, h, hs, hf, hq => by
    have hk : k < ops.toList.length := by simp; omega
    rw [List.drop_eq_getElem_cons hk] at h
    simp only [runOps] at h
    split at h
    · rename_i s₁ h₁
      have ho : ops[k]? = some ops.toList[k] := by
        rw [Array.getElem?_eq_getElem (by omega)]
        simp
      have l1 := step_len hlen h₁
      have l2 := runOps_len hlen h
      rw [List.range'_succ, wpOps_cons]
      unfold wpOp
      simp only [ho]
      have key := step_sound (Q := Q) hC hcall h₁ (.of_env hs.env) hs.heap (hf.mono (Nat.le_refl _) l2)
        (K := wpOps C.P ops Q (List.range' (k + 1) n))
        (fun v x w' M' hρ hv hH hfr hD => runOps_sound hC hcall hlen n (k + 1) s₁ s' M' _ w' (by omega) h (hs.put hfr.le hρ hv hH hD)
          (fun id u h1 h2 => by rw [hfr.beyond id h1]; exact hf id u (by omega) h2) (fun M₂ a₂ w₂ hs₂ hfr₂ => hq M₂ a₂ w₂ hs₂ (hfr.trans hfr₂)))
        (fun d x hρ hH hD hdef => runOps_sound hC hcall hlen n (k + 1) s₁ s' M _ w (by omega) h
          ⟨by rw [put_size, hρ, putSlot_len]; exact hs.size, by rw [hρ]; exact env_put (a := { a with defers := x :: a.defers }) hs.size hs.env _ .undef, by rw [hH]; exact hs.heap, by rw [hD, put_defers]; exact ⟨hdef, hs.defs⟩⟩
          (by rw [hH]; exact hf) (fun M₂ a₂ w₂ hs₂ hfr₂ => hq M₂ a₂ w₂ hs₂ (by rw [hH] at hfr₂; exact hfr₂)))
      split at key
      · rename_i hw; rw [if_pos hw]; exact .inl key
      · rename_i hw; rw [if_neg hw]; exact key
    · cases h

end Go.Va
