/- Code, functions, calls: the soundness of the interpreter. -/
import Derived.Test.YtkofbgicfmojjaaVaT
set_option linter.unusedSimpArgs false
set_option linter.unusedVariables false
set_option linter.unusedSectionVars false
namespace Go.Va

variable {C : Ctx} {call : CallF}

def AExit.up : AExit → Exit
  | .normal => .normal
  | .exit id => .exit id
  | .ret => .ret

/-- What a piece of code leaves. -/
def PostS (M : Plc) (s : St) (w : World) (x : AExit) (s' : St) (e : Exit) (a' : Act) (w' : World) : Prop :=
  e = x.up ∧ ∃ M', SR M' s' a' w' ∧ Fr M s.H w M' s'.H w'

/-- A loop, from its body's begin on. -/
def LoopW (P : Program) (c : Code) (Q : Exit → Act → World → Prop) (a : Act) (w : World) : Prop :=
  ∀ (b : Frame) (k : List Item) (cs : List Frame), ∃ e a' w', Q e a' w' ∧ Arrives P (lone (b.at a (.code c :: .inLoop c :: k)) cs w) b k cs e a' w'

theorem loop_of {P : Program} {c : Code} {Q : Exit → Act → World → Prop} {a : Act} {w : World} (h : LoopW P c Q a w) : (Code.loop c).wp P Q a w := fun b k cs =>
  let ⟨e, a', w', hq, harr⟩ := h b k cs
  ⟨e, a', w', hq, .of_steps (.one step_loop) harr⟩

theorem loop_round {P : Program} {c : Code} {Q : Exit → Act → World → Prop} {a : Act} {w : World} (h : c.wp P (Exit.then (LoopW P c Q) Q) a w) : LoopW P c Q a w := by
  intro b k cs
  obtain ⟨e, a₁, w₁, hq, harr⟩ := h b (.inLoop c :: k) cs
  cases e with
  | normal =>
    obtain ⟨e₂, a₂, w₂, hq₂, harr₂⟩ := hq b k cs
    exact ⟨e₂, a₂, w₂, hq₂, .of_steps (Steps.trans harr (.one step_inLoop)) harr₂⟩
  | exit id => exact ⟨_, a₁, w₁, hq, .pass (x := .inLoop c) rfl (fun _ _ => .inl (by simp)) harr⟩
  | goto l => exact ⟨_, a₁, w₁, hq, .pass (x := .inLoop c) rfl (fun _ _ => .inl (by simp)) harr⟩
  | ret => exact ⟨_, a₁, w₁, hq, .pass (x := .inLoop c) rfl (fun _ _ => .inl (by simp)) harr⟩
  | panic ch => exact ⟨_, a₁, w₁, hq, .pass (x := .inLoop c) rfl (fun _ _ => .inl (by simp)) harr⟩
  | outgrown => exact ⟨_, a₁, w₁, hq, .pass (x := .inLoop c) rfl (fun _ _ => .inl (by simp)) harr⟩

theorem PostS.trans {M M₁ : Plc} {s s₁ s' : St} {w w₁ : World} {x : AExit} {e : Exit} {a' : Act} {w' : World} (hf : Fr M s.H w M₁ s₁.H w₁) (h : PostS M₁ s₁ w₁ x s' e a' w') : PostS M s w x s' e a' w' := by
  obtain ⟨he, M', h1, h2⟩ := h
  exact ⟨he, M', h1, hf.trans h2⟩

theorem Free.later {M M₁ : Plc} {H H₁ Hn : Heap} {w w₁ : World} (hf : Free M H.length Hn.length) (h : Fr M H w M₁ H₁ w₁) : Free M₁ H₁.length Hn.length := fun id v h1 h2 => by
  rw [h.beyond id h1]; exact hf id v (by have := h.len; omega) h2

theorem exec_sound (hC : C.ok) (hcall : CallOk C call) (hlen : CallLen call) (k : Nat) : ∀ (c : Code) (s : St) (x : AExit) (s' : St) (M : Plc) (a : Act) (w : World), exec C call k c s = some (x, s') → SR M s a w → Free M s.H.length s'.H.length →
    c.wp C.P (PostS M s w x s') a w := by
  intro c
  induction c with
  | skip =>
    intro s x s' M a w h hs hf
    simp only [exec, Option.some.injEq, Prod.mk.injEq] at h
    obtain ⟨rfl, rfl⟩ := h
    exact wp_skip ⟨rfl, M, hs, .refl M _ w⟩
  | region id ops draw =>
    intro s x s' M a w h hs hf
    simp only [exec, Option.map_eq_some_iff] at h
    obtain ⟨r, hr, h⟩ := h
    cases h
    cases draw with
    | true =>
      simp only [if_true] at hr
      exact draw_sound hC hcall hlen hr hs hf (fun M' a' w' h1 h2 => ⟨rfl, M', h1, h2⟩) id
    | false =>
      simp only [Bool.false_eq_true, if_false] at hr
      refine wp_region ?_
      rw [List.range_eq_range']
      exact runOps_sound hC hcall hlen ops.size 0 s _ M a w (by omega) (by simpa using hr) hs hf (fun M' a' w' h1 h2 => ⟨rfl, M', h1, h2⟩)
  | seq c₁ c₂ ih1 ih2 =>
    intro s x s' M a w h hs hf
    simp only [exec] at h
    split at h
    · rename_i s₁ h₁
      have l1 := exec_len hlen k _ _ _ _ h
      refine wp_seq (wp_mono (ih1 s .normal s₁ M a w h₁ hs (hf.mono (Nat.le_refl _) l1)) ?_)
      rintro e a₁ w₁ ⟨rfl, M₁, h1, h2⟩
      exact wp_mono (ih2 s₁ x s' M₁ a₁ w₁ h h1 (hf.later h2)) (fun e a' w' h' => h'.trans h2)
    · rename_i hne
      refine wp_seq (wp_mono (ih1 s x s' M a w h hs hf) ?_)
      rintro e a₁ w₁ ⟨rfl, hp⟩
      cases x with
      | normal => exact absurd h (hne s')
      | exit id => exact ⟨rfl, hp⟩
      | ret => exact ⟨rfl, hp⟩
  | cond c c₁ c₂ ih1 ih2 =>
    intro s x s' M a w h hs hf
    simp only [exec] at h
    have hv := opnd_sound hs.env c
    split at h
    · rename_i hc
      rw [hc] at hv
      generalize hce : a.eval c = cv at hv
      cases hv
      exact wp_cond_true hce (ih1 s x s' M a w h hs hf)
    · rename_i hc
      rw [hc] at hv
      generalize hce : a.eval c = cv at hv
      cases hv
      exact wp_cond_false hce (ih2 s x s' M a w h hs hf)
    · cases h
  | block id c ih =>
    intro s x s' M a w h hs hf
    simp only [exec] at h
    split at h
    · rename_i j s₁ h₁
      split at h
      · rename_i hj
        cases h
        refine wp_block (wp_mono (ih s (.exit j) s' M a w h₁ hs hf) ?_)
        rintro e a₁ w₁ ⟨rfl, hp⟩
        simp only [AExit.up, Exit.inBlock, hj, if_true]
        exact ⟨rfl, hp⟩
      · rename_i hj
        cases h
        refine wp_block (wp_mono (ih s (.exit j) s' M a w h₁ hs hf) ?_)
        rintro e a₁ w₁ ⟨rfl, hp⟩
        simp only [AExit.up, Exit.inBlock, hj, if_false]
        exact ⟨rfl, hp⟩
    · rename_i hne
      refine wp_block (wp_mono (ih s x s' M a w h hs hf) ?_)
      rintro e a₁ w₁ ⟨rfl, hp⟩
      cases x with
      | normal => exact ⟨rfl, hp⟩
      | exit j => exact absurd h (hne j s')
      | ret => exact ⟨rfl, hp⟩
  | loop c ih =>
    intro s x s' M a w h hs hf
    simp only [exec] at h
    refine loop_of ?_
    have key : ∀ (n : Nat) (s : St) (M : Plc) (a : Act) (w : World), iterA (exec C call k c) n s = some (x, s') → SR M s a w → Free M s.H.length s'.H.length → LoopW C.P c (PostS M s w x s') a w := by
      intro n
      induction n with
      | zero => intro s M a w h; simp [iterA] at h
      | succ n ihn =>
        intro s M a w h hs hf
        simp only [iterA] at h
        split at h
        · rename_i s₁ h₁
          have l1 := iter_len (exec_len hlen k c) n _ _ _ h
          refine loop_round (wp_mono (ih s .normal s₁ M a w h₁ hs (hf.mono (Nat.le_refl _) l1)) ?_)
          rintro e a₁ w₁ ⟨rfl, M₁, h1, h2⟩
          have := ihn s₁ M₁ a₁ w₁ h h1 (hf.later h2)
          intro b kk cs
          obtain ⟨e, a', w', hq, harr⟩ := this b kk cs
          exact ⟨e, a', w', hq.trans h2, harr⟩
        · rename_i hne
          refine loop_round (wp_mono (ih s x s' M a w h hs hf) ?_)
          rintro e a₁ w₁ ⟨rfl, hp⟩
          cases x with
          | normal => exact absurd h (hne s')
          | exit id => exact ⟨rfl, hp⟩
          | ret => exact ⟨rfl, hp⟩
    exact key k s M a w h hs hf
  | exit id =>
    intro s x s' M a w h hs hf
    simp only [exec, Option.some.injEq, Prod.mk.injEq] at h
    obtain ⟨rfl, rfl⟩ := h
    exact wp_exit ⟨rfl, M, hs, .refl M _ w⟩
  | ret =>
    intro s x s' M a w h hs hf
    simp only [exec, Option.some.injEq, Prod.mk.injEq] at h
    obtain ⟨rfl, rfl⟩ := h
    exact wp_ret ⟨rfl, M, hs, .refl M _ w⟩
  | _ => intro s x s' M a w h; simp [exec] at h

theorem enter_env {M : Plc} {args : List AV} {xs : Array Value} (h : VRs M args xs) (n : Nat) : (xs ++ Array.replicate (n - xs.size) undef).size = (enterA n args).length ∧
    ∀ t, VR M ((enterA n args).getD t .dead) ((xs ++ Array.replicate (n - xs.size) undef).getD t undef) := by
  have hl := h.1
  constructor
  · simp [enterA, hl]
  · intro t
    simp only [enterA, List.getD_eq_getElem?_getD, Array.getD_eq_getD_getElem?]
    by_cases ht : t < args.length
    · rw [List.getElem?_append_left ht, Array.getElem?_append_left (by omega)]
      obtain ⟨y, hy, hv⟩ := h.2 t _ (List.getElem?_eq_getElem ht)
      rw [List.getElem?_eq_getElem ht, hy]
      exact hv
    · rw [List.getElem?_append_right (by omega), Array.getElem?_append_right (by omega), List.getElem?_replicate, Array.getElem?_replicate, hl]
      split
      · exact .undef
      · exact .dead _

/-- One result, in the model. -/
def resF (tmps : Array Value) : ResultVar → Sem Value
  | .tmp t => pure (tmps.getD t undef)
  | .cell a t => do loadVar t (← asAddr (tmps.getD a undef))
theorem results_eq (fn : Func) (tmps : Array Value) : results fn tmps = (fn.results.mapM (resF tmps) >>= fun vs => pure (if h : vs.size = 1 then vs[0] else .tuple vs)) := by
  unfold results
  congr 2

theorem result_sound {P : Program} {M : Plc} {H : Heap} {w : World} (hH : HR M H w) {ρ : Env} {tmps : Array Value} (he : ∀ t, VR M (ρ.getD t .dead) (tmps.getD t undef)) {r : ResultVar} {v : AV} (h : resultA P ρ H r = some v) :
    ∃ x, (resF tmps r).run P w = .ok x w ∧ VR M v x := by
  cases r with
  | tmp t =>
    simp only [resultA, Option.some.injEq] at h
    subst h
    exact ⟨_, rfl, he t⟩
  | cell a t =>
    simp only [resultA] at h
    split at h
    · rename_i id off ver ha
      have hv := he a
      rw [ha] at hv
      obtain ⟨pl, hp, hx⟩ := hv.ptr_inv
      obtain ⟨y, hy, hv'⟩ := load_sound (P := P) hH h hp
      exact ⟨y, by simp [resF, hx, asAddr, hy], hv'⟩
    · cases h

theorem results_sound {P : Program} {M : Plc} {H : Heap} {w : World} (hH : HR M H w) {ρ : Env} {tmps : Array Value} (he : ∀ t, VR M (ρ.getD t .dead) (tmps.getD t undef)) {fn : Func} {v : AV} (h : resultsA P ρ H fn.results.toList = some v) :
    ∃ x, (results fn tmps).run P w = .ok x w ∧ VR M v x := by
  have many : ∀ (rs : List ResultVar) (vs : List AV), rs.mapM (resultA P ρ H) = some vs → ∃ xs : List Value, (rs.mapM (resF tmps)).run P w = .ok xs w ∧
      vs.length = xs.length ∧ ∀ (i : Nat) (u : AV), vs[i]? = some u → ∃ y, xs[i]? = some y ∧ VR M u y := by
    intro rs
    induction rs with
    | nil => intro vs h; simp at h; subst h; exact ⟨[], rfl, rfl, fun i u hi => by simp at hi⟩
    | cons r rs ih =>
      intro vs h
      simp only [List.mapM_cons, Option.bind_eq_bind, Option.bind_eq_some_iff, Option.pure_def, Option.some.injEq] at h
      obtain ⟨v, hv, vs', hvs, rfl⟩ := h
      obtain ⟨x, hx, hvx⟩ := result_sound hH he hv
      obtain ⟨xs, hxs, hl, hvxs⟩ := ih vs' hvs
      refine ⟨x :: xs, ?_, by simp [hl], ?_⟩
      · simp only [List.mapM_cons, Sem.run_bind, hx, Result.andThen_ok, hxs, Sem.run_pure]
      · intro i u hi
        cases i with
        | zero => simp at hi; subst hi; exact ⟨x, rfl, hvx⟩
        | succ i => exact hvxs i u (by simpa using hi)
  have hmap : ∀ xs : List Value, (fn.results.toList.mapM (resF tmps)).run P w = .ok xs w →
      (results fn tmps).run P w = .ok (if h : xs.toArray.size = 1 then xs.toArray[0] else .tuple xs.toArray) w := by
    intro xs hxs
    rw [results_eq, ← Array.toArray_toList (xs := fn.results), List.mapM_toArray]
    simp only [Sem.run_bind, Sem.run_map]
    rw [hxs]
    rfl
  unfold resultsA at h
  split at h
  · rename_i r hrs
    obtain ⟨x, hx, hv⟩ := result_sound hH he h
    refine ⟨x, ?_, hv⟩
    have := hmap [x] (by rw [hrs]; simp only [List.mapM_cons, List.mapM_nil, Sem.run_bind, hx, Result.andThen_ok, Sem.run_pure])
    rw [this]
    rfl
  · rename_i hne
    simp only [Option.map_eq_some_iff] at h
    obtain ⟨vs, hvs, rfl⟩ := h
    obtain ⟨xs, hxs, hl, hv⟩ := many _ vs hvs
    have hlen : xs.length ≠ 1 := by
      intro h1
      have hr1 : fn.results.toList.length = 1 := by
        have : ∀ (rs : List ResultVar) (vs : List AV), rs.mapM (resultA P ρ H) = some vs → vs.length = rs.length := by
          intro rs
          induction rs with
          | nil => intro vs h; simp at h; subst h; rfl
          | cons r rs ih =>
            intro vs h
            simp only [List.mapM_cons, Option.bind_eq_bind, Option.bind_eq_some_iff, Option.pure_def, Option.some.injEq] at h
            obtain ⟨v, _, vs', hvs, rfl⟩ := h
            simp [ih vs' hvs]
        rw [← this _ _ hvs, hl, h1]
      match hfl : fn.results.toList, hr1 with
      | [r], _ => exact hne r hfl
    refine ⟨.tuple xs.toArray, ?_, .tup' ⟨by simpa using hl, fun i u hi => by obtain ⟨y, hy, hvy⟩ := hv i u hi; exact ⟨y, by simpa using hy, hvy⟩⟩⟩
    rw [hmap xs hxs, dif_neg (by simpa using hlen)]

/-- A body that was run to its end. -/
theorem runF_inv {n : Nat} {f : FuncId} {args : List AV} {H : Heap} {fn : Func} {s : St} (h : runF C call n f args H = some (fn, s)) :
    C.P.funcs[f]? = some fn ∧ ∃ c, fn.body = some c ∧ fn.name ≠ "runtime.NumGoroutine" ∧ ∃ x : AExit, (x = .normal ∨ x = .ret) ∧ exec C call n c ⟨enterA fn.ntmps args, H, []⟩ = some (x, s) := by
  unfold runF at h
  split at h
  · rename_i fn' hf
    split at h
    · rename_i c hb
      split at h
      · cases h
      · rename_i hn
        split at h
        · rename_i s₁ h₁; cases h; exact ⟨hf, c, hb, hn, .normal, .inl rfl, h₁⟩
        · rename_i s₁ h₁; cases h; exact ⟨hf, c, hb, hn, .ret, .inr rfl, h₁⟩
        · cases h
    · cases h
  · cases h

theorem enter_SR {M : Plc} {args : List AV} {xs : Array Value} (h : VRs M args xs) {H : Heap} {w : World} (hH : HR M H w) (n : Nat) :
    SR M ⟨enterA n args, H, []⟩ { tmps := xs ++ Array.replicate (n - xs.size) undef, defers := [] } w :=
  ⟨(enter_env h n).1, (enter_env h n).2, hH, trivial⟩

/-- A deferred call. -/
theorem dcall_sound (hC : C.ok) (hcall : CallOk C call) (hlen : CallLen call) {n : Nat} {f : FuncId} {args : List AV} {H H' : Heap} (h : dcallA C call n f args H = some H') {M : Plc} {w : World} {xs : Array Value} (hH : HR M H w) (hf : Free M H.length H'.length)
    (hx : VRs M args xs) (u : FrameMode) : (∃ fn, C.P.funcs[f]? = some fn ∧ fn.body.isSome = true ∧ fn.name ≠ "runtime.NumGoroutine") ∧
      CallsD C.P f xs u w fun e u' w' => u' = u ∧ ∃ x, e = .returned x ∧ ∃ M', HR M' H' w' ∧ Fr M H w M' H' w' := by
  unfold dcallA at h
  split at h
  · rename_i fn s hr
    split at h
    · rename_i hD
      simp only [Option.map_eq_some_iff] at h
      obtain ⟨r, hres, rfl⟩ := h
      obtain ⟨hfn, c, hb, hn, x, hx', hex⟩ := runF_inv hr
      refine ⟨⟨fn, hfn, by simp [hb], hn⟩, ?_⟩
      refine callsD_of_wp hfn hb (wp_mono (exec_sound hC hcall hlen n c _ x s M _ w hex (enter_SR hx hH _) hf) ?_)
      rintro e a' w' ⟨rfl, M', h1, h2⟩
      have hdef : a'.defers = [] := by
        have := h1.defs
        have hD' : s.D = [] := List.isEmpty_iff.1 hD
        rw [hD'] at this
        cases hdd : a'.defers with
        | nil => rfl
        | cons y ys => rw [hdd] at this; exact this.elim
      obtain ⟨v, hv, _⟩ := results_sound (P := C.P) h1.heap h1.env hres
      rcases hx' with rfl | rfl <;> exact ⟨hdef, v, hv, v, rfl, M', h1.heap, h2⟩
    · cases h
  · cases h

/-- The deferred calls, one behind the other; then the results. -/
theorem leave_sound (hC : C.ok) (hcall : CallOk C call) (hlen : CallLen call) {n : Nat} {fn : Func} {tmps : Array Value} {R : Ending → World → Prop} : ∀ (D : List (FuncId × List AV)) (ds : List Deferred) (H H' : Heap) (M : Plc) (w : World),
    leaveA (dcallA C call n) D H = some H' → DsR M D ds → HR M H w → Free M H.length H'.length →
    (∀ M' w', HR M' H' w' → Fr M H w M' H' w' → ∃ v, (results fn tmps).run C.P w' = .ok v w' ∧ R (.returned v) w') → Leaves C.P fn tmps R ds .returning w
  | [], [], H, H', M, w, h, _, hH, hf, hk => by
    simp only [leaveA, Option.some.injEq] at h
    subst h
    exact hk M w hH (.refl M _ w)
  | d :: D, y :: ds, H, H', M, w, h, ⟨⟨cap, args, hy, hv⟩, hds⟩, hH, hf, hk => by
    simp only [leaveA] at h
    split at h
    · rename_i H₁ h₁
      have l1 := leave_len (fun _ _ _ _ h => dcall_len hlen h) _ _ _ h
      have l0 := dcall_len hlen h₁
      obtain ⟨⟨fn', hfn, hbody, hname⟩, hc⟩ := dcall_sound hC hcall hlen h₁ hH (hf.mono (Nat.le_refl _) l1) hv .returning
      subst hy
      refine leaves_cons (by simp) ?_ (hc.mono ?_) (f := d.1) (args := args ++ cap)
      · have hb : fn'.body.isNone = false := by cases hh : fn'.body <;> simp_all
        have hn : (fn'.name == "runtime.NumGoroutine") = false := by simpa using hname
        simp only [invoke, callFunc, Sem.run_bind, run_program, Result.andThen_ok, hfn, hn, hb, Bool.false_eq_true, if_false, Sem.run_pure]
      · rintro e u' w' ⟨rfl, x, rfl, M', h1, h2⟩
        exact leave_sound hC hcall hlen D ds H₁ H' M' w' h (hds.mono h2.le) h1 (hf.later h2) (fun M'' w'' h3 h4 => hk M'' w'' h3 (h2.trans h4))
    · cases h

theorem HR_keep {M : Plc} {H : Heap} {w w' : World} (h : HR M H w) (hs : w.heap.size ≤ w'.heap.size) (hb : ∀ b, b < w.heap.size → w'.heap[b]? = w.heap[b]?) : HR M H w' := by
  refine ⟨?_, ?_, h.excl, fun id v pl hm => Nat.lt_of_lt_of_le (h.inb id v pl hm) hs⟩
  · intro id c e born ro hc v pl hm
    rw [hb _ (h.inb id v pl hm)]
    exact h.cells id c e born ro hc v pl hm
  · intro id es hc v pl hm
    rw [hb _ (h.inb id v pl hm)]
    exact h.maps id es hc v pl hm
theorem Fr_keep {M : Plc} {H : Heap} {w w' : World} (h : HR M H w) (g1 : w'.os = w.os) (g2 : w'.output = w.output) (g3 : w'.tape = w.tape) (hs : w.heap.size ≤ w'.heap.size) (hb : ∀ b, b < w.heap.size → w'.heap[b]? = w.heap[b]?) : Fr M H w M H w' :=
  ⟨.refl M, fun _ _ => rfl, Nat.le_refl _, g1, g2, g3, hs, fun b h1 _ => hb b h1, fun id v pl hi h hr _ => ⟨v, pl, hi, h, hr, rfl⟩⟩

theorem call_sound (hC : C.ok) : ∀ n, CallOk C (callA C n)
  | 0 => fun f args H v H' h => by simp [callA] at h
  | n + 1 => fun f args H v H' h M w xs hH hf hx => by
    have ih := call_sound hC n
    have hlen := call_len C n
    have hl := call_len C (n + 1) f args H v H' h
    rw [callA] at h
    split at h
    · rename_i ht
      cases h
      simp only [Bool.and_eq_true, List.contains_iff_mem, List.isEmpty_iff] at ht
      obtain ⟨ht, rfl⟩ := ht
      obtain ⟨h1, h2⟩ := hC.tru f ht
      refine ⟨hl, h1, ?_⟩
      have hx0 : xs = #[] := by
        have := hx.1
        simpa using this.symm
      subst hx0
      refine (h2 w).mono ?_
      rintro e w' ⟨rfl, g1, g2, g3, g4, g5⟩
      exact ⟨_, rfl, M, .bool _, HR_keep hH g4 g5, Fr_keep hH g1 g2 g3 g4 g5⟩
    split at h
    · rename_i fn s hr
      simp only [Option.bind_eq_some_iff, Option.map_eq_some_iff] at h
      obtain ⟨H₁, hlv, r, hres, h⟩ := h
      cases h
      obtain ⟨hfn, c, hb, hn, x, hx', hex⟩ := runF_inv hr
      refine ⟨hl, ⟨fn, hfn, by simp [hb], hn⟩, ?_⟩
      have l1 := leave_len (fun _ _ _ _ h => dcall_len hlen h) _ _ _ hlv
      refine calls_of_wp_defers hfn hb (wp_mono (exec_sound hC ih hlen n c _ x s M _ w hex (enter_SR hx hH _) (hf.mono (Nat.le_refl _) l1)) ?_)
      rintro e a' w' ⟨rfl, M', h1, h2⟩
      have hleave := leave_sound (fn := fn) (tmps := a'.tmps) (R := fun e w' => ∃ x, e = .returned x ∧ Post M H w v H' x w') hC ih hlen s.D a'.defers s.H H' M' w' hlv h1.defs h1.heap (hf.later h2) (by
        intro M'' w'' h3 h4
        obtain ⟨y, hy, hv⟩ := results_sound (P := C.P) h3 (fun t => (h1.env t).mono h4.le) hres
        exact ⟨y, hy, y, rfl, M'', hv, h3, h2.trans h4⟩)
      rcases hx' with rfl | rfl <;> exact hleave
    · cases h

/-- What is evaluated in the empty heap is so in any world. -/
theorem truth_of (hC : C.ok) {n : Nat} {f : FuncId} (h : (match callA C n f [] [] with | some (.bool b, _) => b | _ => false) = true) : Truth C.P f := by
  split at h
  · rename_i b H' hc
    subst h
    have key := fun w => call_sound hC n f [] [] _ _ hc (fun _ _ => none) w #[] ⟨fun _ _ _ _ _ h => by simp at h, fun _ _ h => by simp at h, fun _ _ _ _ _ _ h => by simp at h, fun _ _ _ h => by simp at h⟩ (fun _ _ _ _ => rfl) ⟨rfl, fun _ _ h => by simp at h⟩
    refine ⟨(key default).2.1, fun w => (key w).2.2.mono ?_⟩
    rintro e w' ⟨x, rfl, M', hv, -, hF⟩
    cases hv
    exact ⟨rfl, hF.os, hF.output, hF.tape, hF.size, fun b hb => hF.block b hb fun id v pl hi => by simp at hi⟩
  · cases h

end Go.Va
