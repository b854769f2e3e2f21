/- Code, by what it must meet: the weakest precondition, its soundness, and the rule for a function's call. -/
import Derived.Test.YtkofbgicfmojjaaVaY
set_option linter.unusedSimpArgs false
set_option linter.unusedVariables false
set_option linter.unusedSectionVars false
namespace Go.Va

abbrev SQ := SE → Heap → SD → Prop

/-- k rounds at most. -/
def itW (body : SQ → SQ) : Nat → SQ
  | 0, _, _, _ => False
  | k + 1, ρ, H, D => body (itW body k) ρ H D

/-- The looks at the heap that no order is told of, by their states. -/
def sameAt (C : Ctx) (ops : List SO) (L : List (SE × Heap)) (p : Nat × Nat) : Prop :=
  match ops[p.1]?, L[p.1]?, L[if p.2 < p.1 then p.2 else p.2 + 1]? with
  | some o, some s, some u =>
    (match o.guard with | none => True | some (g, want) => s.1 g = .bool want) →
    ∃ a Ha b Hb, opE C o.op (ope s.1) s.2 = some (a, Ha) ∧ opE C o.op (ope s.1) u.2 = some (b, Hb) ∧ a.same b = true
  | _, _, _ => False

def WS (C : Ctx) : SC → SQ → (Nat → SQ) → SQ → SQ
  | .skip, N, _, _, ρ, H, D => N ρ H D
  | .reg ops ps, N, _, _, ρ, H, D => match ps with
    | [] => wpo C ops ρ H D N
    | p :: ps => wpoL C ops [] ρ H D fun L ρ' H' D' => (∀ q ∈ p :: ps, sameAt C ops L q) ∧ N ρ' H' D'
  | .seq a b, N, X, R, ρ, H, D => WS C a (WS C b N X R) X R ρ H D
  | .cond c a b, N, X, R, ρ, H, D => match ope ρ c with
    | .bool t => if t = true then WS C a N X R ρ H D else WS C b N X R ρ H D
    | _ => False
  | .block id c, N, X, R, ρ, H, D => WS C c N (fun j => if j = id then N else X j) R ρ H D
  | .loop c, _, X, R, ρ, H, D => ∃ k, itW (fun n => WS C c n X R) k ρ H D
  | .exit id, _, X, _, ρ, H, D => X id ρ H D
  | .ret, _, _, R, ρ, H, D => R ρ H D

/-- How a run of code that WS tells of ends. -/
def Ends (N : SQ) (X : Nat → SQ) (R : SQ) : AExit → SQ
  | .normal => N
  | .exit j => X j
  | .ret => R

theorem exec_le {C : Ctx} {n m : Nat} (h : n ≤ m) {c : Code} {s : St} {r : AExit × St} (he : exec C (callA C n) n c s = some r) : exec C (callA C m) m c s = some r :=
  exec_mono (call_mono C h) h c he

theorem runStates_of_run {C : Ctx} {call : CallF} {ops : Array Oper} : ∀ {l : List Oper} {s s' : St}, runOps C call ops l s = some s' → ∃ L, runStates C call ops l s = some L ∧ L[l.length]? = some s'
  | [], s, s', h => by simp only [runOps, Option.some.injEq] at h; subst h; exact ⟨[s], rfl, rfl⟩
  | o :: l, s, s', h => by
    simp only [runOps] at h
    split at h
    · rename_i s₁ h1
      obtain ⟨L, h2, h3⟩ := runStates_of_run h
      exact ⟨s :: L, by simp only [runStates, h1, h2, Option.map_some], by simpa using h3⟩
    · cases h

theorem reg_run {C : Ctx} {W : Nat} {ops : Array Oper} {N : SQ} {sl : List SO} {ρ : SE} {s : St} (hs : slimOps W ops ops.toList = some sl) (hN : s.ρ.length = W) (ha : AG ρ s.ρ) (h : wpo C sl ρ s.H s.D N) {draw : Bool}
    (hd : draw = true → orderOk ops = true ∧ ops.any defers = false ∧ ops.any selects = false ∧ loose ops = []) {id : Nat} :
    ∃ n s' ρ', exec C (callA C n) n (.region id ops draw) s = some (.normal, s') ∧ s'.ρ.length = W ∧ AG ρ' s'.ρ ∧ N ρ' s'.H s'.D := by
  obtain ⟨n, s', ρ', h1, h2, h3, h4⟩ := wpo_run ops.toList sl ρ s hs hN ha h
  refine ⟨n, s', ρ', ?_, h2, h3, h4⟩
  cases draw with
  | false => simp only [exec, Bool.false_eq_true, if_false, h1, Option.map_some]
  | true =>
    obtain ⟨o1, o2, o3, o4⟩ := hd rfl
    simp only [exec, if_true, drawA, o1, o2, o3, Bool.not_false, Bool.and_self]
    obtain ⟨L, hL, hl⟩ := runStates_of_run h1
    simp only [hL, o4, List.all_nil, if_true]
    rw [Array.length_toList] at hl
    rw [hl]; rfl

theorem slimOps_get {N : Nat} {ops : Array Oper} : ∀ {l : List Oper} {sl : List SO}, slimOps N ops l = some sl → ∀ {i : Nat} {so : SO}, sl[i]? = some so → ∃ o, l[i]? = some o ∧ slimOp N ops o = some so
  | [], sl, hs, i, so, h => by
    simp only [slimOps, Option.some.injEq] at hs; subst hs; simp at h
  | o :: l, sl, hs, i, so, h => by
    simp only [slimOps] at hs
    split at hs
    · rename_i a b ha hb
      cases hs
      cases i with
      | zero => simp only [List.getElem?_cons_zero, Option.some.injEq] at h; subst h; exact ⟨o, rfl, ha⟩
      | succ i => simp only [List.getElem?_cons_succ] at h ⊢; exact slimOps_get hb h
    · cases hs

theorem loose_of_same {C : Ctx} {W n : Nat} {ops : Array Oper} {sl : List SO} {M : List (SE × Heap)} {Ls : List St} {p : Nat × Nat} (hs : slimOps W ops ops.toList = some sl) (hm : AGL M Ls) (h : sameAt C sl M p) : looseOk C (callA C n) ops Ls p = true := by
  unfold sameAt at h
  split at h
  · rename_i so m u h1 h2 h3
    obtain ⟨o, ho, hso⟩ := slimOps_get hs h1
    obtain ⟨s, hs1, hs2, hs3⟩ := hm.get h2
    obtain ⟨t, ht1, ht2, ht3⟩ := hm.get h3
    obtain ⟨hd, hdst, hop, hg⟩ := slimOp_inv hso
    rw [Array.getElem?_toList] at ho
    unfold looseOk
    rw [ho, hs1, ht1]
    simp only
    split
    · rename_i hw
      obtain ⟨a, Ha, b, Hb, e1, e2, e3⟩ := h (by
        rcases hg with ⟨g1, g2⟩ | ⟨j, w, d, g1, g2, g3⟩
        · rw [g2]; trivial
        · rw [g3]
          simp only [wantedA, g1, g2] at hw
          rw [hs2 d] at hw
          show m.1 d = _
          revert hw
          cases m.1 d <;> simp
          )
      rw [hop, hs3, ← hs2.opnd] at e1
      rw [hop, ht3, ← hs2.opnd] at e2
      rw [opE_eq e1, opE_eq e2]
      simpa using e3
    · rfl
  · exact h.elim

theorem regL_run {C : Ctx} {W : Nat} {ops : Array Oper} {N : SQ} {sl : List SO} {ρ : SE} {s : St} {ps : List (Nat × Nat)} (hs : slimOps W ops ops.toList = some sl) (hN : s.ρ.length = W) (ha : AG ρ s.ρ)
    (h : wpoL C sl [] ρ s.H s.D fun L ρ' H' D' => (∀ q ∈ ps, sameAt C sl L q) ∧ N ρ' H' D')
    (o1 : orderOk ops = true) (o2 : ops.any defers = false) (o3 : ops.any selects = false) (o4 : ∀ q ∈ loose ops, q ∈ ps) {id : Nat} :
    ∃ n s' ρ', exec C (callA C n) n (.region id ops true) s = some (.normal, s') ∧ s'.ρ.length = W ∧ AG ρ' s'.ρ ∧ N ρ' s'.H s'.D := by
  obtain ⟨n, Ls, M, s', ρ', h1, hl, hm, h2, h3, h4, h5⟩ := wpoL_run ops.toList sl [] ρ s hs hN ha h
  refine ⟨n, s', ρ', ?_, h2, h3, h5⟩
  have : (loose ops).all (looseOk C (callA C n) ops Ls) = true := by
    rw [List.all_eq_true]
    intro q hq
    exact loose_of_same hs hm (by simpa using h4 q (o4 q hq))
  simp only [exec, if_true, drawA, o1, o2, o3, Bool.not_false, Bool.and_self, h1, this]
  rw [Array.length_toList] at hl
  rw [hl]; rfl

theorem WS_run {C : Ctx} {W : Nat} : ∀ (c : Code) (sc : SC) (N : SQ) (X : Nat → SQ) (R : SQ) (ρ : SE) (s : St), slim W c = some sc → s.ρ.length = W → AG ρ s.ρ → WS C sc N X R ρ s.H s.D →
    ∃ n x s' ρ', exec C (callA C n) n c s = some (x, s') ∧ s'.ρ.length = W ∧ AG ρ' s'.ρ ∧ Ends N X R x ρ' s'.H s'.D
  | .skip, sc, N, X, R, ρ, s, hs, hN, ha, h => by
    simp only [slim, Option.some.injEq] at hs; subst hs
    exact ⟨0, .normal, s, ρ, rfl, hN, ha, h⟩
  | .region id ops draw, sc, N, X, R, ρ, s, hs, hN, ha, h => by
    simp only [slim] at hs
    cases draw with
    | false =>
      simp only [Bool.false_eq_true, if_false, Option.map_eq_some_iff] at hs
      obtain ⟨l, hl, rfl⟩ := hs
      obtain ⟨n, s', ρ', h1, h2, h3, h4⟩ := reg_run (id := id) (draw := false) hl hN ha h (by intro h; cases h)
      exact ⟨n, .normal, s', ρ', h1, h2, h3, h4⟩
    | true =>
      simp only [if_true] at hs
      split at hs
      · rename_i hc
        simp only [Bool.and_eq_true, Bool.not_eq_true'] at hc
        obtain ⟨⟨c1, c2⟩, c3⟩ := hc
        simp only [Option.map_eq_some_iff] at hs
        obtain ⟨l, hl, rfl⟩ := hs
        simp only [WS] at h
        split at h
        · rename_i hp
          obtain ⟨n, s', ρ', h1, h2, h3, h4⟩ := reg_run (id := id) (draw := true) hl hN ha h (fun _ => ⟨c1, c2, c3, hp⟩)
          exact ⟨n, .normal, s', ρ', h1, h2, h3, h4⟩
        · rename_i p ps hp
          obtain ⟨n, s', ρ', h1, h2, h3, h4⟩ := regL_run (id := id) hl hN ha h c1 c2 c3 (fun q hq => by rw [hp] at hq; exact hq)
          exact ⟨n, .normal, s', ρ', h1, h2, h3, h4⟩
      · cases hs
  | .seq a b, sc, N, X, R, ρ, s, hs, hN, ha, h => by
    simp only [slim] at hs
    split at hs
    · rename_i sa sb hsa hsb
      cases hs
      obtain ⟨n, x, s', ρ', h1, h2, h3, h4⟩ := WS_run a sa _ X R ρ s hsa hN ha h
      cases x with
      | normal =>
        obtain ⟨m, y, s₂, ρ₂, g1, g2, g3, g4⟩ := WS_run b sb N X R ρ' s' hsb h2 h3 h4
        refine ⟨max n m, y, s₂, ρ₂, ?_, g2, g3, g4⟩
        simp only [exec, exec_le (Nat.le_max_left n m) h1, exec_le (Nat.le_max_right n m) g1]
      | exit j => exact ⟨n, .exit j, s', ρ', by simp only [exec, h1], h2, h3, h4⟩
      | ret => exact ⟨n, .ret, s', ρ', by simp only [exec, h1], h2, h3, h4⟩
    · cases hs
  | .cond c a b, sc, N, X, R, ρ, s, hs, hN, ha, h => by
    simp only [slim] at hs
    split at hs
    · rename_i sa sb hsa hsb
      cases hs
      simp only [WS] at h
      split at h
      · rename_i t ht
        rw [← ha.opnd] at ht
        split at h
        · rename_i tt
          obtain ⟨n, x, s', ρ', h1, h2⟩ := WS_run a sa N X R ρ s hsa hN ha h
          subst tt
          exact ⟨n, x, s', ρ', by simp only [exec, ht, h1], h2⟩
        · rename_i tt
          obtain ⟨n, x, s', ρ', h1, h2⟩ := WS_run b sb N X R ρ s hsb hN ha h
          have : t = false := by simpa using tt
          subst this
          exact ⟨n, x, s', ρ', by simp only [exec, ht, h1], h2⟩
      · exact h.elim
    · cases hs
  | .block id c, sc, N, X, R, ρ, s, hs, hN, ha, h => by
    simp only [slim, Option.map_eq_some_iff] at hs
    obtain ⟨sa, hsa, rfl⟩ := hs
    obtain ⟨n, x, s', ρ', h1, h2, h3, h4⟩ := WS_run c sa _ _ R ρ s hsa hN ha h
    cases x with
    | normal => exact ⟨n, .normal, s', ρ', by simp only [exec, h1], h2, h3, h4⟩
    | exit j =>
      simp only [Ends] at h4
      by_cases hj : j = id
      · rw [if_pos hj] at h4
        exact ⟨n, .normal, s', ρ', by simp only [exec, h1, if_pos hj], h2, h3, h4⟩
      · rw [if_neg hj] at h4
        exact ⟨n, .exit j, s', ρ', by simp only [exec, h1, if_neg hj], h2, h3, h4⟩
    | ret => exact ⟨n, .ret, s', ρ', by simp only [exec, h1], h2, h3, h4⟩
  | .loop c, sc, N, X, R, ρ, s, hs, hN, ha, h => by
    simp only [slim, Option.map_eq_some_iff] at hs
    obtain ⟨sa, hsa, rfl⟩ := hs
    obtain ⟨k, h⟩ := h
    have go : ∀ (k : Nat) (ρ : SE) (s : St), s.ρ.length = W → AG ρ s.ρ → itW (fun n => WS C sa n X R) k ρ s.H s.D →
        ∃ n x s' ρ', iterA (exec C (callA C n) n c) n s = some (x, s') ∧ s'.ρ.length = W ∧ AG ρ' s'.ρ ∧ Ends N X R x ρ' s'.H s'.D := by
      intro k
      induction k with
      | zero => intro ρ s _ _ h; exact h.elim
      | succ k ih =>
        intro ρ s hN ha h
        obtain ⟨n, x, s', ρ', h1, h2, h3, h4⟩ := WS_run c sa _ X R ρ s hsa hN ha h
        cases x with
        | normal =>
          obtain ⟨m, y, s₂, ρ₂, g1, g2, g3, g4⟩ := ih ρ' s' h2 h3 h4
          refine ⟨max n m + 1, y, s₂, ρ₂, ?_, g2, g3, g4⟩
          have e1 := exec_le (m := max n m + 1) (by omega) h1
          have e2 : iterA (exec C (callA C (max n m + 1)) (max n m + 1) c) (max n m) s' = some (y, s₂) :=
            iter_mono (fun s r h => exec_le (by omega) h) (Nat.le_max_right n m) g1
          simp only [iterA, e1, e2]
        | exit j =>
          refine ⟨n + 1, .exit j, s', ρ', ?_, h2, h3, h4⟩
          simp only [iterA, exec_le (Nat.le_succ n) h1]
        | ret =>
          refine ⟨n + 1, .ret, s', ρ', ?_, h2, h3, h4⟩
          simp only [iterA, exec_le (Nat.le_succ n) h1]
    obtain ⟨n, x, s', ρ', h1, h2⟩ := go k ρ s hN ha h
    exact ⟨n, x, s', ρ', by simp only [exec, h1], h2⟩
  | .exit j, sc, N, X, R, ρ, s, hs, hN, ha, h => by
    simp only [slim, Option.some.injEq] at hs; subst hs
    exact ⟨0, .exit j, s, ρ, rfl, hN, ha, h⟩
  | .ret, sc, N, X, R, ρ, s, hs, hN, ha, h => by
    simp only [slim, Option.some.injEq] at hs; subst hs
    exact ⟨0, .ret, s, ρ, rfl, hN, ha, h⟩
  | .rangeFunc .., sc, N, X, R, ρ, s, hs, hN, ha, h => by simp [slim] at hs
  | .scope _, sc, N, X, R, ρ, s, hs, hN, ha, h => by simp [slim] at hs
  | .label _, sc, N, X, R, ρ, s, hs, hN, ha, h => by simp [slim] at hs
  | .goto _, sc, N, X, R, ρ, s, hs, hN, ha, h => by simp [slim] at hs
  | .refuse _, sc, N, X, R, ρ, s, hs, hN, ha, h => by simp [slim] at hs

/-- The slots from i on have these values. -/
def AGs (ρ : SE) : Nat → List AV → Prop
  | _, [] => True
  | i, a :: l => ρ i = a ∧ AGs ρ (i + 1) l

def resE (P : Program) (ρ : SE) (H : Heap) : ResultVar → Option AV
  | .tmp t => some (ρ t)
  | .cell a t => match ρ a with
    | .ptr id off ver => loadA P t H id off ver
    | _ => none

def resL (P : Program) (ρ : SE) (H : Heap) : List ResultVar → Option (List AV)
  | [] => some []
  | r :: l => (resE P ρ H r).bind fun a => (resL P ρ H l).map (a :: ·)

def resW (P : Program) (ρ : SE) (H : Heap) (rs : List ResultVar) : Option AV :=
  match rs with
  | [r] => resE P ρ H r
  | rs => (resL P ρ H rs).map .tup

theorem resE_eq {P : Program} {ρ : SE} {l : Env} {H : Heap} (h : AG ρ l) (r : ResultVar) : resultA P l H r = resE P ρ H r := by
  cases r with
  | tmp t => simp only [resultA, resE]; rw [h t]
  | cell a t => simp only [resultA, resE]; rw [h a]; cases ρ a <;> rfl

theorem resL_eq {P : Program} {ρ : SE} {l : Env} {H : Heap} (h : AG ρ l) : ∀ rs : List ResultVar, rs.mapM (resultA P l H) = resL P ρ H rs
  | [] => rfl
  | r :: rs => by
    rw [List.mapM_cons, resE_eq h, resL_eq h rs]
    simp only [resL]
    cases resE P ρ H r with
    | none => rfl
    | some a => cases resL P ρ H rs <;> rfl

theorem resW_eq {P : Program} {ρ : SE} {l : Env} {H : Heap} (h : AG ρ l) (rs : List ResultVar) : resultsA P l H rs = resW P ρ H rs := by
  match rs with
  | [] => simp only [resultsA, resW, resL_eq h]
  | [r] => exact resE_eq h _
  | a :: b :: l => simp only [resultsA, resW, resL_eq h]

theorem AGs_get {ρ : SE} : ∀ {l : List AV} {i : Nat}, (∀ t (h : t < l.length), ρ (i + t) = l[t]) → AGs ρ i l
  | [], _, _ => trivial
  | a :: l, i, h => ⟨h 0 (Nat.succ_pos _), AGs_get fun t ht => by
      have := h (t + 1) (by simpa using ht)
      rw [show i + 1 + t = i + (t + 1) by omega]; simpa using this⟩

/-- What a function's run must meet at its end. -/
def Fin (P : Program) (rs : List ResultVar) (Q : AV → Heap → Prop) : SQ := fun ρ H D => D = [] ∧ ∃ v, resW P ρ H rs = some v ∧ Q v H

/-- The rule for a call. -/
theorem F_of {C : Ctx} {f : FuncId} {fn : Func} {c : Code} {sc : SC} {W : Nat} {rs : List ResultVar} {args : List AV} {H : Heap} {Q : AV → Heap → Prop}
    (ht : C.T.contains f = false) (hf : C.P.funcs[f]? = some fn) (hb : fn.body = some c) (hn : fn.name ≠ "runtime.NumGoroutine") (hs : slim W c = some sc) (hW : fn.ntmps = W) (hr : fn.results.toList = rs) (ha : args.length ≤ W)
    (h : ∀ ρ : SE, AGs ρ 0 args → WS C sc (Fin C.P rs Q) (fun _ _ _ _ => False) (Fin C.P rs Q) ρ H []) : F C f args H Q := by
  subst hW hr
  have hlen : (enterA fn.ntmps args).length = fn.ntmps := by
    unfold enterA; rw [List.length_append, List.length_replicate]; omega
  have hag : AGs (fun t => (enterA fn.ntmps args).getD t .dead) 0 args := by
    refine AGs_get fun t ht => ?_
    simp only [Nat.zero_add, enterA, List.getD_eq_getElem?_getD]
    rw [List.getElem?_append_left ht, List.getElem?_eq_getElem ht]; rfl
  obtain ⟨n, x, s', ρ', h1, h2, h3, h4⟩ := WS_run (W := fn.ntmps) c sc _ _ _ _ ⟨enterA fn.ntmps args, H, []⟩ hs hlen (fun t => rfl) (h _ hag)
  have fin : Fin C.P fn.results.toList Q ρ' s'.H s'.D → runF C (callA C n) n f args H = some (fn, s') → F C f args H Q := by
    rintro ⟨hD, v, hv, hq⟩ hrun
    refine ⟨n + 1, v, s'.H, ?_, hq⟩
    rw [callA, if_neg (by rw [ht]; simp)]
    simp only [hrun, hD, leaveA, Option.bind_some, resW_eq h3, hv, Option.map_some]
  cases x with
  | normal => exact fin h4 (by simp only [runF, hf, hb, if_neg hn, h1])
  | exit j => exact h4.elim
  | ret => exact fin h4 (by simp only [runF, hf, hb, if_neg hn, h1])

/-- A call that is known to come to true. -/
theorem F_true {C : Ctx} {f : FuncId} {H : Heap} (h : C.T.contains f = true) : F C f [] H fun v H' => v = .bool true ∧ H' = H :=
  ⟨1, .bool true, H, by rw [callA, if_pos (by rw [h]; rfl)], rfl, rfl⟩

end Go.Va
