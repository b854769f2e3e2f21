/- Slim code: without places in the text and without edges; slots as a function; what a run must meet, as a proposition. -/
import Derived.Test.YtkofbgicfmojjaaVaX
set_option linter.unusedSimpArgs false
set_option linter.unusedVariables false
set_option linter.unusedSectionVars false
namespace Go.Va

/-- An operation without its edges; its guard by the slot. -/
structure SO where
  dst : Option Tmp
  op : Op
  guard : Option (Tmp × Bool)

inductive SC where
  | skip
  | reg (ops : List SO) (ps : List (Nat × Nat))
  | seq (a b : SC)
  | cond (c : Operand) (a b : SC)
  | block (id : Nat) (c : SC)
  | loop (c : SC)
  | exit (id : Nat)
  | ret

def dstOk (N : Nat) : Option Tmp → Bool
  | some d => decide (d < N)
  | none => true

def slimOp (N : Nat) (ops : Array Oper) (o : Oper) : Option SO :=
  if dstOk N o.dst = true then
    match o.guard with
    | none => some ⟨o.dst, o.op, none⟩
    | some (j, want) => ((ops[j]?).bind (·.dst)).map fun d => ⟨o.dst, o.op, some (d, want)⟩
  else none

def slimOps (N : Nat) (ops : Array Oper) : List Oper → Option (List SO)
  | [] => some []
  | o :: l => match slimOp N ops o, slimOps N ops l with
    | some a, some b => some (a :: b)
    | _, _ => none

def slim (N : Nat) : Code → Option SC
  | .skip => some .skip
  | .region _ ops draw =>
    if draw then
      if orderOk ops && !(ops.any defers) && !(ops.any selects) then (slimOps N ops ops.toList).map fun l => .reg l (loose ops) else none
    else (slimOps N ops ops.toList).map fun l => .reg l []
  | .seq a b => match slim N a, slim N b with
    | some a, some b => some (.seq a b)
    | _, _ => none
  | .cond c a b => match slim N a, slim N b with
    | some a, some b => some (.cond c a b)
    | _, _ => none
  | .block id c => (slim N c).map (.block id)
  | .loop c => (slim N c).map .loop
  | .exit id => some (.exit id)
  | .ret => some .ret
  | _ => none

abbrev SE := Nat → AV
abbrev SD := List (FuncId × List AV)

def up (ρ : SE) (d : Nat) (v : AV) : SE := fun t => if t = d then v else ρ t
def upO (ρ : SE) (d : Option Tmp) (v : AV) : SE := match d with
  | some d => up ρ d v
  | none => ρ
def ope (ρ : SE) : Operand → AV
  | .tmp t => ρ t
  | .const v => ofV v
  | .func f => .fn f []
  | .global _ => .dead

/-- One operation that is no call of a function, its operands by what they come to. -/
def opE (C : Ctx) (op : Op) (e : Operand → AV) (H : Heap) : Option (AV × Heap) :=
  match op with
  | .move x => some (e x, H)
  | .assign x => some (e x, H)
  | .pick c a b => match e c with
    | .bool t => some (if t then e a else e b, H)
    | _ => none
  | .alloc t => (zeroA C.P t).map fun z => (.ptr H.length 0 z.cells.length, H ++ [.cells z.cells t 0 false])
  | .box t x => match e x with
    | .dead => none
    | v => some (.ptr H.length 0 v.cells.length, H ++ [.cells v.cells t 0 false])
  | .build t parts => (buildA C.P t (parts.toList.map fun p => (p.1, e p.2))).map (·, H)
  | .buildSlice t len parts => buildSliceA C.P t len (parts.toList.map fun p => (p.1, e p.2)) H
  | .insert t m k v => (mapUpdateA C t (e m) (e k) (e v) H).map (.tup [], ·)
  | .load t a => match e a with
    | .ptr id off ver => (loadA C.P t H id off ver).map (·, H)
    | _ => none
  | .store t a x => match e a with
    | .ptr id off ver => (storeA C.P t H id off ver (e x)).map (.tup [], ·)
    | _ => none
  | .nilCheck x => match e x with
    | .ptr id off ver => some (.ptr id off ver, H)
    | .fn f c => some (.fn f c, H)
    | _ => none
  | .binOp op t x y _ => (binA C op t (e x) (e y)).map (·, H)
  | .unOp op _ x => (unA op (e x)).map (·, H)
  | .convert s d x => (convA C.P s d (e x)).map (·, H)
  | .makeFunc (.func f) first captured => if first.size = 0 then some (.fn f (captured.toList.map e), H) else none
  | .makeMap _ none => some (.map H.length, H ++ [.map []])
  | .makeSlice t l c => makeSliceA C.P t (e l) (e c) H
  | .slice t x lo hi none => (sliceA C.P t (e x) (lo.map e) (hi.map e)).map (·, H)
  | .fieldAddr s x f => (fieldAddrA C.P s (e x) f).map (·, H)
  | .field s x f => (fieldA C.P s (e x) f).map (·, H)
  | .indexAddr t x i => (indexAddrA C.P t (e x) (e i)).map (·, H)
  | .index t x i => (indexA C.P t (e x) (e i)).map (·, H)
  | .lookup t x k ok => (lookupA C t (e x) (e k) ok H).map (·, H)
  | .mapUpdate t m k v => (mapUpdateA C t (e m) (e k) (e v) H).map (.tup [], ·)
  | .extract t i => match e t with
    | .tup vs => (vs[i]?).map (·, H)
    | _ => none
  | .call { callee := .builtin b, args, argTypes } => builtinA C.P b argTypes (args.toList.map e) H
  | _ => none

/-- A call that comes to Q. -/
def F (C : Ctx) (f : FuncId) (args : List AV) (H : Heap) (Q : AV → Heap → Prop) : Prop :=
  ∃ n v H', callA C n f args H = some (v, H') ∧ Q v H'

theorem F.mono {C : Ctx} {f : FuncId} {args : List AV} {H : Heap} {Q Q' : AV → Heap → Prop} (h : F C f args H Q) (hq : ∀ v H', Q v H' → Q' v H') : F C f args H Q' :=
  let ⟨n, v, H', h1, h2⟩ := h
  ⟨n, v, H', h1, hq _ _ h2⟩

/-- What one operation must meet. -/
def wp1 (C : Ctx) (op : Op) (ρ : SE) (H : Heap) (D : SD) (K : AV → Heap → SD → Prop) : Prop :=
  match op with
  | .call { callee := .value f, args, argTypes := _ } => match ope ρ f with
    | .fn g cap => F C g (args.toList.map (ope ρ) ++ cap) H fun v H' => K v H' D
    | _ => False
  | .defer { callee := .value f, args, argTypes := _ } => match ope ρ f with
    | .fn g cap => K (.tup []) H ((g, args.toList.map (ope ρ) ++ cap) :: D)
    | _ => False
  | op => ∃ v H', opE C op (ope ρ) H = some (v, H') ∧ K v H' D

/-- What a row of operations must meet. -/
def wpo (C : Ctx) : List SO → SE → Heap → SD → (SE → Heap → SD → Prop) → Prop
  | [], ρ, H, D, Q => Q ρ H D
  | o :: l, ρ, H, D, Q =>
    match o.guard with
    | none => wp1 C o.op ρ H D fun v H' D' => wpo C l (upO ρ o.dst v) H' D' Q
    | some (g, want) =>
      match ρ g with
      | .bool b => if b = want then wp1 C o.op ρ H D fun v H' D' => wpo C l (upO ρ o.dst v) H' D' Q else wpo C l (upO ρ o.dst (.tup [])) H D Q
      | .dead => False
      | _ => wpo C l (upO ρ o.dst (.tup [])) H D Q

/-- What a row of operations must meet, told the states ahead of each, and behind the last. -/
def wpoL (C : Ctx) : List SO → List (SE × Heap) → SE → Heap → SD → (List (SE × Heap) → SE → Heap → SD → Prop) → Prop
  | [], L, ρ, H, D, Q => Q (L ++ [(ρ, H)]) ρ H D
  | o :: l, L, ρ, H, D, Q =>
    match o.guard with
    | none => wp1 C o.op ρ H D fun v H' D' => wpoL C l (L ++ [(ρ, H)]) (upO ρ o.dst v) H' D' Q
    | some (g, want) =>
      match ρ g with
      | .bool b => if b = want then wp1 C o.op ρ H D fun v H' D' => wpoL C l (L ++ [(ρ, H)]) (upO ρ o.dst v) H' D' Q else wpoL C l (L ++ [(ρ, H)]) (upO ρ o.dst (.tup [])) H D Q
      | .dead => False
      | _ => wpoL C l (L ++ [(ρ, H)]) (upO ρ o.dst (.tup [])) H D Q

/-- A function's slots and a row of values. -/
def AG (ρ : SE) (l : Env) : Prop := ∀ t, l.getD t .dead = ρ t

theorem AG.opnd {ρ : SE} {l : Env} (h : AG ρ l) : Va.opnd l = ope ρ := by
  funext x
  cases x <;> simp [Va.opnd, ope]
  exact h _

theorem AG.put {ρ : SE} {l : Env} (h : AG ρ l) {d : Option Tmp} (hd : ∀ t, d = some t → t < l.length) (v : AV) : AG (upO ρ d v) (putSlot l d v) := by
  intro t
  cases d with
  | none => exact h t
  | some d =>
    simp only [putSlot, upO, up]
    rw [getD_set]
    have := hd d rfl
    by_cases ht : d = t
    · subst ht; simp [this]
    · rw [if_neg (by rintro ⟨h, _⟩; exact ht h), if_neg (fun h => ht h.symm)]; exact h t

theorem opE_eq {C : Ctx} {call : CallF} {o : Oper} {ρ : Env} {H : Heap} {r : AV × Heap} (h : opE C o.op (opnd ρ) H = some r) : opA C call o ρ H = some r := by
  obtain ⟨dst, op, ty, pos, after, guard⟩ := o
  cases op
  case call c =>
    obtain ⟨callee, args, ts⟩ := c
    cases callee <;> first | exact h | (simp [opE] at h)
  case makeFunc fn a b => cases fn <;> first | exact h | (simp [opE] at h)
  case makeMap t r => cases r <;> first | exact h | (simp [opE] at h)
  case slice t x l hi mx => cases mx <;> first | exact h | (simp [opE] at h)
  all_goals first | exact h | (simp [opE] at h)

/-- One step, as wp1 has it. -/
theorem wp1_step {C : Ctx} {ops : Array Oper} {o : Oper} {ρ : SE} {s : St} (ha : AG ρ s.ρ) {K : AV → Heap → SD → Prop} (h : wp1 C o.op ρ s.H s.D K) (hw : wantedA ops o s.ρ = some true) :
    ∃ n v H' D', stepA C (callA C n) ops o s = some ⟨putSlot s.ρ o.dst v, H', D'⟩ ∧ K v H' D' := by
  have ho := ha.opnd
  unfold wp1 at h
  split at h
  · rename_i f args ts hop
    split at h
    · rename_i g cap hf
      obtain ⟨n, v, H', h1, h2⟩ := h
      refine ⟨n, v, H', s.D, ?_, h2⟩
      simp only [stepA, hw, deferA, hop, opA, ho, hf, h1, Option.map_some]
    · exact h.elim
  · rename_i f args ts hop
    split at h
    · rename_i g cap hf
      refine ⟨0, .tup [], s.H, _, ?_, h⟩
      simp only [stepA, hw, deferA, hop, ho, hf]
    · exact h.elim
  · rename_i h1 h2
    obtain ⟨v, H', h3, h4⟩ := h
    refine ⟨0, v, H', s.D, ?_, h4⟩
    rw [← ho] at h3
    have hop := opE_eq (call := callA C 0) h3
    have hdef : deferA o s.ρ = none := by
      unfold deferA
      split
      · rename_i f args ts hh; exact absurd hh (h2 f args ts)
      · rfl
    simp only [stepA, hw, hdef, hop, Option.map_some]

theorem slimOp_inv {N : Nat} {ops : Array Oper} {o : Oper} {so : SO} (h : slimOp N ops o = some so) :
    (∀ t, o.dst = some t → t < N) ∧ so.dst = o.dst ∧ so.op = o.op ∧ ((o.guard = none ∧ so.guard = none) ∨ ∃ j want d, o.guard = some (j, want) ∧ (ops[j]?).bind (·.dst) = some d ∧ so.guard = some (d, want)) := by
  unfold slimOp at h
  by_cases hd : dstOk N o.dst = true
  · rw [if_pos hd] at h
    refine ⟨?_, ?_⟩
    · intro t ht; rw [ht] at hd; simpa [dstOk] using hd
    · split at h
      · cases h; exact ⟨rfl, rfl, .inl ⟨‹_›, rfl⟩⟩
      · rename_i j want hg
        simp only [Option.map_eq_some_iff] at h
        obtain ⟨d, hd', h⟩ := h
        cases h
        exact ⟨rfl, rfl, .inr ⟨j, want, d, hg, hd', rfl⟩⟩
  · rw [if_neg hd] at h; cases h

/-- A row of operations, as wpo has it. -/
theorem wpo_run {C : Ctx} {N : Nat} {ops : Array Oper} {Q : SE → Heap → SD → Prop} : ∀ (l : List Oper) (sl : List SO) (ρ : SE) (s : St), slimOps N ops l = some sl → s.ρ.length = N → AG ρ s.ρ → wpo C sl ρ s.H s.D Q →
    ∃ n s' ρ', runOps C (callA C n) ops l s = some s' ∧ s'.ρ.length = N ∧ AG ρ' s'.ρ ∧ Q ρ' s'.H s'.D
  | [], sl, ρ, s, hs, hN, ha, h => by
    simp only [slimOps, Option.some.injEq] at hs
    subst hs
    exact ⟨0, s, ρ, rfl, hN, ha, h⟩
  | o :: l, sl, ρ, s, hs, hN, ha, h => by
    simp only [slimOps] at hs
    split at hs
    · rename_i a b hoa hlb
      cases hs
      obtain ⟨hd, hdst, hop, hg⟩ := slimOp_inv hoa
      have hput : ∀ v, AG (upO ρ a.dst v) (putSlot s.ρ o.dst v) := fun v => by rw [hdst]; exact ha.put (fun t ht => by rw [hN]; exact hd t ht) v
      have go : ∀ (n₁ : Nat) (s₁ : St) (ρ₁ : SE), stepA C (callA C n₁) ops o s = some s₁ → s₁.ρ.length = N → AG ρ₁ s₁.ρ → wpo C b ρ₁ s₁.H s₁.D Q →
          ∃ n s' ρ', runOps C (callA C n) ops (o :: l) s = some s' ∧ s'.ρ.length = N ∧ AG ρ' s'.ρ ∧ Q ρ' s'.H s'.D := by
        intro n₁ s₁ ρ₁ hst hN₁ ha₁ h₁
        obtain ⟨n, s', ρ', hr, h2, h3, h4⟩ := wpo_run l b ρ₁ s₁ hlb hN₁ ha₁ h₁
        refine ⟨max n₁ n, s', ρ', ?_, h2, h3, h4⟩
        simp only [runOps]
        rw [step_mono (call_mono C (Nat.le_max_left n₁ n)) hst]
        exact runOps_mono (call_mono C (Nat.le_max_right n₁ n)) hr
      have want : wantedA ops o s.ρ = some true → wp1 C a.op ρ s.H s.D (fun v H' D' => wpo C b (upO ρ a.dst v) H' D' Q) →
          ∃ n s' ρ', runOps C (callA C n) ops (o :: l) s = some s' ∧ s'.ρ.length = N ∧ AG ρ' s'.ρ ∧ Q ρ' s'.H s'.D := by
        intro hw h1
        rw [hop] at h1
        obtain ⟨n₁, v, H', D', hst, hk⟩ := wp1_step (ops := ops) (o := o) ha h1 hw
        exact go n₁ _ _ hst (by simp [putSlot_len, hN]) (hput v) hk
      have skip : wantedA ops o s.ρ = some false → wpo C b (upO ρ a.dst (.tup [])) s.H s.D Q →
          ∃ n s' ρ', runOps C (callA C n) ops (o :: l) s = some s' ∧ s'.ρ.length = N ∧ AG ρ' s'.ρ ∧ Q ρ' s'.H s'.D := by
        intro hw h1
        refine go 0 { s with ρ := putSlot s.ρ o.dst (.tup []) } _ ?_ (by simp [putSlot_len, hN]) (hput _) h1
        simp only [stepA, hw]
      simp only [wpo] at h
      rcases hg with ⟨hg1, hg2⟩ | ⟨j, wnt, d, hg1, hg2, hg3⟩
      · simp only [hg2] at h
        exact want (by simp [wantedA, hg1]) h
      · simp only [hg3] at h
        have hd' := ha d
        split at h
        · rename_i bb hb
          rw [hb] at hd'
          split at h
          · rename_i hbw
            exact want (by simp only [wantedA, hg1, hg2, hd']; simp [hbw]) h
          · rename_i hbw
            exact skip (by simp only [wantedA, hg1, hg2, hd']; simp [hbw]) h
        · exact h.elim
        · rename_i h1 h2
          refine skip ?_ h
          rw [← hd'] at h1 h2
          unfold wantedA
          simp only [hg1, hg2]
    · cases hs

/-- States, as they are told. -/
def AGL : List (SE × Heap) → List St → Prop
  | [], [] => True
  | m :: M, s :: L => AG m.1 s.ρ ∧ m.2 = s.H ∧ AGL M L
  | _, _ => False

theorem AGL.get : ∀ {M : List (SE × Heap)} {L : List St} (_ : AGL M L) {i : Nat} {m : SE × Heap}, M[i]? = some m → ∃ s, L[i]? = some s ∧ AG m.1 s.ρ ∧ m.2 = s.H
  | [], [], _, i, m, h => by simp at h
  | m :: M, s :: L, ha, 0, m', h => by simp only [List.getElem?_cons_zero, Option.some.injEq] at h; subst h; exact ⟨s, rfl, ha.1, ha.2.1⟩
  | m :: M, s :: L, ha, i + 1, m', h => by
    simp only [List.getElem?_cons_succ] at h ⊢
    exact AGL.get ha.2.2 h
  | [], s :: L, ha, _, _, _ => ha.elim
  | m :: M, [], ha, _, _, _ => ha.elim

/-- A row of operations, as wpoL has it. -/
theorem wpoL_run {C : Ctx} {N : Nat} {ops : Array Oper} {Q : List (SE × Heap) → SE → Heap → SD → Prop} : ∀ (l : List Oper) (sl : List SO) (L : List (SE × Heap)) (ρ : SE) (s : St), slimOps N ops l = some sl → s.ρ.length = N → AG ρ s.ρ → wpoL C sl L ρ s.H s.D Q →
    ∃ n Ls M s' ρ', runStates C (callA C n) ops l s = some Ls ∧ Ls[l.length]? = some s' ∧ AGL M Ls ∧ s'.ρ.length = N ∧ AG ρ' s'.ρ ∧ Q (L ++ M) ρ' s'.H s'.D
  | [], sl, L, ρ, s, hs, hN, ha, h => by
    simp only [slimOps, Option.some.injEq] at hs
    subst hs
    exact ⟨0, [s], [(ρ, s.H)], s, ρ, rfl, rfl, ⟨ha, rfl, trivial⟩, hN, ha, h⟩
  | o :: l, sl, L, ρ, s, hs, hN, ha, h => by
    simp only [slimOps] at hs
    split at hs
    · rename_i a b hoa hlb
      cases hs
      obtain ⟨hd, hdst, hop, hg⟩ := slimOp_inv hoa
      have hput : ∀ v, AG (upO ρ a.dst v) (putSlot s.ρ o.dst v) := fun v => by rw [hdst]; exact ha.put (fun t ht => by rw [hN]; exact hd t ht) v
      have go : ∀ (n₁ : Nat) (s₁ : St) (ρ₁ : SE), stepA C (callA C n₁) ops o s = some s₁ → s₁.ρ.length = N → AG ρ₁ s₁.ρ → wpoL C b (L ++ [(ρ, s.H)]) ρ₁ s₁.H s₁.D Q →
          ∃ n Ls M s' ρ', runStates C (callA C n) ops (o :: l) s = some Ls ∧ Ls[(o :: l).length]? = some s' ∧ AGL M Ls ∧ s'.ρ.length = N ∧ AG ρ' s'.ρ ∧ Q (L ++ M) ρ' s'.H s'.D := by
        intro n₁ s₁ ρ₁ hst hN₁ ha₁ h₁
        obtain ⟨n, Ls, M, s', ρ', hr, hl, hm, h2, h3, h4⟩ := wpoL_run l b _ ρ₁ s₁ hlb hN₁ ha₁ h₁
        refine ⟨max n₁ n, s :: Ls, (ρ, s.H) :: M, s', ρ', ?_, by simpa using hl, ⟨ha, rfl, hm⟩, h2, h3, by simpa using h4⟩
        simp only [runStates]
        rw [step_mono (call_mono C (Nat.le_max_left n₁ n)) hst]
        simp only [runStates_mono (call_mono C (Nat.le_max_right n₁ n)) hr, Option.map_some]
      have want : wantedA ops o s.ρ = some true → wp1 C a.op ρ s.H s.D (fun v H' D' => wpoL C b (L ++ [(ρ, s.H)]) (upO ρ a.dst v) H' D' Q) →
          ∃ n Ls M s' ρ', runStates C (callA C n) ops (o :: l) s = some Ls ∧ Ls[(o :: l).length]? = some s' ∧ AGL M Ls ∧ s'.ρ.length = N ∧ AG ρ' s'.ρ ∧ Q (L ++ M) ρ' s'.H s'.D := by
        intro hw h1
        rw [hop] at h1
        obtain ⟨n₁, v, H', D', hst, hk⟩ := wp1_step (ops := ops) (o := o) ha h1 hw
        exact go n₁ _ _ hst (by simp [putSlot_len, hN]) (hput v) hk
      have skip : wantedA ops o s.ρ = some false → wpoL C b (L ++ [(ρ, s.H)]) (upO ρ a.dst (.tup [])) s.H s.D Q →
          ∃ n Ls M s' ρ', runStates C (callA C n) ops (o :: l) s = some Ls ∧ Ls[(o :: l).length]? = some s' ∧ AGL M Ls ∧ s'.ρ.length = N ∧ AG ρ' s'.ρ ∧ Q (L ++ M) ρ' s'.H s'.D := by
        intro hw h1
        refine go 0 { s with ρ := putSlot s.ρ o.dst (.tup []) } _ ?_ (by simp [putSlot_len, hN]) (hput _) h1
        simp only [stepA, hw]
      simp only [wpoL] at h
      rcases hg with ⟨hg1, hg2⟩ | ⟨j, wnt, d, hg1, hg2, hg3⟩
      · simp only [hg2] at h
        exact want (by simp [wantedA, hg1]) h
      · simp only [hg3] at h
        have hd' := ha d
        split at h
        · rename_i bb hb
          rw [hb] at hd'
          split at h
          · rename_i hbw
            exact want (by simp only [wantedA, hg1, hg2, hd']; simp [hbw]) h
          · rename_i hbw
            exact skip (by simp only [wantedA, hg1, hg2, hd']; simp [hbw]) h
        · exact h.elim
        · rename_i h1 h2
          refine skip ?_ h
          rw [← hd'] at h1 h2
          unfold wantedA
          simp only [hg1, hg2]
    · cases hs

end Go.Va
