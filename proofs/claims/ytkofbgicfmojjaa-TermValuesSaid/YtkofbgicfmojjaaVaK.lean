/- One operation: what the interpreter tells, the model does. -/
import Derived.Test.YtkofbgicfmojjaaVaJ
set_option linter.unusedSimpArgs false
set_option linter.unusedVariables false
set_option linter.unusedSectionVars false
namespace Go.Va

variable {P : Program} {M : Plc} {H : Heap} {w : World}

/-- A call that the interpreter answers is one that the model makes. -/
def CallOk (C : Ctx) (call : CallF) : Prop :=
  ∀ f args H v H', call f args H = some (v, H') → ∀ M w xs, HR M H w → Free M H.length H'.length → VRs M args xs →
    H.length ≤ H'.length ∧ (∃ fn, C.P.funcs[f]? = some fn ∧ fn.body.isSome = true ∧ fn.name ≠ "runtime.NumGoroutine") ∧ Calls C.P f xs w fun e w' => ∃ x, e = .returned x ∧ Post M H w v H' x w'

/-- What an operation does. -/
def Does (P : Program) (o : Oper) (a : Act) (w : World) (Q : Value → World → Prop) : Prop :=
  (∃ x w', (execOp a.eval o).run P w = .ok (.value x) w' ∧ Q x w') ∨ (∃ w', (execOp a.eval o).run P w = .ok .skip w' ∧ Q undef w') ∨
  ∃ f args w', (execOp a.eval o).run P w = .ok (.enter f args) w' ∧ Calls P f args w' fun e w'' => ∃ x, e = .returned x ∧ Q x w''

theorem Does.mono {o : Oper} {a : Act} {Q Q' : Value → World → Prop} (h : Does P o a w Q) (hq : ∀ x w', Q x w' → Q' x w') : Does P o a w Q' := by
  rcases h with ⟨x, w', h1, h2⟩ | ⟨w', h1, h2⟩ | ⟨f, args, w', h1, h2⟩
  · exact .inl ⟨x, w', h1, hq _ _ h2⟩
  · exact .inr (.inl ⟨w', h1, hq _ _ h2⟩)
  · exact .inr (.inr ⟨f, args, w', h1, h2.mono fun e w'' ⟨x, he, hx⟩ => ⟨x, he, hq _ _ hx⟩⟩)

theorem Does.wp {o : Oper} {a : Act} {R : Value → World → Prop} (h : Does P o a w R) {next : Act → World → Prop} {Q : Exit → Act → World → Prop} (hn : ∀ x w', R x w' → next (a.put o.dst x) w') : o.wp P a w next Q := by
  unfold Oper.wp
  rcases h with ⟨x, w', h1, h2⟩ | ⟨w', h1, h2⟩ | ⟨f, args, w', h1, h2⟩
  · rw [h1]; exact hn _ _ h2
  · rw [h1]; exact hn _ _ h2
  · rw [h1]
    refine h2.mono ?_
    rintro e w'' ⟨x, rfl, hx⟩
    exact hn _ _ hx

theorem VR.undef : VR M (.tup []) undef := .tup [] #[] rfl (fun i h => by simp at h)

theorem free_one {a b : Nat} (h : b = a + 1) {M : Plc} (hf : Free M a b) : Free M a (a + 1) := by subst h; exact hf

theorem vrs_map {ρ : Env} {a : Act} (xs : Array Operand) (h : ∀ x ∈ xs, VR M (opnd ρ x) (a.eval x)) : VRs M (xs.toList.map (opnd ρ)) (xs.map a.eval) :=
  ⟨by simp, fun i v hv => by
    simp only [List.getElem?_map, Option.map_eq_some_iff, Array.getElem?_toList] at hv
    obtain ⟨x, hx, rfl⟩ := hv
    exact ⟨a.eval x, by simp [hx], h x (Array.mem_of_getElem? hx)⟩⟩

theorem VRs.append {as bs : List AV} {xs ys : Array Value} (h : VRs M as xs) (k : VRs M bs ys) : VRs M (as ++ bs) (xs ++ ys) := by
  refine ⟨by simp [h.1, k.1], fun i v hv => ?_⟩
  by_cases hi : i < as.length
  · rw [List.getElem?_append_left hi] at hv
    obtain ⟨y, hy, hvy⟩ := h.2 i v hv
    exact ⟨y, by rw [Array.getElem?_append_left (by rw [← h.1]; exact hi)]; exact hy, hvy⟩
  · rw [List.getElem?_append_right (by omega)] at hv
    obtain ⟨y, hy, hvy⟩ := k.2 _ v hv
    exact ⟨y, by rw [Array.getElem?_append_right (by rw [← h.1]; omega), ← h.1]; exact hy, hvy⟩

theorem parts_map {ρ : Env} {a : Act} (ps : Array (Nat × Operand)) (h : ∀ x ∈ (ps.toList.map (·.2)).toArray, VR M (opnd ρ x) (a.eval x)) :
    Parts M (ps.toList.map fun p => (p.1, opnd ρ p.2)) (ps.map fun (i, x) => (i, a.eval x)).toList := by
  refine ⟨by simp, ?_⟩
  intro i p hp
  simp only [List.getElem?_map, Option.map_eq_some_iff, Array.getElem?_toList] at hp
  obtain ⟨q, hq, rfl⟩ := hp
  refine ⟨(q.1, a.eval q.2), by simp [hq], rfl, h q.2 ?_⟩
  simp only [List.mem_toArray, List.mem_map, Array.mem_toList_iff]
  exact ⟨q, Array.mem_of_getElem? hq, rfl⟩

theorem builtin_sound {C : Ctx} {b : Builtin} {ts : Array TypeId} {args : List AV} {v : AV} {H' : Heap} (h : builtinA C.P b ts args H = some (v, H')) (hH : HR M H w) (hf : Free M H.length H'.length)
    {xs : Array Value} (hx : VRs M args xs) (ty : TypeId) (consts : Array Bool) : ∃ x w', (builtin b ts ty consts xs).run C.P w = .ok (.value x) w' ∧ Post M H w v H' x w' := by
  have one : ∀ {a : AV}, args = [a] → ∃ x, xs = #[x] ∧ VR M a x := by
    intro a ha
    subst ha
    have hl := hx.1
    obtain ⟨y, hy, hv⟩ := hx.2 0 a rfl
    refine ⟨y, ?_, hv⟩
    apply Array.ext_getElem?
    intro i
    match i with
    | 0 => simpa using hy
    | i + 1 => simp at hl; simp [Array.getElem?_eq_none, ← hl]
  have two : ∀ {a b : AV}, args = [a, b] → ∃ x y, xs = #[x, y] ∧ VR M a x ∧ VR M b y := by
    intro a b ha
    subst ha
    have hl := hx.1
    obtain ⟨y, hy, hv⟩ := hx.2 0 a rfl
    obtain ⟨z, hz, hv'⟩ := hx.2 1 b rfl
    refine ⟨y, z, ?_, hv, hv'⟩
    apply Array.ext_getElem?
    intro i
    match i with
    | 0 => simpa using hy
    | 1 => simpa using hz
    | i + 2 => simp at hl; simp [Array.getElem?_eq_none, ← hl]
  unfold builtinA at h
  split at h
  · simp only [Option.bind_eq_some_iff, Option.map_eq_some_iff] at h
    obtain ⟨t, ht, r, hr, h⟩ := h
    cases h
    obtain ⟨x, rfl, hvx⟩ := one rfl
    obtain ⟨y, hy, hvy⟩ := len_sound (w := w) hr hvx ts ht ty
    exact ⟨y, w, by simp [builtin, hy], .same hH hvy⟩
  · split at h
    · rename_i t u ht hu
      obtain ⟨x, y, rfl, hvx, hvy⟩ := two rfl
      split at h
      · rename_i hc
        obtain ⟨hsz, rfl⟩ := hc
        have hts : ts = #[u, u] := by
          apply Array.ext_getElem?
          intro i
          match i with
          | 0 => simpa using ht
          | 1 => simpa using hu
          | i + 2 => simp [Array.getElem?_eq_none, hsz]
        subst hts
        obtain ⟨z, w', hr, hp⟩ := append_sound hH h hvx hvy hf rfl ty
        exact ⟨z, w', by simp [builtin, hr], hp⟩
      · cases h
    · cases h
  · simp only [Option.map_eq_some_iff] at h
    obtain ⟨r, hr, h⟩ := h
    cases h
    obtain ⟨x, y, rfl, hvx, hvy⟩ := two rfl
    obtain ⟨z, hz, hvz⟩ := min_sound (P := C.P) (w := w) hr hvx hvy
    exact ⟨z, w, by simp [builtin, Builtin.min_, hz], .same hH hvz⟩
  · simp only [Option.map_eq_some_iff] at h
    obtain ⟨r, hr, h⟩ := h
    cases h
    obtain ⟨x, y, rfl, hvx, hvy⟩ := two rfl
    obtain ⟨z, hz, hvz⟩ := max_sound (P := C.P) (w := w) hr hvx hvy
    exact ⟨z, w, by simp [builtin, Builtin.max_, hz], .same hH hvz⟩
  · simp only [Option.bind_eq_some_iff, Option.map_eq_some_iff] at h
    obtain ⟨t, ht, r, hr, h⟩ := h
    cases h
    obtain ⟨x, rfl, hvx⟩ := one rfl
    obtain ⟨w', hy, h1, h2⟩ := clear_sound hH hr hvx ht ty
    exact ⟨undef, w', by simp [builtin, hy, Go.undef], M, .undef, h1, h2⟩
  · cases h

set_option maxHeartbeats 4000000 in
theorem op_sound {C : Ctx} (hC : C.ok) {call : CallF} (hcall : CallOk C call) {o : Oper} {ρ : Env} {a : Act} {v : AV} {H' : Heap} (h : opA C call o ρ H = some (v, H')) (hH : HR M H w) (hf : Free M H.length H'.length)
    (hρ : ∀ x ∈ o.op.operands, VR M (opnd ρ x) (a.eval x)) : H.length ≤ H'.length ∧ Does C.P o a w (Post M H w v H') := by
  have pure1 : ∀ {r : AV} {s : Sem Value} {x : Value}, (execOp a.eval o = do pure (.value (← s))) → s.run C.P w = .ok x w → VR M r x → r = v → H = H' → H.length ≤ H'.length ∧ Does C.P o a w (Post M H w v H') := by
    intro r s x he hs hx hr hh
    subst hr hh
    exact ⟨Nat.le_refl _, .inl ⟨x, w, by rw [he]; simp [hs], .same hH hx⟩⟩
  have made : ∀ {s : Sem Value} {x : Value} {w' : World}, (execOp a.eval o = do pure (.value (← s))) → s.run C.P w = .ok x w' → Post M H w v H' x w' → H.length ≤ H'.length ∧ Does C.P o a w (Post M H w v H') := by
    intro s x w' he hs hp
    exact ⟨hp.choose_spec.2.2.len, .inl ⟨x, w', by rw [he]; simp [hs], hp⟩⟩
  have wrote : ∀ {s : Sem Unit} {w' : World}, (execOp a.eval o = do s; pure .skip) → s.run C.P w = .ok () w' → HR M H' w' → Fr M H w M H' w' → v = .tup [] → H.length ≤ H'.length ∧ Does C.P o a w (Post M H w v H') := by
    intro s w' he hs h1 h2 hv
    subst hv
    exact ⟨h2.len, .inr (.inl ⟨w', by rw [he]; simp [hs], M, .undef, h1, h2⟩)⟩
  unfold opA at h
  split at h
  · rename_i x ho
    cases h
    have hx := hρ x (by simp [ho, Op.operands])
    exact ⟨Nat.le_refl _, .inl ⟨a.eval x, w, by simp [execOp, ho], .same hH hx⟩⟩
  · rename_i x ho
    cases h
    have hx := hρ x (by simp [ho, Op.operands])
    exact ⟨Nat.le_refl _, .inl ⟨a.eval x, w, by simp [execOp, ho], .same hH hx⟩⟩
  · rename_i c x y ho
    split at h
    · rename_i t hc
      cases h
      have h0 := hρ c (by simp [ho, Op.operands])
      rw [hc] at h0
      generalize hce : a.eval c = cv at h0
      cases h0
      have hx := hρ x (by simp [ho, Op.operands])
      have hy := hρ y (by simp [ho, Op.operands])
      refine ⟨Nat.le_refl _, .inl ⟨if t then a.eval x else a.eval y, w, by simp [execOp, ho, hce, asBool], .same hH ?_⟩⟩
      cases t
      · exact hy
      · exact hx
    · cases h
  · rename_i t ho
    simp only [Option.map_eq_some_iff] at h
    obtain ⟨z, hz, h⟩ := h
    cases h
    obtain ⟨zx, i, hi, hzi, rfl, hzd, hzb⟩ := zeroA_inv hz
    refine made (s := Instr.alloc t true (.tuple #[])) (by simp [execOp, ho]) ?_ (newVar_sound hH (by simpa using hf) (.ofV zx) hzd t)
    simp only [Instr.alloc, Sem.run_bind, run_zero hzb, Result.andThen_ok, newVar, newRow, run_newObj, Sem.run_pure]
    rfl
  · rename_i t x ho
    have hx := hρ x (by simp [ho, Op.operands])
    split at h
    · cases h
    · rename_i hd
      cases h
      have hdd : (opnd ρ x).isDead = false := by
        cases hxx : opnd ρ x <;> first | rfl | exact absurd hxx (hd)
      refine made (s := Instr.box t (a.eval x)) (by simp [execOp, ho]) ?_ (newVar_sound hH (by simpa using hf) hx hdd t)
      simp only [Instr.box, Sem.run_bind, newVar, newRow, run_newObj, Result.andThen_ok, Sem.run_pure]
      rfl
  · rename_i t parts ho
    simp only [Option.map_eq_some_iff] at h
    obtain ⟨r, hr, h⟩ := h
    cases h
    obtain ⟨y, hy, hv⟩ := build_sound (P := C.P) (w := w) hr (parts_map parts (fun x hx => hρ x (by simpa [ho, Op.operands] using hx)))
    exact pure1 (s := Instr.build t (parts.map fun (i, x) => (i, a.eval x))) (by simp [execOp, ho]) hy hv rfl rfl
  · rename_i t len parts ho
    obtain ⟨y, w', hy, hp⟩ := buildSlice_sound hH h (parts_map parts (fun x hx => hρ x (by simpa [ho, Op.operands] using hx))) hf
    exact made (s := Instr.buildSlice t len (parts.map fun (i, x) => (i, a.eval x))) (by simp [execOp, ho]) hy hp
  · rename_i t m k x ho
    simp only [Option.map_eq_some_iff, Prod.mk.injEq] at h
    obtain ⟨r, hr, h1, rfl⟩ := h
    obtain ⟨w', hy, h2, h3⟩ := mapUpdate_sound hC hH hr (hρ m (by simp [ho, Op.operands])) (hρ k (by simp [ho, Op.operands])) (hρ x (by simp [ho, Op.operands]))
    exact wrote (s := Instr.mapUpdate t (a.eval m) (a.eval k) (a.eval x)) (by simp [execOp, ho]) hy h2 h3 h1.symm
  · rename_i t x ho
    have hx := hρ x (by simp [ho, Op.operands])
    split at h
    · rename_i id off ver hxx
      simp only [Option.map_eq_some_iff] at h
      obtain ⟨r, hr, h⟩ := h
      cases h
      rw [hxx] at hx
      obtain ⟨pl, hp, he⟩ := hx.ptr_inv
      obtain ⟨y, hy, hv⟩ := load_sound hH hr hp
      exact pure1 (s := Instr.loadAt t (a.eval x)) (by simp [execOp, ho]) (by simp [Instr.loadAt, he, Instr.sureAddr, hy]) hv rfl rfl
    · cases h
  · rename_i t x y ho
    have hx := hρ x (by simp [ho, Op.operands])
    have hyv := hρ y (by simp [ho, Op.operands])
    split at h
    · rename_i id off ver hxx
      simp only [Option.map_eq_some_iff, Prod.mk.injEq] at h
      obtain ⟨r, hr, h1, rfl⟩ := h
      rw [hxx] at hx
      obtain ⟨pl, hp, he⟩ := hx.ptr_inv
      obtain ⟨w', hy, h2, h3⟩ := store_sound hH hr hp hyv
      exact wrote (s := Instr.storeAt t (a.eval x) (a.eval y)) (by simp [execOp, ho]) (by simp [Instr.storeAt, he, Instr.sureAddr, hy]) h2 h3 h1.symm
    · cases h
  · rename_i x ho
    have hx := hρ x (by simp [ho, Op.operands])
    split at h
    · rename_i id off ver hxx
      cases h
      rw [hxx] at hx
      obtain ⟨pl, hp, he⟩ := hx.ptr_inv
      refine ⟨Nat.le_refl _, .inl ⟨_, w, by simp [execOp, ho, he], .same hH (.ptr _ _ _ pl hp)⟩⟩
    · rename_i f c hxx
      cases h
      rw [hxx] at hx
      obtain ⟨xs, he, hv⟩ := hx.fn_inv
      refine ⟨Nat.le_refl _, .inl ⟨_, w, by simp [execOp, ho, he], .same hH (.fn' hv)⟩⟩
    · cases h
  · rename_i op t x y ty ho
    simp only [Option.map_eq_some_iff] at h
    obtain ⟨r, hr, h⟩ := h
    cases h
    obtain ⟨z, hz, hv⟩ := bin_sound (w := w) hC hr (hρ x (by simp [ho, Op.operands])) (hρ y (by simp [ho, Op.operands])) x y
    exact pure1 (s := eqGuard op t x y (a.eval x) (a.eval y) >>= fun _ => binOp op t (a.eval x) (a.eval y)) (by simp [execOp, ho]) hz hv rfl rfl
  · rename_i op t x ho
    simp only [Option.map_eq_some_iff] at h
    obtain ⟨r, hr, h⟩ := h
    cases h
    obtain ⟨z, hz, hv⟩ := un_sound (P := C.P) (w := w) hr (hρ x (by simp [ho, Op.operands]))
    exact pure1 (s := Op.unary op (a.eval x)) (by simp [execOp, ho]) hz hv rfl rfl
  · rename_i s d x ho
    simp only [Option.map_eq_some_iff] at h
    obtain ⟨r, hr, h⟩ := h
    cases h
    obtain ⟨z, hz, hv⟩ := conv_sound (w := w) hr (hρ x (by simp [ho, Op.operands]))
    exact pure1 (s := convert s d (a.eval x)) (by simp [execOp, ho]) hz hv rfl rfl
  · rename_i f first captured ho
    split at h
    · rename_i h0
      cases h
      have hf0 : first = #[] := Array.eq_empty_of_size_eq_zero h0
      subst hf0
      have hv := vrs_map captured (fun x hx => hρ x (by simp [ho, Op.operands, hx]))
      exact pure1 (s := Instr.makeFunc (.func f) #[] (captured.map a.eval)) (by simp [execOp, ho]) rfl (.fn' hv) rfl rfl
    · cases h
  · rename_i t ho
    cases h
    have hfree : Free M H.length (H.length + 1) := by simpa using hf
    refine made (s := Instr.makeMap t none) (x := .map (some w.heap.size)) (w' := w.alloc (.map #[] 0)) (by simp [execOp, ho]) (by simp [Instr.makeMap])
      ⟨_, .map _ ⟨w.heap.size, 0, 0, 0, false⟩ upd_ver, hH.pushMap hfree, Fr.push hfree 0 _ rfl _ _⟩
  · rename_i t l c ho
    obtain ⟨y, w', hy, hp⟩ := makeSlice_sound hH h (hρ l (by simp [ho, Op.operands])) (hρ c (by simp [ho, Op.operands])) hf
    exact made (s := Instr.makeSlice t (a.eval l) (a.eval c)) (by simp [execOp, ho]) hy hp
  · rename_i t x lo hi ho
    simp only [Option.map_eq_some_iff] at h
    obtain ⟨r, hr, h⟩ := h
    cases h
    obtain ⟨z, hz, hv⟩ := slice_sound (w := w) hr (hρ x (by simp [ho, Op.operands])) (lo' := lo.map a.eval) (hi' := hi.map a.eval)
      (by intro v hv; simp only [Option.map_eq_some_iff] at hv; obtain ⟨y, rfl, rfl⟩ := hv; exact ⟨_, rfl, hρ y (by simp [ho, Op.operands])⟩) (by intro h0; simpa using h0)
      (by intro v hv; simp only [Option.map_eq_some_iff] at hv; obtain ⟨y, rfl, rfl⟩ := hv; exact ⟨_, rfl, hρ y (by simp [ho, Op.operands])⟩) (by intro h0; simpa using h0)
    exact pure1 (s := Instr.sliceAt t (a.eval x) (lo.map a.eval) (hi.map a.eval) none) (by simp [execOp, ho]) hz hv rfl rfl
  · rename_i s x f ho
    simp only [Option.map_eq_some_iff] at h
    obtain ⟨r, hr, h⟩ := h
    cases h
    obtain ⟨z, hz, hv⟩ := fieldAddr_sound (w := w) hr (hρ x (by simp [ho, Op.operands]))
    exact pure1 (s := Instr.fieldAt s (a.eval x) f) (by simp [execOp, ho]) hz hv rfl rfl
  · rename_i s x f ho
    simp only [Option.map_eq_some_iff] at h
    obtain ⟨r, hr, h⟩ := h
    cases h
    obtain ⟨z, hz, hv⟩ := field_sound (w := w) hr (hρ x (by simp [ho, Op.operands]))
    exact pure1 (s := Instr.field s (a.eval x) f) (by simp [execOp, ho]) hz hv rfl rfl
  · rename_i t x i ho
    simp only [Option.map_eq_some_iff] at h
    obtain ⟨r, hr, h⟩ := h
    cases h
    obtain ⟨z, hz, hv⟩ := indexAddr_sound (w := w) hr (hρ x (by simp [ho, Op.operands])) (hρ i (by simp [ho, Op.operands]))
    exact pure1 (s := Instr.indexAt t (a.eval x) (a.eval i)) (by simp [execOp, ho]) hz hv rfl rfl
  · rename_i t x i ho
    simp only [Option.map_eq_some_iff] at h
    obtain ⟨r, hr, h⟩ := h
    cases h
    obtain ⟨z, hz, hv⟩ := index_sound (w := w) hr (hρ x (by simp [ho, Op.operands])) (hρ i (by simp [ho, Op.operands]))
    exact pure1 (s := Instr.index t (a.eval x) (a.eval i)) (by simp [execOp, ho]) hz hv rfl rfl
  · rename_i t x k ok ho
    simp only [Option.map_eq_some_iff] at h
    obtain ⟨r, hr, h⟩ := h
    cases h
    obtain ⟨z, hz, hv⟩ := lookup_sound hC hH hr (hρ x (by simp [ho, Op.operands])) (hρ k (by simp [ho, Op.operands]))
    exact pure1 (s := Instr.lookup t (a.eval x) (a.eval k) ok) (by simp [execOp, ho]) hz hv rfl rfl
  · rename_i t m k x ho
    simp only [Option.map_eq_some_iff, Prod.mk.injEq] at h
    obtain ⟨r, hr, h1, rfl⟩ := h
    obtain ⟨w', hy, h2, h3⟩ := mapUpdate_sound hC hH hr (hρ m (by simp [ho, Op.operands])) (hρ k (by simp [ho, Op.operands])) (hρ x (by simp [ho, Op.operands]))
    exact wrote (s := Instr.mapUpdate t (a.eval m) (a.eval k) (a.eval x)) (by simp [execOp, ho]) hy h2 h3 h1.symm
  · rename_i t i ho
    have hx := hρ t (by simp [ho, Op.operands])
    split at h
    · rename_i vs hxx
      simp only [Option.map_eq_some_iff] at h
      obtain ⟨r, hr, h⟩ := h
      cases h
      rw [hxx] at hx
      obtain ⟨xs, he, hv⟩ := hx.tup_inv
      obtain ⟨y, hy, hvy⟩ := hv.2 i _ hr
      exact pure1 (s := Instr.extract (a.eval t) i) (by simp [execOp, ho]) (by simp [Instr.extract, he, hy]) hvy rfl rfl
    · cases h
  · rename_i b args ts ho
    have hv := vrs_map args (fun x hx => hρ x (by simp [ho, Op.operands, Call.operands, hx]))
    obtain ⟨x, w', hr, hp⟩ := builtin_sound h hH hf hv o.type (args.map fun | .const _ => true | _ => false)
    exact ⟨hp.choose_spec.2.2.len, .inl ⟨x, w', by simp only [execOp, ho, resolve, Sem.run_bind, Sem.run_pure, Result.andThen_ok, invoke]; exact hr, hp⟩⟩
  · rename_i f args ts ho
    have hx := hρ f (by simp [ho, Op.operands, Call.operands])
    have hv := vrs_map args (fun x hx => hρ x (by simp [ho, Op.operands, Call.operands, hx]))
    split at h
    · rename_i g cap hxx
      rw [hxx] at hx
      obtain ⟨xs, he, hcap⟩ := hx.fn_inv
      obtain ⟨hlen, ⟨fn, hfn, hbody, hname⟩, hc⟩ := hcall g _ H v H' h M w _ hH hf (hv.append hcap)
      refine ⟨hlen, .inr (.inr ⟨g, args.map a.eval ++ xs, w, ?_, hc⟩)⟩
      have hb : fn.body.isNone = false := by cases hh : fn.body <;> simp_all
      have hn : (fn.name == "runtime.NumGoroutine") = false := by simpa using hname
      simp only [execOp, ho, resolve, he, Deferred.ofValue, Sem.run_bind, Sem.run_pure, Result.andThen_ok, invoke, callFunc, run_program, hfn, hn, hb, Bool.false_eq_true, if_false, Array.empty_append]
    · cases h
  · cases h

end Go.Va
