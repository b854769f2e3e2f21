/- Operations that leave memory alone: what the interpreter tells of them is what the model does. -/
import Derived.Test.YtkofbgicfmojjaaVaC
set_option linter.unusedSimpArgs false
set_option linter.unusedVariables false
set_option linter.unusedSectionVars false
namespace Go.Va

/-- A struct type whose fields are whole numbers and bools, one behind the other. -/
structure PlainEq (P : Program) (t : TypeId) (ks : List Bool) : Prop where
  fields : ∃ fs : Array Field, P.underlying t = some (.struct fs) ∧ ks.length = fs.size ∧
    ∀ (i : Nat) (f : Field), fs[i]? = some f → f.name ≠ "_" ∧ f.offset = i ∧ ((ks[i]? = some true ∧ ∃ k, P.underlying f.type = some (.int k)) ∨ (ks[i]? = some false ∧ P.underlying f.type = some .bool))
  stood : P.stoodInHeld t = false
  guard : P.eqGuardType P.depth t = false

/-- A function without arguments that comes to true from any world, and leaves all that there was. -/
def Truth (P : Program) (f : FuncId) : Prop :=
  (∃ fn, P.funcs[f]? = some fn ∧ fn.body.isSome = true ∧ fn.name ≠ "runtime.NumGoroutine") ∧
  ∀ w : World, Calls P f #[] w fun e w' => e = .returned (.bool true) ∧ w'.os = w.os ∧ w'.output = w.output ∧ w'.tape = w.tape ∧ w.heap.size ≤ w'.heap.size ∧ ∀ b, b < w.heap.size → w'.heap[b]? = w.heap[b]?

structure Ctx.ok (C : Ctx) : Prop where
  tru : ∀ f, f ∈ C.T → Truth C.P f
  eq : ∀ t ks, C.kinds t = some ks → PlainEq C.P t ks
  mixed : C.P.follows .mixedOrders = true

variable {P : Program} {M : Plc} {w : World}

theorem und_info {t : TypeId} {d : TypeDesc} (h : P.underlying t = some d) : ∃ i, P.info? t = some i := by
  unfold Program.underlying at h
  cases hi : P.info? t with
  | none => simp [hi] at h
  | some i => exact ⟨i, rfl⟩

def aggD : TypeDesc → Bool
  | .struct _ => true
  | .array _ _ => true
  | _ => false
theorem aggD_false {d : TypeDesc} (h1 : ∀ fs, d = .struct fs → False) (h2 : ∀ n e, d = .array n e → False) : aggD d = false := by
  cases d <;> first | rfl | exact absurd rfl (h1 _) | exact absurd rfl (h2 _ _)
theorem run_isAgg {t : TypeId} {d : TypeDesc} (h : P.underlying t = some d) (w : World) : (isAgg t).run P w = .ok (aggD d) w := by
  simp only [isAgg, Sem.run_bind, run_underlying h, Result.andThen_ok]
  cases d <;> rfl
theorem run_size {t : TypeId} {i : TypeInfo} (h : P.info? t = some i) (w : World) : (sizeOf t).run P w = .ok i.size w := by
  simp [sizeOf, typeInfo, h]
theorem run_info {t : TypeId} {i : TypeInfo} (h : P.info? t = some i) (w : World) : (typeInfo t).run P w = .ok i w := by
  simp [typeInfo, h]
theorem run_zero {t : TypeId} {z : Value} (h : (P.info? t).bind (·.zero) = some z) (w : World) : (zeroValue t).run P w = .ok z w := by
  cases hi : P.info? t with
  | none => simp [hi] at h
  | some i => simp [hi] at h; simp [zeroValue, typeInfo, hi, h]
theorem zeroA_inv {t : TypeId} {z : AV} (h : zeroA P t = some z) : ∃ x i, P.info? t = some i ∧ i.zero = some x ∧ z = ofV x ∧ z.isDead = false ∧ (P.info? t).bind (·.zero) = some x := by
  unfold zeroA at h
  cases hi : P.info? t with
  | none => simp [hi] at h
  | some i =>
    simp only [hi, Option.bind_some, Option.bind_eq_some_iff] at h
    obtain ⟨x, hx, h⟩ := h
    split at h
    · cases h
    · rename_i hd
      cases h
      exact ⟨x, i, rfl, hx, rfl, by simpa using hd, by simp [hx]⟩

theorem un_sound {op : UnOp} {v r : AV} {x : Value} (h : unA op v = some r) (hv : VR M v x) : ∃ y, (Op.unary op x).run P w = .ok y w ∧ VR M r y := by
  unfold unA at h
  split at h
  · cases h; cases hv; exact ⟨_, rfl, .int _ _⟩
  · cases h; cases hv; exact ⟨_, rfl, .int _ _⟩
  · cases h; cases hv; exact ⟨_, rfl, .bool _⟩
  · cases h

theorem conv_sound {s d : TypeId} {v r : AV} {x : Value} (h : convA P s d v = some r) (hv : VR M v x) : ∃ y, (convert s d x).run P w = .ok y w ∧ VR M r y := by
  unfold convA at h
  split at h
  · rename_i h1 h2
    cases h; cases hv
    exact ⟨_, by simp [convert, run_underlying h1, run_underlying h2, Conv.intToInt], .int _ _⟩
  · cases h

theorem min_sound {a b r : AV} {x y : Value} (h : minA a b = some r) (hx : VR M a x) (hy : VR M b y) : ∃ z, (Builtin.min2 x y).run P w = .ok z w ∧ VR M r z := by
  unfold minA at h
  split at h
  · cases h; cases hx; cases hy; exact ⟨_, rfl, .int _ _⟩
  · cases h
theorem max_sound {a b r : AV} {x y : Value} (h : maxA a b = some r) (hx : VR M a x) (hy : VR M b y) : ∃ z, (Builtin.max2 x y).run P w = .ok z w ∧ VR M r z := by
  unfold maxA at h
  split at h
  · cases h; cases hx; cases hy; exact ⟨_, rfl, .int _ _⟩
  · cases h

theorem len_sound {t : TypeId} {v r : AV} {x : Value} (h : lenA P t v = some r) (hv : VR M v x) (ts : Array TypeId) (ht : ts[0]? = some t) (ty : TypeId) :
    ∃ y, (Builtin.len_ ts ty #[x]).run P w = .ok y w ∧ VR M r y := by
  unfold lenA at h
  split at h <;> (try cases h) <;> rename_i h1
  · cases hv; exact ⟨_, by simp [Builtin.len_, ht, run_underlying h1, goInt], .int _ _⟩
  · cases hv; exact ⟨_, by simp [Builtin.len_, ht, run_underlying h1, goInt], .int _ _⟩
  · cases hv; exact ⟨_, by simp [Builtin.len_, ht, run_underlying h1, goInt], .int _ _⟩
  · cases hv; exact ⟨_, by simp [Builtin.len_, ht, run_underlying h1, goInt], .int _ _⟩

theorem VRs.extract {cs : List AV} {xs : Array Value} (h : VRs M cs xs) (a b : Nat) : VRs M ((cs.drop a).take b) (xs.extract a (a + b)) := by
  have hl := h.1
  refine ⟨by simp; omega, ?_⟩
  intro i x hx
  rw [List.getElem?_take] at hx
  split at hx
  · rw [List.getElem?_drop] at hx
    obtain ⟨y, hy, hv⟩ := h.2 _ _ hx
    refine ⟨y, ?_, hv⟩
    rw [Array.getElem?_extract, if_pos]
    · exact hy
    · have := (Array.getElem?_eq_some_iff.1 hy).1; omega
  · cases hx

theorem part_sound {t : TypeId} {cs : List AV} {off : Nat} {r : AV} {xs : Array Value} (h : partA P t cs off = some r) (hv : VRs M cs xs) :
    ∃ y, (part t xs off).run P w = .ok y w ∧ VR M r y := by
  unfold partA at h
  split at h
  · rename_i i d hi hd
    have hagg := run_isAgg hd w
    split at h
    · cases h
      simp only [aggD] at hagg
      exact ⟨_, by simp [part, hagg, run_size hi], .agg' (hv.extract _ _)⟩
    · cases h
      simp only [aggD] at hagg
      exact ⟨_, by simp [part, hagg, run_size hi], .agg' (hv.extract _ _)⟩
    · rename_i hn1 hn2
      obtain ⟨y, hy, hvy⟩ := hv.2 _ _ h
      refine ⟨y, ?_, hvy⟩
      rw [aggD_false hn1 hn2] at hagg
      simp [part, hagg, hy]
  · cases h

theorem field_sound {s : TypeId} {v r : AV} {f : Nat} {x : Value} (h : fieldA P s v f = some r) (hv : VR M v x) : ∃ y, (Instr.field s x f).run P w = .ok y w ∧ VR M r y := by
  unfold fieldA at h
  split at h
  · rename_i fields cs hs
    obtain ⟨xs, rfl, hxs⟩ := hv.agg_inv
    simp only [Option.bind_eq_some_iff] at h
    obtain ⟨fd, hfd, hp⟩ := h
    obtain ⟨y, hy, hvy⟩ := part_sound (w := w) hp hxs
    exact ⟨y, by simp [Instr.field, run_underlying hs, hfd, asAgg, hy], hvy⟩
  · cases h

theorem index_sound {t : TypeId} {v i r : AV} {x j : Value} (h : indexA P t v i = some r) (hv : VR M v x) (hi : VR M i j) : ∃ y, (Instr.index t x j).run P w = .ok y w ∧ VR M r y := by
  unfold indexA at h
  split at h
  · rename_i len elem cs k n ht
    obtain ⟨xs, rfl, hxs⟩ := hv.agg_inv
    cases hi
    split at h
    · rename_i e he
      split at h
      · rename_i hb
        obtain ⟨y, hy, hvy⟩ := part_sound (w := w) h hxs
        exact ⟨y, by simp [Instr.index, asIntOf, run_underlying ht, hb, run_size he, hy], hvy⟩
      · cases h
    · cases h
  · rename_i s k n ht
    cases hv; cases hi
    split at h
    · rename_i hb
      split at h
      · rename_i b hb'
        cases h
        exact ⟨_, by simp [Instr.index, asIntOf, run_underlying ht, hb, hb'], .int _ _⟩
      · cases h
    · cases h
  · cases h

theorem VR.ptr_inv {id off ver : Nat} {x : Value} (h : VR M (.ptr id off ver) x) : ∃ pl, M id ver = some pl ∧ x = .pointer (some ⟨pl.blk, pl.base + off, none⟩) := by
  cases h with | ptr _ _ _ pl h => exact ⟨pl, h, rfl⟩

theorem fieldAddr_sound {s : TypeId} {v r : AV} {f : Nat} {x : Value} (h : fieldAddrA P s v f = some r) (hv : VR M v x) : ∃ y, (Instr.fieldAt s x f).run P w = .ok y w ∧ VR M r y := by
  unfold fieldAddrA at h
  split at h
  · rename_i fields id off ver hs
    obtain ⟨pl, hp, rfl⟩ := hv.ptr_inv
    split at h
    · rename_i fd hfd
      split at h
      · rename_i i hi
        split at h
        · rename_i hz
          cases h
          refine ⟨_, ?_, .ptr _ _ _ pl hp⟩
          simp [Instr.fieldAt, run_underlying hs, hfd, Instr.sureAddr, fieldPlace, run_size hi, hz, Addr.add_lit, Nat.add_assoc]
        · cases h
      · cases h
    · cases h
  · cases h

theorem indexAddr_sound {t : TypeId} {v i r : AV} {x j : Value} (h : indexAddrA P t v i = some r) (hv : VR M v x) (hi : VR M i j) : ∃ y, (Instr.indexAt t x j).run P w = .ok y w ∧ VR M r y := by
  unfold indexAddrA at h
  split at h
  · rename_i elem id off len ver sz k n ht
    cases hi
    split at h
    · rename_i e he
      split at h
      · rename_i hb
        cases h
        obtain ⟨hb1, hb2, hb3⟩ := hb
        cases hv with
        | sl _ _ _ _ _ cap a pl hp hs hc hl hee ha =>
          have hcap : cap ≠ 0 := by omega
          refine ⟨.pointer (some ⟨pl.blk, pl.base + (off + n.toNat) * sz, none⟩), ?_, .ptr _ _ _ pl hp⟩
          rw [ha hcap]
          simp [Instr.indexAt, asIntOf, run_underlying ht, hb1, hb2, run_size he, hb3, Addr.add_lit, Nat.add_mul, Nat.add_assoc]
      · cases h
    · cases h
  · rename_i len elem id off ver k n ht
    cases hi
    obtain ⟨pl, hp, rfl⟩ := hv.ptr_inv
    split at h
    · rename_i e he
      split at h
      · rename_i hb
        cases h
        refine ⟨_, ?_, .ptr _ _ _ pl hp⟩
        simp [Instr.indexAt, asIntOf, run_underlying ht, Instr.sureAddr, hb, run_size he, Addr.add_lit, Nat.add_assoc]
      · cases h
    · cases h
  · cases h

theorem bound_sound {d : Nat} {o : Option AV} {n : Nat} (h : boundA d o = some n) {ov : Option Value} (ho : ∀ v, o = some v → ∃ x, ov = some x ∧ VR M v x) (hn : o = none → ov = none)
    (y : Nat) (code : BoundsCode) (hy : n ≤ y) :
    (match ov with | some v => Instr.sliceBound v y code | none => pure d).run P w = .ok n w := by
  cases o with
  | none =>
    simp only [boundA, Option.some.injEq] at h
    subst h
    rw [hn rfl]
    rfl
  | some v =>
    obtain ⟨x, rfl, hv⟩ := ho v rfl
    cases v <;> simp only [boundA] at h <;> try cases h
    rename_i k m
    cases hv
    split at h
    · rename_i h0
      cases h
      have : m ≤ (y : Int) := by omega
      simp [Instr.sliceBound, asIntOf, h0, this]
    · cases h

theorem slice_sound {t : TypeId} {v r : AV} {lo hi : Option AV} {x : Value} {lo' hi' : Option Value} (h : sliceA P t v lo hi = some r) (hv : VR M v x)
    (hlo : ∀ v, lo = some v → ∃ x, lo' = some x ∧ VR M v x) (hlo0 : lo = none → lo' = none) (hhi : ∀ v, hi = some v → ∃ x, hi' = some x ∧ VR M v x) (hhi0 : hi = none → hi' = none) :
    ∃ y, (Instr.sliceAt t x lo' hi' none).run P w = .ok y w ∧ VR M r y := by
  unfold sliceA at h
  split at h
  · rename_i elem id off len ver sz ht
    split at h
    · rename_i l hh i hl hhh hi
      split at h
      · rename_i hb
        cases h
        obtain ⟨hb1, hb2, hb3⟩ := hb
        cases hv with
        | sl _ _ _ _ _ cap a pl hp hs hc hl' hee ha =>
          have r1 := bound_sound (P := P) (w := w) (M := M) hhh hhi hhi0 cap .sliceAcap (by omega)
          have r2 := bound_sound (P := P) (w := w) (M := M) hl hlo hlo0 hh .sliceB hb1
          have e : (Instr.sliceBounds true len cap lo' hi' none).run P w = .ok (l, hh, cap) w := by
            unfold Instr.sliceBounds
            simp only [Sem.run_bind, Sem.run_pure, Result.andThen_ok]
            cases hi' with
            | none =>
              simp only [Sem.run_pure, Result.ok.injEq, and_true] at r1
              subst r1
              simp only [Sem.run_pure, Result.andThen_ok, Option.isSome_none, Bool.false_eq_true, if_false]
              cases lo' with
              | none => simp only [Sem.run_pure, Result.ok.injEq, and_true] at r2; subst r2; rfl
              | some z => simp only at r2; simp [r2]
            | some z' =>
              simp only at r1
              cases lo' with
              | none => simp only [Sem.run_pure, Result.ok.injEq, and_true] at r2; subst r2; simp [r1]
              | some z => simp only at r2; simp [r1, r2]
          refine ⟨.slice (some (if cap = l then a else a.add (l * i.size))) (hh - l) (cap - l), ?_, ?_⟩
          · simp only [Instr.sliceAt, Instr.slice, Sem.run_bind, run_underlying ht, Result.andThen_ok, e, run_size hi]
            by_cases hcl : cap = l <;> simp [hcl]
          · refine .sl id (off + l) (hh - l) ver sz (cap - l) _ pl hp hs (by omega) (by omega) ?_ ?_
            · exact Nat.le_trans (Nat.mul_le_mul_right _ (by omega)) hee
            · intro hne
              rw [if_neg (by omega), ha (by omega), Addr.add_lit, hb3, Nat.add_mul, Nat.add_assoc]
      · cases h
    · cases h
  · rename_i elem ht
    split at h
    · rename_i i hl hh hi
      cases h
      cases hv
      have r1 := bound_sound (P := P) (w := w) (M := M) hh hhi hhi0 0 .sliceAcap (Nat.le_refl _)
      have r2 := bound_sound (P := P) (w := w) (M := M) hl hlo hlo0 0 .sliceB (Nat.le_refl _)
      have e : (Instr.sliceBounds true 0 0 lo' hi' none).run P w = .ok (0, 0, 0) w := by
        unfold Instr.sliceBounds
        simp only [Sem.run_bind, Sem.run_pure, Result.andThen_ok]
        cases hi' with
        | none =>
          simp only [Sem.run_pure, Result.andThen_ok, Option.isSome_none, Bool.false_eq_true, if_false]
          cases lo' with
          | none => rfl
          | some z => simp only at r2; simp [r2]
        | some z' =>
          simp only at r1
          cases lo' with
          | none => simp [r1]
          | some z => simp only at r2; simp [r1, r2]
      exact ⟨.slice none 0 0, by simp [Instr.sliceAt, Instr.slice, run_underlying ht, e, run_size hi], .nilsl⟩
    · cases h
  · rename_i elem ht
    split at h
    · rename_i i hl hh hi
      cases h
      cases hv
      rename_i aa
      have r1 := bound_sound (P := P) (w := w) (M := M) hh hhi hhi0 0 .sliceAcap (Nat.le_refl _)
      have r2 := bound_sound (P := P) (w := w) (M := M) hl hlo hlo0 0 .sliceB (Nat.le_refl _)
      have e : (Instr.sliceBounds true 0 0 lo' hi' none).run P w = .ok (0, 0, 0) w := by
        unfold Instr.sliceBounds
        simp only [Sem.run_bind, Sem.run_pure, Result.andThen_ok]
        cases hi' with
        | none =>
          simp only [Sem.run_pure, Result.andThen_ok, Option.isSome_none, Bool.false_eq_true, if_false]
          cases lo' with
          | none => rfl
          | some z => simp only at r2; simp [r2]
        | some z' =>
          simp only at r1
          cases lo' with
          | none => simp [r1]
          | some z => simp only at r2; simp [r1, r2]
      exact ⟨.slice (some aa) 0 0, by simp [Instr.sliceAt, Instr.slice, run_underlying ht, e, run_size hi], .esl aa⟩
    · cases h
  · cases h

end Go.Va
