/- Composite values; new rows; clearing; one operation. -/
import Derived.Test.YtkofbgicfmojjaaVaI
set_option linter.unusedSimpArgs false
set_option linter.unusedVariables false
set_option linter.unusedSectionVars false
namespace Go.Va

variable {P : Program} {M : Plc} {H : Heap} {w : World}

theorem mapM_ok {α β : Type} (f : α → Sem β) (g : α → β) (w : World) : ∀ (l : List α), (∀ a ∈ l, (f a).run P w = .ok (g a) w) → (l.mapM f).run P w = .ok (l.map g) w
  | [], _ => by simp
  | a :: l, h => by
    have ih := mapM_ok f g w l (fun b hb => h b (by simp [hb]))
    simp only [List.mapM_cons, Sem.run_bind, h a (by simp), Result.andThen_ok, ih, Sem.run_pure, List.map_cons]

/-- The parts of a composite value, on both sides. -/
def Parts (M : Plc) (ps : List (Nat × AV)) (qs : List (Nat × Value)) : Prop :=
  ps.length = qs.length ∧ ∀ (i : Nat) p, ps[i]? = some p → ∃ q, qs[i]? = some q ∧ q.1 = p.1 ∧ VR M p.2 q.2

theorem build_sound {t : TypeId} {ps : List (Nat × AV)} {r : AV} (h : buildA P t ps = some r) {qs : Array (Nat × Value)} (hp : Parts M ps qs.toList) :
    ∃ y, (Instr.build t qs).run P w = .ok y w ∧ VR M r y := by
  unfold buildA at h
  split at h
  · rename_i z fields hz ht
    obtain ⟨zx, i, hi, hzi, rfl, hzd, hzb⟩ := zeroA_inv hz
    have hzc := zero_cells (M := M) rfl hzd
    simp only [Option.bind_eq_some_iff] at h
    obtain ⟨cs, hf, h⟩ := h
    split at h
    · rename_i hall
      cases h
      obtain ⟨cells', hfill, hv⟩ := fill_sound _ ps qs.toList _ _ _ hp.1 hp.2 hzc hf
      have hm : (fields.mapM (fun f => do pure (f.offset, ← sizeOf f.type) : Field → Sem (Nat × Nat))).run P w = .ok (fields.map fun f => (f.offset, P.cellsOf f.type)) w := by
        rw [← Array.toArray_toList (xs := fields), List.mapM_toArray]
        simp only [Sem.run_map]
        rw [mapM_ok (P := P) _ (fun f => (f.offset, P.cellsOf f.type)) w fields.toList]
        · simp only [Result.andThen_ok]
          congr 1
          apply Array.ext'
          simp
        · intro f hf'
          have := Array.all_eq_true.1 hall
          obtain ⟨k, hk, rfl⟩ := List.getElem_of_mem hf'
          simp only [Array.length_toList] at hk
          obtain ⟨j, hj⟩ := Option.isSome_iff_exists.1 (this k hk)
          simp only [Array.getElem_toList, Sem.run_bind, run_size hj, Result.andThen_ok, Sem.run_pure, Program.cellsOf, hj, Option.map_some, Option.getD_some]
      have hplace : (fun (i : Nat) => (fields.map fun (f : Field) => (f.offset, P.cellsOf f.type))[i]?) = (fun (i : Nat) => (fields[i]?).bind fun (f : Field) => (P.info? f.type).map fun j => (f.offset, j.size)) := by
        funext k
        simp only [Array.getElem?_map]
        cases hk : fields[k]? with
        | none => rfl
        | some f =>
          have := Array.all_eq_true.1 hall
          have hkl := (Array.getElem?_eq_some_iff.1 hk).1
          have hke := (Array.getElem?_eq_some_iff.1 hk).2
          obtain ⟨j, hj⟩ := Option.isSome_iff_exists.1 (this k hkl)
          rw [hke] at hj
          simp [Program.cellsOf, hj]
      refine ⟨.agg cells', ?_, .agg' hv⟩
      simp only [Instr.build, Sem.run_bind, run_zero hzb, Result.andThen_ok, run_underlying ht, hm]
      rw [hplace, hfill]
      rfl
    · cases h
  · rename_i z len elem hz ht
    obtain ⟨zx, i, hi, hzi, rfl, hzd, hzb⟩ := zeroA_inv hz
    have hzc := zero_cells (M := M) rfl hzd
    simp only [Option.bind_eq_some_iff, Option.map_eq_some_iff] at h
    obtain ⟨j, hj, cs, hf, rfl⟩ := h
    obtain ⟨cells', hfill, hv⟩ := fill_sound _ ps qs.toList _ _ _ hp.1 hp.2 hzc hf
    refine ⟨.agg cells', ?_, .agg' hv⟩
    simp only [Instr.build, Sem.run_bind, run_zero hzb, Result.andThen_ok, run_underlying ht, run_size hj]
    rw [hfill]
    rfl
  · cases h

theorem buildSlice_sound (h : HR M H w) {t : TypeId} {len : Nat} {ps : List (Nat × AV)} {r : AV} {H' : Heap} (hb : buildSliceA P t len ps H = some (r, H')) {qs : Array (Nat × Value)} (hp : Parts M ps qs.toList)
    (hf : Free M H.length H'.length) : ∃ y w', (Instr.buildSlice t len qs).run P w = .ok y w' ∧ Post M H w r H' y w' := by
  unfold buildSliceA at hb
  split at hb
  · rename_i elem ht
    split at hb
    · rename_i i z hi hz
      obtain ⟨zx, i', hi', hzi, rfl, hzd, hzb⟩ := zeroA_inv hz
      rw [hi] at hi'; cases hi'
      split at hb
      · rename_i hc
        obtain ⟨hc1, hc2, hc3⟩ := hc
        simp only [Option.map_eq_some_iff] at hb
        obtain ⟨cs, hfl, hb⟩ := hb
        cases hb
        have hzc := zero_cells (M := M) rfl hzd
        have hzs : zx.cells.size = i.size := by rw [← hzc.1]; exact hc2
        have hz0 := zeroCells_sound (M := M) (z := ofV zx) rfl hzd len
        obtain ⟨cells', hfill, hv⟩ := fill_sound _ ps qs.toList _ _ _ hp.1 hp.2 hz0 hfl
        have hcl : cs.length = len * i.size := by
          have : ∀ (ps : List (Nat × AV)) (c r : List AV) (pl : Nat → Option (Nat × Nat)), fillA pl c ps = some r → r.length = c.length := by
            intro ps
            induction ps with
            | nil => intro c r pl h; simp only [fillA, Option.some.injEq] at h; subst h; rfl
            | cons p ps ih =>
              intro c r pl h
              obtain ⟨k, v⟩ := p
              simp only [fillA] at h
              split at h
              · cases h
              · split at h
                · cases h
                · rw [ih _ _ _ h, putAll_len]
          rw [this _ _ _ _ hfl, zeros_len, hc2]
        have hrun : (Instr.buildSlice t len qs).run P w = .ok (.slice (some ⟨w.heap.size, 0, none⟩) len len) (w.alloc (.cells cells' elem)) := by
          have hne : ¬ (len * i.size > 2 ^ 24) := by omega
          have hrows : (Array.range (len * i.size)).map (fun k => zx.cells[k % zx.cells.size]!) = Builtin.zeroCells zx.cells len := by rw [← rows_eq, hzs]
          simp only [Instr.buildSlice, Sem.run_bind, run_underlying ht, Result.andThen_ok, run_size hi]
          rw [if_neg hne]
          by_cases h0 : len * i.size = 0
          · rw [if_pos h0]
            have hl0 : len = 0 := by
              rcases Nat.mul_eq_zero.1 h0 with h | h
              · exact h
              · omega
            subst hl0
            simp only [Sem.run_bind, Sem.run_pure, Result.andThen_ok, Nat.zero_mul]
            have e0 : (Array.range 0).map (fun k => (#[] : Array Value)[k % (#[] : Array Value).size]!) = Builtin.zeroCells zx.cells 0 := by
              unfold Builtin.zeroCells; simp
            rw [e0, hfill]
            rfl
          · rw [if_neg h0]
            simp only [Sem.run_bind, run_zero hzb, Sem.run_pure, Result.andThen_ok]
            rw [hrows, hfill]
            rfl
        refine ⟨_, _, hrun, ?_⟩
        have := newRow_sound h (by simpa using hf) hv elem len len i.size (by rw [← hv.1, hcl]) (Nat.le_refl _)
        rwa [hcl] at this
      · cases hb
    · cases hb
  · cases hb

theorem wrap_small {n : Int} (h0 : 0 ≤ n) (h1 : n ≤ 2 ^ 47) : IntKind.i64.wrap n = n := by
  have h2 : n % 2 ^ 64 = n := Int.emod_eq_of_lt h0 (by omega)
  have h3 : ¬ ((true && decide (n ≥ 2 ^ (64 - 1))) = true) := by simp; omega
  simp only [IntKind.wrap, IntKind.bits, IntKind.signed, h2]
  rw [if_neg h3]

theorem makeSlice_sound (h : HR M H w) {t : TypeId} {l c : AV} {r : AV} {H' : Heap} (hb : makeSliceA P t l c H = some (r, H')) {lx cx : Value} (hl : VR M l lx) (hc : VR M c cx)
    (hf : Free M H.length H'.length) : ∃ y w', (Instr.makeSlice t lx cx).run P w = .ok y w' ∧ Post M H w r H' y w' := by
  unfold makeSliceA at hb
  split at hb
  · rename_i elem k n k' m ht
    cases hl; cases hc
    split at hb
    · rename_i i z hi hz
      obtain ⟨zx, i', hi', hzi, rfl, hzd, hzb⟩ := zeroA_inv hz
      rw [hi] at hi'; cases hi'
      split at hb
      · rename_i hcond
        obtain ⟨h0, hle, hmax, hby, hzl, hsz⟩ := hcond
        cases hb
        have hzc := zero_cells (M := M) rfl hzd
        have hzs : zx.cells.size = i.size := by rw [← hzc.1]; exact hzl
        have hz0 := zeroCells_sound (M := M) (z := ofV zx) rfl hzd m.toNat
        have wn := wrap_small h0 (by omega)
        have wm := wrap_small (n := m) (by omega) hmax
        have hrows : (Array.range (m.toNat * i.size)).map (fun k => zx.cells[k % zx.cells.size]!) = Builtin.zeroCells zx.cells m.toNat := by rw [← rows_eq, hzs]
        have hrun : (Instr.makeSlice t (.int k n) (.int k' m)).run P w = .ok (.slice (some ⟨w.heap.size, 0, none⟩) n.toNat m.toNat) (w.alloc (.cells (Builtin.zeroCells zx.cells m.toNat) elem)) := by
          have hmul : (i.bytes : Int) * m ≤ 2 ^ 48 := hby
          have hcondf : ((decide (m < 0) || decide ((i.bytes : Int) * m > 2 ^ 48)) || decide (n < 0) || decide (n > m)) = false := by
            simp; omega
          simp only [Instr.makeSlice, Sem.run_bind, run_underlying ht, Result.andThen_ok, asInt, asIntOf, Sem.run_pure, run_info hi, wn, wm]
          rw [if_neg (by rw [hcondf]; simp)]
          simp only [Sem.run_bind, run_askRoom, Result.andThen_ok, run_size hi]
          by_cases hz1 : m.toNat * i.size = 0
          · rw [if_pos hz1]
            have hm0 : m.toNat = 0 := by
              rcases Nat.mul_eq_zero.1 hz1 with h | h
              · exact h
              · omega
            simp only [Sem.run_bind, Sem.run_pure, Result.andThen_ok, hm0, Nat.zero_mul]
            have e0 : (Array.range 0).map (fun k => (#[] : Array Value)[k % (#[] : Array Value).size]!) = Builtin.zeroCells zx.cells 0 := by
              unfold Builtin.zeroCells; simp
            rw [e0]
            rfl
          · rw [if_neg hz1]
            simp only [Sem.run_bind, run_zero hzb, Sem.run_pure, Result.andThen_ok]
            rw [hrows]
            rfl
        refine ⟨_, _, hrun, ?_⟩
        have := newRow_sound h (by simpa using hf) hz0 elem n.toNat m.toNat i.size (by rw [size_zeroCells, hzs]) (by omega)
        rwa [zeros_len, hzl] at this
      · cases hb
    · cases hb
  · cases hb

theorem clear_sound (h : HR M H w) {t : TypeId} {v : AV} {H' : Heap} (hb : clearA P t v H = some H') {x : Value} (hv : VR M v x) {ts : Array TypeId} (hts : ts[0]? = some t) (ty : TypeId) :
    ∃ w', (Builtin.clear_ ts ty #[x]).run P w = .ok (.tuple #[]) w' ∧ HR M H' w' ∧ Fr M H w M H' w' := by
  unfold clearA at hb
  split at hb
  · rename_i e ht
    cases hb; cases hv
    exact ⟨w, by simp [Builtin.clear_, hts, run_underlying ht], h, .refl M H w⟩
  · rename_i elem id off len ver sz ht
    split at hb
    · rename_i i z c e born ro hi hz hid
      obtain ⟨zx, i', hi', hzi, rfl, hzd, hzb⟩ := zeroA_inv hz
      rw [hi] at hi'; cases hi'
      obtain ⟨a, cap, pl, rfl, hp, hsz', hcap, hlen', hee, haa⟩ := hv.sl_inv
      split at hb
      · rename_i h0
        cases hb
        subst h0
        exact ⟨w, by simp [Builtin.clear_, hts, run_underlying ht], h, .refl M H w⟩
      · rename_i h0
        split at hb
        · rename_i hc
          obtain ⟨rfl, rfl, hborn, rfl, hzl, hfit, hone⟩ := hc
          cases hb
          have hlt : id < H.length := (List.getElem?_eq_some_iff.1 hid).1
          have hold := h.cells id c e born false hid c.length pl hp
          obtain ⟨arr, el, fz, harr, hn, hcr, hr⟩ := hold.2.2 hborn
          obtain ⟨hbase, rfl, hsize, hvcap, hel⟩ := hr rfl
          subst hel
          rw [hbase] at haa hcr
          have hz0 := zeroCells_sound (M := M) (z := ofV zx) rfl hzd len
          have hzlen : (zeros (ofV zx).cells len).length = len * i.size := by rw [zeros_len, hzl]
          have hmul : (off + len) * i.size = off * i.size + len * i.size := Nat.add_mul _ _ _
          have hzone : (zeros (ofV zx).cells len).all AV.one = true := by
            rw [List.all_eq_true] at hone ⊢
            intro y hy
            unfold zeros at hy
            simp only [List.mem_flatten, List.mem_replicate] at hy
            obtain ⟨l, ⟨_, rfl⟩, hy⟩ := hy
            exact hone y hy
          obtain ⟨hput, hput'⟩ := hcr.put hz0 (off * i.size) (by omega) (by omega)
          have hsl : (Builtin.zeroCells zx.cells len).toList.length = len * i.size := by rw [Array.length_toList, ← hz0.1, hzlen]
          have hrun := run_storeCells_at P pl.blk (off * i.size) el (Builtin.zeroCells zx.cells len).toList 0 arr w harr (by rw [hsl]; omega) (hz0.oneCells hzone)
          simp only [Nat.add_zero] at hrun
          refine ⟨_, ?_, h.write id c _ el born hid pl hp (putAll_len _ _ _) (setRow_only w pl.blk _) arr _ el harr (setRow_heap w _ arr _ el _ harr) hput' hborn hput,
            Fr.only (setRow_only w pl.blk _) (by simp) hlt hp hold.2.1⟩
          rw [haa (by omega)]
          cases len with
          | zero => exact absurd rfl h0
          | succ len => simp only [Builtin.clear_, hts, List.getElem?_toArray, List.getElem?_cons_zero, Sem.run_bind, run_underlying ht, Result.andThen_ok, run_zero hzb, Nat.zero_add, hrun, Sem.run_pure]
        · cases hb
    · cases hb
  · cases hb

end Go.Va
