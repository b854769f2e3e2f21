/- Operations on memory. -/
import Derived.Test.YtkofbgicfmojjaaVaE
set_option linter.unusedSimpArgs false
set_option linter.unusedVariables false
set_option linter.unusedSectionVars false
namespace Go.Va

variable {P : Program} {M : Plc} {H : Heap} {w : World}

/-- What an operation leaves: a value, and a world. -/
def Post (M : Plc) (H : Heap) (w : World) (v : AV) (H' : Heap) (x : Value) (w' : World) : Prop :=
  ∃ M', VR M' v x ∧ HR M' H' w' ∧ Fr M H w M' H' w'

theorem Post.same (h : HR M H w) {v : AV} {x : Value} (hv : VR M v x) : Post M H w v H x w := ⟨M, hv, h, .refl M H w⟩

theorem zeros_get {z : List AV} {n i : Nat} (hi : i < n * z.length) : (zeros z n)[i]? = z[i % z.length]? := by
  unfold zeros
  induction n generalizing i with
  | zero => simp at hi
  | succ n ih =>
    simp only [List.replicate_succ, List.flatten_cons]
    by_cases h : i < z.length
    · rw [List.getElem?_append_left h, Nat.mod_eq_of_lt h]
    · rw [List.getElem?_append_right (by omega), ih (by rw [Nat.succ_mul] at hi; omega)]
      congr 1
      rw [Nat.mod_eq_sub_mod (by omega : z.length ≤ i)]
theorem zeros_len (z : List AV) (n : Nat) : (zeros z n).length = n * z.length := by
  unfold zeros; simp

theorem zeroCells_sound {z : AV} {x : Value} (hz : z = ofV x) (hd : z.isDead = false) (n : Nat) : VRs M (zeros z.cells n) (Builtin.zeroCells x.cells n) := by
  have h := zero_cells (M := M) hz hd
  refine ⟨by rw [zeros_len, size_zeroCells, h.1], ?_⟩
  intro i y hy
  have hi : i < n * z.cells.length := by
    have := (List.getElem?_eq_some_iff.1 hy).1
    rwa [zeros_len] at this
  rw [zeros_get hi] at hy
  obtain ⟨x', hx', hv⟩ := h.2 _ _ hy
  refine ⟨x', ?_, hv⟩
  have hlt : i % x.cells.size < x.cells.size := by
    rw [h.1] at hi
    refine Nat.mod_lt _ ?_
    rcases Nat.eq_zero_or_pos x.cells.size with h0 | h0
    · rw [h0] at hi; simp at hi
    · exact h0
  have hb : x.cells[i % x.cells.size]! = x' := by
    rw [h.1] at hx'
    rw [getElem!_pos x.cells _ hlt]
    rw [Array.getElem?_eq_getElem hlt] at hx'
    simpa using hx'
  unfold Builtin.zeroCells
  rw [h.1] at hi
  simp only [Array.getElem?_map]
  rw [Array.getElem?_range]
  rw [if_pos hi]
  simp only [Option.map_some, hb]

theorem rows_eq (x : Value) (n : Nat) : (Array.range (n * x.cells.size)).map (fun i => x.cells[i % x.cells.size]!) = Builtin.zeroCells x.cells n := rfl

theorem load_sound (h : HR M H w) {t : TypeId} {id off ver : Nat} {r : AV} (hl : loadA P t H id off ver = some r) {pl : Pl} (hp : M id ver = some pl) :
    ∃ y, (loadVar t ⟨pl.blk, pl.base + off, none⟩).run P w = .ok y w ∧ VR M r y := by
  unfold loadA at hl
  split at hl
  · rename_i c e born ro i d hid hi hd
    split at hl
    · rename_i hb
      obtain ⟨arr, el, fz, ha, hn, hc, _⟩ := (h.cells id c e born ro hid ver pl hp).2.2 hb.1
      have hcell : ∀ j, w.cell? ⟨pl.blk, j, none⟩ = arr[j]? := fun j => by simp [World.cell?, ha]
      have hagg := run_isAgg hd w
      have many : ∀ n, n = i.size → off + n ≤ ver → (aggD d = true) → ∃ y, (loadVar t ⟨pl.blk, pl.base + off, none⟩).run P w = .ok y w ∧ VR M (.agg ((c.drop off).take n)) y := by
        intro n hn' hfit hag
        rw [hag] at hagg
        have hlen : ((arr.extract (pl.base + off) (pl.base + off + n)).toList).length = n := by simp; omega
        have hrun := run_loadCells_list (P := P) w ⟨pl.blk, pl.base + off, none⟩ (arr.extract (pl.base + off) (pl.base + off + n)).toList (fun j v hj => by
          rw [Addr.add_lit, hcell]
          simp only [Array.getElem?_toList] at hj
          rw [Array.getElem?_extract] at hj
          split at hj
          · exact hj
          · cases hj)
        rw [hlen] at hrun
        refine ⟨.agg (arr.extract (pl.base + off) (pl.base + off + n)), ?_, .agg' ⟨?_, ?_⟩⟩
        · simp only [loadVar, Sem.run_bind, hagg, Result.andThen_ok, if_true, run_size hi, ← hn', hrun, Sem.run_pure]
        · simp; omega
        · intro j x hx
          rw [List.getElem?_take] at hx
          split at hx
          · rename_i hj
            rw [List.getElem?_drop] at hx
            obtain ⟨y, hy, hv⟩ := hc (off + j) x (by omega) hx
            refine ⟨y, ?_, hv⟩
            rw [Array.getElem?_extract, if_pos (by omega), ← hy, Nat.add_assoc]
          · cases hx
      split at hl
      · split at hl
        · cases hl; exact many _ rfl ‹_› rfl
        · cases hl
      · split at hl
        · cases hl; exact many _ rfl ‹_› rfl
        · cases hl
      · rename_i hn1 hn2
        split at hl
        · rename_i hlt
          obtain ⟨y, hy, hv⟩ := hc off r hlt hl
          rw [aggD_false hn1 hn2] at hagg
          exact ⟨y, by simp [loadVar, hagg, hcell, hy], hv⟩
        · cases hl
    · cases hl
  · cases hl

theorem setRow_only (w : World) (g : Nat) (cs : Array Value) : OnlyBlk g w (w.setRow g cs) :=
  ⟨rfl, rfl, rfl, by simp [World.setRow], fun k hk => setRow_other w g k cs hk⟩

/-- Cells written over, on both sides. -/
theorem CellsR.put {c : List AV} {arr : Array Value} (hc : CellsR M c c.length arr 0) {vs : List AV} {xs : Array Value} (hv : VRs M vs xs) (off : Nat) (hfit : off + vs.length ≤ c.length) (hs : c.length ≤ arr.size) :
    CellsR M (putAll c off vs) c.length (arr.toList.take off ++ xs.toList ++ arr.toList.drop (off + xs.toList.length)).toArray 0 ∧
      (arr.toList.take off ++ xs.toList ++ arr.toList.drop (off + xs.toList.length)).toArray.size = arr.size := by
  have hl := hv.1
  constructor
  · intro i x hi hx
    rw [putAll_get _ _ _ _ hfit] at hx
    simp only [Nat.zero_add, List.getElem?_toArray]
    by_cases h1 : off ≤ i ∧ i < off + vs.length
    · rw [if_pos h1] at hx
      obtain ⟨y, hy, hvy⟩ := hv.2 _ _ hx
      refine ⟨y, ?_, hvy⟩
      rw [List.getElem?_append_left (by simp; omega), List.getElem?_append_right (by simp; omega)]
      simp only [List.length_take, Array.length_toList, Array.getElem?_toList]
      rw [Nat.min_eq_left (by omega)]
      exact hy
    · rw [if_neg h1] at hx
      obtain ⟨y, hy, hvy⟩ := hc i x hi hx
      refine ⟨y, ?_, hvy⟩
      simp only [Nat.zero_add] at hy
      by_cases h2 : i < off
      · rw [List.getElem?_append_left (by simp; omega), List.getElem?_append_left (by simp; omega), List.getElem?_take, if_pos h2]
        simpa using hy
      · rw [List.getElem?_append_right (by simp; omega)]
        simp only [List.length_append, List.length_take, Array.length_toList, List.getElem?_drop, Array.getElem?_toList]
        rw [← hy]
        congr 1
        omega
  · simp; omega

theorem VRs.oneCells {vs : List AV} {xs : Array Value} (h : VRs M vs xs) (h1 : vs.all AV.one = true) : ∀ v ∈ xs.toList, v.oneCell' = true := by
  intro v hv
  obtain ⟨i, hi, rfl⟩ := List.getElem_of_mem hv
  simp only [Array.length_toList] at hi
  have := h.get i (by rw [h.1]; exact hi) hi
  simp only [Array.getElem_toList]
  exact this.one_cell ((List.all_eq_true.1 h1) _ (List.getElem_mem _))

theorem store_sound (h : HR M H w) {t : TypeId} {id off ver : Nat} {v : AV} {H' : Heap} (hs : storeA P t H id off ver v = some H') {pl : Pl} (hp : M id ver = some pl) {x : Value} (hv : VR M v x) :
    ∃ w', (storeVar t ⟨pl.blk, pl.base + off, none⟩ x).run P w = .ok () w' ∧ HR M H' w' ∧ Fr M H w M H' w' := by
  unfold storeA at hs
  split at hs
  · rename_i c e born ro i hid hi
    split at hs
    · rename_i hb
      obtain ⟨rfl, rfl, hborn, hsz, hfit, hone⟩ := hb
      cases hs
      have hlt : id < H.length := (List.getElem?_eq_some_iff.1 hid).1
      have hold := h.cells id c e born false hid c.length pl hp
      obtain ⟨arr, el, fz, ha, hn, hc, hr⟩ := hold.2.2 hborn
      obtain ⟨hbase, rfl, hsize, hcap, hel⟩ := hr rfl
      subst hel
      rw [hbase] at hc hn ⊢
      have hdead : v.isDead = false := by cases v <;> first | rfl | simp [AV.cells, AV.one] at hone
      have hcells := hv.cells hdead
      have hl := hcells.1
      obtain ⟨hput, hsz'⟩ := hc.put hcells off (by omega) (by omega)
      have hrun := run_storeCells_at P pl.blk off el x.cells.toList 0 arr w (by simpa using ha) (by simp; omega) (hcells.oneCells hone)
      simp only [Nat.add_zero] at hrun
      refine ⟨_, ?_, h.write id c _ el born hid pl hp (putAll_len _ _ _) (setRow_only w pl.blk _) arr _ el ha (setRow_heap w _ arr _ el _ ha) hsz' hborn hput,
        Fr.only (setRow_only w pl.blk _) (by simp) hlt hp hold.2.1⟩
      have hne : ¬ (x.cells.size ≠ i.size) := by omega
      simp only [storeVar, Sem.run_bind, run_size hi, Result.andThen_ok]
      rw [if_neg hne]
      simp only [Sem.run_bind, Sem.run_pure, Result.andThen_ok, Nat.zero_add, hrun]
    · cases hs
  · cases hs

theorem vrs_cells {cs : List AV} {xs : Array Value} (h : VRs M cs xs) : CellsR M cs cs.length xs 0 := fun i x _ hx => by
  obtain ⟨y, hy, hv⟩ := h.2 i x hx
  exact ⟨y, by rw [Nat.zero_add]; exact hy, hv⟩

theorem upd_ver {id v : Nat} {pl : Pl} : upd M id v pl id v = some pl := upd_same M id v pl

/-- A new variable. -/
theorem newVar_sound (h : HR M H w) (hf : Free M H.length (H.length + 1)) {v : AV} {x : Value} (hv : VR M v x) (hd : v.isDead = false) (t : TypeId) :
    Post M H w (.ptr H.length 0 v.cells.length) (H ++ [.cells v.cells t 0 false]) (.pointer (some ⟨w.heap.size, 0, none⟩)) (w.alloc (.cells x.cells t)) := by
  have hc := hv.cells hd
  refine ⟨_, ?_, h.push hf v.cells x.cells t 1 x.cells.size (by rw [hc.1]; exact Nat.le_refl _) (by omega) (vrs_cells hc), Fr.push hf _ _ rfl _ _⟩
  exact .ptr _ 0 _ ⟨w.heap.size, 0, 1, x.cells.size, false⟩ upd_ver

theorem isDead_zero {z : AV} (h : 0 < z.cells.length) (h1 : z.cells.all AV.one = true) : z.isDead = false := by
  cases z <;> first | rfl | simp [AV.cells, AV.one] at h1

theorem newRow_sound (h : HR M H w) (hf : Free M H.length (H.length + 1)) {cs : List AV} {xs : Array Value} (hv : VRs M cs xs) (e : TypeId) (len cap sz : Nat) (hcap : xs.size = cap * sz) (hlen : len ≤ cap) :
    Post M H w (.sl H.length 0 len cs.length sz) (H ++ [.cells cs e 0 false]) (.slice (some ⟨w.heap.size, 0, none⟩) len cap) (w.alloc (.cells xs e)) := by
  refine ⟨_, ?_, h.push hf cs xs e cap sz (by rw [hv.1]; exact Nat.le_refl _) hcap (vrs_cells hv), Fr.push hf _ _ rfl _ _⟩
  refine .sl _ 0 len _ sz cap _ ⟨w.heap.size, 0, cap, sz, false⟩ upd_ver rfl (by simp) hlen ?_ (fun _ => by simp)
  rw [hv.1, hcap]
  simp only [Nat.zero_add]
  exact Nat.mul_le_mul_right _ hlen

end Go.Va
