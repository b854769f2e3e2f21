/- Part 6 of the proof: RA RB. -/
import Derived.Deep.Slices
import Derived.OpenShut
import Derived.Below
import Derived.Test.YtokbecghdofohaaVaK5
section
set_option linter.unusedSimpArgs false
set_option linter.unusedVariables false
set_option linter.unusedSectionVars false
namespace Go.Va
open Go.ChangeShapes Go.WideShapes

/-- The cells of a type without references: whole numbers by kind, bools (none). -/
def flatF (P : Program) (g : TypeId → Option (List (Option IntKind))) : List Field → Nat → Option (List (Option IntKind))
  | [], _ => some []
  | f :: fs, off => (g f.type).bind fun ks => if f.offset = off ∧ P.cellsOf f.type = ks.length then (flatF P g fs (off + ks.length)).map (ks ++ ·) else none
def flat (P : Program) : Nat → TypeId → Option (List (Option IntKind))
  | 0, _ => none
  | n + 1, t => match P.underlying t with
    | some .bool => some [none]
    | some (.int k) => some [some k]
    | some (.struct fs) => (flatF P (flat P n) fs.toList 0).bind fun ks => if P.cellsOf t = ks.length then some ks else none
    | some (.array m e) => (flat P n e).bind fun ks => if P.cellsOf e = ks.length ∧ P.cellsOf t = m * ks.length then some (List.replicate m ks).flatten else none
    | _ => none

def LeafOk : Option IntKind → Value → Prop
  | some k, v => ∃ n, v = .int k n ∧ (Lit.int k n).wf = true
  | none, v => ∃ b, v = .bool b
def LeavesOk (ks : List (Option IntKind)) (cs : List Value) : Prop := cs.length = ks.length ∧ ∀ (i : Nat) (k : Option IntKind), ks[i]? = some k → ∃ v, cs[i]? = some v ∧ LeafOk k v

theorem LeavesOk.append {ks ls : List (Option IntKind)} {cs ds : List Value} (h : LeavesOk ks cs) (g : LeavesOk ls ds) : LeavesOk (ks ++ ls) (cs ++ ds) := by
  refine ⟨by rw [List.length_append, List.length_append, h.1, g.1], fun i k hk => ?_⟩
  rw [List.getElem?_append] at hk ⊢
  rw [h.1]
  split
  · rename_i hi; rw [if_pos hi] at hk; exact h.2 i k hk
  · rename_i hi; rw [if_neg hi] at hk; exact g.2 _ k hk

section
variable {H : Type} {enc : TypeId × Value → H} {P : Program} {w : World} {base : Nat} {spare : Nat → Bool} {held : Bool}

theorem flatF_ok {g : TypeId → Option (List (Option IntKind))} {n : Nat} (hg : ∀ t ks cs x, g t = some ks → DataW.trod enc P w base spare held n t cs = some x → LeavesOk ks cs) {cs : List Value} :
    ∀ (fs : List Field) (off : Nat) (ks : List (Option IntKind)), flatF P g fs off = some ks → (∀ f, f ∈ fs → ∃ x, DataW.trod enc P w base spare held n f.type ((cs.drop f.offset).take (P.cellsOf f.type)) = some x) →
      LeavesOk ks ((cs.drop off).take ks.length)
  | [], off, ks, h, _ => by
    simp only [flatF, Option.some.injEq] at h; subst h
    exact ⟨by simp, fun i k hk => by simp at hk⟩
  | f :: fs, off, ks, h, hx => by
    simp only [flatF, Option.bind_eq_some_iff] at h
    obtain ⟨k1, h1, h⟩ := h
    split at h
    · rename_i hc
      obtain ⟨c1, c2⟩ := hc
      simp only [Option.map_eq_some_iff] at h
      obtain ⟨k2, h2, rfl⟩ := h
      obtain ⟨x, hx1⟩ := hx f (by simp)
      have l1 := hg _ _ _ _ h1 hx1
      rw [c1, c2] at l1
      have l2 := flatF_ok hg fs (off + k1.length) k2 h2 (fun f' hf' => hx f' (by simp [hf']))
      have l3 := l1.append l2
      rw [List.length_append, List.take_add, List.drop_drop]
      exact l3
    · cases h

theorem trod_flat : ∀ (n : Nat) (t : TypeId) (ks : List (Option IntKind)) (fuel : Nat) (cs : List Value) (x : DataW H × List MemPlace), flat P n t = some ks → DataW.trod enc P w base spare held fuel t cs = some x → LeavesOk ks cs
  | 0, t, ks, fuel, cs, x, h, _ => by simp [flat] at h
  | n + 1, t, ks, fuel, cs, x, h, hx => by
    unfold flat at h
    split at h
    · rename_i ht
      cases h
      obtain ⟨b, rfl, -⟩ := DataW.trod_bool ht hx
      exact ⟨rfl, fun i k hk => by
        cases i with
        | zero => simp at hk; subst hk; exact ⟨_, rfl, b, rfl⟩
        | succ i => simp at hk⟩
    · rename_i k ht
      cases h
      obtain ⟨m, rfl, -, hw⟩ := DataW.trod_int ht hx
      exact ⟨rfl, fun i k hk => by
        cases i with
        | zero => simp at hk; subst hk; exact ⟨_, rfl, m, rfl, hw⟩
        | succ i => simp at hk⟩
    · rename_i fs ht
      simp only [Option.bind_eq_some_iff] at h
      obtain ⟨ks', h, hc⟩ := h
      split at hc
      case isFalse => cases hc
      rename_i hc'
      cases hc
      obtain ⟨xs, m, rfl, -, hlen, hxl, hf⟩ := DataW.trod_struct ht hx
      have := flatF_ok (g := flat P n) (n := m) (fun t ks cs x hg hx => trod_flat n t ks m cs x hg hx) (cs := cs) fs.toList 0 ks h (fun f hf' => by
        obtain ⟨i, hi, rfl⟩ := List.getElem_of_mem hf'
        have h1 := hf i fs[i] (by simp at hi; simp [hi])
        have h2 : i < xs.length := by rw [hxl]; simpa using hi
        rw [List.getElem?_eq_getElem h2] at h1
        exact ⟨_, by simpa using h1⟩)
      rw [List.drop_zero, List.take_of_length_le (by omega)] at this
      exact this
    · rename_i m e ht
      simp only [Option.bind_eq_some_iff] at h
      obtain ⟨k1, h1, h⟩ := h
      split at h
      · rename_i hce
        obtain ⟨hce, hc⟩ := hce
        cases h
        obtain ⟨xs, k, rfl, -, hlen, hxl, hf⟩ := DataW.trod_array ht hx
        have key : ∀ j, j ≤ m → LeavesOk (List.replicate j k1).flatten (cs.take (j * k1.length)) := by
          intro j
          induction j with
          | zero => intro _; exact ⟨by simp, fun i k hk => by simp at hk⟩
          | succ j ih =>
            intro hj
            have g1 := hf j (by omega)
            have h2 : j < xs.length := by omega
            rw [List.getElem?_eq_getElem h2, hce] at g1
            have g2 := trod_flat n e k1 k _ _ h1 g1
            have g3 := (ih (by omega)).append g2
            have e1 : (List.replicate (j + 1) k1).flatten = (List.replicate j k1).flatten ++ k1 := by
              rw [List.replicate_succ']; simp
            rw [e1, Nat.succ_mul, List.take_add]
            exact g3
        have := key m (Nat.le_refl _)
        have hl : (List.replicate m k1).flatten.length = m * k1.length := by simp [List.length_flatten]
        rw [List.take_of_length_le (by omega)] at this
        exact this
      · cases h
    · cases h
end
end Go.Va
end

section
set_option linter.unusedSimpArgs false
set_option linter.unusedVariables false
set_option linter.unusedSectionVars false
namespace Go.Va
open Go.ChangeShapes Go.WideShapes Go.RowKit

/-- A heap of things that came in. -/
structure Ro (M : Plc) (H : Heap) (w : World) : Prop where
  hr : HR M H w
  ro : ∀ id v pl, M id v = some pl → pl.ro = true ∧ id < H.length

theorem Ro.nil (w : World) : Ro (fun _ _ => none) [] w :=
  ⟨⟨fun _ _ _ _ _ h => by simp at h, fun _ _ h => by simp at h, fun _ _ _ _ _ _ h => by simp at h, fun _ _ _ h => by simp at h⟩, fun _ _ _ h => by simp at h⟩

theorem Ro.push {M : Plc} {H : Heap} {w : World} (h : Ro M H w) {arr : Array Value} {el : TypeId} {fz : Nat × Nat} {blk base len cap sz : Nat} (hb : w.heap[blk]? = some (.cells arr el fz)) (hl : len ≤ cap) (hs : base + len * sz ≤ arr.size) (e : TypeId) :
    Ro (upd M H.length (len * sz) ⟨blk, base, cap, sz, true⟩) (H ++ [.cells (((arr.toList.drop base).take (len * sz)).map ofV1) e 0 true]) w ∧ Le M (upd M H.length (len * sz) ⟨blk, base, cap, sz, true⟩) ∧
      VR (upd M H.length (len * sz) ⟨blk, base, cap, sz, true⟩) (.sl H.length 0 len (len * sz) sz) (.slice (some ⟨blk, base, none⟩) len cap) := by
  have hle : Le M (upd M H.length (len * sz) ⟨blk, base, cap, sz, true⟩) := Le.upd (by
    cases hm : M H.length (len * sz) with
    | none => rfl
    | some pl => have := (h.ro _ _ _ hm).2; omega)
  have hro : ∀ id v pl, upd M H.length (len * sz) ⟨blk, base, cap, sz, true⟩ id v = some pl → (id = H.length ∧ v = len * sz ∧ pl = ⟨blk, base, cap, sz, true⟩) ∨ (id < H.length ∧ M id v = some pl) := by
    intro id v pl hp
    by_cases hi : id = H.length ∧ v = len * sz
    · obtain ⟨rfl, rfl⟩ := hi
      rw [upd_same] at hp; cases hp
      exact .inl ⟨rfl, rfl, rfl⟩
    · rw [upd_other (by omega)] at hp
      exact .inr ⟨(h.ro _ _ _ hp).2, hp⟩
  have hbs : blk < w.heap.size := by rw [Array.getElem?_eq_some_iff] at hb; exact hb.1
  refine ⟨⟨⟨?_, ?_, ?_, ?_⟩, ?_⟩, hle, ?_⟩
  · intro id c e' born ro hid v pl hp
    rcases hro id v pl hp with ⟨rfl, rfl, rfl⟩ | ⟨hi, hp'⟩
    · rw [List.getElem?_append_right (Nat.le_refl _), Nat.sub_self] at hid
      simp only [List.getElem?_cons_zero, Option.some.injEq, AObj.cells.injEq] at hid
      obtain ⟨rfl, rfl, rfl, rfl⟩ := hid
      refine ⟨?_, rfl, fun _ => ⟨arr, el, fz, hb, hs, ?_, fun h => by cases h⟩⟩
      · simp only [List.length_map, List.length_take, List.length_drop, Array.length_toList]; omega
      · intro i x hi hx
        simp only [List.getElem?_map, Option.map_eq_some_iff] at hx
        obtain ⟨y, hy, rfl⟩ := hx
        rw [List.getElem?_take_of_lt hi, List.getElem?_drop, Array.getElem?_toList] at hy
        exact ⟨y, hy, .ofV1 y⟩
    · rw [List.getElem?_append_left hi] at hid
      obtain ⟨g1, g2, g3⟩ := h.hr.cells id c e' born ro hid v pl hp'
      refine ⟨g1, g2, fun hbv => ?_⟩
      obtain ⟨arr', el', fz', k1, k2, k3, k4⟩ := g3 hbv
      exact ⟨arr', el', fz', k1, k2, fun i x hi hx => let ⟨y, hy, hv⟩ := k3 i x hi hx; ⟨y, hy, hv.mono hle⟩, k4⟩
  · intro id es hid v pl hp
    rcases hro id v pl hp with ⟨rfl, rfl, rfl⟩ | ⟨hi, hp'⟩
    · rw [List.getElem?_append_right (Nat.le_refl _), Nat.sub_self] at hid
      simp at hid
    · rw [List.getElem?_append_left hi] at hid
      obtain ⟨g1, es', clock, g2, g3, g4⟩ := h.hr.maps id es hid v pl hp'
      exact ⟨g1, es', clock, g2, g3, fun i k x hx => let ⟨m, k1, k2, k3⟩ := g4 i k x hx; ⟨m, k1, k2.mono hle, k3.mono hle⟩⟩
  · intro id v pl id' v' pl' h1 h2 _ _
    refine ⟨?_, ?_⟩
    · rcases hro id v pl h1 with ⟨rfl, rfl, rfl⟩ | ⟨_, hp⟩
      · rfl
      · exact (h.ro _ _ _ hp).1
    · rcases hro id' v' pl' h2 with ⟨rfl, rfl, rfl⟩ | ⟨_, hp⟩
      · rfl
      · exact (h.ro _ _ _ hp).1
  · intro id v pl h1
    rcases hro id v pl h1 with ⟨rfl, rfl, rfl⟩ | ⟨_, hp⟩
    · exact hbs
    · exact h.hr.inb _ _ _ hp
  · intro id v pl h1
    rcases hro id v pl h1 with ⟨rfl, rfl, rfl⟩ | ⟨hi, hp⟩
    · exact ⟨rfl, by simp⟩
    · exact ⟨(h.ro _ _ _ hp).1, by rw [List.length_append]; omega⟩
  · exact .sl _ 0 len _ sz cap _ ⟨blk, base, cap, sz, true⟩ (upd_same _ _ _ _) rfl (by simp) hl (by simp) (fun _ => by simp)

/-- A leaf, in the abstract. -/
def LeafA : Option IntKind → AV → Prop
  | some k, v => ∃ n, v = .int k n ∧ (Lit.int k n).wf = true
  | none, v => ∃ b, v = .bool b
def RowA (ks : List (Option IntKind)) (cs : List AV) : Prop := cs.length = ks.length ∧ ∀ (i : Nat) (k : Option IntKind), ks[i]? = some k → ∃ v, cs[i]? = some v ∧ LeafA k v
theorem LeavesOk.rowA {ks : List (Option IntKind)} {cs : List Value} (h : LeavesOk ks cs) : RowA ks (cs.map ofV1) := by
  refine ⟨by rw [List.length_map, h.1], fun i k hk => ?_⟩
  obtain ⟨v, h1, h2⟩ := h.2 i k hk
  refine ⟨ofV1 v, by rw [List.getElem?_map, h1]; rfl, ?_⟩
  cases k with
  | none => obtain ⟨b, rfl⟩ := h2; exact ⟨b, rfl⟩
  | some k => obtain ⟨n, rfl, hw⟩ := h2; exact ⟨n, rfl, hw⟩

section
variable {H : Type} {enc : TypeId × Value → H} {P : Program} {w : World}

/-- A struct or an array of whole numbers and bools. -/
theorem open_agg {t : TypeId} {n : Nat} {ks : List (Option IntKind)} {v : Value} {d : DataW H} {ps : List MemPlace} (hf : flat P n t = some ks) (hv : ∃ cs, v = .agg cs) (h : DataW.Trod enc P w 0 (fun _ => true) true t v d ps) :
    ∃ r, RowA ks r ∧ ∀ M, VR M (.agg r) v := by
  obtain ⟨cs, rfl⟩ := hv
  obtain ⟨fuel, hx⟩ := h
  have := trod_flat n t ks fuel _ _ hf hx
  exact ⟨_, this.rowA, fun M => .agg' (.ofList cs)⟩

theorem mapM_range_get {α : Type} (f : Nat → Option α) : ∀ (n : Nat) (cs : List α), (List.range n).mapM f = some cs → cs.length = n ∧ ∀ i, i < n → f i = cs[i]? := by
  intro n cs h
  induction n generalizing cs with
  | zero => simp at h; subst h; exact ⟨rfl, fun i hi => by omega⟩
  | succ n ih =>
    rw [List.range_succ, List.mapM_append] at h
    cases h1 : (List.range n).mapM f with
    | none => rw [h1] at h; simp at h
    | some xs =>
      rw [h1] at h
      cases h2 : f n with
      | none => simp [h2] at h
      | some y =>
        simp [h2] at h
        subst h
        obtain ⟨l1, l2⟩ := ih xs h1
        refine ⟨by simp [l1], fun i hi => ?_⟩
        rcases Nat.lt_or_ge i n with hi' | hi'
        · rw [l2 i hi', List.getElem?_append_left (by omega)]
        · have : i = n := by omega
          subst this
          rw [h2, List.getElem?_append_right (by omega), l1, Nat.sub_self]; rfl

/-- A slice of such things. -/
theorem open_rows {t e : TypeId} {n : Nat} {ks : List (Option IntKind)} {v : Value} {d : DataW H} {ps : List MemPlace} {M : Plc} {Hp : Heap} (ht : P.underlying t = some (.slice e)) (hf : flat P n e = some ks) (hc : P.cellsOf e = ks.length) (h0 : 0 < ks.length)
    (hv : ∃ a len cap, v = .slice a len cap) (h : DataW.Trod enc P w 0 (fun _ => true) true t v d ps) (hR : Ro M Hp w) :
    ∃ (M' : Plc) (Hp' : Heap) (av : AV) (L : List (List AV)), Ro M' Hp' w ∧ Le M M' ∧ Ext Hp Hp' ∧ VR M' av v ∧ Shows Hp' av ks.length L ∧ (∀ r ∈ L, RowA ks r) ∧ L.length ≤ 9223372036854775807 := by
  obtain ⟨fuel, hx⟩ := h
  rcases Go.Deep.open_slice ht hx with ⟨hcs, -⟩ | ⟨a, len, cap, m, k, D, Pl, hcs, -, hl, hm, hmm, -, hel⟩
  · obtain ⟨a, len, cap, rfl⟩ := hv
    simp [Value.cells] at hcs
    obtain ⟨rfl, rfl, rfl⟩ := hcs
    exact ⟨M, Hp, .nilsl, [], hR, .refl M, .refl, .nilsl, ⟨by simp, rfl⟩, by simp, by simp⟩
  · obtain ⟨a', len', cap', rfl⟩ := hv
    simp [Value.cells] at hcs
    obtain ⟨rfl, rfl, rfl⟩ := hcs
    simp only [if_true] at hmm
    subst hmm
    have hmx : m ≤ 9223372036854775807 := by simpa [maxLen] using hm
    rcases Nat.eq_zero_or_pos m with hz | hpos
    · subst hz
      have : len' = 0 := by omega
      subst this
      exact ⟨M, Hp, .esl, [], hR, .refl M, .refl, .esl a, ⟨by simp, rfl⟩, by simp, by simp⟩
    · have cell : ∀ i, i < m → ∃ cs', LeavesOk ks cs' ∧ ∀ j, j < ks.length → w.cell? ((a.add (i * ks.length)).add j) = cs'[j]? := by
        intro i hi
        obtain ⟨cs', g1, g2⟩ := hel i hi
        rw [hc] at g1
        unfold World.cells? at g1
        rw [if_pos (Nat.zero_le _)] at g1
        obtain ⟨g3, g4⟩ := mapM_range_get _ _ _ g1
        exact ⟨cs', trod_flat n e ks k cs' _ hf g2, g4⟩
      have sp : a.spot = none ∧ ∃ arr el fz, w.heap[a.block]? = some (.cells arr el fz) := by
        obtain ⟨cs', g1, g2⟩ := cell 0 hpos
        have g3 := g2 0 h0
        have : (cs'[0]?).isSome = true := by
          rw [List.getElem?_eq_getElem (by rw [g1.1]; exact h0)]; rfl
        rw [← g3] at this
        unfold World.cell? at this
        have e0 : (a.add (0 * ks.length)).add 0 = a := by simp [Addr.add]
        rw [e0] at this
        split at this
        · rename_i arr el fz hh
          refine ⟨?_, arr, el, fz, hh⟩
          cases hs : a.spot with
          | none => rfl
          | some s => rw [hs] at this; simp at this
        · cases this
      obtain ⟨hspot, arr, el, fz, hheap⟩ := sp
      have cell' : ∀ i, i < m → ∃ cs', LeavesOk ks cs' ∧ ∀ j, j < ks.length → arr[a.off + i * ks.length + j]? = cs'[j]? := by
        intro i hi
        obtain ⟨cs', g1, g2⟩ := cell i hi
        refine ⟨cs', g1, fun j hj => ?_⟩
        have := g2 j hj
        have e1 : (a.add (i * ks.length)).add j = ⟨a.block, a.off + i * ks.length + j, none⟩ := by
          obtain ⟨b, o, sp⟩ := a
          simp only at hspot
          subst hspot
          simp only [Addr.add]
          split <;> split <;> simp_all
        rw [e1] at this
        unfold World.cell? at this
        simp only [hheap, Option.isSome_none, Bool.false_eq_true, if_false] at this
        exact this
      have rowEq : ∀ i, i < m → LeavesOk ks ((arr.toList.drop (a.off + i * ks.length)).take ks.length) := by
        intro i hi
        obtain ⟨cs', g1, g2⟩ := cell' i hi
        have : (arr.toList.drop (a.off + i * ks.length)).take ks.length = cs' := by
          apply List.ext_getElem?
          intro j
          rcases Nat.lt_or_ge j ks.length with hj | hj
          · rw [List.getElem?_take_of_lt hj, List.getElem?_drop, Array.getElem?_toList, g2 j hj]
          · rw [List.getElem?_eq_none (by rw [List.length_take]; omega), List.getElem?_eq_none (by rw [g1.1]; exact hj)]
        rw [this]; exact g1
      have hsz : a.off + m * ks.length ≤ arr.size := by
        have hlast := (rowEq (m - 1) (by omega)).1
        rw [List.length_take, List.length_drop, Array.length_toList (xs := arr)] at hlast
        have e1 : m * ks.length = (m - 1) * ks.length + ks.length := by
          rw [← Nat.succ_mul]; congr 1; omega
        omega
      have hlen : a.off + len' * ks.length ≤ arr.size := by
        have := Nat.mul_le_mul_right ks.length hl; omega
      obtain ⟨r1, r2, r3⟩ := hR.push (cap := m) hheap hl hlen e
      have ha : (⟨a.block, a.off, none⟩ : Addr) = a := by cases a; simp at hspot; subst hspot; rfl
      rw [ha] at r3
      refine ⟨_, _, _, (List.range len').map fun i => ((arr.toList.drop (a.off + i * ks.length)).take ks.length).map ofV1, r1, r2, Ext.refl.app, r3, ⟨?_, ?_⟩, ?_, ?_⟩
      · intro x hx
        simp only [List.mem_map, List.mem_range] at hx
        obtain ⟨i, hi, rfl⟩ := hx
        rw [List.length_map]; exact (rowEq i (by omega)).1
      · refine ⟨rfl, by simp, _, e, 0, true, hp_get0, Nat.zero_le _, ?_, by simp, ?_⟩
        · simp only [List.length_map, List.length_take, List.length_drop, Array.length_toList]; omega
        · intro i hi
          simp only [List.length_map, List.length_range] at hi
          simp only [List.getElem_map, List.getElem_range, Nat.zero_add]
          rw [← List.map_drop, ← List.map_take]
          congr 1
          apply List.ext_getElem?
          intro j
          rcases Nat.lt_or_ge j ks.length with hj | hj
          · have : i * ks.length + j < len' * ks.length := by
              have := Nat.mul_le_mul_right ks.length (show i + 1 ≤ len' by omega)
              rw [Nat.succ_mul] at this; omega
            rw [List.getElem?_take_of_lt hj, List.getElem?_take_of_lt hj, List.getElem?_drop, List.getElem?_drop, List.getElem?_take_of_lt this, List.getElem?_drop]
            congr 1; omega
          · rw [List.getElem?_eq_none (by rw [List.length_take]; omega), List.getElem?_eq_none (by rw [List.length_take]; omega)]
      · intro r hr
        simp only [List.mem_map, List.mem_range] at hr
        obtain ⟨i, hi, rfl⟩ := hr
        exact (rowEq i (by omega)).rowA
      · rw [List.length_map, List.length_range]; omega
end

/-- A law that comes to true, from a heap of what came in. -/
theorem law_row {C : Ctx} (hC : C.ok) {f : FuncId} {args : List AV} {H : Heap} (h : F C f args H fun v _ => v = .bool true) {M : Plc} {w : World} {xs : Array Value} (hR : Ro M H w) (hx : VRs M args xs) :
    Calls C.P f xs w fun e w' => e = .returned (.bool true) ∧ Below w.heap.size w w' := by
  obtain ⟨n, v, H', hc, rfl⟩ := h
  obtain ⟨-, -, hk⟩ := call_sound hC n f args H _ _ hc M w xs hR.hr (fun id v h1 _ => by
    cases hm : M id v with
    | none => rfl
    | some pl => have := (hR.ro _ _ _ hm).2; omega) hx
  refine hk.mono ?_
  rintro e w' ⟨x, rfl, M', hv, -, hF⟩
  cases hv
  exact ⟨rfl, hF.os, hF.tape, hF.output, hF.size, fun b hb => hF.block b hb fun id v pl _ hp hr => by rw [(hR.ro _ _ _ hp).1] at hr; cases hr⟩
end Go.Va
namespace Go.Va
theorem VRs.nil_ {M : Plc} : VRs M [] #[] := ⟨rfl, fun i x h => by simp at h⟩
theorem VRs.cons_ {M : Plc} {v : AV} {x : Value} {vs : List AV} {xs : List Value} (h : VR M v x) (g : VRs M vs ⟨xs⟩) : VRs M (v :: vs) ⟨x :: xs⟩ := by
  refine ⟨by have := g.1; simp at this ⊢; exact this, fun i y hy => ?_⟩
  cases i with
  | zero => simp at hy; subst hy; exact ⟨x, rfl, h⟩
  | succ i =>
    simp at hy
    obtain ⟨z, hz, hv⟩ := g.2 i y hy
    exact ⟨z, by simpa using hz, hv⟩
theorem okWide_array {P : Program} {t e : TypeId} {n : Nat} {w : World} {r : Reach} {base : Nat} {v : Value} (ht : P.underlying t = some (.array n e)) (h : Value.okWide P w r base t v) : ∃ cs, v = .agg cs := by
  simp only [Value.okWide, ht] at h
  obtain ⟨cs, h1, h2, _⟩ := h
  exact ⟨cs, h1⟩
end Go.Va
end
