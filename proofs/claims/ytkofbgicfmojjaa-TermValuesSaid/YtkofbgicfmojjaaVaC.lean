/- What becomes of the relation when an object is made, written or grows. -/
import Derived.Test.YtkofbgicfmojjaaVaB
set_option linter.unusedSimpArgs false
set_option linter.unusedVariables false
set_option linter.unusedSectionVars false
namespace Go.Va

def upd (M : Plc) (id v : Nat) (pl : Pl) : Plc := fun i u => if i = id ∧ u = v then some pl else M i u
theorem upd_same (M : Plc) (id v : Nat) (pl : Pl) : upd M id v pl id v = some pl := by simp [upd]
theorem upd_other {M : Plc} {id v : Nat} {pl : Pl} {i u : Nat} (h : i ≠ id ∨ u ≠ v) : upd M id v pl i u = M i u := by
  unfold upd; rw [if_neg]; rintro ⟨rfl, rfl⟩; simp at h
theorem Le.upd {M : Plc} {id v : Nat} {pl : Pl} (h : M id v = none) : Le M (upd M id v pl) := by
  intro i u p hp
  by_cases hi : i = id ∧ u = v
  · obtain ⟨rfl, rfl⟩ := hi; rw [h] at hp; cases hp
  · simp [Va.upd, hi, hp]

theorem getElem?_snoc {α : Type} (l : List α) (x : α) (i : Nat) : (l ++ [x])[i]? = if i = l.length then some x else l[i]? := by
  by_cases h : i < l.length
  · rw [List.getElem?_append_left h, if_neg (by omega)]
  · by_cases h2 : i = l.length
    · subst h2; simp
    · rw [if_neg h2, List.getElem?_append_right (by omega), List.getElem?_eq_none (by simp; omega), List.getElem?_eq_none (by omega)]

theorem heap_push (w : World) (o : Obj) (b : Nat) (h : b < w.heap.size) : (w.alloc o).heap[b]? = w.heap[b]? := by
  show (w.heap.push o)[b]? = _
  rw [Array.getElem?_push, if_neg (by omega)]
theorem heap_top (w : World) (o : Obj) : (w.alloc o).heap[w.heap.size]? = some o := by
  show (w.heap.push o)[w.heap.size]? = some o
  simp
theorem size_push (w : World) (o : Obj) : (w.alloc o).heap.size = w.heap.size + 1 := by
  show (w.heap.push o).size = _
  simp

/-- The general step: one object's number gets a new content (and perhaps a new version); all other blocks that are known stay. -/
theorem HR.turn {M M' : Plc} {H H' : Heap} {w w' : World} (h : HR M H w) (id : Nat)
    (hH : ∀ i, i ≠ id → H'[i]? = H[i]?) (hM : ∀ i v, i ≠ id → M' i v = M i v) (hle : Le M M')
    (hw : ∀ i v pl, i ≠ id → M i v = some pl → w'.heap[pl.blk]? = w.heap[pl.blk]?) (hs : w.heap.size ≤ w'.heap.size)
    (hc : ∀ c e born ro, H'[id]? = some (.cells c e born ro) → ∀ v pl, M' id v = some pl → v ≤ c.length ∧ pl.ro = ro ∧
      (born ≤ v → ∃ arr el fz, w'.heap[pl.blk]? = some (.cells arr el fz) ∧ pl.base + v ≤ arr.size ∧ CellsR M' c v arr pl.base ∧
        (ro = false → pl.base = 0 ∧ fz = (0, 0) ∧ arr.size = pl.cap * pl.sz ∧ v ≤ pl.cap * pl.sz ∧ el = e)))
    (hm : ∀ es, H'[id]? = some (.map es) → ∀ v pl, M' id v = some pl → (v = 0 ∧ pl.ro = false) ∧
      ∃ (es' : Array MapEntry) (clock : Nat), w'.heap[pl.blk]? = some (.map es' clock) ∧ es.length = es'.size ∧
        ∀ (i : Nat) (k x : AV), es[i]? = some (k, x) → ∃ m : MapEntry, es'[i]? = some m ∧ VR M' k m.key ∧ VR M' x m.val)
    (hx : ∀ v pl, M' id v = some pl → pl.ro = false ∧ pl.blk < w'.heap.size ∧ ∀ i v' pl', i ≠ id → M i v' = some pl' → pl'.blk ≠ pl.blk) :
    HR M' H' w' := by
  refine ⟨?_, ?_, ?_, ?_⟩
  · intro i c e born ro hi v pl hp
    by_cases hid : i = id
    · subst hid; exact hc c e born ro hi v pl hp
    · rw [hH i hid] at hi
      rw [hM i v hid] at hp
      obtain ⟨h1, h2, h3⟩ := h.cells i c e born ro hi v pl hp
      refine ⟨h1, h2, fun hb => ?_⟩
      obtain ⟨arr, el, fz, ha, hn, hcs, hr⟩ := h3 hb
      refine ⟨arr, el, fz, by rw [hw i v pl hid hp]; exact ha, hn, ?_, hr⟩
      intro k x hk hx'
      obtain ⟨y, hy, hv⟩ := hcs k x hk hx'
      exact ⟨y, hy, hv.mono hle⟩
  · intro i es hi v pl hp
    by_cases hid : i = id
    · subst hid; exact hm es hi v pl hp
    · rw [hH i hid] at hi
      rw [hM i v hid] at hp
      obtain ⟨h2, es', clock, ha, hn, hcs⟩ := h.maps i es hi v pl hp
      refine ⟨h2, es', clock, by rw [hw i v pl hid hp]; exact ha, hn, ?_⟩
      intro k a b hk
      obtain ⟨m, hm', hv, hv'⟩ := hcs k a b hk
      exact ⟨m, hm', hv.mono hle, hv'.mono hle⟩
  · intro i v pl i' v' pl' hp hp' hne hb
    by_cases h1 : i = id
    · subst h1
      rw [hM i' v' (Ne.symm hne)] at hp'
      exact absurd hb.symm ((hx v pl hp).2.2 i' v' pl' (Ne.symm hne) hp')
    · by_cases h2 : i' = id
      · subst h2
        rw [hM i v h1] at hp
        exact absurd hb ((hx v' pl' hp').2.2 i v pl h1 hp)
      · rw [hM i v h1] at hp
        rw [hM i' v' h2] at hp'
        exact h.excl i v pl i' v' pl' hp hp' hne hb
  · intro i v pl hp
    by_cases h1 : i = id
    · subst h1; exact (hx v pl hp).2.1
    · rw [hM i v h1] at hp
      have := h.inb i v pl hp
      omega

/-- A new object with cells, in a new block. -/
theorem HR.push {M : Plc} {H : Heap} {w : World} (h : HR M H w) (hf : Free M H.length (H.length + 1)) (cs : List AV) (arr : Array Value) (e : TypeId) (cap sz : Nat)
    (hl : cs.length ≤ arr.size) (ha : arr.size = cap * sz) (hc : CellsR M cs cs.length arr 0) :
    HR (upd M H.length cs.length ⟨w.heap.size, 0, cap, sz, false⟩) (H ++ [.cells cs e 0 false]) (w.alloc (.cells arr e)) := by
  have hfree : ∀ v, M H.length v = none := fun v => hf _ v (Nat.le_refl _) (by omega)
  have hle : Le M (upd M H.length cs.length ⟨w.heap.size, 0, cap, sz, false⟩) := Le.upd (hfree _)
  have hval : ∀ v pl, upd M H.length cs.length ⟨w.heap.size, 0, cap, sz, false⟩ H.length v = some pl → v = cs.length ∧ pl = ⟨w.heap.size, 0, cap, sz, false⟩ := by
    intro v pl hp
    by_cases hv : v = cs.length
    · subst hv; rw [upd_same] at hp; cases hp; exact ⟨rfl, rfl⟩
    · rw [upd_other (.inr hv), hfree] at hp; cases hp
  refine h.turn H.length ?_ ?_ hle ?_ ?_ ?_ ?_ ?_
  · intro i hi; rw [getElem?_snoc, if_neg hi]
  · intro i v hi; exact upd_other (.inl hi)
  · intro i v pl _ hp; exact heap_push w _ _ (h.inb i v pl hp)
  · rw [size_push]; omega
  · intro c e' born ro hi v pl hp
    obtain ⟨rfl, rfl⟩ := hval v pl hp
    rw [getElem?_snoc, if_pos rfl] at hi
    cases hi
    refine ⟨Nat.le_refl _, rfl, fun _ => ⟨arr, e, (0, 0), heap_top w _, by simpa using hl, ?_, fun _ => ⟨rfl, rfl, ha, by rw [← ha]; exact hl, rfl⟩⟩⟩
    intro i x hi' hx
    obtain ⟨y, hy, hv⟩ := hc i x hi' hx
    exact ⟨y, hy, hv.mono hle⟩
  · intro es hi
    rw [getElem?_snoc, if_pos rfl] at hi
    cases hi
  · intro v pl hp
    obtain ⟨rfl, rfl⟩ := hval v pl hp
    refine ⟨rfl, by rw [size_push]; exact Nat.lt_succ_self _, fun i v' pl' _ hp' => ?_⟩
    have := h.inb i v' pl' hp'
    exact Nat.ne_of_lt this

theorem Fr.push {M : Plc} {H : Heap} {w : World} (hf : Free M H.length (H.length + 1)) (v : Nat) (pl : Pl) (hb : pl.blk = w.heap.size) (o : AObj) (x : Obj) :
    Fr M H w (upd M H.length v pl) (H ++ [o]) (w.alloc x) := by
  refine ⟨Le.upd (hf _ v (Nat.le_refl _) (by omega)), ?_, by simp, rfl, rfl, rfl, by rw [size_push]; omega, fun b hb' _ => heap_push w x b hb', ?_⟩
  · intro id hi
    simp only [List.length_append, List.length_singleton] at hi
    funext u
    exact upd_other (.inl (by omega))
  · intro id u p hi hp hr hlt
    by_cases h1 : id = H.length ∧ u = v
    · obtain ⟨rfl, rfl⟩ := h1
      rw [upd_same] at hp; cases hp; omega
    · have hp' : M id u = some p := by
        by_cases h2 : id = H.length
        · subst h2; exact absurd ((hf _ u (Nat.le_refl _) (by omega))) (by rw [upd_other (.inr (by simpa using h1))] at hp; rw [hp]; simp)
        · rwa [upd_other (.inl h2)] at hp
      by_cases h2 : id = H.length
      · subst h2; rw [hf _ u (Nat.le_refl _) (by omega)] at hp'; cases hp'
      · simp only [List.length_append, List.length_singleton] at hi
        exact ⟨u, p, by omega, hp', hr, rfl⟩

/-- A new map. -/
theorem HR.pushMap {M : Plc} {H : Heap} {w : World} (h : HR M H w) (hf : Free M H.length (H.length + 1)) :
    HR (upd M H.length 0 ⟨w.heap.size, 0, 0, 0, false⟩) (H ++ [.map []]) (w.alloc (.map #[] 0)) := by
  have hfree : ∀ v, M H.length v = none := fun v => hf _ v (Nat.le_refl _) (by omega)
  have hval : ∀ v pl, upd M H.length 0 ⟨w.heap.size, 0, 0, 0, false⟩ H.length v = some pl → v = 0 ∧ pl = ⟨w.heap.size, 0, 0, 0, false⟩ := by
    intro v pl hp
    by_cases hv : v = 0
    · subst hv; rw [upd_same] at hp; cases hp; exact ⟨rfl, rfl⟩
    · rw [upd_other (.inr hv), hfree] at hp; cases hp
  refine h.turn H.length ?_ ?_ (Le.upd (hfree _)) ?_ ?_ ?_ ?_ ?_
  · intro i hi; rw [getElem?_snoc, if_neg hi]
  · intro i v hi; exact upd_other (.inl hi)
  · intro i v pl _ hp; exact heap_push w _ _ (h.inb i v pl hp)
  · rw [size_push]; omega
  · intro c e born ro hi
    rw [getElem?_snoc, if_pos rfl] at hi
    cases hi
  · intro es hi v pl hp
    obtain ⟨rfl, rfl⟩ := hval v pl hp
    rw [getElem?_snoc, if_pos rfl] at hi
    cases hi
    exact ⟨⟨rfl, rfl⟩, #[], 0, heap_top w _, rfl, fun i k x hk => by simp at hk⟩
  · intro v pl hp
    obtain ⟨rfl, rfl⟩ := hval v pl hp
    exact ⟨rfl, by rw [size_push]; exact Nat.lt_succ_self _, fun i v' pl' _ hp' => Nat.ne_of_lt (h.inb i v' pl' hp')⟩

/-- Only the block of an owned object has turned. -/
structure OnlyBlk (b : Nat) (w w' : World) : Prop where
  os : w'.os = w.os
  output : w'.output = w.output
  tape : w'.tape = w.tape
  size : w'.heap.size = w.heap.size
  block : ∀ k, k ≠ b → w'.heap[k]? = w.heap[k]?

theorem Fr.only {M : Plc} {H H' : Heap} {w w' : World} {id v : Nat} {pl : Pl} (hw : OnlyBlk pl.blk w w') (hl : H'.length = H.length) (hi : id < H.length) (hp : M id v = some pl)
    (hr : pl.ro = false) : Fr M H w M H' w' :=
  ⟨.refl M, fun _ _ => rfl, by omega, hw.os, hw.output, hw.tape, by have := hw.size; omega, fun b _ hn => hw.block b (fun e => hn id v pl hi hp hr e.symm),
    fun i u p hi' h hr' _ => ⟨u, p, by omega, h, hr', rfl⟩⟩

/-- An owned object's cells are written in place: its newest version alone is left. -/
theorem HR.write {M : Plc} {H : Heap} {w w' : World} (h : HR M H w) (id : Nat) (c c' : List AV) (e : TypeId) (born : Nat) (hid : H[id]? = some (.cells c e born false))
    (pl : Pl) (hp : M id c.length = some pl) (hl : c'.length = c.length) (hw : OnlyBlk pl.blk w w') (arr arr' : Array Value) (el : TypeId)
    (ha : w.heap[pl.blk]? = some (.cells arr el (0, 0))) (ha' : w'.heap[pl.blk]? = some (.cells arr' el (0, 0))) (hs : arr'.size = arr.size) (hb : born ≤ c.length)
    (hc : CellsR M c' c.length arr' 0) : HR M (H.set id (.cells c' e c.length false)) w' := by
  have hi : id < H.length := (List.getElem?_eq_some_iff.1 hid).1
  refine h.turn id ?_ (fun _ _ _ => rfl) (.refl M) ?_ (by rw [hw.size]; exact Nat.le_refl _) ?_ ?_ ?_
  · intro i hne; rw [List.getElem?_set_ne (Ne.symm hne)]
  · intro i v pl' hne hp'
    refine hw.block _ fun e' => ?_
    have := (h.excl i v pl' id c.length pl hp' hp hne e').2
    have h2 := (h.cells id c e born false hid _ pl hp).2.1
    rw [h2] at this; cases this
  · intro c₂ e₂ b₂ ro₂ hi₂ v pl' hp'
    rw [List.getElem?_set_self hi] at hi₂
    cases hi₂
    have hold := h.cells id c e born false hid v pl' hp'
    refine ⟨by omega, hold.2.1, fun hv => ?_⟩
    obtain rfl : v = c.length := by omega
    rw [hp] at hp'; cases hp'
    obtain ⟨arr₀, el₀, fz₀, h0, hn, _, hr⟩ := hold.2.2 hb
    rw [ha] at h0; cases h0
    obtain ⟨h1, h2, h3, h4, h5⟩ := hr rfl
    refine ⟨arr', el, (0, 0), ha', by omega, by rw [h1]; exact hc, fun _ => ⟨h1, rfl, by omega, h4, h5⟩⟩
  · intro es hes
    rw [List.getElem?_set_self hi] at hes
    cases hes
  · intro v pl' hp'
    have hold := h.cells id c e born false hid v pl' hp'
    have hro : pl'.ro = false := hold.2.1
    refine ⟨hro, by rw [hw.size]; exact h.inb id v pl' hp', fun i u pl₂ hne h₂ he => ?_⟩
    have := (h.excl i u pl₂ id v pl' h₂ hp' hne he).2
    rw [hro] at this; cases this

/-- A map is written. -/
theorem HR.writeMap {M : Plc} {H : Heap} {w w' : World} (h : HR M H w) (id : Nat) (es es₂ : List (AV × AV)) (hid : H[id]? = some (.map es))
    (pl : Pl) (hp : M id 0 = some pl) (hw : OnlyBlk pl.blk w w') (es' : Array MapEntry) (clock : Nat)
    (ha' : w'.heap[pl.blk]? = some (.map es' clock)) (hs : es₂.length = es'.size)
    (hc : ∀ (i : Nat) (k x : AV), es₂[i]? = some (k, x) → ∃ m : MapEntry, es'[i]? = some m ∧ VR M k m.key ∧ VR M x m.val) : HR M (H.set id (.map es₂)) w' := by
  have hi : id < H.length := (List.getElem?_eq_some_iff.1 hid).1
  have hro : pl.ro = false := (h.maps id es hid 0 pl hp).1.2
  have hu : ∀ v p, M id v = some p → v = 0 := fun v p hv => (h.maps id es hid v p hv).1.1
  refine h.turn id ?_ (fun _ _ _ => rfl) (.refl M) ?_ (by rw [hw.size]; exact Nat.le_refl _) ?_ ?_ ?_
  · intro i hne; rw [List.getElem?_set_ne (Ne.symm hne)]
  · intro i v pl' hne hp'
    refine hw.block _ fun e' => ?_
    have := (h.excl i v pl' id 0 pl hp' hp hne e').2
    rw [hro] at this; cases this
  · intro c₂ e₂ b₂ ro₂ hi₂
    rw [List.getElem?_set_self hi] at hi₂
    cases hi₂
  · intro es₃ hes v pl' hp'
    rw [List.getElem?_set_self hi] at hes
    cases hes
    obtain rfl := hu v pl' hp'
    rw [hp] at hp'; cases hp'
    exact ⟨⟨rfl, hro⟩, es', clock, ha', hs, hc⟩
  · intro v pl' hp'
    obtain rfl := hu v pl' hp'
    rw [hp] at hp'; cases hp'
    refine ⟨hro, by rw [hw.size]; exact h.inb id 0 pl hp, fun i u pl₂ hne h₂ he => ?_⟩
    have := (h.excl i u pl₂ id 0 pl h₂ hp hne he).2
    rw [hro] at this; cases this

end Go.Va
