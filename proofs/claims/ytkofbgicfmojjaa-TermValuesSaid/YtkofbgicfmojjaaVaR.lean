/- The invariant of a region whose order is open, and its steps. -/
import Derived.Test.YtkofbgicfmojjaaVaQ
set_option linter.unusedSimpArgs false
set_option linter.unusedVariables false
set_option linter.unusedSectionVars false
namespace Go.Va

variable {C : Ctx} {call : CallF} {ops : Array Oper} {S : Nat → St}

/-- A variable that was made ahead of its turn: it lies in a block of its own. -/
def Extra (M : Plc) (H H' : Heap) (w : World) : Prop :=
  ∃ cs e pl arr, H' = H ++ [.cells cs e 0 false] ∧ M H.length cs.length = some pl ∧ (∀ v p, M H.length v = some p → v = cs.length) ∧ pl.ro = false ∧ pl.base = 0 ∧
    w.heap[pl.blk]? = some (.cells arr e (0, 0)) ∧ CellsR M cs cs.length arr 0 ∧ cs.length ≤ arr.size ∧ arr.size = pl.cap * pl.sz

theorem HR.absorb {M : Plc} {H H' : Heap} {w : World} (h : HR M H w) (hx : Extra M H H' w) : HR M H' w := by
  obtain ⟨cs, e, pl, arr, rfl, hp, hu, hro, hb, ha, hc, hl, hs⟩ := hx
  refine ⟨?_, ?_, h.excl, h.inb⟩
  · intro id c e' born ro hid v p hv
    rw [getElem?_snoc] at hid
    split at hid
    · rename_i hi
      subst hi
      cases hid
      obtain rfl := hu v p hv
      rw [hp] at hv; cases hv
      exact ⟨Nat.le_refl _, hro, fun _ => ⟨arr, e, (0, 0), ha, by rw [hb]; simpa using hl, by rw [hb]; exact hc, fun _ => ⟨hb, rfl, hs, by rw [← hs]; exact hl, rfl⟩⟩⟩
    · exact h.cells id c e' born ro hid v p hv
  · intro id es hid
    rw [getElem?_snoc] at hid
    split at hid
    · cases hid
    · exact h.maps id es hid

theorem Extra.keep {M M' : Plc} {H H' K K' : Heap} {w w' : World} (hx : Extra M K K' w) (h : HR M H w) (hf : Fr M H w M' H' w') (hk : H'.length ≤ K.length) : Extra M' K K' w' := by
  obtain ⟨cs, e, pl, arr, rfl, hp, hu, hro, hb, ha, hc, hl, hs⟩ := hx
  have hM : M' K.length = M K.length := hf.beyond _ hk
  refine ⟨cs, e, pl, arr, rfl, by rw [hM]; exact hp, by rw [hM]; exact hu, hro, hb, ?_, ?_, hl, hs⟩
  · rw [hf.block _ (h.inb _ _ _ hp) ?_, ha]
    intro id v p hid hv hr he
    have := (h.excl id v p K.length cs.length pl hv hp (by have := hf.len; omega) he).1
    rw [hr] at this; cases this
  · intro i x hi hx
    obtain ⟨y, hy, hv⟩ := hc i x hi hx
    exact ⟨y, hy, hv.mono hf.le⟩

/-- What has become of the world since the region began. -/
structure BF (M₀ : Plc) (H₀ : Heap) (w₀ : World) (M : Plc) (Hn : Heap) (w : World) : Prop where
  le : Le M₀ M
  beyond : ∀ id, Hn.length ≤ id → M id = M₀ id
  os : w.os = w₀.os
  output : w.output = w₀.output
  tape : w.tape = w₀.tape
  size : w₀.heap.size ≤ w.heap.size
  block : ∀ b, b < w₀.heap.size → (∀ id v pl, id < H₀.length → M₀ id v = some pl → pl.ro = false → pl.blk ≠ b) → w.heap[b]? = w₀.heap[b]?
  new : ∀ id v pl, id < Hn.length → M id v = some pl → pl.ro = false → pl.blk < w₀.heap.size → ∃ v₀ pl₀, id < H₀.length ∧ M₀ id v₀ = some pl₀ ∧ pl₀.ro = false ∧ pl₀.blk = pl.blk

theorem BF.step {M₀ M M' : Plc} {H₀ H H' Hn : Heap} {w₀ w w' : World} (h : BF M₀ H₀ w₀ M Hn w) (hf : Fr M H w M' H' w') (hl : H'.length ≤ Hn.length) : BF M₀ H₀ w₀ M' Hn w' := by
  have hlen := hf.len
  refine ⟨h.le.trans hf.le, fun id hi => (hf.beyond id (by omega)).trans (h.beyond id hi), hf.os.trans h.os, hf.output.trans h.output, hf.tape.trans h.tape, Nat.le_trans h.size hf.size, ?_, ?_⟩
  · intro b hb hn
    have := h.size
    rw [hf.block b (by omega) ?_, h.block b hb hn]
    intro id v pl hi hM hr he
    obtain ⟨v₀, pl₀, hi₀, h₀, hr₀, hb₀⟩ := h.new id v pl (by omega) hM hr (by omega)
    exact hn id v₀ pl₀ hi₀ h₀ hr₀ (by omega)
  · intro id v pl hi hM hr hb
    by_cases h1 : id < H'.length
    · have := h.size
      obtain ⟨v₁, pl₁, hi₁, h₁, hr₁, hb₁⟩ := hf.new id v pl h1 hM hr (by omega)
      obtain ⟨v₀, pl₀, hi₀, h₀, hr₀, hb₀⟩ := h.new id v₁ pl₁ (by omega) h₁ hr₁ (by omega)
      exact ⟨v₀, pl₀, hi₀, h₀, hr₀, by omega⟩
    · rw [hf.beyond id (by omega)] at hM
      exact h.new id v pl hi hM hr hb

/-- The invariant: p is where the first of the heavy operations stands that is not done. -/
structure Inv (M₀ : Plc) (w₀ : World) (ops : Array Oper) (S : Nat → St) (p : Nat) (listed : Array Bool) (M : Plc) (a : Act) (w : World) : Prop where
  size : listed.size = ops.size
  closed : Closed ops listed
  hp : p ≤ ops.size
  below : ∀ (k : Nat) (o : Oper), k < p → ops[k]? = some o → heavy o = true → Done listed k
  atp : p < ops.size → ∃ o, ops[p]? = some o ∧ heavy o = true ∧ ¬ Done listed p
  heap : HR M (S p).H w
  extra : ∀ (k : Nat) (o : Oper), p < k → ops[k]? = some o → heavy o = true → Done listed k → Extra M (S k).H (S (k + 1)).H w
  free : ∀ id v, (S p).H.length ≤ id → id < (S ops.size).H.length → (∀ (k : Nat) (o : Oper), p < k → ops[k]? = some o → heavy o = true → Done listed k → id ≠ (S k).H.length) → M id v = none
  env : ∀ t q, q ≤ ops.size → (∀ (j : Nat) (o : Oper), ops[j]? = some o → o.dst = some t → (Done listed j ↔ j < q)) → VR M ((S q).ρ.getD t .dead) (a.tmps.getD t undef)
  asize : a.tmps.size = (S 0).ρ.length
  defs : DsR M (S 0).D a.defers
  base : BF M₀ (S 0).H w₀ M (S ops.size).H w

variable {M₀ M M' : Plc} {w₀ w w' : World} {p : Nat} {listed : Array Bool} {a : Act}

theorem looks_opnd {o : Oper} {t : Tmp} (h : Operand.tmp t ∈ o.op.operands) : t ∈ o.looksAt ops := by
  unfold Oper.looksAt
  refine List.mem_append_left _ (List.mem_filterMap.2 ⟨.tmp t, by simpa using h, rfl⟩)
theorem looks_guard {o : Oper} {j : Nat} {want : Bool} {d : Tmp} (h : o.guard = some (j, want)) (hd : (ops[j]?).bind (·.dst) = some d) : d ∈ o.looksAt ops := by
  unfold Oper.looksAt
  refine List.mem_append_right _ ?_
  simp [h, hd]

/-- An operation that is ready: what it looks at is as the text's order has it. -/
theorem Inv.slot (h : Inv M₀ w₀ ops S p listed M a w) (ho : Ordered ops) {i : Nat} {o : Oper} (hi : i ∈ Region.ready .any ops listed) (hio : ops[i]? = some o) {t : Tmp} (ht : t ∈ o.looksAt ops) :
    VR M ((S i).ρ.getD t .dead) (a.tmps.getD t undef) := by
  obtain ⟨hlt, hnd, o', ho', hedge⟩ := ready_spec h.size hi
  rw [hio] at ho'; cases ho'
  refine h.env t i (by omega) ?_
  intro j oj hj hd
  constructor
  · intro hdj
    by_cases hji : j < i
    · exact hji
    · exfalso
      have hne : j ≠ i := by rintro rfl; exact hnd hdj
      rcases ho.pair i j o oj (by omega) hio hj with hah | ⟨hap, _⟩
      · exact hnd (h.closed.ahead ho j i hdj hah)
      · exact (Oper.apart_spec hap).2.2 t hd ht
  · intro hji
    rcases ho.pair j i oj o hji hj hio with hah | ⟨hap, _⟩
    · obtain ⟨o₂, e, h1, h2, h3, h4⟩ := ahead_edge hah
      rw [hio] at h1; cases h1
      have hde := hedge e h2 h3
      rcases h4 with rfl | ⟨_, h5⟩
      · exact hde
      · exact h.closed.ahead ho _ j hde h5
    · exact absurd ht ((Oper.apart_spec hap).1 t hd)

theorem Inv.needs (h : Inv M₀ w₀ ops S p listed M a w) (ho : Ordered ops) {i : Nat} {o : Oper} (hi : i ∈ Region.ready .any ops listed) (hio : ops[i]? = some o) : Needs M ops o (S i).ρ a := by
  refine ⟨?_, fun j want d hg hd => h.slot ho hi hio (looks_guard hg hd)⟩
  intro x hx
  cases x with
  | tmp t => exact h.slot ho hi hio (looks_opnd hx)
  | const v => exact .ofV v
  | global g => exact .dead _
  | func f => exact .fn f [] #[] rfl (fun i h => by simp at h)

theorem ready_ahead (hs : listed.size = ops.size) (hc : Closed ops listed) (ho : Ordered ops) {i : Nat} (hi : i ∈ Region.ready .any ops listed) {j : Nat} (hah : ahead ops j i = true) : Done listed j := by
  obtain ⟨hlt, hnd, o', ho', hedge⟩ := ready_spec hs hi
  obtain ⟨o₂, e, h1, h2, h3, h4⟩ := ahead_edge hah
  rw [ho'] at h1; cases h1
  have hde := hedge e h2 h3
  rcases h4 with rfl | ⟨_, h5⟩
  · exact hde
  · exact hc.ahead ho _ j hde h5

theorem closed_set (hs : listed.size = ops.size) (hc : Closed ops listed) {i : Nat} (hi : i ∈ Region.ready .any ops listed) : Closed ops (listed.setIfInBounds i true) := by
  obtain ⟨hlt, hnd, o', ho', hedge⟩ := ready_spec hs hi
  intro j o e hj hjo he hb
  rw [done_set (by omega)] at hj ⊢
  rcases hj with rfl | hj
  · rw [ho'] at hjo; cases hjo
    exact .inr (hedge e he hb)
  · exact .inr (hc j o e hj hjo he hb)

/-- The slots, behind an operation. -/
theorem Inv.env_step (h : Inv M₀ w₀ ops S p listed M a w) (hr : Run C call ops S) (ho : Ordered ops) {i : Nat} {o : Oper} (hi : i ∈ Region.ready .any ops listed) (hio : ops[i]? = some o) (hle : Le M M')
    {v : AV} {x : Value} (hρ : (S (i + 1)).ρ = putSlot (S i).ρ o.dst v) (hv : VR M' v x) :
    ∀ t q, q ≤ ops.size → (∀ (j : Nat) (o : Oper), ops[j]? = some o → o.dst = some t → (Done (listed.setIfInBounds i true) j ↔ j < q)) → VR M' ((S q).ρ.getD t .dead) ((a.put o.dst x).tmps.getD t undef) := by
  obtain ⟨hlt, hnd, o', ho', hedge⟩ := ready_spec h.size hi
  rw [hio] at ho'; cases ho'
  have hls : i < listed.size := by rw [h.size]; exact hlt
  intro t q hq hw
  by_cases hd : o.dst = some t
  · have hiq : i < q := (hw i o hio hd).1 ((done_set hls).2 (.inl rfl))
    have hconst : (S q).ρ.getD t .dead = (S (i + 1)).ρ.getD t .dead := by
      refine hr.ρsame (by omega) hq ?_
      intro k ok hk1 hk2 hko hdk
      have hdone := (hw k ok hko hdk).2 hk2
      rw [done_set hls] at hdone
      rcases hdone with rfl | hdone
      · omega
      · rcases ho.pair i k o ok (by omega) hio hko with hah | ⟨hap, _⟩
        · exact hnd (h.closed.ahead ho k i hdone hah)
        · exact (Oper.apart_spec hap).2.1 t hd hdk
    rw [hconst, hρ, hd]
    simp only [putSlot]
    rw [getD_set, tmps_put, h.asize, ← hr.ρlen i (by omega)]
    by_cases hin : t = t ∧ t < (S i).ρ.length
    · rw [if_pos hin, if_pos hin]; exact hv
    · rw [if_neg hin, if_neg hin]
      -- beyond the frame: nothing is there
      have h1 : (S i).ρ.getD t .dead = .dead := by
        rw [List.getD_eq_getElem?_getD, List.getElem?_eq_none (by simp at hin; exact hin)]; rfl
      rw [h1]; exact .dead _
  · have hold := h.env t q hq (fun j oj hj hdj => by
      have hne : j ≠ i := by rintro rfl; rw [hio] at hj; cases hj; exact hd hdj
      have := hw j oj hj hdj
      rw [done_set hls] at this
      constructor
      · intro hdj'; exact this.1 (.inr hdj')
      · intro hjq; rcases this.2 hjq with h' | h'
        · exact absurd h' hne
        · exact h')
    have hput : (a.put o.dst x).tmps.getD t undef = a.tmps.getD t undef := by
      cases hdst : o.dst with
      | none => rfl
      | some d =>
        rw [tmps_put, if_neg]
        rintro ⟨rfl, _⟩
        exact hd hdst
    rw [hput]
    exact hold.mono hle

/-- Heavy operations done behind p are new variables. -/
theorem Inv.later (h : Inv M₀ w₀ ops S p listed M a w) (ho : Ordered ops) {k : Nat} {o : Oper} (hk : p < k) (hko : ops[k]? = some o) (hh : heavy o = true) (hd : Done listed k ∨ k ∈ Region.ready .any ops listed) : floats o = true := by
  have hkn := (Array.getElem?_eq_some_iff.1 hko).1
  obtain ⟨o', ho', hh', hnd⟩ := h.atp (by omega)
  rcases ho.pair p k o' o hk ho' hko with hah | ⟨_, hn⟩
  · exfalso
    rcases hd with hd | hd
    · exact hnd (h.closed.ahead ho k p hd hah)
    · exact hnd (ready_ahead h.size h.closed ho hd hah)
  · cases hf : floats o with
    | true => rfl
    | false => exact absurd ⟨hh', hh, hf⟩ hn

/-- The next heavy operation that is not done. -/
theorem next_heavy (ops : Array Oper) (listed : Array Bool) : ∀ (n p : Nat), ops.size = p + n → ∃ q, p ≤ q ∧ q ≤ ops.size ∧ (∀ (k : Nat) (o : Oper), p ≤ k → k < q → ops[k]? = some o → heavy o = true → Done listed k) ∧
    (q < ops.size → ∃ o, ops[q]? = some o ∧ heavy o = true ∧ ¬ Done listed q)
  | 0, p, hn => ⟨p, Nat.le_refl _, by omega, fun k o h1 h2 => by omega, fun h => by omega⟩
  | n + 1, p, hn => by
    have hpo : ops[p]? = some ops[p] := Array.getElem?_eq_getElem (by omega)
    by_cases hc : heavy ops[p] = true ∧ ¬ Done listed p
    · exact ⟨p, Nat.le_refl _, by omega, fun k o h1 h2 => by omega, fun _ => ⟨_, hpo, hc⟩⟩
    · obtain ⟨q, h1, h2, h3, h4⟩ := next_heavy ops listed n (p + 1) (by omega)
      refine ⟨q, by omega, h2, ?_, h4⟩
      intro k o hk1 hk2 hko hh
      by_cases hkp : k = p
      · subst hkp
        rw [hpo] at hko; cases hko
        exact Classical.byContradiction fun hnd => hc ⟨hh, hnd⟩
      · exact h3 k o (by omega) hk2 hko hh

theorem absorb_all (hr : Run C call ops S) {q : Nat} : ∀ (n p : Nat), q = p + n → q ≤ ops.size → HR M (S p).H w → (∀ (k : Nat) (o : Oper), p ≤ k → k < q → ops[k]? = some o → heavy o = true → Extra M (S k).H (S (k + 1)).H w) → HR M (S q).H w
  | 0, p, hq, _, h, _ => by obtain rfl : q = p := by omega
                            exact h
  | n + 1, p, hq, hn, h, hx => by
    have hpo : ops[p]? = some ops[p] := Array.getElem?_eq_getElem (by omega)
    refine absorb_all hr n (p + 1) (by omega) hn ?_ (fun k o h1 h2 => hx k o (by omega) h2)
    cases hh : heavy ops[p] with
    | true => exact h.absorb (hx p _ (Nat.le_refl _) (by omega) hpo hh)
    | false =>
      have hl : ∀ (k : Nat) (o : Oper), p ≤ k → k < p + 1 → ops[k]? = some o → heavy o = false := by
        intro k o h1 h2 hko
        obtain rfl : k = p := by omega
        rw [hpo] at hko; cases hko; exact hh
      rw [hr.Hsame (i := p) (j := p + 1) (by omega) (by omega) hl]
      exact h

/-- Behind an operation that leaves the heap where it was. -/
theorem Inv.light (h : Inv M₀ w₀ ops S p listed M a w) (hr : Run C call ops S) (hlen : CallLen call) (ho : Ordered ops) {i : Nat} {o : Oper} (hi : i ∈ Region.ready .any ops listed) (hio : ops[i]? = some o) (hh : heavy o = false)
    {v : AV} {x : Value} (hρ : (S (i + 1)).ρ = putSlot (S i).ρ o.dst v) (hv : VR M' v x) (hH : HR M' (S p).H w') (hf : Fr M (S p).H w M' (S p).H w') :
    Inv M₀ w₀ ops S p (listed.setIfInBounds i true) M' (a.put o.dst x) w' := by
  obtain ⟨hlt, hnd, o', ho', hedge⟩ := ready_spec h.size hi
  have hls : i < listed.size := by rw [h.size]; exact hlt
  have hdone : ∀ (k : Nat) (ok : Oper), ops[k]? = some ok → heavy ok = true → (Done (listed.setIfInBounds i true) k ↔ Done listed k) := by
    intro k ok hko hhk
    rw [done_set hls]
    constructor
    · rintro (rfl | h')
      · rw [hio] at hko; cases hko; rw [hh] at hhk; cases hhk
      · exact h'
    · exact .inr
  refine ⟨by simp [h.size], closed_set h.size h.closed hi, h.hp, ?_, ?_, hH, ?_, ?_, h.env_step hr ho hi hio hf.le hρ hv, by rw [put_size]; exact h.asize, by rw [put_defers]; exact h.defs.mono hf.le, h.base.step hf (hr.Hlen hlen h.hp (Nat.le_refl _))⟩
  · intro k ok hk hko hhk; exact (hdone k ok hko hhk).2 (h.below k ok hk hko hhk)
  · intro hp
    obtain ⟨op, h1, h2, h3⟩ := h.atp hp
    exact ⟨op, h1, h2, fun hd => h3 ((hdone p op h1 h2).1 hd)⟩
  · intro k ok hk hko hhk hd
    have hkn := (Array.getElem?_eq_some_iff.1 hko).1
    exact (h.extra k ok hk hko hhk ((hdone k ok hko hhk).1 hd)).keep h.heap hf (hr.Hlen hlen (by omega) (by omega))
  · intro id u h1 h2 h3
    rw [hf.beyond id h1]
    exact h.free id u h1 h2 (fun k ok hk hko hhk hd => h3 k ok hk hko hhk ((hdone k ok hko hhk).2 hd))

/-- Behind the heavy operation whose turn it is. -/
theorem Inv.heavy (h : Inv M₀ w₀ ops S p listed M a w) (hr : Run C call ops S) (hlen : CallLen call) (ho : Ordered ops) {o : Oper} (hi : p ∈ Region.ready .any ops listed) (hio : ops[p]? = some o)
    {v : AV} {x : Value} (hρ : (S (p + 1)).ρ = putSlot (S p).ρ o.dst v) (hv : VR M' v x) (hH : HR M' (S (p + 1)).H w') (hf : Fr M (S p).H w M' (S (p + 1)).H w') :
    ∃ q, Inv M₀ w₀ ops S q (listed.setIfInBounds p true) M' (a.put o.dst x) w' := by
  obtain ⟨hlt, hnd, o', ho', hedge⟩ := ready_spec h.size hi
  have hls : p < listed.size := by rw [h.size]; exact hlt
  obtain ⟨q, hq1, hq2, hq3, hq4⟩ := next_heavy ops (listed.setIfInBounds p true) (ops.size - (p + 1)) (p + 1) (by omega)
  have hextra : ∀ (k : Nat) (ok : Oper), p < k → ops[k]? = some ok → Va.heavy ok = true → Done (listed.setIfInBounds p true) k → Extra M' (S k).H (S (k + 1)).H w' := by
    intro k ok hk hko hhk hd
    rw [done_set hls] at hd
    have hkn := (Array.getElem?_eq_some_iff.1 hko).1
    rcases hd with rfl | hd
    · omega
    · exact (h.extra k ok hk hko hhk hd).keep h.heap hf (hr.Hlen hlen (by omega) (by omega))
  refine ⟨q, by simp [h.size], closed_set h.size h.closed hi, hq2, ?_, hq4, ?_, ?_, ?_, h.env_step hr ho hi hio hf.le hρ hv, by rw [put_size]; exact h.asize, by rw [put_defers]; exact h.defs.mono hf.le, h.base.step hf (hr.Hlen hlen (by omega) (Nat.le_refl _))⟩
  · intro k ok hk hko hhk
    by_cases hkp : k < p
    · exact (done_set hls).2 (.inr (h.below k ok hkp hko hhk))
    · by_cases hkp' : k = p
      · subst hkp'; exact (done_set hls).2 (.inl rfl)
      · exact hq3 k ok (by omega) hk hko hhk
  · exact absorb_all hr (q - (p + 1)) (p + 1) (by omega) hq2 hH (fun k ok h1 h2 hko hhk => hextra k ok (by omega) hko hhk (hq3 k ok h1 h2 hko hhk))
  · intro k ok hk hko hhk hd
    exact hextra k ok (by omega) hko hhk hd
  · intro id u h1 h2 h3
    have hl1 := hr.Hlen hlen hq1 hq2
    rw [hf.beyond id (by omega)]
    refine h.free id u (by have := hf.len; omega) h2 ?_
    intro k ok hk hko hhk hd heq
    have hkn := (Array.getElem?_eq_some_iff.1 hko).1
    by_cases hkq : q < k
    · exact h3 k ok hkq hko hhk ((done_set hls).2 (.inr hd)) heq
    · -- an operation that stands ahead of q: its variable is among q's objects
      have hx := hextra k ok hk hko hhk ((done_set hls).2 (.inr hd))
      obtain ⟨cs, e, pl, arr, hHk, _⟩ := hx
      have hlk : (S (k + 1)).H.length = (S k).H.length + 1 := by rw [hHk]; simp
      by_cases hkq' : k = q
      · subst hkq'
        obtain ⟨o₂, h5, h6, h7⟩ := hq4 hkn
        exact h7 ((done_set hls).2 (.inr hd))
      · have := hr.Hlen hlen (i := k + 1) (j := q) (by omega) hq2
        omega

end Go.Va
