/- A region whose order is open: the theorem. -/
import Derived.Test.YtkofbgicfmojjaaVaR
set_option linter.unusedSimpArgs false
set_option linter.unusedVariables false
set_option linter.unusedSectionVars false
namespace Go.Va

variable {C : Ctx} {call : CallF} {ops : Array Oper} {S : Nat → St}
variable {M₀ M M' : Plc} {w₀ w w' : World} {p : Nat} {listed : Array Bool} {a : Act}

theorem HR.aside {H : Heap} (h : HR M H w) {id v : Nat} (hid : H.length ≤ id) (hn : ∀ u, M id u = none) (pl : Pl) (hb : pl.blk = w.heap.size) (hro : pl.ro = false) (o : Obj) : HR (upd M id v pl) H (w.alloc o) := by
  have hnone : H[id]? = none := List.getElem?_eq_none hid
  refine h.turn id (fun _ _ => rfl) (fun i u hi => upd_other (.inl hi)) (Le.upd (hn v)) (fun i u q _ hq => heap_push w _ _ (h.inb i u q hq)) (by rw [size_push]; omega) ?_ ?_ ?_
  · intro c e born ro hi; rw [hnone] at hi; cases hi
  · intro es hi; rw [hnone] at hi; cases hi
  · intro u q hq
    by_cases hu : u = v
    · subst hu
      rw [upd_same] at hq; cases hq
      exact ⟨hro, by rw [size_push]; omega, fun i v' q' _ hq' => by have := h.inb i v' q' hq'; omega⟩
    · rw [upd_other (.inr hu), hn] at hq; cases hq

/-- Behind a new variable that is made ahead of its turn. -/
theorem Inv.float (h : Inv M₀ w₀ ops S p listed M a w) (hr : Run C call ops S) (hlen : CallLen call) (ho : Ordered ops) {i : Nat} {o : Oper} (hi : i ∈ Region.ready .any ops listed) (hio : ops[i]? = some o) (hhv : Va.heavy o = true) (hip : p < i)
    {t : TypeId} {z : AV} {zx : Value} (hzo : z = ofV zx) (hzd : z.isDead = false) (hρ : (S (i + 1)).ρ = putSlot (S i).ρ o.dst (.ptr (S i).H.length 0 z.cells.length)) (hS : (S (i + 1)).H = (S i).H ++ [.cells z.cells t 0 false]) :
    ∃ M', Inv M₀ w₀ ops S p (listed.setIfInBounds i true) M' (a.put o.dst (.pointer (some ⟨w.heap.size, 0, none⟩))) (w.alloc (.cells zx.cells t)) := by
  obtain ⟨hlt, hnd, o', ho', hedge⟩ := ready_spec h.size hi
  have hls : i < listed.size := by rw [h.size]; exact hlt
  have hX : (S (i + 1)).H.length = (S i).H.length + 1 := by rw [hS]; simp
  have hle1 := hr.Hlen hlen (i := p) (j := i) (by omega) (by omega)
  have hle2 := hr.Hlen hlen (i := i + 1) (j := ops.size) (by omega) (Nat.le_refl _)
  -- the other new variables stand elsewhere
  have hother : ∀ (k : Nat) (ok : Oper), p < k → ops[k]? = some ok → Va.heavy ok = true → Done listed k → (S k).H.length ≠ (S i).H.length := by
    intro k ok hk hko hhk hd heq
    have hkn := (Array.getElem?_eq_some_iff.1 hko).1
    obtain ⟨cs, e, pl, arr, hHk, _⟩ := h.extra k ok hk hko hhk hd
    have hlk : (S (k + 1)).H.length = (S k).H.length + 1 := by rw [hHk]; simp
    have hne : k ≠ i := by rintro rfl; exact hnd hd
    by_cases hki : k < i
    · have := hr.Hlen hlen (i := k + 1) (j := i) (by omega) (by omega); omega
    · have := hr.Hlen hlen (i := i + 1) (j := k) (by omega) (by omega); omega
  have hn : ∀ u, M (S i).H.length u = none := fun u => h.free _ u hle1 (by omega) (fun k ok hk hko hhk hd heq => hother k ok hk hko hhk hd heq.symm)
  have hzc := zero_cells (M := M) hzo hzd
  have hsz := hzc.1
  have hle : Le M (upd M (S i).H.length z.cells.length ⟨w.heap.size, 0, 1, zx.cells.size, false⟩) := Le.upd (hn _)
  refine ⟨upd M (S i).H.length z.cells.length ⟨w.heap.size, 0, 1, zx.cells.size, false⟩, by simp [h.size], closed_set h.size h.closed hi, h.hp, ?_, ?_, h.heap.aside hle1 hn _ rfl rfl _, ?_, ?_, ?_, by rw [put_size]; exact h.asize,
    by rw [put_defers]; exact h.defs.mono hle, ?_⟩
  · intro k ok hk hko hhk; exact (done_set hls).2 (.inr (h.below k ok hk hko hhk))
  · intro hp
    obtain ⟨op, h1, h2, h3⟩ := h.atp hp
    refine ⟨op, h1, h2, fun hd => ?_⟩
    rcases (done_set hls).1 hd with rfl | hd
    · omega
    · exact h3 hd
  · intro k ok hk hko hhk hd
    rcases (done_set hls).1 hd with rfl | hd
    · refine ⟨z.cells, t, ⟨w.heap.size, 0, 1, zx.cells.size, false⟩, zx.cells, hS, upd_same _ _ _ _, ?_, rfl, rfl, heap_top w _, vrs_cells (hzc.mono hle), by omega, by simp⟩
      intro v q hq
      by_cases hv : v = z.cells.length
      · exact hv
      · rw [upd_other (.inr hv), hn] at hq; cases hq
    · obtain ⟨cs, e, pl, arr, hHk, hp1, hp2, hp3, hp4, hp5, hp6, hp7⟩ := h.extra k ok hk hko hhk hd
      have hne := hother k ok hk hko hhk hd
      refine ⟨cs, e, pl, arr, hHk, by rw [upd_other (.inl hne)]; exact hp1, ?_, hp3, hp4, by rw [heap_push w _ _ (h.heap.inb _ _ _ hp1)]; exact hp5, ?_, hp7⟩
      · intro v q hq; rw [upd_other (.inl hne)] at hq; exact hp2 v q hq
      · intro k' x hk' hx
        obtain ⟨y, hy, hv⟩ := hp6 k' x hk' hx
        exact ⟨y, hy, hv.mono hle⟩
  · intro id u h1 h2 h3
    have hne : id ≠ (S i).H.length := h3 i o hip hio hhv ((done_set hls).2 (.inl rfl))
    rw [upd_other (.inl hne)]
    exact h.free id u h1 h2 (fun k ok hk hko hhk hd => h3 k ok hk hko hhk ((done_set hls).2 (.inr hd)))
  · exact h.env_step hr ho hi hio hle hρ (.ptr _ 0 _ ⟨w.heap.size, 0, 1, zx.cells.size, false⟩ upd_ver)
  · have hb := h.base
    refine ⟨hb.le.trans hle, ?_, hb.os, hb.output, hb.tape, by rw [size_push]; exact Nat.le_trans hb.size (Nat.le_succ _), ?_, ?_⟩
    · intro id hid
      rw [← hb.beyond id hid]
      funext u
      exact upd_other (.inl (by omega))
    · intro b hb1 hb2
      rw [heap_push w _ b (by have := hb.size; omega)]
      exact hb.block b hb1 hb2
    · intro id u q hid hq hr' hlt'
      by_cases hu : id = (S i).H.length ∧ u = z.cells.length
      · obtain ⟨rfl, rfl⟩ := hu
        rw [upd_same] at hq; cases hq
        have := hb.size
        simp only at hlt'
        omega
      · have hq' : M id u = some q := by
          by_cases h1 : id = (S i).H.length
          · subst h1; rw [upd_other (.inr (by simpa using hu))] at hq; exact hq
          · rw [upd_other (.inl h1)] at hq; exact hq
        exact hb.new id u q hid hq' hr' hlt'

theorem mem_loose {i k : Nat} {x y : Oper} (hi : ops[i]? = some x) (hk : ops[k]? = some y) (hr : reads x = true) (hh : heavy y = true) (h1 : ahead ops i k = false) (h2 : ahead ops k i = false) : (i, k) ∈ loose ops := by
  unfold loose
  refine List.mem_flatMap.2 ⟨i, by simp [(Array.getElem?_eq_some_iff.1 hi).1], List.mem_filterMap.2 ⟨k, by simp [(Array.getElem?_eq_some_iff.1 hk).1], ?_⟩⟩
  simp [hi, hk, hr, hh, h1, h2]

theorem heavy_or (i p : Nat) (ops : Array Oper) (hp : p ≤ ops.size) : (∀ (k : Nat) (o : Oper), i ≤ k → k < p → ops[k]? = some o → heavy o = false) ∨
    ∃ (k : Nat) (o : Oper), i ≤ k ∧ k < p ∧ ops[k]? = some o ∧ heavy o = true ∧ ∀ (j : Nat) (o' : Oper), k + 1 ≤ j → j < p → ops[j]? = some o' → heavy o' = false := by
  induction p with
  | zero => exact .inl fun k o h1 h2 => by omega
  | succ p ih =>
    have hpo : ops[p]? = some ops[p] := Array.getElem?_eq_getElem (by omega)
    by_cases hip : i ≤ p
    · cases hh : heavy ops[p] with
      | true => exact .inr ⟨p, _, hip, by omega, hpo, hh, fun j o' h1 h2 => by omega⟩
      | false =>
        rcases ih (by omega) with h | ⟨k, o, h1, h2, h3, h4, h5⟩
        · refine .inl fun k o h1 h2 h3 => ?_
          by_cases hkp : k = p
          · subst hkp; rw [hpo] at h3; cases h3; exact hh
          · exact h k o h1 (by omega) h3
        · refine .inr ⟨k, o, h1, by omega, h3, h4, fun j o' h6 h7 h8 => ?_⟩
          by_cases hjp : j = p
          · subst hjp; rw [hpo] at h8; cases h8; exact hh
          · exact h5 j o' h6 (by omega) h8
    · exact .inl fun k o h1 h2 => by omega

/-- What a light operation finds, where the heap stands. -/
theorem Inv.finds (h : Inv M₀ w₀ ops S p listed M a w) (hr : Run C call ops S) (ho : Ordered ops)
    (hloose : ∀ (i k : Nat) (o : Oper) (v : AV) (H' : Heap), (i, k) ∈ loose ops → ops[i]? = some o → wantedA ops o (S i).ρ = some true → opA C call o (S i).ρ (S i).H = some (v, H') →
      ∃ H'', opA C call o (S i).ρ (S (if k < i then k else k + 1)).H = some (v, H''))
    {i : Nat} {o : Oper} (hi : i ∈ Region.ready .any ops listed) (hio : ops[i]? = some o) (hh : Va.heavy o = false) {v : AV} {H' : Heap} (hw : wantedA ops o (S i).ρ = some true) (hop : opA C call o (S i).ρ (S i).H = some (v, H')) :
    opA C call o (S i).ρ (S p).H = some (v, (S p).H) := by
  obtain ⟨hlt, hnd, o', ho', hedge⟩ := ready_spec h.size hi
  cases hrd : reads o with
  | false => exact light_any hh hrd hop _
  | true =>
    have fin : ∀ {H₂ H'' : Heap}, opA C call o (S i).ρ H₂ = some (v, H'') → (S p).H = H₂ → opA C call o (S i).ρ (S p).H = some (v, (S p).H) := by
      intro H₂ H'' h1 h2
      have := light_heap hh h1
      rw [h2, h1, this]
    by_cases hip : i < p
    · rcases heavy_or i p ops h.hp with hn | ⟨k, ok, h1, h2, h3, h4, h5⟩
      · exact fin hop (hr.Hsame (by omega) h.hp hn)
      · have hki : i < k := by
          rcases Nat.lt_or_ge i k with h' | h'
          · exact h'
          · obtain rfl : k = i := by omega
            rw [hio] at h3; cases h3; rw [hh] at h4; cases h4
        have hdk := h.below k ok h2 h3 h4
        have na : ahead ops i k = false := by
          cases hah : ahead ops i k with
          | false => rfl
          | true => exact absurd (h.closed.ahead ho k i hdk hah) hnd
        have nb : ahead ops k i = false := by
          cases hah : ahead ops k i with
          | false => rfl
          | true => have := ahead_lt ho i k hah; omega
        obtain ⟨H'', hfd⟩ := hloose i k o v H' (mem_loose hio h3 hrd h4 na nb) hio hw hop
        rw [if_neg (by omega)] at hfd
        exact fin hfd (hr.Hsame (i := k + 1) (by omega) h.hp h5)
    · have hip' : p < i ∨ p = i := by omega
      rcases hip' with hip' | rfl
      · obtain ⟨op, h1, h2, h3⟩ := h.atp (by omega)
        have na : ahead ops i p = false := by
          cases hah : ahead ops i p with
          | false => rfl
          | true => have := ahead_lt ho p i hah; omega
        have nb : ahead ops p i = false := by
          cases hah : ahead ops p i with
          | false => rfl
          | true => exact absurd (ready_ahead h.size h.closed ho hi hah) h3
        obtain ⟨H'', hfd⟩ := hloose i p o v H' (mem_loose hio h1 hrd h2 na nb) hio hw hop
        rw [if_pos hip'] at hfd
        exact fin hfd rfl
      · obtain ⟨op, h1, h2, _⟩ := h.atp hlt
        rw [hio] at h1; cases h1; rw [hh] at h2; cases h2

/-- Whatever is chosen, the end is the same. -/
theorem any_sound (hC : C.ok) (hcall : CallOk C call) (hlen : CallLen call) (hr : Run C call ops S) (ho : Ordered ops)
    (hloose : ∀ (i k : Nat) (o : Oper) (v : AV) (H' : Heap), (i, k) ∈ loose ops → ops[i]? = some o → wantedA ops o (S i).ρ = some true → opA C call o (S i).ρ (S i).H = some (v, H') →
      ∃ H'', opA C call o (S i).ρ (S (if k < i then k else k + 1)).H = some (v, H''))
    {Q : Exit → Act → World → Prop} (hq : ∀ M a w, HR M (S ops.size).H w → (∀ t, VR M ((S ops.size).ρ.getD t .dead) (a.tmps.getD t undef)) → a.tmps.size = (S 0).ρ.length → DsR M (S 0).D a.defers → BF M₀ (S 0).H w₀ M (S ops.size).H w → Q .normal a w) :
    ∀ (fuel : Nat) (T : List Nat) (listed : Array Bool) (p : Nat) (M : Plc) (a : Act) (w : World), T.Nodup → (∀ i, i ∈ T ↔ i < ops.size ∧ ¬ Done listed i) → T.length = fuel → Inv M₀ w₀ ops S p listed M a w →
      wpAny C.P .any ops Q fuel listed a w := by
  intro fuel
  induction fuel with
  | zero =>
    intro T listed p M a w hnd hT hl hI
    have hTn : T = [] := List.eq_nil_of_length_eq_zero hl
    have hall : ∀ i, i < ops.size → Done listed i := fun i hi => Classical.byContradiction fun hd => by
      have := (hT i).2 ⟨hi, hd⟩
      rw [hTn] at this; cases this
    have hpn : p = ops.size := by
      by_cases hp : p < ops.size
      · obtain ⟨o, _, _, hd⟩ := hI.atp hp
        exact absurd (hall p hp) hd
      · have := hI.hp; omega
    subst hpn
    refine ⟨?_, hq M a w hI.heap ?_ hI.asize hI.defs hI.base⟩
    · apply Classical.byContradiction
      intro hne
      obtain ⟨i, hi⟩ := List.exists_mem_of_ne_nil _ hne
      obtain ⟨h1, h2, _⟩ := ready_spec hI.size hi
      exact h2 (hall i h1)
    · intro t
      exact hI.env t ops.size (Nat.le_refl _) (fun j o hj _ => ⟨fun _ => (Array.getElem?_eq_some_iff.1 hj).1, fun hj' => hall j hj'⟩)
  | succ fuel ih =>
    intro T listed p M a w hnd hT hl hI
    have hTne : T ≠ [] := by intro h; rw [h] at hl; simp at hl
    obtain ⟨i₀, hi₀⟩ := List.exists_mem_of_ne_nil _ hTne
    refine ⟨fun hnil => absurd hnil (ready_ne ho hI.size ⟨i₀, (hT i₀).1 hi₀⟩), ?_⟩
    intro i hi
    obtain ⟨hlt, hndi, o, hio, hedge⟩ := ready_spec hI.size hi
    have hls : i < listed.size := by rw [hI.size]; exact hlt
    -- what is left
    have hT' : ∀ j, j ∈ T.erase i ↔ j < ops.size ∧ ¬ Done (listed.setIfInBounds i true) j := by
      intro j
      rw [hnd.mem_erase_iff, hT j, done_set hls]
      constructor
      · rintro ⟨h1, h2, h3⟩; exact ⟨h2, fun h => by rcases h with h | h; exact h1 h; exact h3 h⟩
      · rintro ⟨h1, h2⟩; exact ⟨fun h => h2 (.inl h), h1, fun h => h2 (.inr h)⟩
    have hl' : (T.erase i).length = fuel := by
      rw [List.length_erase_of_mem ((hT i).2 ⟨hlt, hndi⟩), hl]; rfl
    have next : ∀ {p' : Nat} {M' : Plc} {a' : Act} {w' : World}, Inv M₀ w₀ ops S p' (listed.setIfInBounds i true) M' a' w' → wpAny C.P .any ops Q fuel (listed.setIfInBounds i true) a' w' :=
      fun hI' => ih (T.erase i) _ _ _ _ _ (hnd.erase i) hT' hl' hI'
    have hneeds := hI.needs ho hi hio
    unfold wpOp
    simp only [hio]
    have hle1 := hr.Hlen hlen (i := p) (j := ops.size) hI.hp (Nat.le_refl _)
    rcases step_cases (hr.nodef i o hio) (hr.step i o hio) with ⟨hw, e⟩ | ⟨hw, v, H', hop, e⟩
    · rw [wanted_sound hw hneeds.2]
      simp only [Bool.false_eq_true, if_false]
      have hρ : (S (i + 1)).ρ = putSlot (S i).ρ o.dst (.tup []) := by rw [e]
      have hHe : (S (i + 1)).H = (S i).H := by rw [e]
      cases hh : heavy o with
      | false => exact next (hI.light hr hlen ho hi hio hh hρ .undef hI.heap (.refl M _ w))
      | true =>
        by_cases hip : i = p
        · subst hip
          obtain ⟨q, hI'⟩ := hI.heavy hr hlen ho hi hio hρ .undef (by rw [hHe]; exact hI.heap) (by rw [hHe]; exact .refl M _ w)
          exact next hI'
        · exfalso
          have hip' : p < i := by
            rcases Nat.lt_or_ge i p with h' | h'
            · exact absurd (hI.below i o h' hio hh) hndi
            · omega
          have hfl := hI.later ho hip' hio hh (.inr hi)
          have hg : o.guard = none := by
            unfold floats at hfl
            split at hfl
            · simpa using hfl
            · cases hfl
          simp [wantedA, hg] at hw
    · rw [wanted_sound hw hneeds.2]
      simp only [if_true]
      left
      have hρ : (S (i + 1)).ρ = putSlot (S i).ρ o.dst v := by rw [e]
      have hHe : (S (i + 1)).H = H' := by rw [e]
      cases hh : heavy o with
      | false =>
        have hfd := hI.finds hr ho hloose hi hio hh hw hop
        obtain ⟨_, hdo⟩ := op_sound hC hcall hfd hI.heap (fun id u h1 h2 => by omega) hneeds.1
        refine hdo.wp ?_
        rintro x w' ⟨M', h1, h2, h3⟩
        exact next (hI.light hr hlen ho hi hio hh hρ h1 h2 h3)
      | true =>
        by_cases hip : i = p
        · subst hip
          have hX := hr.Hlen hlen (i := i + 1) (j := ops.size) (by omega) (Nat.le_refl _)
          obtain ⟨_, hdo⟩ := op_sound hC hcall hop hI.heap (fun id u h1 h2 => hI.free id u h1 (by rw [hHe] at hX; omega) (fun k ok hk hko hhk hd heq => by
            have hkn := (Array.getElem?_eq_some_iff.1 hko).1
            have := hr.Hlen hlen (i := i + 1) (j := k) (by omega) (by omega)
            rw [hHe] at this
            omega)) hneeds.1
          refine hdo.wp ?_
          rintro x w' ⟨M', h1, h2, h3⟩
          obtain ⟨q, hI'⟩ := hI.heavy hr hlen ho hi hio hρ h1 (by rw [hHe]; exact h2) (by rw [hHe]; exact h3)
          exact next hI'
        · have hip' : p < i := by
            rcases Nat.lt_or_ge i p with h' | h'
            · exact absurd (hI.below i o h' hio hh) hndi
            · omega
          have hfl := hI.later ho hip' hio hh (.inr hi)
          have hal : ∃ t, o.op = .alloc t := by
            unfold floats at hfl
            split at hfl
            · exact ⟨_, ‹_›⟩
            · cases hfl
          obtain ⟨t, hal⟩ := hal
          have hop' := hop
          simp only [opA, hal, Option.map_eq_some_iff] at hop'
          obtain ⟨z, hz, hop'⟩ := hop'
          cases hop'
          obtain ⟨zx, j, hj, hzj, hzo, hzd, hzb⟩ := zeroA_inv hz
          obtain ⟨M', hI'⟩ := hI.float hr hlen ho hi hio hh hip' hzo hzd hρ hHe
          have hrun : (execOp a.eval o).run C.P w = .ok (.value (.pointer (some ⟨w.heap.size, 0, none⟩))) (w.alloc (.cells zx.cells t)) := by
            simp only [execOp, hal, Instr.alloc, Sem.run_bind, run_zero hzb, Result.andThen_ok, newVar, newRow, run_newObj, Sem.run_pure]
            rfl
          unfold Oper.wp
          rw [hrun]
          exact next hI'

theorem replicate_done (n i : Nat) : ¬ Done (Array.replicate n false) i := by
  unfold Done
  simp only [Array.getD_eq_getD_getElem?, Array.getElem?_replicate]
  split <;> simp

/-- A region whose order is open. -/
theorem draw_sound (hC : C.ok) (hcall : CallOk C call) (hlen : CallLen call) {ops : Array Oper} {s s' : St} (h : drawA C call ops s = some s') {M : Plc} {a : Act} {w : World} (hs : SR M s a w) (hf : Free M s.H.length s'.H.length)
    {Q : Exit → Act → World → Prop} (hq : ∀ M' a' w', SR M' s' a' w' → Fr M s.H w M' s'.H w' → Q .normal a' w') (id : Nat) : (Code.region id ops true).wp C.P Q a w := by
  unfold drawA at h
  split at h
  · rename_i hok
    simp only [Bool.and_eq_true, Bool.not_eq_true'] at hok
    obtain ⟨⟨hok, hnd⟩, hns⟩ := hok
    split at h
    · rename_i L hL
      split at h
      · rename_i hall
        obtain ⟨hl1, hl2, hl3⟩ := runStates_spec hL
        have hlen' : L.length = ops.size + 1 := by simpa using hl1
        let S : Nat → St := fun i => (L[i]?).getD s
        have hSi : ∀ i, i ≤ ops.size → L[i]? = some (S i) := by
          intro i hi
          show L[i]? = some ((L[i]?).getD s)
          rw [List.getElem?_eq_getElem (by omega)]
          rfl
        have hS0 : S 0 = s := by have := hSi 0 (by omega); rw [hl2] at this; exact (Option.some.inj this).symm
        have hSn : S ops.size = s' := by have := hSi ops.size (Nat.le_refl _); rw [h] at this; exact (Option.some.inj this).symm
        have hrun : Run C call ops S := by
          refine ⟨?_, ?_⟩
          · intro i o hio
            have hi := (Array.getElem?_eq_some_iff.1 hio).1
            obtain ⟨b, c, hb, hc, hst⟩ := hl3 i o (by simpa using hio)
            rw [hSi i (by omega)] at hb
            rw [hSi (i + 1) (by omega)] at hc
            rw [Option.some.inj hb, Option.some.inj hc]
            exact hst
          · intro i o hio
            have hi := (Array.getElem?_eq_some_iff.1 hio)
            rw [Array.any_eq_false] at hnd
            have := hnd i hi.1
            rw [hi.2] at this
            simpa using this
        have ho := ordered_of hok
        have hloose : ∀ (i k : Nat) (o : Oper) (v : AV) (H' : Heap), (i, k) ∈ loose ops → ops[i]? = some o → wantedA ops o (S i).ρ = some true → opA C call o (S i).ρ (S i).H = some (v, H') →
            ∃ H'', opA C call o (S i).ρ (S (if k < i then k else k + 1)).H = some (v, H'') := by
          intro i k o v H' hm hio hw hop
          have hi := (Array.getElem?_eq_some_iff.1 hio).1
          have hk : k < ops.size := by
            unfold loose at hm
            obtain ⟨i', hi', hm⟩ := List.mem_flatMap.1 hm
            obtain ⟨k', hk', hm⟩ := List.mem_filterMap.1 hm
            split at hm
            · split at hm
              · cases hm; simpa using hk'
              · cases hm
            · cases hm
          have := (List.all_eq_true.1 hall) (i, k) hm
          unfold looseOk at this
          simp only [hio, hSi i (by omega)] at this
          have hidx : (if k < i then k else k + 1) ≤ ops.size := by split <;> omega
          rw [hSi _ hidx] at this
          simp only [hw, hop, Option.any_some, Option.any_eq_true] at this
          obtain ⟨b, hb, hsm⟩ := this
          have := same_eq hsm
          exact ⟨b.2, by rw [hb, this]⟩
        obtain ⟨q, _, hq2, hq3, hq4⟩ := next_heavy ops (Array.replicate ops.size false) ops.size 0 (by omega)
        have hnh : ∀ (k : Nat) (o : Oper), 0 ≤ k → k < q → ops[k]? = some o → heavy o = false := by
          intro k o h1 h2 h3
          cases hh : heavy o with
          | false => rfl
          | true => exact absurd (hq3 k o h1 h2 h3 hh) (replicate_done _ _)
        have hHq : (S q).H = s.H := by rw [hrun.Hsame (Nat.zero_le q) hq2 hnh, hS0]
        have hinit : Inv M w ops S q (Array.replicate ops.size false) M a { w with drawn := w.drawn + 1 } := by
          refine ⟨by simp, fun j o e hj => absurd hj (replicate_done _ _), hq2, fun k o hk hko hh => hq3 k o (Nat.zero_le _) hk hko hh, hq4, ?_, fun k o _ _ _ hd => absurd hd (replicate_done _ _), ?_, ?_, by rw [hS0]; exact hs.size, by rw [hS0]; exact hs.defs, ?_⟩
          · rw [hHq]; exact hs.heap.drew rfl
          · intro id v h1 h2 _
            rw [hHq] at h1
            rw [hSn] at h2
            exact hf id v h1 h2
          · intro t q' hq' hw
            have hsame : (S q').ρ.getD t .dead = (S 0).ρ.getD t .dead := hrun.ρsame (Nat.zero_le _) hq' (fun k o _ hk hko hd => replicate_done _ _ ((hw k o hko hd).2 hk))
            rw [hsame, hS0]
            exact hs.env t
          · rw [hS0, hSn]
            refine ⟨.refl M, fun _ _ => rfl, rfl, rfl, rfl, Nat.le_refl _, fun _ _ _ => rfl, fun id v pl hid hM hr hb => ⟨v, pl, ?_, hM, hr, rfl⟩⟩
            apply Classical.byContradiction
            intro hn
            rw [hf id v (by omega) hid] at hM
            cases hM
        refine wp_region_any hC.mixed (any_sound (M₀ := M) (w₀ := w) (S := S) hC hcall hlen hrun ho hloose ?_ ops.size (List.range ops.size) _ q M a _ List.nodup_range
          (fun i => by simp [replicate_done]) (by simp) ?_)
        · intro M' a' w' h1 h2 h3 h4 h5
          rw [hS0] at h3 h4 h5
          rw [hSn] at h1 h2 h5
          have hρl := hrun.ρlen ops.size (Nat.le_refl _)
          rw [hS0, hSn] at hρl
          have hD := hrun.D ops.size (Nat.le_refl _)
          rw [hS0, hSn] at hD
          exact hq M' a' w' ⟨by rw [hρl]; exact h3, h2, h1, by rw [hD]; exact h4⟩
            ⟨h5.le, h5.beyond, runStates_len hlen hL 0 ops.size s s' (Nat.zero_le _) hl2 h, h5.os, h5.output, h5.tape, h5.size, h5.block, h5.new⟩
        · exact hinit
      · cases h
    · cases h
  · cases h

end Go.Va
