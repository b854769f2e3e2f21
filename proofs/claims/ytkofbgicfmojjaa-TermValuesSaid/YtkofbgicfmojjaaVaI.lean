/- Maps; composite values; new rows; clearing. -/
import Derived.Test.YtkofbgicfmojjaaVaG
set_option linter.unusedSimpArgs false
set_option linter.unusedVariables false
set_option linter.unusedSectionVars false
namespace Go.Va

variable {P : Program} {M : Plc} {H : Heap} {w : World}

/-- Entries, one by one. -/
def EntR (M : Plc) (es : List (AV × AV)) (xs : List MapEntry) : Prop := es.length = xs.length ∧ ∀ (i : Nat) (k x : AV), es[i]? = some (k, x) → ∃ m : MapEntry, xs[i]? = some m ∧ VR M k m.key ∧ VR M x m.val

theorem EntR.tail {e : AV × AV} {es : List (AV × AV)} {x : MapEntry} {xs : List MapEntry} (h : EntR M (e :: es) (x :: xs)) : (VR M e.1 x.key ∧ VR M e.2 x.val) ∧ EntR M es xs := by
  refine ⟨?_, by simpa using h.1, fun i k y hi => by have := h.2 (i + 1) k y (by simpa using hi); simpa using this⟩
  obtain ⟨m, hm, h1, h2⟩ := h.2 0 e.1 e.2 rfl
  simp only [List.getElem?_cons_zero, Option.some.injEq] at hm
  subst hm
  exact ⟨h1, h2⟩

theorem EntR.nil {xs : List MapEntry} (h : EntR M [] xs) : xs = [] := List.eq_nil_of_length_eq_zero (by simpa using h.1.symm)

/-- Two keys are held against each other. -/
theorem keyEq_sound {C : Ctx} (hC : C.ok) {t : TypeId} {a b : AV} {r : Bool} (h : keyEqA C t a b = some r) {x y : Value} (hx : VR M a x) (hy : VR M b y) :
    (∃ kd, C.P.underlying t = some (.int kd) ∧ Instr.sameNow (.int kd) x y = some r) ∨
    (∃ fs, C.P.underlying t = some (.struct fs) ∧ Instr.sameNow (.struct fs) x y = none ∧ (Op.equal t x y).run C.P w = .ok r w) := by
  unfold keyEqA at h
  split at h
  · rename_i kd j p k q ht
    split at h
    · rename_i hjk
      subst hjk
      cases h; cases hx; cases hy
      exact .inl ⟨kd, ht, by simp [Instr.sameNow]⟩
    · cases h
  · rename_i fs xs ys ht
    simp only [Option.bind_eq_some_iff] at h
    obtain ⟨ks, hk, he⟩ := h
    obtain ⟨xs', rfl, hxs⟩ := hx.agg_inv
    obtain ⟨ys', rfl, hys⟩ := hy.agg_inv
    exact .inr ⟨fs, ht, rfl, eqAgg_sound (hC.eq t ks hk) he hxs hys 9998⟩
  · cases h

/-- What was found, on both sides. -/
def FindR (M : Plc) (r : Option (Nat × AV)) (r' : Option (Nat × Value)) : Prop :=
  (r = none ∧ r' = none) ∨ ∃ j v y, r = some (j, v) ∧ r' = some (j, y) ∧ VR M v y

theorem find_sound {C : Ctx} (hC : C.ok) {t : TypeId} {k : AV} {x : Value} (hk : VR M k x) : ∀ (es : List (AV × AV)) (xs : List MapEntry) (i : Nat) (r : Option (Nat × AV)), EntR M es xs → findA C t k es i = some r →
    (∃ kd, C.P.underlying t = some (.int kd) ∧ ∃ r', Instr.findNow (.int kd) x xs i = some r' ∧ FindR M r r') ∨
    (es = [] ∧ xs = [] ∧ r = none) ∨
    (∃ fs, C.P.underlying t = some (.struct fs) ∧ (es ≠ [] → Instr.findNow (.struct fs) x xs i = none) ∧ ∃ r', (Instr.findAsking t x xs i).run C.P w = .ok r' w ∧ FindR M r r')
  | [], xs, i, r, he, h => by
    have := he.nil
    subst this
    simp only [findA, Option.some.injEq] at h
    subst h
    exact .inr (.inl ⟨rfl, rfl, rfl⟩)
  | e :: es, [], i, r, he, h => by have := he.1; simp at this
  | e :: es, m :: xs, i, r, he, h => by
    obtain ⟨⟨hke, hve⟩, ht⟩ := he.tail
    simp only [findA] at h
    split at h
    · rename_i hq
      cases h
      rcases keyEq_sound (w := w) hC hq hk hke with ⟨kd, hu, hs⟩ | ⟨fs, hu, hs, hr⟩
      · exact .inl ⟨kd, hu, some (i, m.val), by simp [Instr.findNow, hs], .inr ⟨_, _, _, rfl, rfl, hve⟩⟩
      · exact .inr (.inr ⟨fs, hu, fun _ => by simp [Instr.findNow, hs], some (i, m.val), by simp [Instr.findAsking, hr], .inr ⟨_, _, _, rfl, rfl, hve⟩⟩)
    · rename_i hq
      have ih := find_sound hC hk es xs (i + 1) r ht h
      rcases keyEq_sound (w := w) hC hq hk hke with ⟨kd, hu, hs⟩ | ⟨fs, hu, hs, hr⟩
      · rcases ih with ⟨kd', hu', r', h1, h2⟩ | ⟨rfl, rfl, rfl⟩ | ⟨fs', hu', _⟩
        · rw [hu] at hu'; cases hu'
          exact .inl ⟨kd, hu, r', by simp [Instr.findNow, hs, h1], h2⟩
        · exact .inl ⟨kd, hu, none, by simp [Instr.findNow, hs], .inl ⟨rfl, rfl⟩⟩
        · rw [hu] at hu'; cases hu'
      · rcases ih with ⟨kd', hu', _⟩ | ⟨rfl, rfl, rfl⟩ | ⟨fs', hu', h0, r', h1, h2⟩
        · rw [hu] at hu'; cases hu'
        · exact .inr (.inr ⟨fs, hu, fun _ => by simp [Instr.findNow, hs], none, by simp [Instr.findAsking, hr], .inl ⟨rfl, rfl⟩⟩)
        · rw [hu] at hu'; cases hu'
          exact .inr (.inr ⟨fs, hu, fun _ => by simp [Instr.findNow, hs], r', by simp [Instr.findAsking, hr, h1], h2⟩)
    · cases h

theorem findKey_sound {C : Ctx} (hC : C.ok) {t : TypeId} {k : AV} {x : Value} (hk : VR M k x) (hok : keyOkA C t k = true) {es : List (AV × AV)} {xs : List MapEntry} {r : Option (Nat × AV)} (he : EntR M es xs) (h : findA C t k es 0 = some r) :
    ∃ r', (Instr.findKey t x xs).run C.P w = .ok r' w ∧ FindR M r r' := by
  rcases find_sound (w := w) hC hk es xs 0 r he h with ⟨kd, hu, r', h1, h2⟩ | ⟨rfl, rfl, rfl⟩ | ⟨fs, hu, h0, r', h1, h2⟩
  · exact ⟨r', by simp [Instr.findKey, run_underlying hu, h1], h2⟩
  · have hu : ∃ d, C.P.underlying t = some d := by
      unfold keyOkA keyEqA at hok
      split at hok
      · exact ⟨_, ‹_›⟩
      · exact ⟨_, ‹_›⟩
      · simp at hok
    obtain ⟨d, hu⟩ := hu
    exact ⟨none, by simp [Instr.findKey, run_underlying hu, Instr.findNow], .inl ⟨rfl, rfl⟩⟩
  · by_cases hn : es = []
    · subst hn
      have := he.nil
      subst this
      simp only [findA, Option.some.injEq] at h
      subst h
      exact ⟨none, by simp [Instr.findKey, run_underlying hu, Instr.findNow], .inl ⟨rfl, rfl⟩⟩
    · exact ⟨r', by simp [Instr.findKey, run_underlying hu, h0 hn, h1], h2⟩

theorem forIn_ok {α : Type} (l : List α) (B : α → PUnit → Sem (ForInStep PUnit)) (h : ∀ f ∈ l, (B f PUnit.unit).run P w = .ok (.yield PUnit.unit) w) : (forIn l PUnit.unit B).run P w = .ok PUnit.unit w := by
  induction l with
  | nil => rfl
  | cons f l ih =>
    simp only [List.forIn_cons, Sem.run_bind, h f (by simp), Result.andThen_ok]
    exact ih (fun f' hf' => h f' (by simp [hf']))

/-- A key of such a kind can be hashed. -/
theorem checkKey_sound {C : Ctx} (hC : C.ok) {t : TypeId} {k : AV} (hok : keyOkA C t k = true) {x : Value} (hk : VR M k x) (empty : Bool) (n : Nat) : (Instr.checkKey empty (n + 2) t x).run C.P w = .ok () w := by
  unfold keyOkA keyEqA at hok
  split at hok
  · rename_i ht _
    cases hk
    simp only [Instr.checkKey, Sem.run_bind, run_underlying ht, Result.andThen_ok]
    rfl
  · rename_i fs xs ys ht h2
    cases h2
    simp only [Option.isSome_bind] at hok
    obtain ⟨xs', rfl, hxs⟩ := hk.agg_inv
    cases hks : C.kinds t with
    | none => simp [hks] at hok
    | some ks =>
      obtain ⟨fs', hfs', hkl, hf⟩ := (hC.eq t ks hks).fields
      rw [ht] at hfs'; cases hfs'
      simp only [hks, Option.any_some] at hok
      obtain ⟨b, hb⟩ := Option.isSome_iff_exists.1 hok
      have hlen := (eqCells_len hb).1
      rw [Instr.checkKey]
      simp only [Sem.run_bind, run_underlying ht, Result.andThen_ok]
      rw [← Array.forIn_toList, forIn_ok (P := C.P) fs.toList _ ?_]
      · rfl
      intro f hfm
      obtain ⟨i, hi, rfl⟩ := List.getElem_of_mem hfm
      simp only [Array.length_toList] at hi
      simp only [Array.getElem_toList]
      obtain ⟨hnm, ho, hty⟩ := hf i fs[i] (Array.getElem?_eq_getElem hi)
      have hix : i < xs'.size := by rw [← hxs.1]; omega
      have : ∃ d, C.P.underlying fs[i].type = some d ∧ (d = .bool ∨ ∃ k, d = .int k) := by
        rcases hty with ⟨_, k, hk⟩ | ⟨_, hk⟩
        · exact ⟨_, hk, .inr ⟨k, rfl⟩⟩
        · exact ⟨_, hk, .inl rfl⟩
      obtain ⟨d, hd, hdk⟩ := this
      have hagg := run_isAgg hd w
      have hfalse : aggD d = false := by rcases hdk with rfl | ⟨k, rfl⟩ <;> rfl
      rw [hfalse] at hagg
      have hp : (part fs[i].type xs' fs[i].offset).run C.P w = .ok xs'[i] w := by simp [part, hagg, ho, hix]
      have hck : (Instr.checkKey empty (n + 1) fs[i].type xs'[i]).run C.P w = .ok () w := by
        simp only [Instr.checkKey, Sem.run_bind, run_underlying hd, Result.andThen_ok]
        rcases hdk with rfl | ⟨k, rfl⟩ <;> rfl
      rw [if_pos hnm]
      simp only [Sem.run_bind, hp, Result.andThen_ok, hck, Sem.run_pure]
  · simp at hok

theorem HR.ent (h : HR M H w) {id : Nat} {es : List (AV × AV)} (hid : H[id]? = some (.map es)) {pl : Pl} (hp : M id 0 = some pl) :
    pl.ro = false ∧ ∃ (es' : Array MapEntry) (clock : Nat), w.heap[pl.blk]? = some (.map es' clock) ∧ EntR M es es'.toList := by
  obtain ⟨h1, es', clock, h2, h3, h4⟩ := h.maps id es hid 0 pl hp
  exact ⟨h1.2, es', clock, h2, by simpa using h3, fun i k x hi => by
    obtain ⟨m, hm, hv⟩ := h4 i k x hi
    exact ⟨m, by simpa using hm, hv⟩⟩

theorem VR.map_inv {id : Nat} {x : Value} (h : VR M (.map id) x) : ∃ pl, M id 0 = some pl ∧ x = .map (some pl.blk) := by
  cases h with | map _ pl h => exact ⟨pl, h, rfl⟩

theorem run_getMap {b : Nat} {es : Array MapEntry} {clock : Nat} (hb : w.heap[b]? = some (.map es clock)) : (getObj b).run P w = .ok (.map es clock) w := by
  simp [getObj, Sem.run, hb]

theorem lookup_sound {C : Ctx} (hC : C.ok) (h : HR M H w) {t : TypeId} {m k r : AV} {ok : Bool} (hl : lookupA C t m k ok H = some r) {x y : Value} (hm : VR M m x) (hk : VR M k y) :
    ∃ z, (Instr.lookup t x y ok).run C.P w = .ok z w ∧ VR M r z := by
  unfold lookupA at hl
  split at hl
  · rename_i kt et ht
    simp only at hl
    split at hl
    · rename_i es z hes hz
      obtain ⟨zx, i, hi, hzi, rfl, hzd, hzb⟩ := zeroA_inv hz
      split at hl
      · rename_i hok
        -- the entries, on both sides
        have hent : ∃ es' : Array MapEntry, ((x = .map none ∧ es' = #[]) ∨ ∃ b clock, x = .map (some b) ∧ w.heap[b]? = some (.map es' clock)) ∧ EntR M es es'.toList := by
          split at hes
          · cases hes; cases hm; exact ⟨#[], .inl ⟨rfl, rfl⟩, rfl, fun i k x hi => by simp at hi⟩
          · rename_i id
            split at hes
            · rename_i es₂ hid
              cases hes
              obtain ⟨pl, hp, rfl⟩ := hm.map_inv
              obtain ⟨_, es', clock, hb, he⟩ := h.ent hid hp
              exact ⟨es', .inr ⟨_, clock, rfl, hb⟩, he⟩
            · cases hes
          · cases hes
        obtain ⟨es', hrun, he⟩ := hent
        have hck := checkKey_sound (w := w) hC hok hk es'.isEmpty 9998
        split at hl
        · rename_i j v hf
          cases hl
          obtain ⟨r', hfk, hr⟩ := findKey_sound (w := w) hC hk hok he hf
          rcases hr with ⟨h0, _⟩ | ⟨j', v', y', h1, rfl, hv⟩
          · cases h0
          · cases h1
            cases ok
            · exact ⟨y', by
                rcases hrun with ⟨rfl, rfl⟩ | ⟨b, clock, rfl, hb⟩
                · simp only [Instr.lookup, Sem.run_bind, run_underlying ht, Result.andThen_ok, Sem.run_pure, hck, hfk]; rfl
                · simp only [Instr.lookup, Sem.run_bind, run_underlying ht, Result.andThen_ok, Sem.run_pure, run_getMap (P := C.P) hb, hck, hfk]; rfl, hv⟩
            · refine ⟨.tuple #[y', .bool true], by
                rcases hrun with ⟨rfl, rfl⟩ | ⟨b, clock, rfl, hb⟩
                · simp only [Instr.lookup, Sem.run_bind, run_underlying ht, Result.andThen_ok, Sem.run_pure, hck, hfk]; rfl
                · simp only [Instr.lookup, Sem.run_bind, run_underlying ht, Result.andThen_ok, Sem.run_pure, run_getMap (P := C.P) hb, hck, hfk]; rfl, .tup' ⟨rfl, ?_⟩⟩
              intro i x hx
              match i, hx with
              | 0, hx => simp at hx; subst hx; exact ⟨_, rfl, hv⟩
              | 1, hx => simp at hx; subst hx; exact ⟨_, rfl, .bool _⟩
              | i + 2, hx => simp at hx
        · rename_i hf
          cases hl
          obtain ⟨r', hfk, hr⟩ := findKey_sound (w := w) hC hk hok he hf
          rcases hr with ⟨_, rfl⟩ | ⟨j', v', y', h1, _⟩
          · have hzr := run_zero hzb w
            cases ok
            · exact ⟨zx, by
                rcases hrun with ⟨rfl, rfl⟩ | ⟨b, clock, rfl, hb⟩
                · simp only [Instr.lookup, Sem.run_bind, run_underlying ht, Result.andThen_ok, Sem.run_pure, hck, hfk, hzr]; rfl
                · simp only [Instr.lookup, Sem.run_bind, run_underlying ht, Result.andThen_ok, Sem.run_pure, run_getMap (P := C.P) hb, hck, hfk, hzr]; rfl, .ofV zx⟩
            · refine ⟨.tuple #[zx, .bool false], by
                rcases hrun with ⟨rfl, rfl⟩ | ⟨b, clock, rfl, hb⟩
                · simp only [Instr.lookup, Sem.run_bind, run_underlying ht, Result.andThen_ok, Sem.run_pure, hck, hfk, hzr]; rfl
                · simp only [Instr.lookup, Sem.run_bind, run_underlying ht, Result.andThen_ok, Sem.run_pure, run_getMap (P := C.P) hb, hck, hfk, hzr]; rfl, .tup' ⟨rfl, ?_⟩⟩
              intro i x hx
              match i, hx with
              | 0, hx => simp at hx; subst hx; exact ⟨_, rfl, .ofV zx⟩
              | 1, hx => simp at hx; subst hx; exact ⟨_, rfl, .bool _⟩
              | i + 2, hx => simp at hx
          · cases h1
        · cases hl
      · cases hl
    · cases hl
  · cases hl

theorem sameBits_refl_int (n : Nat) (k : IntKind) (a : Int) : Instr.sameBits n (.int k a) (.int k a) = true := by
  cases n <;> simp [Instr.sameBits]

/-- Keys that are equal are the same to the bit. -/
theorem keyEq_bits {C : Ctx} {t : TypeId} {a b : AV} (h : keyEqA C t a b = some true) {x y : Value} (hx : VR M a x) (hy : VR M b y) : Instr.sameBits 10000 y x = true := by
  unfold keyEqA at h
  split at h
  · rename_i kd j p k q ht
    split at h
    · rename_i hjk
      subst hjk
      cases hx; cases hy
      simp only [Option.some.injEq, beq_iff_eq] at h
      subst h
      exact sameBits_refl_int _ _ _
    · cases h
  · rename_i fs xs ys ht
    simp only [Option.bind_eq_some_iff] at h
    obtain ⟨ks, hk, he⟩ := h
    obtain ⟨xs', rfl, hxs⟩ := hx.agg_inv
    obtain ⟨ys', rfl, hys⟩ := hy.agg_inv
    have key : ∀ (ks : List Bool) (xs ys : List AV) (xs' ys' : List Value), eqCells ks xs ys = some true → xs.length = xs'.length → ys.length = ys'.length →
        (∀ (i : Nat) (x : AV), xs[i]? = some x → ∃ y, xs'[i]? = some y ∧ VR M x y) → (∀ (i : Nat) (x : AV), ys[i]? = some x → ∃ y, ys'[i]? = some y ∧ VR M x y) →
        (ys'.zip xs').all (fun p => Instr.sameBits 9999 p.1 p.2) = true := by
      intro ks
      induction ks with
      | nil =>
        intro xs ys xs' ys' he hl hl' _ _
        have hc := (eqCells_len he).1
        have : xs' = [] := List.eq_nil_of_length_eq_zero (by rw [← hl, hc]; rfl)
        subst this
        simp
      | cons kb ks ih =>
        intro xs ys xs' ys' he hl hl' hx hy
        have hc := eqCells_len he
        cases xs with
        | nil => simp at hc
        | cons c cs =>
          cases ys with
          | nil => simp at hc
          | cons c' ds =>
            cases xs' with
            | nil => simp at hl
            | cons x' xs' =>
              cases ys' with
              | nil => simp at hl'
              | cons y' ys' =>
                obtain ⟨_, hx0, hv⟩ := hx 0 _ rfl
                obtain ⟨_, hy0, hv'⟩ := hy 0 _ rfl
                simp only [List.getElem?_cons_zero, Option.some.injEq] at hx0 hy0
                subst hx0 hy0
                have ih' := fun hr' => ih cs ds xs' ys' hr' (by simpa using hl) (by simpa using hl') (fun i x hi => by simpa using hx (i + 1) x (by simpa using hi)) (fun i x hi => by simpa using hy (i + 1) x (by simpa using hi))
                cases kb with
                | true =>
                  cases c <;> first | (simp [eqCells] at he; done) | skip
                  cases c' <;> first | (simp [eqCells] at he; done) | skip
                  simp only [eqCells] at he
                  split at he
                  · rename_i hjk
                    subst hjk
                    simp only [Option.map_eq_some_iff, Bool.and_eq_true] at he
                    obtain ⟨r', hr', hab, rfl⟩ := he
                    cases hv; cases hv'
                    simp only [beq_iff_eq] at hab
                    subst hab
                    simp only [List.zip_cons_cons, List.all_cons, sameBits_refl_int, Bool.true_and]
                    exact ih' hr'
                  · cases he
                | false =>
                  cases c <;> first | (simp [eqCells] at he; done) | skip
                  cases c' <;> first | (simp [eqCells] at he; done) | skip
                  simp only [eqCells] at he
                  simp only [Option.map_eq_some_iff, Bool.and_eq_true] at he
                  obtain ⟨r', hr', hab, rfl⟩ := he
                  cases hv; cases hv'
                  simp only [beq_iff_eq] at hab
                  subst hab
                  simp only [List.zip_cons_cons, List.all_cons, Instr.sameBits, beq_self_eq_true, Bool.true_and]
                  exact ih' hr'
    have hk1 := key ks xs ys xs'.toList ys'.toList he (by simpa using hxs.1) (by simpa using hys.1) (fun i x hi => by simpa using hxs.2 i x hi) (fun i x hi => by simpa using hys.2 i x hi)
    have hsz : ys'.size = xs'.size := by
      have := eqCells_len he
      rw [← hxs.1, ← hys.1]; omega
    simp only [Instr.sameBits, hsz, beq_self_eq_true, Bool.true_and]
    exact hk1
  · cases h

/-- What is found is an entry whose key is equal. -/
theorem findA_some {C : Ctx} {t : TypeId} {k : AV} : ∀ {es : List (AV × AV)} {i j : Nat} {v : AV}, findA C t k es i = some (some (j, v)) → ∃ e, i ≤ j ∧ es[j - i]? = some e ∧ e.2 = v ∧ keyEqA C t k e.1 = some true
  | [], i, j, v, h => by simp [findA] at h
  | e :: es, i, j, v, h => by
    simp only [findA] at h
    split at h
    · rename_i hq
      simp only [Option.some.injEq, Prod.mk.injEq] at h
      obtain ⟨rfl, rfl⟩ := h
      exact ⟨e, Nat.le_refl _, by simp, rfl, hq⟩
    · obtain ⟨e', h1, h2, h3⟩ := findA_some h
      exact ⟨e', by omega, by rw [show j - i = (j - (i + 1)) + 1 by omega, List.getElem?_cons_succ]; exact h2, h3⟩
    · cases h

theorem setObj_only (w : World) (b : Nat) (o : Obj) : OnlyBlk b w { w with heap := w.heap.setIfInBounds b o } :=
  ⟨rfl, rfl, rfl, by simp, fun k hk => by simp [Array.getElem?_setIfInBounds_ne (Ne.symm hk)]⟩

theorem mapUpdate_sound {C : Ctx} (hC : C.ok) (h : HR M H w) {t : TypeId} {m k v : AV} {H' : Heap} (hl : mapUpdateA C t m k v H = some H') {x y z : Value} (hm : VR M m x) (hk : VR M k y) (hv : VR M v z) :
    ∃ w', (Instr.mapUpdate t x y z).run C.P w = .ok () w' ∧ HR M H' w' ∧ Fr M H w M H' w' := by
  unfold mapUpdateA at hl
  split at hl
  · rename_i kt et id ht
    obtain ⟨pl, hp, rfl⟩ := hm.map_inv
    split at hl
    · rename_i es hid
      obtain ⟨hro, es', clock, hb, he⟩ := h.ent hid hp
      have hlt : id < H.length := (List.getElem?_eq_some_iff.1 hid).1
      have hbl : pl.blk < w.heap.size := h.inb id 0 pl hp
      split at hl
      · rename_i hok
        have hck := checkKey_sound (w := w) hC hok hk false 9998
        have hfin : ∀ (o : Obj), ({ w with heap := w.heap.setIfInBounds pl.blk o } : World).heap[pl.blk]? = some o := fun o => by simp [hbl]
        split at hl
        · rename_i j v₀ hf
          cases hl
          obtain ⟨r', hfk, hr⟩ := findKey_sound (w := w) hC hk hok he hf
          rcases hr with ⟨h0, _⟩ | ⟨j', v', y', h1, rfl, _⟩
          · cases h0
          · cases h1
            obtain ⟨e, _, he2, he3, he4⟩ := findA_some hf
            simp only [Nat.sub_zero] at he2
            obtain ⟨mm, hmm, hkey, hval⟩ := he.2 j e.1 e.2 he2
            have hbits := keyEq_bits he4 hk hkey
            rw [Array.getElem?_toList] at hmm
            have hjlt : j < es'.size := (Array.getElem?_eq_some_iff.1 hmm).1
            have hkts : (Instr.keyThatStays (((es'[j]?).map (·.key)).getD y) y).run C.P w = .ok y w := by
              simp [Instr.keyThatStays, hmm, hbits]
            refine ⟨_, ?_, h.writeMap id es (es.set j (k, v)) hid pl hp (setObj_only w pl.blk _) (es'.modify j fun e => { e with key := y, val := z }) clock (hfin _) ?_ ?_,
              Fr.only (setObj_only w pl.blk _) (by simp) hlt hp hro⟩
            · simp only [Instr.mapUpdate, Sem.run_bind, run_underlying ht, Result.andThen_ok]
              simp only [getObj, Sem.run, hb, Result.andThen_ok, hck, hfk, Sem.run_bind, hkts, setObj]
            · simp [he.1]
            · intro i k' x' hi
              by_cases hij : j = i
              · subst hij
                rw [List.getElem?_set_self (List.getElem?_eq_some_iff.1 he2).1] at hi
                cases hi
                exact ⟨{ mm with key := y, val := z }, by simp [Array.getElem?_modify, hmm], hk, hv⟩
              · rw [List.getElem?_set_ne hij] at hi
                obtain ⟨m', hm', hv'⟩ := he.2 i k' x' hi
                exact ⟨m', by rw [Array.getElem?_modify, if_neg hij]; simpa using hm', hv'⟩
        · rename_i hf
          cases hl
          obtain ⟨r', hfk, hr⟩ := findKey_sound (w := w) hC hk hok he hf
          rcases hr with ⟨_, rfl⟩ | ⟨j', v', y', h1, _⟩
          · refine ⟨_, ?_, h.writeMap id es (es ++ [(k, v)]) hid pl hp (setObj_only w pl.blk _) (es'.push { key := y, val := z, born := clock }) (clock + 1) (hfin _) ?_ ?_,
              Fr.only (setObj_only w pl.blk _) (by simp) hlt hp hro⟩
            · simp only [Instr.mapUpdate, Sem.run_bind, run_underlying ht, Result.andThen_ok]
              simp only [getObj, Sem.run, hb, Result.andThen_ok, hck, hfk, Sem.run_bind, setObj]
            · have := he.1; simp at this; simp [this]
            · intro i k' x' hi
              rw [getElem?_snoc] at hi
              have hl1 : es.length = es'.size := by have := he.1; simpa using this
              split at hi
              · rename_i hi'
                subst hi'
                cases hi
                exact ⟨{ key := y, val := z, born := clock }, by rw [hl1]; simp, hk, hv⟩
              · obtain ⟨m', hm', hv'⟩ := he.2 i k' x' hi
                rw [Array.getElem?_toList] at hm'
                exact ⟨m', by rw [Array.getElem?_push, if_neg (by have := (Array.getElem?_eq_some_iff.1 hm').1; omega)]; exact hm', hv'⟩
          · cases h1
        · cases hl
      · cases hl
    · cases hl
  · cases hl

end Go.Va
