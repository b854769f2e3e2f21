/- Slices that grow; maps; composite values. -/
import Derived.Test.YtkofbgicfmojjaaVaF
set_option linter.unusedSimpArgs false
set_option linter.unusedVariables false
set_option linter.unusedSectionVars false
namespace Go.Va

variable {P : Program} {M : Plc} {H : Heap} {w : World}

/-- What a slice shows, in the model. -/
theorem slCells_sound (h : HR M H w) {v : AV} {ys : List AV} (hs : slCells H v = some ys) {x : Value} (hv : VR M v x) {size : Nat} (hl : ys.length = slLen v * size) (hsz : 0 < size) :
    (v = .nilsl ∧ x = .slice none 0 0 ∧ ys = []) ∨ (∃ a cap xs, x = .slice (some a) (slLen v) cap ∧ VRs M ys xs ∧ ∀ (j : Nat) (u : Value), xs.toList[j]? = some u → w.cell? (a.add j) = some u) := by
  unfold slCells at hs
  split at hs
  · cases hs; cases hv; exact .inl ⟨rfl, rfl, rfl⟩
  · cases hs; cases hv; exact .inr ⟨_, 0, #[], rfl, ⟨rfl, fun i x hx => by simp at hx⟩, fun j u hu => by simp at hu⟩
  · rename_i id off len ver sz
    split at hs
    · rename_i c e born ro hid
      split at hs
      · rename_i hb
        obtain ⟨hb1, hb2, hb3⟩ := hb
        cases hs
        obtain ⟨a, cap, pl, rfl, hp, hsz', hcap, hlen, hee, ha⟩ := hv.sl_inv
        obtain ⟨arr, el, fz, harr, hn, hc, _⟩ := (h.cells id c e born ro hid ver pl hp).2.2 hb1
        have hmul : (off + len) * sz = off * sz + len * sz := Nat.add_mul _ _ _
        refine .inr ⟨a, cap, arr.extract (pl.base + off * sz) (pl.base + off * sz + len * sz), rfl, ⟨?_, ?_⟩, ?_⟩
        · simp only [List.length_take, List.length_drop, Array.size_extract]; omega
        · intro j x hx
          rw [List.getElem?_take] at hx
          split at hx
          · rename_i hj
            rw [List.getElem?_drop] at hx
            obtain ⟨y, hy, hvy⟩ := hc (off * sz + j) x (by omega) hx
            refine ⟨y, ?_, hvy⟩
            rw [Array.getElem?_extract, if_pos (by omega), ← hy, Nat.add_assoc]
          · cases hx
        · intro j u hu
          rw [Array.getElem?_toList, Array.getElem?_extract] at hu
          split at hu
          · rename_i hj
            have hpos : 0 < len * sz := by omega
            have hlen0 : len ≠ 0 := by intro h0; rw [h0] at hpos; simp at hpos
            rw [ha (by omega), Addr.add_lit]
            simp only [World.cell?, harr]
            simpa using hu
          · cases hu
      · cases hs
    · cases hs
  · cases hs

theorem CellsR.of_vrs {cs : List AV} {xs ys : Array Value} (h : VRs M cs xs) (rest : Array Value) (e : ys = xs ++ rest) : CellsR M cs cs.length ys 0 := by
  intro i x hi hx
  obtain ⟨y, hy, hv⟩ := h.2 i x hx
  refine ⟨y, ?_, hv⟩
  have := (Array.getElem?_eq_some_iff.1 hy).1
  rw [e, Nat.zero_add, Array.getElem?_append_left this]
  exact hy

theorem Fr.still {w' : World} (hh : w'.heap = w.heap) (h1 : w'.os = w.os) (h2 : w'.output = w.output) (h3 : w'.tape = w.tape) : Fr M H w M H w' :=
  ⟨.refl M, fun _ _ => rfl, Nat.le_refl _, h1, h2, h3, by rw [hh]; exact Nat.le_refl _, fun b _ _ => by rw [hh], fun id v pl hi h hr _ => ⟨v, pl, hi, h, hr, rfl⟩⟩

theorem append_sound (h : HR M H w) {t u : TypeId} {s y r : AV} {H' : Heap} (ha : appendA P t u s y H = some (r, H')) {sx yx : Value} (hs : VR M s sx) (hy : VR M y yx)
    (hf : Free M H.length H'.length) (htu : u = t) (ty : TypeId) :
    ∃ x w', (Builtin.append_ #[t, u] ty #[sx, yx]).run P w = .ok x w' ∧ Post M H w r H' x w' := by
  subst htu
  unfold appendA at ha
  split at ha
  · rename_i elem elem' ht ht'
    split at ha
    · rename_i i z ys hi hz hys
      split at ha
      · rename_i hb
        obtain ⟨hzl, hsz, hyl, hone, hby, hlen⟩ := hb
        obtain ⟨zx, i', hi', hzx, hzo, hzd, _⟩ := zeroA_inv hz
        rw [hi] at hi'; cases hi'
        have hzcs := zero_cells (M := M) hzo hzd
        have hzc : zx.cells.size = i.size := by rw [← hzcs.1]; exact hzl
        have hyc := slCells_sound h hys hy hyl hsz
        have growpush : ∀ (n cap : Nat) (cs : List AV) (xs : Array Value), VRs M cs xs → cs.length = n * i.size → n ≤ cap →
            ∃ arr : Array Value, arr = xs ++ Builtin.zeroCells zx.cells (cap - n) ∧ arr.size = cap * i.size ∧ CellsR M cs cs.length arr 0 ∧ cs.length ≤ arr.size := by
          intro n cap cs xs hv hn hc
          have hx := hv.1
          refine ⟨_, rfl, ?_, .of_vrs hv _ rfl, ?_⟩
          · rw [Array.size_append, size_zeroCells, hzc, ← hx, hn, ← Nat.add_mul]
            congr 1; omega
          · rw [Array.size_append]; omega
        split at ha
        · cases hs
          split at ha
          · rename_i h0
            cases ha
            refine ⟨.slice none 0 0, w, ?_, .same h .nilsl⟩
            rcases hyc with ⟨rfl, rfl, _⟩ | ⟨a, cap, xs, rfl, hxs, _⟩
            · simp [Builtin.append_, run_underlying ht, sizeOf, typeInfo, hi, Builtin.lenOf, Builtin.firstCells]
            · rw [h0]
              simp [Builtin.append_, run_underlying ht, sizeOf, typeInfo, hi, Builtin.lenOf, Builtin.firstCells, loadCells, loadCellsFrom]
          · rename_i h0
            cases ha
            rcases hyc with ⟨rfl, rfl, _⟩ | ⟨a, cap, xs, rfl, hxs, hcell⟩
            · exact absurd rfl h0
            · have hxl : xs.toList.length = slLen y * i.size := by rw [Array.length_toList, ← hxs.1, hyl]
              rw [show slLen AV.nilsl = 0 from rfl, Nat.zero_add] at hby hlen
              have hrun := run_append_nil (P := P) w u ty elem i zx ht hi hzx a (slLen y) cap xs.toList hxl hcell (by omega) (by omega) (by omega)
              obtain ⟨arr, harr, hsize, hcr, hle⟩ := growpush (slLen y) (grownCap w (slLen y) 0 elem) ys xs hxs hyl (grownCap_ge w _ _ _)
              have hd : HR M H w.drew := h.drew rfl
              rw [show xs.toList.toArray = xs from Array.toArray_toList, ← harr] at hrun
              have hnew := hd.push (by simpa using hf) ys arr elem _ i.size hle hsize hcr
              refine ⟨_, _, hrun, _, ?_, hnew, ?_⟩
              · refine .sl _ 0 _ _ _ (grownCap w (slLen y) 0 elem) _ _ upd_ver rfl (by simp) (grownCap_ge w _ _ _) ?_ (fun _ => by simp)
                rw [hyl, Nat.zero_add]; exact Nat.le_refl _
              · exact (Fr.still (w := w) (w' := w.drew) rfl rfl rfl rfl).trans (Fr.push (w := w.drew) (by simpa using hf) _ ⟨w.drew.heap.size, 0, _, i.size, false⟩ rfl _ _)
        · cases hs
          rename_i aa
          split at ha
          · rename_i h0
            cases ha
            refine ⟨.slice (some aa) 0 0, w, ?_, .same h (.esl aa)⟩
            rcases hyc with ⟨rfl, rfl, _⟩ | ⟨a, cap, xs, rfl, hxs, _⟩
            · simp [Builtin.append_, run_underlying ht, sizeOf, typeInfo, hi, Builtin.lenOf, Builtin.firstCells, storeCells]
            · rw [h0]
              simp [Builtin.append_, run_underlying ht, sizeOf, typeInfo, hi, Builtin.lenOf, Builtin.firstCells, loadCells, loadCellsFrom, storeCells]
          · rename_i h0
            cases ha
            rcases hyc with ⟨rfl, rfl, _⟩ | ⟨a, cap, xs, rfl, hxs, hcell⟩
            · exact absurd rfl h0
            · have hxl : xs.toList.length = slLen y * i.size := by rw [Array.length_toList, ← hxs.1, hyl]
              rw [show slLen AV.esl = 0 from rfl, Nat.zero_add] at hby hlen
              have hrun := run_append_grow (P := P) w u ty elem i zx ht hi hzx aa 0 0 [] (by simp) (fun j v hj => by simp at hj) a (slLen y) cap xs.toList hxl hcell (by omega) (by omega)
                (growslice_fits (by omega) (by simpa using hby))
              simp only [Nat.zero_add] at hrun
              obtain ⟨arr, harr, hsize, hcr, hle⟩ := growpush (slLen y) (grownCap w (slLen y) 0 elem) ys xs hxs hyl (grownCap_ge w _ _ _)
              have hd : HR M H w.drew := h.drew rfl
              rw [show xs.toList.toArray = xs from Array.toArray_toList, show ([] : List Value).toArray ++ xs ++ Builtin.zeroCells zx.cells (grownCap w (slLen y) 0 elem - slLen y) = arr from by rw [harr]; simp] at hrun
              have hnew := hd.push (by simpa using hf) ys arr elem _ i.size hle hsize hcr
              refine ⟨_, _, hrun, _, ?_, hnew, ?_⟩
              · refine .sl _ 0 _ _ _ (grownCap w (slLen y) 0 elem) _ _ upd_ver rfl (by simp) (grownCap_ge w _ _ _) ?_ (fun _ => by simp)
                rw [hyl, Nat.zero_add]; exact Nat.le_refl _
              · exact (Fr.still (w := w) (w' := w.drew) rfl rfl rfl rfl).trans (Fr.push (w := w.drew) (by simpa using hf) _ ⟨w.drew.heap.size, 0, _, i.size, false⟩ rfl _ _)
        · rename_i id off len ver sz
          rw [show slLen (AV.sl id off len ver sz) = len from rfl] at hby hlen
          split at ha
          · rename_i h0
            cases ha
            obtain ⟨a, cap, pl, rfl, hp, hsz', hcap, hlen', hee, haa⟩ := hs.sl_inv
            refine ⟨.slice (some a) len cap, w, ?_, .same h hs⟩
            rcases hyc with ⟨rfl, rfl, _⟩ | ⟨b, cap', xs, rfl, hxs, _⟩
            · simp [Builtin.append_, run_underlying ht, sizeOf, typeInfo, hi, Builtin.lenOf, Builtin.firstCells, hlen', storeCells]
            · rw [h0]
              simp [Builtin.append_, run_underlying ht, sizeOf, typeInfo, hi, Builtin.lenOf, Builtin.firstCells, loadCells, loadCellsFrom, hlen', storeCells]
          · rename_i h0
            split at ha
            · rename_i c e born ro hid
              simp only at ha
              split at ha
              · rename_i hc
                obtain ⟨rfl, rfl, rfl, hborn, rfl, rfl, hpv⟩ := hc
                obtain ⟨a, cap, pl, rfl, hp, hsz', hcap, hlen', hee, haa⟩ := hs.sl_inv
                have hold := h.cells id c e born false hid c.length pl hp
                obtain ⟨arr, el, fz, harr, hn, hcr, hr⟩ := hold.2.2 hborn
                obtain ⟨hbase, rfl, hsize, hvcap, rfl⟩ := hr rfl
                have hlt : id < H.length := (List.getElem?_eq_some_iff.1 hid).1
                rcases hyc with ⟨rfl, rfl, _⟩ | ⟨b, cap', xs, rfl, hxs, hcell⟩
                · exact absurd rfl h0
                have hxl : xs.toList.length = slLen y * i.size := by rw [Array.length_toList, ← hxs.1, hyl]
                have hpos : 0 < slLen y := by omega
                obtain rfl : pl.cap = cap := by omega
                rw [hbase] at haa hcr
                simp only [Nat.zero_mul, Nat.add_zero] at haa
                have hplen : len * i.size + ys.length = (len + slLen y) * i.size := by rw [hyl, Nat.add_mul]
                have inplace : len + slLen y ≤ pl.cap → (Builtin.append_ #[u, u] ty #[.slice (some a) len pl.cap, .slice (some b) (slLen y) cap']).run P w =
                    .ok (.slice (some ⟨pl.blk, 0, none⟩) (len + slLen y) pl.cap) (w.setRow pl.blk (arr.toList.take (len * i.size) ++ xs.toList ++ arr.toList.drop (len * i.size + xs.toList.length)).toArray) := by
                  intro hroom
                  rw [haa (by omega)]
                  refine run_append_room w u ty el i ht hi pl.blk len pl.cap arr harr b (slLen y) cap' xs.toList hxl hcell (hxs.oneCells hone) hroom ?_
                  rw [hsize, hsz', hxl, ← Nat.add_mul]
                  exact Nat.mul_le_mul_right _ hroom
                have hwr := setRow_only w pl.blk (arr.toList.take (len * i.size) ++ xs.toList ++ arr.toList.drop (len * i.size + xs.toList.length)).toArray
                have hrow := setRow_heap w pl.blk arr (arr.toList.take (len * i.size) ++ xs.toList ++ arr.toList.drop (len * i.size + xs.toList.length)).toArray el (0, 0) harr
                split at ha
                · rename_i hfit
                  cases ha
                  have hroom : len + slLen y ≤ pl.cap := by
                    rw [hplen] at hfit
                    rw [hsz'] at hvcap
                    exact Nat.le_of_mul_le_mul_right (Nat.le_trans hfit hvcap) hsz
                  obtain ⟨hput, hput'⟩ := hcr.put hxs (len * i.size) hfit (by omega)
                  refine ⟨_, _, inplace hroom, M, ?_, ?_, ?_⟩
                  · refine .sl id 0 _ _ _ pl.cap _ pl hp hsz' (by omega) hroom ?_ (fun _ => by rw [hbase]; simp)
                    rw [Nat.zero_add, ← hplen]; exact hfit
                  · exact h.write id c _ el born hid pl hp (putAll_len _ _ _) hwr arr _ el harr hrow hput' hborn hput
                  · exact Fr.only hwr (by simp) hlt hp hold.2.1
                · rename_i hfit
                  cases ha
                  have hver : ∀ v p, M id v = some p → v ≤ c.length := fun v p hv => (h.cells id c el born false hid v p hv).1
                  have hnone : M id (len * i.size + ys.length) = none := by
                    cases hm : M id (len * i.size + ys.length) with
                    | none => rfl
                    | some p => have := hver _ _ hm; omega
                  have hnl : (c.take (len * i.size) ++ ys).length = len * i.size + ys.length := by simp; omega
                  -- the new version: where it lies, and the world behind
                  have fin : ∀ (pl' : Pl) (w' : World) (arr' : Array Value), pl'.base = 0 → pl'.sz = i.size → pl'.ro = false → len + slLen y ≤ pl'.cap →
                      w'.heap[pl'.blk]? = some (.cells arr' el (0, 0)) → arr'.size = pl'.cap * i.size → CellsR M (c.take (len * i.size) ++ ys) (len * i.size + ys.length) arr' 0 →
                      (∀ k, k < w.heap.size → k ≠ pl.blk → w'.heap[k]? = w.heap[k]?) → w.heap.size ≤ w'.heap.size → pl'.blk < w'.heap.size → (pl'.blk = pl.blk ∨ w.heap.size ≤ pl'.blk) →
                      (∀ v p, M id v = some p → len * i.size = c.length → born ≤ v → ∃ arr₂ fz, w'.heap[p.blk]? = some (.cells arr₂ el fz) ∧ p.base + v ≤ arr₂.size ∧ CellsR M c v arr₂ p.base ∧
                        p.base = 0 ∧ fz = (0, 0) ∧ arr₂.size = p.cap * p.sz) →
                      w'.os = w.os → w'.output = w.output → w'.tape = w.tape →
                      Post M H w (.sl id 0 (len + slLen y) (len * i.size + ys.length) i.size) (H.set id (.cells (c.take (len * i.size) ++ ys) el (if len * i.size = c.length then born else len * i.size + ys.length) false))
                        (.slice (some ⟨pl'.blk, 0, none⟩) (len + slLen y) pl'.cap) w' := by
                    intro pl' w' arr' hb0 hsz0 hro hcapl hrow' hsize' hcells' hothers hgrow hlt' hwhere hold' hos hout htape
                    have hle := Le.upd (M := M) (pl := pl') hnone
                    refine ⟨upd M id (len * i.size + ys.length) pl', ?_, ?_, ?_⟩
                    · refine .sl id 0 _ _ _ pl'.cap _ pl' upd_ver hsz0 (by omega) hcapl ?_ (fun _ => by rw [hb0]; simp)
                      rw [Nat.zero_add, hplen]; exact Nat.le_refl _
                    · refine h.turn id ?_ (fun i' v hne => upd_other (.inl hne)) hle ?_ hgrow ?_ ?_ ?_
                      · intro i' hne; rw [List.getElem?_set_ne (Ne.symm hne)]
                      · intro i' v p hne hp'
                        refine hothers _ (h.inb i' v p hp') fun e' => ?_
                        have := (h.excl i' v p id c.length pl hp' hp hne e').2
                        rw [hold.2.1] at this; cases this
                      · intro c₂ e₂ b₂ ro₂ hi₂ v p hp'
                        rw [List.getElem?_set_self hlt] at hi₂
                        cases hi₂
                        rw [hnl]
                        by_cases hv : v = len * i.size + ys.length
                        · subst hv
                          rw [upd_same] at hp'; cases hp'
                          refine ⟨Nat.le_refl _, hro, fun _ => ⟨arr', el, (0, 0), hrow', ?_, ?_, fun _ => ⟨hb0, rfl, by rw [hsz0]; exact hsize', ?_, rfl⟩⟩⟩
                          · rw [hb0, hsize', hplen, Nat.zero_add]; exact Nat.mul_le_mul_right _ hcapl
                          · rw [hb0]
                            intro k x hk hx
                            obtain ⟨y', hy', hv'⟩ := hcells' k x hk hx
                            exact ⟨y', hy', hv'.mono hle⟩
                          · rw [hplen, hsz0]; exact Nat.mul_le_mul_right _ hcapl
                        · rw [upd_other (.inr hv)] at hp'
                          have hol := h.cells id c el born false hid v p hp'
                          refine ⟨by omega, hol.2.1, fun hbv => ?_⟩
                          by_cases hfull : len * i.size = c.length
                          · rw [if_pos hfull] at hbv
                            obtain ⟨arr₂, fz, h1, h2, h3, h4, h5, h6⟩ := hold' v p hp' hfull hbv
                            obtain ⟨_, _, _, _, _, _, hr₂⟩ := hol.2.2 hbv
                            refine ⟨arr₂, el, fz, h1, h2, ?_, fun _ => ⟨h4, h5, h6, (hr₂ rfl).2.2.2.1, rfl⟩⟩
                            intro k x hk hx
                            rw [List.getElem?_append_left (by simp; omega), List.getElem?_take, if_pos (by omega)] at hx
                            obtain ⟨y', hy', hv'⟩ := h3 k x hk hx
                            exact ⟨y', hy', hv'.mono hle⟩
                          · rw [if_neg hfull] at hbv
                            omega
                      · intro es hes
                        rw [List.getElem?_set_self hlt] at hes
                        cases hes
                      · intro v p hp'
                        by_cases hv : v = len * i.size + ys.length
                        · subst hv
                          rw [upd_same] at hp'; cases hp'
                          refine ⟨hro, hlt', fun i' u p₂ hne h₂ he => ?_⟩
                          rcases hwhere with hw | hw
                          · have := (h.excl i' u p₂ id c.length pl h₂ hp hne (he.trans hw)).2
                            rw [hold.2.1] at this; cases this
                          · have := h.inb i' u p₂ h₂; omega
                        · rw [upd_other (.inr hv)] at hp'
                          have hol := h.cells id c el born false hid v p hp'
                          refine ⟨hol.2.1, by have := h.inb id v p hp'; omega, fun i' u p₂ hne h₂ he => ?_⟩
                          have := (h.excl i' u p₂ id v p h₂ hp' hne he).2
                          rw [hol.2.1] at this; cases this
                    · refine ⟨hle, ?_, by simp, hos, hout, htape, hgrow, ?_, ?_⟩
                      · intro i' hi'
                        simp only [List.length_set] at hi'
                        funext v
                        exact upd_other (.inl (by omega))
                      · intro k hk hn'
                        exact hothers k hk (fun e' => hn' id c.length pl hlt hp hold.2.1 e'.symm)
                      · intro i' v p hi' hp' hr' hk
                        simp only [List.length_set] at hi'
                        by_cases hv : i' = id ∧ v = len * i.size + ys.length
                        · obtain ⟨rfl, rfl⟩ := hv
                          rw [upd_same] at hp'; cases hp'
                          rcases hwhere with hw | hw
                          · exact ⟨c.length, pl, hlt, hp, hold.2.1, hw.symm⟩
                          · omega
                        · have hp'' : M i' v = some p := by
                            by_cases h1 : i' = id
                            · subst h1; rw [upd_other (.inr (by simpa using hv))] at hp'; exact hp'
                            · rw [upd_other (.inl h1)] at hp'; exact hp'
                          exact ⟨v, p, hi', hp'', hr', rfl⟩
                  have htk : CellsR M (c.take (len * i.size)) (len * i.size) (arr.toList.take (len * i.size)).toArray 0 := by
                    intro k x hk hx
                    rw [List.getElem?_take, if_pos hk] at hx
                    obtain ⟨y', hy', hv'⟩ := hcr k x (by omega) hx
                    exact ⟨y', by simp only [List.getElem?_toArray, Nat.zero_add]; rw [List.getElem?_take, if_pos hk]; simpa using hy', hv'⟩
                  have hcl : c.length ≤ arr.size := by rw [hsize]; exact hvcap
                  have hcat : ∀ (rest : List Value), CellsR M (c.take (len * i.size) ++ ys) (len * i.size + ys.length) (arr.toList.take (len * i.size) ++ xs.toList ++ rest).toArray 0 := by
                    intro rest k x hk hx
                    simp only [Nat.zero_add, List.getElem?_toArray]
                    have hxl' := hxs.1
                    by_cases hk1 : k < len * i.size
                    · rw [List.getElem?_append_left (by simp; omega)] at hx
                      obtain ⟨y', hy', hv'⟩ := htk k x hk1 hx
                      refine ⟨y', ?_, hv'⟩
                      simp only [Nat.zero_add, List.getElem?_toArray] at hy'
                      rw [List.getElem?_append_left (by simp; omega), List.getElem?_append_left (by simp; omega)]
                      exact hy'
                    · rw [List.getElem?_append_right (by simp; omega)] at hx
                      have e1 : (c.take (len * i.size)).length = len * i.size := by simp; omega
                      rw [e1] at hx
                      obtain ⟨y', hy', hv'⟩ := hxs.2 _ _ hx
                      refine ⟨y', ?_, hv'⟩
                      have e2 : (arr.toList.take (len * i.size)).length = len * i.size := by simp; omega
                      rw [List.getElem?_append_left (by simp; omega), List.getElem?_append_right (by omega), e2]
                      simpa using hy'
                  by_cases hroom : len + slLen y ≤ pl.cap
                  · refine ⟨_, _, inplace hroom, ?_⟩
                    have hsz2 : (arr.toList.take (len * i.size) ++ xs.toList ++ arr.toList.drop (len * i.size + xs.toList.length)).toArray.size = arr.size := by
                      have h1 : (len + slLen y) * i.size ≤ pl.cap * i.size := Nat.mul_le_mul_right _ hroom
                      rw [hsz'] at hsize
                      have hxl' := hxs.1
                      simp; omega
                    refine fin pl _ _ hbase hsz' hold.2.1 hroom hrow (by rw [hsz2, hsize, hsz']) (hcat _) (fun k _ hk => hwr.block k hk) (by rw [hwr.size]; exact Nat.le_refl _)
                      (by rw [hwr.size]; exact h.inb id _ pl hp) (.inl rfl) ?_ rfl rfl rfl
                    intro v p hp' hfull hbv
                    obtain ⟨hv1, hpro, hv3⟩ := h.cells id c el born false hid v p hp'
                    obtain ⟨arr₂, el₂, fz₂, g1, g2, g3, g4⟩ := hv3 hbv
                    obtain ⟨g5, g6, g7, g8, g9⟩ := g4 rfl
                    by_cases hpb : p.blk = pl.blk
                    · rw [hpb, harr] at g1
                      cases g1
                      refine ⟨_, (0, 0), by rw [hpb]; exact hrow, by rw [hsz2]; exact g2, ?_, g5, rfl, by rw [hsz2]; exact g7⟩
                      intro k x hk hx
                      obtain ⟨y', hy', hv'⟩ := g3 k x hk hx
                      refine ⟨y', ?_, hv'⟩
                      rw [g5, Nat.zero_add] at hy' ⊢
                      simp only [List.getElem?_toArray]
                      rw [List.getElem?_append_left (by simp; omega), List.getElem?_append_left (by simp; omega), List.getElem?_take, if_pos (by omega)]
                      simpa using hy'
                    · exact ⟨arr₂, fz₂, by rw [hwr.block _ hpb, g1, g9], g2, g3, g5, g6, g7⟩
                  · have holds : ∀ (j : Nat) (v : Value), (arr.toList.take (len * i.size))[j]? = some v → w.cell? (a.add j) = some v := by
                      intro j v hj
                      rw [List.getElem?_take] at hj
                      split at hj
                      · rename_i hjl
                        have hl0 : len ≠ 0 := by intro h00; rw [h00] at hjl; simp at hjl
                        rw [haa (by omega), Addr.add_lit]
                        simp only [World.cell?, harr, Nat.zero_add]
                        simpa using hj
                      · cases hj
                    have hrun := run_append_grow (P := P) w u ty el i zx ht hi hzx a len pl.cap (arr.toList.take (len * i.size)) (by simp; omega) holds b (slLen y) cap' xs.toList hxl hcell (by omega) (by omega)
                      (growslice_fits (by omega) hby)
                    refine ⟨_, _, hrun, ?_⟩
                    have hge := grownCap_ge w (len + slLen y) pl.cap el
                    have e3 : (arr.toList.take (len * i.size)).toArray ++ xs.toList.toArray ++ Builtin.zeroCells zx.cells (grownCap w (len + slLen y) pl.cap el - (len + slLen y)) =
                        (arr.toList.take (len * i.size) ++ xs.toList ++ (Builtin.zeroCells zx.cells (grownCap w (len + slLen y) pl.cap el - (len + slLen y))).toList).toArray := by simp
                    have hsz3 : ((arr.toList.take (len * i.size)).toArray ++ xs.toList.toArray ++ Builtin.zeroCells zx.cells (grownCap w (len + slLen y) pl.cap el - (len + slLen y))).size = grownCap w (len + slLen y) pl.cap el * i.size := by
                      have h1 : (arr.toList.take (len * i.size)).length = len * i.size := by simp; omega
                      rw [Array.size_append, Array.size_append, size_zeroCells, hzc, List.size_toArray, List.size_toArray, h1, hxl, ← Nat.add_mul, ← Nat.add_mul]
                      congr 1; omega
                    refine fin ⟨w.heap.size, 0, grownCap w (len + slLen y) pl.cap el, i.size, false⟩ _ _ rfl rfl rfl hge (heap_top w.drew _) hsz3 (by rw [e3]; exact hcat _) (fun k hk _ => heap_push w.drew _ k hk)
                      (by rw [size_push]; exact Nat.le_succ _) (by rw [size_push]; exact Nat.lt_succ_self _) (.inr (Nat.le_refl _)) ?_ rfl rfl rfl
                    intro v p hp' hfull hbv
                    obtain ⟨hv1, hpro, hv3⟩ := h.cells id c el born false hid v p hp'
                    obtain ⟨arr₂, el₂, fz₂, g1, g2, g3, g4⟩ := hv3 hbv
                    obtain ⟨g5, g6, g7, g8, g9⟩ := g4 rfl
                    exact ⟨arr₂, fz₂, by rw [heap_push w.drew _ _ (h.inb id v p hp')]; rw [← g9]; exact g1, g2, g3, g5, g6, g7⟩
              · cases ha
            · cases ha
        · cases ha
      · cases ha
    · cases ha
  · cases ha

end Go.Va
