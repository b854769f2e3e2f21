/- What operations come to, in forms that simp reckons with. -/
import Derived.Test.YtkofbgicfmojjaaVaV
set_option linter.unusedSimpArgs false
set_option linter.unusedVariables false
set_option linter.unusedSectionVars false
namespace Go.Va

section
variable {C : Ctx} {t : TypeId} {k : IntKind} {a b : Int}
theorem bin_add : binA C .add t (.int k a) (.int k b) = some (.int k (k.wrap (a + b))) := by simp [binA]
theorem bin_sub : binA C .sub t (.int k a) (.int k b) = some (.int k (k.wrap (a - b))) := by simp [binA]
theorem bin_mul : binA C .mul t (.int k a) (.int k b) = some (.int k (k.wrap (a * b))) := by simp [binA]
theorem bin_quo (h : b ≠ 0) : binA C .quo t (.int k a) (.int k b) = some (.int k (k.wrap (a.tdiv b))) := by simp [binA, h]
theorem bin_rem (h : b ≠ 0) : binA C .rem t (.int k a) (.int k b) = some (.int k (a.tmod b)) := by simp [binA, h]
theorem bin_and : binA C .and t (.int k a) (.int k b) = some (.int k (k.wrap ((BitVec.ofInt k.bits a &&& BitVec.ofInt k.bits b).toNat))) := by simp [binA]
theorem bin_or : binA C .or t (.int k a) (.int k b) = some (.int k (k.wrap ((BitVec.ofInt k.bits a ||| BitVec.ofInt k.bits b).toNat))) := by simp [binA]
theorem bin_xor : binA C .xor t (.int k a) (.int k b) = some (.int k (k.wrap ((BitVec.ofInt k.bits a ^^^ BitVec.ofInt k.bits b).toNat))) := by simp [binA]
theorem bin_shl {k' : IntKind} (h : 0 ≤ b) : binA C .shl t (.int k a) (.int k' b) = some (.int k (k.wrap (a * 2 ^ (min b.toNat k.bits)))) := by
  simp only [binA]; rw [if_neg (by omega)]
theorem bin_shr {k' : IntKind} (h : 0 ≤ b) : binA C .shr t (.int k a) (.int k' b) = some (.int k (a.fdiv (2 ^ (min b.toNat k.bits)))) := by
  simp only [binA]; rw [if_neg (by omega)]
theorem bin_eql : binA C .eql t (.int k a) (.int k b) = some (.bool (decide (a = b))) := by
  simp only [binA, if_true]; congr
theorem bin_neq : binA C .neq t (.int k a) (.int k b) = some (.bool (!decide (a = b))) := by
  simp only [binA, if_true]; congr
theorem bin_lss : binA C .lss t (.int k a) (.int k b) = some (.bool (decide (a < b))) := by simp [binA]
theorem bin_leq : binA C .leq t (.int k a) (.int k b) = some (.bool (decide (a ≤ b))) := by simp [binA]
theorem bin_gtr : binA C .gtr t (.int k a) (.int k b) = some (.bool (decide (b < a))) := by simp [binA]
theorem bin_geq : binA C .geq t (.int k a) (.int k b) = some (.bool (decide (b ≤ a))) := by simp [binA]
theorem un_not {x : Bool} : unA .not (.bool x) = some (.bool !x) := rfl
theorem un_neg : unA .neg (.int k a) = some (.int k (k.wrap (0 - a))) := rfl
end

/-- Of a type: aggregate or not, and its cells. -/
def shape (P : Program) (t : TypeId) : Option (Bool × Nat) :=
  match P.info? t, P.underlying t with
  | some i, some d => (match d with
    | .struct _ => some (true, i.size)
    | .array _ _ => some (true, i.size)
    | _ => some (false, i.size))
  | _, _ => none

def ldO : Option (Bool × Nat) → Option AObj → Nat → Nat → Option AV
  | some (ag, n), some (.cells c _ born _), off, ver =>
    if born ≤ ver ∧ ver ≤ c.length then
      if ag = true then (if off + n ≤ ver then some (.agg ((c.drop off).take n)) else none) else (if off < ver then c[off]? else none)
    else none
  | _, _, _, _ => none

theorem loadP_ptr {P : Program} {t : TypeId} {H : Heap} {id off ver : Nat} : loadP P t H (.ptr id off ver) = ldO (shape P t) H[id]? off ver := by
  simp only [loadP, loadA, shape]
  cases H[id]? with
  | none => cases P.info? t <;> cases P.underlying t <;> simp [ldO] <;> rename_i d <;> cases d <;> rfl
  | some o =>
    cases o with
    | map es => cases P.info? t <;> cases P.underlying t <;> simp [ldO] <;> rename_i d <;> cases d <;> rfl
    | cells c e born ro =>
      cases P.info? t <;> cases P.underlying t <;> simp [ldO]
      rename_i d
      cases d <;> simp [ldO]

theorem ldO_ag {n off ver : Nat} {c : List AV} {e : TypeId} {born : Nat} {ro : Bool} (h1 : born ≤ ver) (h2 : ver ≤ c.length) (h3 : off + n ≤ ver) : ldO (some (true, n)) (some (.cells c e born ro)) off ver = some (.agg ((c.drop off).take n)) := by
  simp only [ldO]; rw [if_pos ⟨h1, h2⟩]; simp only [if_true]; rw [if_pos h3]
theorem ldO_1 {n off ver : Nat} {c : List AV} {e : TypeId} {born : Nat} {ro : Bool} (h1 : born ≤ ver) (h2 : ver ≤ c.length) (h3 : off < ver) : ldO (some (false, n)) (some (.cells c e born ro)) off ver = c[off]? := by
  simp only [ldO]; rw [if_pos ⟨h1, h2⟩, if_neg (by decide), if_pos h3]

/-- The cells that a type takes. -/
def tSz (P : Program) (t : TypeId) : Option Nat := (P.info? t).map (·.size)
def stO : Option Nat → Option AObj → Nat → Nat → AV → Option AObj
  | some n, some (.cells c e born ro), off, ver, v =>
    if ro = false ∧ ver = c.length ∧ born ≤ ver ∧ v.cells.length = n ∧ off + n ≤ ver ∧ v.cells.all AV.one then some (.cells (putAll c off v.cells) e ver ro) else none
  | _, _, _, _, _ => none
theorem storeP_ptr {P : Program} {t : TypeId} {H : Heap} {id off ver : Nat} {v : AV} : storeP P t H (.ptr id off ver) v = (stO (tSz P t) H[id]? off ver v).map fun o => H.set id o := by
  simp only [storeP, storeA, tSz]
  cases hh : H[id]? with
  | none => cases P.info? t <;> simp [stO]
  | some o =>
    cases o with
    | map es => cases P.info? t <;> simp [stO]
    | cells c e born ro =>
      cases P.info? t with
      | none => simp [stO]
      | some i =>
        simp only [stO, Option.map_some]
        split <;> rfl
theorem stO_cells {n off ver : Nat} {c : List AV} {e : TypeId} {born : Nat} {v : AV} (h1 : ver = c.length) (h2 : born ≤ ver) (h3 : v.cells.length = n) (h4 : off + n ≤ ver) (h5 : v.cells.all AV.one = true) :
    stO (some n) (some (.cells c e born false)) off ver v = some (.cells (putAll c off v.cells) e ver false) := by
  show (if _ then _ else _) = _; rw [if_pos ⟨rfl, h1, h2, h3, h4, h5⟩]

def fOff (P : Program) (s : TypeId) (f : Nat) : Option Nat :=
  match P.underlying s with
  | some (.struct fields) => (fields[f]?).bind fun fd => (P.info? fd.type).bind fun i => if i.size ≠ 0 then some fd.offset else none
  | _ => none
theorem fieldAddr_ptr {P : Program} {s : TypeId} {f id off ver : Nat} : fieldAddrA P s (.ptr id off ver) f = (fOff P s f).map fun o => .ptr id (off + o) ver := by
  simp only [fieldAddrA, fOff]
  cases P.underlying s with
  | none => rfl
  | some d =>
    cases d <;> try rfl
    rename_i fields
    simp only
    cases fields[f]? with
    | none => rfl
    | some fd =>
      simp only [Option.bind_some]
      cases P.info? fd.type with
      | none => rfl
      | some i => simp only [Option.bind_some]; split <;> rfl

/-- A slice's or array's elements: slice or not, how many, their cells. -/
def ixK (P : Program) (t : TypeId) : Option (Bool × Nat × Nat) :=
  match P.underlying t with
  | some (.slice e) => (P.info? e).map fun j => (true, 0, j.size)
  | some (.array n e) => (P.info? e).map fun j => (false, n, j.size)
  | _ => none
def ixO : Option (Bool × Nat × Nat) → AV → AV → Option AV
  | some (true, _, s), .sl id off len ver sz, .int _ n => if 0 ≤ n ∧ n < len ∧ s = sz then some (.ptr id ((off + n.toNat) * sz) ver) else none
  | some (false, m, s), .ptr id off ver, .int _ n => if 0 ≤ n ∧ n < m then some (.ptr id (off + n.toNat * s) ver) else none
  | _, _, _ => none
theorem indexAddr_eq {P : Program} {t : TypeId} {x i : AV} : indexAddrA P t x i = ixO (ixK P t) x i := by
  unfold indexAddrA ixK
  cases P.underlying t with
  | none => simp [ixO]
  | some d =>
    cases d <;> simp [ixO]
    all_goals
      rename_i e
      cases hP : P.info? e <;> cases x <;> cases i <;> simp [ixO, hP]

theorem ixO_arr {id off ver m s : Nat} {k : IntKind} {n : Int} (h0 : 0 ≤ n) (h1 : n < m) : ixO (some (false, m, s)) (.ptr id off ver) (.int k n) = some (.ptr id (off + n.toNat * s) ver) := by
  simp only [ixO]; rw [if_pos ⟨h0, h1⟩]

/-- What a whole number is turned to. -/
def cvK (P : Program) (s d : TypeId) : Option IntKind := match P.underlying s, P.underlying d with
  | some (.int _), some (.int k) => some k
  | _, _ => none
theorem conv_int {P : Program} {s d : TypeId} {k : IntKind} {n : Int} : convA P s d (.int k n) = (cvK P s d).map fun k => .int k (k.wrap n) := by
  unfold convA cvK
  cases P.underlying s with
  | none => rfl
  | some x => cases P.underlying d with
    | none => cases x <;> rfl
    | some y => cases x <;> cases y <;> rfl

/-- Is it a type of slices? -/
def isSl (P : Program) (t : TypeId) : Bool := match P.underlying t with
  | some (.slice _) => true
  | _ => false

/-- The address of a slice's element. -/
def elemP : AV → Nat → AV
  | .sl id off _ ver sz, i => .ptr id ((off + i) * sz) ver
  | _, _ => .dead

/-- A slice shows a list of elements, of sz cells each. -/
def Shows (H : Heap) (v : AV) (sz : Nat) (L : List (List AV)) : Prop :=
  (∀ x ∈ L, x.length = sz) ∧ match v with
  | .nilsl => L = []
  | .esl => L = []
  | .sl id off len ver z => z = sz ∧ len = L.length ∧ ∃ c e born ro, H[id]? = some (.cells c e born ro) ∧ born ≤ ver ∧ ver ≤ c.length ∧ (off + len) * sz ≤ ver ∧ ∀ i (h : i < L.length), (c.drop ((off + i) * sz)).take sz = L[i]
  | _ => False

/-- All objects stay as they are. -/
def Ext (H H' : Heap) : Prop := ∀ (i : Nat) (o : AObj), H[i]? = some o → H'[i]? = some o
theorem Ext.refl {H : Heap} : Ext H H := fun _ _ h => h
theorem Ext.trans {H H' H'' : Heap} (h : Ext H H') (g : Ext H' H'') : Ext H H'' := fun i o e => g i o (h i o e)
theorem Ext.app {H H' : Heap} {l : List AObj} (h : Ext H H') : Ext H (H' ++ l) := fun i o e => by
  have := h i o e
  rw [List.getElem?_append_left (by rw [List.getElem?_eq_some_iff] at this; exact this.1)]; exact this
theorem Ext.set {H H' : Heap} {k : Nat} {o : AObj} (h : Ext H H') (hk : H.length ≤ k) : Ext H (H'.set k o) := fun i o' e => by
  have hi : i < H.length := by rw [List.getElem?_eq_some_iff] at e; exact e.1
  rw [List.getElem?_set_ne (by omega)]; exact h i o' e
theorem Ext.len {H H' : Heap} (h : Ext H H') : H.length ≤ H'.length := by
  rcases Nat.lt_or_ge H'.length H.length with hl | hl
  · have h1 : H[H'.length]? = some (H[H'.length]'hl) := List.getElem?_eq_getElem hl
    have h2 := h _ _ h1
    rw [List.getElem?_eq_none (Nat.le_refl _)] at h2; cases h2
  · exact hl

theorem Shows.ext {H H' : Heap} {v : AV} {sz : Nat} {L : List (List AV)} (h : Shows H v sz L) (he : Ext H H') : Shows H' v sz L := by
  refine ⟨h.1, ?_⟩
  have := h.2
  cases v <;> try exact this
  obtain ⟨h1, h2, c, e, born, ro, h3, h4⟩ := this
  exact ⟨h1, h2, c, e, born, ro, he _ _ h3, h4⟩

theorem Shows.len {H : Heap} {v : AV} {sz : Nat} {L : List (List AV)} (h : Shows H v sz L) : slLen v = L.length := by
  have := h.2
  cases v <;> try exact this.elim
  · have e : L = [] := this
    subst e; rfl
  · have e : L = [] := this
    subst e; rfl
  · exact this.2.1

theorem Shows.lenA {P : Program} {t : TypeId} {H : Heap} {v : AV} {sz : Nat} {L : List (List AV)} (h : Shows H v sz L) (ht : isSl P t = true) : lenA P t v = some (.int .i64 L.length) := by
  rw [← h.len]
  have := h.2
  unfold isSl at ht
  split at ht
  · rename_i d hd
    unfold Va.lenA
    rw [hd]
    cases v <;> first | exact this.elim | rfl
  · cases ht

theorem Shows.ix {H : Heap} {v : AV} {sz m : Nat} {L : List (List AV)} {k : IntKind} {i : Nat} (h : Shows H v sz L) (hi : i < L.length) : ixO (some (true, m, sz)) v (.int k i) = some (elemP v i) := by
  have := h.2
  cases v <;> try exact this.elim
  · have e : L = [] := this
    subst e; simp at hi
  · have e : L = [] := this
    subst e; simp at hi
  · obtain ⟨h1, h2, h3⟩ := this
    simp only [ixO, elemP]
    rw [if_pos ⟨by omega, by omega, h1.symm⟩]; rfl

theorem Shows.ld {P : Program} {t : TypeId} {H H' : Heap} {v : AV} {sz : Nat} {L : List (List AV)} {i : Nat} (h : Shows H v sz L) (he : Ext H H') (ht : shape P t = some (true, sz)) (hi : i < L.length) : loadP P t H' (elemP v i) = some (.agg L[i]) := by
  have := (h.ext he).2
  cases v <;> try exact this.elim
  · have e : L = [] := this
    subst e; simp at hi
  · have e : L = [] := this
    subst e; simp at hi
  · obtain ⟨h1, h2, c, e, born, ro, h3, h4, h5, h6, h7⟩ := this
    simp only [elemP]
    rw [loadP_ptr, ht, h3]
    rename_i id off len ver z
    subst h1
    have : (off + i) * z + z ≤ (off + len) * z := by
      rw [← Nat.succ_mul]; exact Nat.mul_le_mul_right _ (by omega)
    rw [ldO_ag h4 h5 (by omega), h7 i hi]

theorem Shows.ld1 {P : Program} {t : TypeId} {H H' : Heap} {v : AV} {n : Nat} {L : List (List AV)} {i : Nat} {x : AV} (h : Shows H v 1 L) (he : Ext H H') (ht : shape P t = some (false, n)) (hi : L[i]? = some [x]) : loadP P t H' (elemP v i) = some x := by
  have := (h.ext he).2
  obtain ⟨hi', hx⟩ := List.getElem?_eq_some_iff.mp hi
  cases v <;> try exact this.elim
  · have e : L = [] := this
    subst e; simp at hi
  · have e : L = [] := this
    subst e; simp at hi
  · obtain ⟨h1, h2, c, e, born, ro, h3, h4, h5, h6, h7⟩ := this
    simp only [elemP]
    rw [loadP_ptr, ht, h3]
    rename_i id off len ver z
    subst h1
    rw [ldO_1 h4 h5 (by omega)]
    have h8 := h7 i hi'
    rw [hx] at h8
    rw [Nat.mul_one] at h8 ⊢
    have : ((c.drop (off + i)).take 1)[0]? = some x := by rw [h8]; rfl
    rw [List.getElem?_take_of_lt (by omega), List.getElem?_drop] at this
    exact this

/-- Heap terms. -/
theorem hp_get {H l : Heap} {k : Nat} : (H ++ l)[H.length + k]? = l[k]? := by
  rw [List.getElem?_append_right (by omega), Nat.add_sub_cancel_left]
theorem hp_get0 {H l : Heap} : (H ++ l)[H.length]? = l[0]? := hp_get (k := 0)
theorem hp_set {H l : Heap} {k : Nat} {o : AObj} : (H ++ l).set (H.length + k) o = H ++ l.set k o := by
  rw [List.set_append_right _ _ (by omega), Nat.add_sub_cancel_left]
theorem hp_set0 {H l : Heap} {o : AObj} : (H ++ l).set H.length o = H ++ l.set 0 o := hp_set (k := 0)
theorem cells_agg {l : List AV} : (AV.agg l).cells = l := rfl
theorem cells_int {k : IntKind} {n : Int} : (AV.int k n).cells = [.int k n] := rfl
theorem cells_bool {b : Bool} : (AV.bool b).cells = [.bool b] := rfl
theorem cells_nilsl : AV.nilsl.cells = [.nilsl] := rfl
theorem putAll_nil {c : List AV} {o : Nat} : putAll c o [] = c := rfl
theorem putAll_cons {c : List AV} {o : Nat} {v : AV} {vs : List AV} : putAll c o (v :: vs) = putAll (c.set o v) (o + 1) vs := rfl
theorem one_int {k : IntKind} {n : Int} : (AV.int k n).one = true := rfl
theorem one_bool {b : Bool} : (AV.bool b).one = true := rfl
theorem dead_agg {l : List AV} : (AV.agg l).isDead = false := rfl
theorem dead_int {k : IntKind} {n : Int} : (AV.int k n).isDead = false := rfl

end Go.Va
