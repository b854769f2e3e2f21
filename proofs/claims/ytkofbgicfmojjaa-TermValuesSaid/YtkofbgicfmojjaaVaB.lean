/- The relation between the abstract heap and the model's world, and what it keeps. -/
import Derived.Test.YtkofbgicfmojjaaVaA
set_option linter.unusedSimpArgs false
set_option linter.unusedVariables false
set_option linter.unusedSectionVars false
namespace Go.Va

/-- Where a version of an object lies: its block, the first cell, the capacity in elements, an element's cells, and whether nobody writes there. -/
structure Pl where
  blk : Nat
  base : Nat
  cap : Nat
  sz : Nat
  ro : Bool

abbrev Plc := Nat → Nat → Option Pl

/-- An abstract value stands for a value of the model. -/
inductive VR (M : Plc) : AV → Value → Prop
  | dead (x : Value) : VR M .dead x
  | bool (b : Bool) : VR M (.bool b) (.bool b)
  | int (k : IntKind) (n : Int) : VR M (.int k n) (.int k n)
  | str (s : ByteArray) : VR M (.str s) (.string s)
  | nilp : VR M .nilp (.pointer none)
  | ptr (id off ver : Nat) (pl : Pl) (h : M id ver = some pl) : VR M (.ptr id off ver) (.pointer (some ⟨pl.blk, pl.base + off, none⟩))
  | nilsl : VR M .nilsl (.slice none 0 0)
  | esl (a : Addr) : VR M .esl (.slice (some a) 0 0)
  | sl (id off len ver sz cap : Nat) (a : Addr) (pl : Pl) (h : M id ver = some pl) (hs : pl.sz = sz) (hc : off + cap = pl.cap) (hl : len ≤ cap)
      (he : (off + len) * sz ≤ ver) (ha : cap ≠ 0 → a = ⟨pl.blk, pl.base + off * sz, none⟩) : VR M (.sl id off len ver sz) (.slice (some a) len cap)
  | nilm : VR M .nilm (.map none)
  | map (id : Nat) (pl : Pl) (h : M id 0 = some pl) : VR M (.map id) (.map (some pl.blk))
  | nilf : VR M .nilf .nilFunc
  | fn (f : FuncId) (cs : List AV) (xs : Array Value) (hl : cs.length = xs.size) (h : ∀ i (h1 : i < cs.length) (h2 : i < xs.size), VR M cs[i] xs[i]) :
      VR M (.fn f cs) (.func (.func f) #[] xs)
  | agg (cs : List AV) (xs : Array Value) (hl : cs.length = xs.size) (h : ∀ i (h1 : i < cs.length) (h2 : i < xs.size), VR M cs[i] xs[i]) :
      VR M (.agg cs) (.agg xs)
  | tup (cs : List AV) (xs : Array Value) (hl : cs.length = xs.size) (h : ∀ i (h1 : i < cs.length) (h2 : i < xs.size), VR M cs[i] xs[i]) :
      VR M (.tup cs) (.tuple xs)

/-- Rows of values, one by one. -/
def VRs (M : Plc) (cs : List AV) (xs : Array Value) : Prop := cs.length = xs.size ∧ ∀ (i : Nat) (x : AV), cs[i]? = some x → ∃ y, xs[i]? = some y ∧ VR M x y

theorem VRs.mk' {M : Plc} {cs : List AV} {xs : Array Value} (hl : cs.length = xs.size) (h : ∀ i (h1 : i < cs.length) (h2 : i < xs.size), VR M cs[i] xs[i]) : VRs M cs xs :=
  ⟨hl, fun i x hx => by
    obtain ⟨h1, rfl⟩ := List.getElem?_eq_some_iff.1 hx
    exact ⟨xs[i]'(by omega), Array.getElem?_eq_getElem _, h i h1 (by omega)⟩⟩
theorem VRs.get {M : Plc} {cs : List AV} {xs : Array Value} (h : VRs M cs xs) : ∀ i (h1 : i < cs.length) (h2 : i < xs.size), VR M cs[i] xs[i] := by
  intro i h1 h2
  obtain ⟨y, hy, hv⟩ := h.2 i _ (List.getElem?_eq_getElem h1)
  rw [Array.getElem?_eq_getElem h2] at hy
  cases hy
  exact hv
theorem VR.agg' {M : Plc} {cs : List AV} {xs : Array Value} (h : VRs M cs xs) : VR M (.agg cs) (.agg xs) := .agg cs xs h.1 h.get
theorem VR.tup' {M : Plc} {cs : List AV} {xs : Array Value} (h : VRs M cs xs) : VR M (.tup cs) (.tuple xs) := .tup cs xs h.1 h.get
theorem VR.fn' {M : Plc} {f : FuncId} {cs : List AV} {xs : Array Value} (h : VRs M cs xs) : VR M (.fn f cs) (.func (.func f) #[] xs) := .fn f cs xs h.1 h.get
theorem VR.agg_inv {M : Plc} {cs : List AV} {x : Value} (h : VR M (.agg cs) x) : ∃ xs, x = .agg xs ∧ VRs M cs xs := by
  cases h with | agg _ xs hl h => exact ⟨xs, rfl, .mk' hl h⟩
theorem VR.tup_inv {M : Plc} {cs : List AV} {x : Value} (h : VR M (.tup cs) x) : ∃ xs, x = .tuple xs ∧ VRs M cs xs := by
  cases h with | tup _ xs hl h => exact ⟨xs, rfl, .mk' hl h⟩
theorem VR.fn_inv {M : Plc} {f : FuncId} {cs : List AV} {x : Value} (h : VR M (.fn f cs) x) : ∃ xs, x = .func (.func f) #[] xs ∧ VRs M cs xs := by
  cases h with | fn _ _ xs hl h => exact ⟨xs, rfl, .mk' hl h⟩

/-- More is known. -/
def Le (M M' : Plc) : Prop := ∀ id ver pl, M id ver = some pl → M' id ver = some pl
theorem Le.refl (M : Plc) : Le M M := fun _ _ _ h => h
theorem Le.trans {M M' M'' : Plc} (h : Le M M') (h' : Le M' M'') : Le M M'' := fun _ _ _ e => h' _ _ _ (h _ _ _ e)

theorem VR.mono {M M' : Plc} (hm : Le M M') {v : AV} {x : Value} (h : VR M v x) : VR M' v x := by
  induction h with
  | dead x => exact .dead x
  | bool b => exact .bool b
  | int k n => exact .int k n
  | str s => exact .str s
  | nilp => exact .nilp
  | ptr id off ver pl h => exact .ptr id off ver pl (hm _ _ _ h)
  | nilsl => exact .nilsl
  | esl a => exact .esl a
  | sl id off len ver sz cap a pl h hs hc hl he ha => exact .sl id off len ver sz cap a pl (hm _ _ _ h) hs hc hl he ha
  | nilm => exact .nilm
  | map id pl h => exact .map id pl (hm _ _ _ h)
  | nilf => exact .nilf
  | fn f cs xs hl _ ih => exact .fn f cs xs hl ih
  | agg cs xs hl _ ih => exact .agg cs xs hl ih
  | tup cs xs hl _ ih => exact .tup cs xs hl ih
theorem VRs.mono {M M' : Plc} (hm : Le M M') {cs : List AV} {xs : Array Value} (h : VRs M cs xs) : VRs M' cs xs :=
  ⟨h.1, fun i x hx => let ⟨y, hy, hv⟩ := h.2 i x hx; ⟨y, hy, hv.mono hm⟩⟩

theorem VR.one_cell {M : Plc} {v : AV} {x : Value} (h : VR M v x) (h1 : v.one = true) : x.oneCell' = true := by
  cases h <;> first | rfl | simp [AV.one] at h1
theorem VR.cells_one {M : Plc} {v : AV} {x : Value} (h : VR M v x) (h1 : v.one = true) : v.cells = [v] ∧ x.cells = #[x] := by
  cases h <;> first | exact ⟨rfl, rfl⟩ | simp [AV.one] at h1

theorem VRs.one {M : Plc} {v : AV} {x : Value} (h : VR M v x) : VRs M [v] #[x] :=
  ⟨rfl, fun i y hy => by
    cases i with
    | zero => simp at hy; subst hy; exact ⟨x, rfl, h⟩
    | succ i => simp at hy⟩

theorem VR.cells {M : Plc} {v : AV} {x : Value} (h : VR M v x) (hd : v.isDead = false) : VRs M v.cells x.cells := by
  cases h with
  | dead x => simp [AV.isDead] at hd
  | agg cs xs hl h => exact .mk' hl h
  | bool b => exact .one (.bool b)
  | int k n => exact .one (.int k n)
  | str s => exact .one (.str s)
  | nilp => exact .one .nilp
  | ptr id off ver pl h => exact .one (.ptr id off ver pl h)
  | nilsl => exact .one .nilsl
  | esl a => exact .one (.esl a)
  | sl id off len ver sz cap a pl h hs hc hl he ha => exact .one (.sl id off len ver sz cap a pl h hs hc hl he ha)
  | nilm => exact .one .nilm
  | map id pl h => exact .one (.map id pl h)
  | nilf => exact .one .nilf
  | fn f cs xs hl h => exact .one (.fn f cs xs hl h)
  | tup cs xs hl h => exact .one (.tup cs xs hl h)

theorem VR.ofV1 {M : Plc} (x : Value) : VR M (ofV1 x) x := by
  unfold Va.ofV1
  split <;> first | exact .dead _ | constructor
theorem VRs.ofList {M : Plc} (xs : Array Value) : VRs M (xs.toList.map Va.ofV1) xs :=
  ⟨by simp, fun i x hx => by
    simp only [List.getElem?_map, Option.map_eq_some_iff] at hx
    obtain ⟨y, hy, rfl⟩ := hx
    exact ⟨y, by simpa using hy, .ofV1 y⟩⟩
theorem VR.ofV {M : Plc} (x : Value) : VR M (ofV x) x := by
  unfold Va.ofV
  split
  · exact .agg' (.ofList _)
  · exact .tup [] ⟨[]⟩ rfl (fun i h => by simp at h)
  · exact .ofV1 _

/-- The cells of a row, from a base on. -/
def CellsR (M : Plc) (c : List AV) (n : Nat) (arr : Array Value) (base : Nat) : Prop :=
  ∀ (i : Nat) (x : AV), i < n → c[i]? = some x → ∃ y, arr[base + i]? = some y ∧ VR M x y

/-- The heap stands for the world's blocks. -/
structure HR (M : Plc) (H : Heap) (w : World) : Prop where
  cells : ∀ id c e born ro, H[id]? = some (.cells c e born ro) → ∀ v pl, M id v = some pl →
    v ≤ c.length ∧ pl.ro = ro ∧
    (born ≤ v → ∃ arr el fz, w.heap[pl.blk]? = some (.cells arr el fz) ∧ pl.base + v ≤ arr.size ∧ CellsR M c v arr pl.base ∧
      (ro = false → pl.base = 0 ∧ fz = (0, 0) ∧ arr.size = pl.cap * pl.sz ∧ v ≤ pl.cap * pl.sz ∧ el = e))
  maps : ∀ id es, H[id]? = some (.map es) → ∀ v pl, M id v = some pl → (v = 0 ∧ pl.ro = false) ∧
    ∃ (es' : Array MapEntry) (clock : Nat), w.heap[pl.blk]? = some (.map es' clock) ∧ es.length = es'.size ∧
      ∀ (i : Nat) (k x : AV), es[i]? = some (k, x) → ∃ m : MapEntry, es'[i]? = some m ∧ VR M k m.key ∧ VR M x m.val
  excl : ∀ id v pl id' v' pl', M id v = some pl → M id' v' = some pl' → id ≠ id' → pl.blk = pl'.blk → pl.ro = true ∧ pl'.ro = true
  inb : ∀ id v pl, M id v = some pl → pl.blk < w.heap.size

/-- What lies outside of what the heap's own objects own is as it was; and what is owned now was owned, or is new. -/
structure Fr (M : Plc) (H : Heap) (w : World) (M' : Plc) (H' : Heap) (w' : World) : Prop where
  le : Le M M'
  beyond : ∀ id, H'.length ≤ id → M' id = M id
  len : H.length ≤ H'.length
  os : w'.os = w.os
  output : w'.output = w.output
  tape : w'.tape = w.tape
  size : w.heap.size ≤ w'.heap.size
  block : ∀ b, b < w.heap.size → (∀ id v pl, id < H.length → M id v = some pl → pl.ro = false → pl.blk ≠ b) → w'.heap[b]? = w.heap[b]?
  new : ∀ id v pl, id < H'.length → M' id v = some pl → pl.ro = false → pl.blk < w.heap.size → ∃ v₀ pl₀, id < H.length ∧ M id v₀ = some pl₀ ∧ pl₀.ro = false ∧ pl₀.blk = pl.blk

/-- No object has the numbers that are still free. -/
def Free (M : Plc) (a b : Nat) : Prop := ∀ id v, a ≤ id → id < b → M id v = none
theorem Free.mono {M : Plc} {a b c d : Nat} (h : Free M a b) (h1 : a ≤ c) (h2 : d ≤ b) : Free M c d := fun id v p q => h id v (by omega) (by omega)

theorem Fr.refl (M : Plc) (H : Heap) (w : World) : Fr M H w M H w :=
  ⟨.refl M, fun _ _ => rfl, Nat.le_refl _, rfl, rfl, rfl, Nat.le_refl _, fun _ _ _ => rfl, fun id v pl hi h hr _ => ⟨v, pl, hi, h, hr, rfl⟩⟩
theorem Fr.trans {M M₁ M₂ : Plc} {H H₁ H₂ : Heap} {w w₁ w₂ : World} (h : Fr M H w M₁ H₁ w₁) (k : Fr M₁ H₁ w₁ M₂ H₂ w₂) : Fr M H w M₂ H₂ w₂ := by
  refine ⟨h.le.trans k.le, fun id hi => (k.beyond id hi).trans (h.beyond id (by have := k.len; omega)), Nat.le_trans h.len k.len,
    k.os.trans h.os, k.output.trans h.output, k.tape.trans h.tape, Nat.le_trans h.size k.size, ?_, ?_⟩
  · intro b hb hn
    rw [k.block b (by have := h.size; omega) ?_, h.block b hb hn]
    intro id v pl hi hM hr he
    obtain ⟨v₀, pl₀, hi₀, h₀, hr₀, hb₀⟩ := h.new id v pl hi hM hr (by omega)
    exact hn id v₀ pl₀ hi₀ h₀ hr₀ (by omega)
  · intro id v pl hi hM hr hb
    obtain ⟨v₁, pl₁, hi₁, h₁, hr₁, hb₁⟩ := k.new id v pl hi hM hr (by have := h.size; omega)
    obtain ⟨v₀, pl₀, hi₀, h₀, hr₀, hb₀⟩ := h.new id v₁ pl₁ hi₁ h₁ hr₁ (by omega)
    exact ⟨v₀, pl₀, hi₀, h₀, hr₀, by omega⟩

/-- A draw turns nothing. -/
theorem HR.drew {M : Plc} {H : Heap} {w w' : World} (h : HR M H w) (hh : w'.heap = w.heap) : HR M H w' :=
  ⟨by rw [hh]; exact h.cells, by rw [hh]; exact h.maps, h.excl, by rw [hh]; exact h.inb⟩

end Go.Va
