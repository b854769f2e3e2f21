/- Rules for proofs by WS: laziness, steps, loops; slices that show a list. -/
import Derived.Test.YtkofbgicfmojjaaVaZ
set_option linter.unusedSimpArgs false
set_option linter.unusedVariables false
set_option linter.unusedSectionVars false
namespace Go.Va

theorem wp1_mono {C : Ctx} {op : Op} {ρ : SE} {H : Heap} {D : SD} {K K' : AV → Heap → SD → Prop} (hk : ∀ v H D, K v H D → K' v H D) (h : wp1 C op ρ H D K) : wp1 C op ρ H D K' := by
  unfold wp1 at h ⊢
  split at h
  · split at h
    · rename_i g cap hf; exact F.mono h fun _ _ => hk _ _ _
    · exact h.elim
  · split at h
    · exact hk _ _ _ h
    · exact h.elim
  · obtain ⟨v, H', h1, h2⟩ := h
    exact ⟨v, H', h1, hk _ _ _ h2⟩

theorem wpo_mono {C : Ctx} {Q Q' : SQ} (hq : ∀ ρ H D, Q ρ H D → Q' ρ H D) : ∀ {l : List SO} {ρ : SE} {H : Heap} {D : SD}, wpo C l ρ H D Q → wpo C l ρ H D Q'
  | [], _, _, _, h => hq _ _ _ h
  | o :: l, ρ, H, D, h => by
    simp only [wpo] at h ⊢
    split at h
    · rename_i hg; try simp only [hg]
      exact wp1_mono (fun v H D h => wpo_mono hq h) h
    · rename_i g w hg
      try simp only [hg]
      split at h
      · rename_i b hb
        try simp only [hb]
        split at h
        · rename_i hbw; rw [if_pos hbw]; exact wp1_mono (fun v H D h => wpo_mono hq h) h
        · rename_i hbw; rw [if_neg hbw]; exact wpo_mono hq h
      · exact h.elim
      · rename_i h1 h2
        exact wpo_mono hq h

theorem wpoL_mono {C : Ctx} {Q Q' : List (SE × Heap) → SQ} (hq : ∀ L ρ H D, Q L ρ H D → Q' L ρ H D) : ∀ {l : List SO} {L : List (SE × Heap)} {ρ : SE} {H : Heap} {D : SD}, wpoL C l L ρ H D Q → wpoL C l L ρ H D Q'
  | [], _, _, _, _, h => hq _ _ _ _ h
  | o :: l, L, ρ, H, D, h => by
    simp only [wpoL] at h ⊢
    split at h
    · rename_i hg; try simp only [hg]
      exact wp1_mono (fun v H D h => wpoL_mono hq h) h
    · rename_i g w hg
      try simp only [hg]
      split at h
      · rename_i b hb
        try simp only [hb]
        split at h
        · rename_i hbw; rw [if_pos hbw]; exact wp1_mono (fun v H D h => wpoL_mono hq h) h
        · rename_i hbw; rw [if_neg hbw]; exact wpoL_mono hq h
      · exact h.elim
      · exact wpoL_mono hq h

theorem WS_mono {C : Ctx} : ∀ {c : SC} {N N' : SQ} {X X' : Nat → SQ} {R R' : SQ} {ρ : SE} {H : Heap} {D : SD}, (∀ ρ H D, N ρ H D → N' ρ H D) → (∀ j ρ H D, X j ρ H D → X' j ρ H D) → (∀ ρ H D, R ρ H D → R' ρ H D) →
    WS C c N X R ρ H D → WS C c N' X' R' ρ H D
  | .skip, N, N', X, X', R, R', ρ, H, D, hn, hx, hr, h => hn _ _ _ h
  | .reg ops ps, N, N', X, X', R, R', ρ, H, D, hn, hx, hr, h => by
    simp only [WS] at h ⊢
    cases ps with
    | nil => exact wpo_mono hn h
    | cons => exact wpoL_mono (fun L ρ H D h => ⟨h.1, hn _ _ _ h.2⟩) h
  | .seq a b, N, N', X, X', R, R', ρ, H, D, hn, hx, hr, h => by
    simp only [WS] at h ⊢
    exact WS_mono (fun _ _ _ h => WS_mono hn hx hr h) hx hr h
  | .cond c a b, N, N', X, X', R, R', ρ, H, D, hn, hx, hr, h => by
    simp only [WS] at h ⊢
    split at h
    · rename_i t ht
      try simp only [ht]
      split at h
      · rename_i tt; rw [if_pos tt]; exact WS_mono hn hx hr h
      · rename_i tt; rw [if_neg tt]; exact WS_mono hn hx hr h
    · exact h.elim
  | .block id c, N, N', X, X', R, R', ρ, H, D, hn, hx, hr, h => by
    simp only [WS] at h ⊢
    refine WS_mono hn (fun j ρ H D h => ?_) hr h
    by_cases hj : j = id
    · simp only [hj, if_true] at h ⊢; exact hn _ _ _ h
    · simp only [hj, if_false] at h ⊢; exact hx _ _ _ _ h
  | .loop c, N, N', X, X', R, R', ρ, H, D, hn, hx, hr, h => by
    simp only [WS] at h ⊢
    obtain ⟨k, h⟩ := h
    refine ⟨k, ?_⟩
    induction k generalizing ρ H D with
    | zero => exact h
    | succ k ih => exact WS_mono (fun _ _ _ h => ih _ _ _ h) hx hr h
  | .exit j, N, N', X, X', R, R', ρ, H, D, hn, hx, hr, h => hx _ _ _ _ h
  | .ret, N, N', X, X', R, R', ρ, H, D, hn, hx, hr, h => hr _ _ _ h

theorem itW_le {C : Ctx} {c : SC} {X : Nat → SQ} {R : SQ} : ∀ {k m : Nat}, k ≤ m → ∀ {ρ : SE} {H : Heap} {D : SD}, itW (fun n => WS C c n X R) k ρ H D → itW (fun n => WS C c n X R) m ρ H D
  | 0, _, _, _, _, _, h => h.elim
  | k + 1, 0, hk, _, _, _, _ => by omega
  | k + 1, m + 1, hk, _, _, _, h => WS_mono (fun _ _ _ h => itW_le (by omega) h) (fun _ _ _ _ h => h) (fun _ _ _ h => h) h

/-- A loop by an invariant with a measure. -/
theorem loop_rule {C : Ctx} {c : SC} {N : SQ} {X : Nat → SQ} {R : SQ} {ρ : SE} {H : Heap} {D : SD} (I : Nat → SQ) (k : Nat) (h0 : I k ρ H D)
    (hs : ∀ k ρ H D, I k ρ H D → WS C c (fun ρ' H' D' => ∃ k', k' < k ∧ I k' ρ' H' D') X R ρ H D) : WS C (.loop c) N X R ρ H D := by
  refine ⟨k + 1, ?_⟩
  suffices ∀ k ρ H D, I k ρ H D → itW (fun n => WS C c n X R) (k + 1) ρ H D from this _ _ _ _ h0
  intro k
  induction k using Nat.strongRecOn with
  | ind k ih =>
    intro ρ H D hi
    refine WS_mono ?_ (fun _ _ _ _ h => h) (fun _ _ _ h => h) (hs k ρ H D hi)
    rintro ρ' H' D' ⟨k', hk', hi'⟩
    exact itW_le (by omega) (ih k' hk' ρ' H' D' hi')

/-- Unlocked. -/
def UN (p : Prop) : Prop := p
/-- A branch; what stands behind it is locked till its condition is known. -/
def Br (b : Bool) (A B : Prop) : Prop := if b = true then A else B
theorem Br_true {A B : Prop} : Br true A B = UN A := rfl
theorem Br_false {A B : Prop} : Br false A B = UN B := rfl
theorem Br_not {b : Bool} {A B : Prop} : Br (!b) A B = Br b B A := by cases b <;> rfl
theorem Br_dec {p : Prop} [Decidable p] {A B : Prop} (h1 : p → UN A) (h2 : ¬ p → UN B) : Br (decide p) A B := by
  by_cases h : p
  · rw [decide_eq_true h]; exact h1 h
  · rw [decide_eq_false h]; exact h2 h
theorem Br_bool {b : Bool} {A B : Prop} (h1 : b = true → UN A) (h2 : b = false → UN B) : Br b A B := by
  cases b
  · exact h2 rfl
  · exact h1 rfl
/-- A branch by a value. -/
def BrV (v : AV) (A B : Prop) : Prop := match v with
  | .bool t => if t = true then A else B
  | _ => False
theorem BrV_bool {b : Bool} {A B : Prop} : BrV (.bool b) A B = Br b A B := rfl
/-- A guard. -/
def Gd (v : AV) (w : Bool) (A B : Prop) : Prop := match v with
  | .bool b => if b = w then A else B
  | .dead => False
  | _ => B
theorem Gd_bool_true {b : Bool} {A B : Prop} : Gd (.bool b) true A B = Br b A B := rfl
theorem Gd_bool_false {b : Bool} {A B : Prop} : Gd (.bool b) false A B = Br b B A := by cases b <;> rfl
theorem Gd_tup {w : Bool} {l : List AV} {A B : Prop} : Gd (.tup l) w A B = UN B := rfl

def pickA (c a b : AV) : Option AV := match c with
  | .bool t => some (if t then a else b)
  | _ => none
theorem pick_true {a b : AV} : pickA (.bool true) a b = some a := rfl
theorem pick_false {a b : AV} : pickA (.bool false) a b = some b := rfl
theorem pick_bool {t : Bool} {a b : AV} : pickA (.bool t) a b = some (if t = true then a else b) := rfl
def loadP (P : Program) (t : TypeId) (H : Heap) (v : AV) : Option AV := match v with
  | .ptr id off ver => loadA P t H id off ver
  | _ => none
def storeP (P : Program) (t : TypeId) (H : Heap) (v x : AV) : Option Heap := match v with
  | .ptr id off ver => storeA P t H id off ver x
  | _ => none
def nilCkA (v : AV) : Option AV := match v with
  | .ptr id off ver => some (.ptr id off ver)
  | .fn f c => some (.fn f c)
  | _ => none
theorem nilCk_ptr {id off ver : Nat} : nilCkA (.ptr id off ver) = some (.ptr id off ver) := rfl
def extrA (v : AV) (i : Nat) : Option AV := match v with
  | .tup vs => vs[i]?
  | _ => none
theorem extr0 {a : AV} {l : List AV} : extrA (.tup (a :: l)) 0 = some a := rfl
theorem extr1 {a b : AV} {l : List AV} : extrA (.tup (a :: b :: l)) 1 = some b := rfl
theorem extr2 {a b c : AV} {l : List AV} : extrA (.tup (a :: b :: c :: l)) 2 = some c := rfl
def allocA (o : Option AV) (t : TypeId) (H : Heap) : Option (AV × Heap) := o.map fun z => (.ptr H.length 0 z.cells.length, H ++ [.cells z.cells t 0 false])
theorem alloc_some {z : AV} {t : TypeId} {H : Heap} : allocA (some z) t H = some (.ptr H.length 0 z.cells.length, H ++ [.cells z.cells t 0 false]) := rfl
def boxA (v : AV) (t : TypeId) (H : Heap) : Option (AV × Heap) := if v.isDead = true then none else some (.ptr H.length 0 v.cells.length, H ++ [.cells v.cells t 0 false])
theorem box_live {v : AV} {t : TypeId} {H : Heap} (h : v.isDead = false) : boxA v t H = some (.ptr H.length 0 v.cells.length, H ++ [.cells v.cells t 0 false]) := by
  unfold boxA; rw [if_neg (by simp [h])]
theorem box_agg {l : List AV} {t : TypeId} {H : Heap} : boxA (.agg l) t H = some (.ptr H.length 0 l.length, H ++ [.cells l t 0 false]) := rfl
theorem box_int {k : IntKind} {n : Int} {t : TypeId} {H : Heap} : boxA (.int k n) t H = some (.ptr H.length 0 1, H ++ [.cells [.int k n] t 0 false]) := rfl
theorem box_bool {b : Bool} {t : TypeId} {H : Heap} : boxA (.bool b) t H = some (.ptr H.length 0 1, H ++ [.cells [.bool b] t 0 false]) := rfl

section
variable {C : Ctx} {ρ : SE} {H : Heap} {D : SD} {N R : SQ} {X : Nat → SQ} {d : Option Tmp}
theorem upO_some {t : Tmp} {v : AV} : upO ρ (some t) v = up ρ t v := rfl
theorem upO_none {v : AV} : upO ρ none v = ρ := rfl
theorem up_get {d t : Nat} {v : AV} : up ρ d v t = if t = d then v else ρ t := rfl
theorem ope_tmp {t : Nat} : ope ρ (.tmp t) = ρ t := rfl
theorem ope_const {v : Value} : ope ρ (.const v) = ofV v := rfl
theorem ope_func {f : FuncId} : ope ρ (.func f) = .fn f [] := rfl
theorem ofV_int {k : IntKind} {n : Int} : ofV (.int k n) = .int k n := rfl
theorem ofV_bool {b : Bool} : ofV (.bool b) = .bool b := rfl
theorem ofV_nilsl : ofV (.slice none 0 0) = .nilsl := rfl
theorem ofV_nilp : ofV (.pointer none) = .nilp := rfl
theorem ofV_nilm : ofV (.map none) = .nilm := rfl
theorem ofV_str {s : ByteArray} : ofV (.string s) = .str s := rfl
theorem ofV_agg {a : List Value} : ofV (.agg ⟨a⟩) = .agg (a.map ofV1) := rfl
theorem ofV1_int {k : IntKind} {n : Int} : ofV1 (.int k n) = .int k n := rfl
theorem ofV1_bool {b : Bool} : ofV1 (.bool b) = .bool b := rfl

/-- A call of a function value. -/
def Cl (C : Ctx) (f : AV) (args : List AV) (H : Heap) (Q : AV → Heap → Prop) : Prop := match f with
  | .fn g cap => F C g (args ++ cap) H Q
  | _ => False

def WL := @WS
theorem UN_WL {c : SC} : UN (WL C c N X R ρ H D) = WS C c N X R ρ H D := rfl
theorem WS_skip : WS C .skip N X R ρ H D = N ρ H D := rfl
theorem WS_reg {l : List SO} : WS C (.reg l []) N X R ρ H D = wpo C l ρ H D N := rfl
/-- What stands behind a region of loose looks. -/
def thenL (C : Ctx) (l : List SO) (ps : List (Nat × Nat)) (N : SQ) (L : List (SE × Heap)) : SQ := fun ρ H D => (∀ q ∈ ps, sameAt C l L q) ∧ N ρ H D
theorem WS_regL {l : List SO} {p : Nat × Nat} {ps : List (Nat × Nat)} : WS C (.reg l (p :: ps)) N X R ρ H D = wpoL C l [] ρ H D (thenL C l (p :: ps) N) := rfl
theorem thenL_eq {l : List SO} {L : List (SE × Heap)} {ps : List (Nat × Nat)} : thenL C l ps N L ρ H D = ((∀ q ∈ ps, sameAt C l L q) ∧ N ρ H D) := rfl
theorem WS_seq {a b : SC} : WS C (.seq a b) N X R ρ H D = WS C a (WS C b N X R) X R ρ H D := rfl
theorem WS_cond {c : Operand} {a b : SC} : WS C (.cond c a b) N X R ρ H D = BrV (ope ρ c) (WL C a N X R ρ H D) (WL C b N X R ρ H D) := rfl
/-- Exits, by a block. -/
def XB (id : Nat) (N : SQ) (X : Nat → SQ) (j : Nat) : SQ := if j = id then N else X j
theorem WS_block {id : Nat} {c : SC} : WS C (.block id c) N X R ρ H D = WS C c N (XB id N X) R ρ H D := rfl
theorem XB_eq {id j : Nat} : XB id N X j = if j = id then N else X j := rfl
theorem WS_exit {j : Nat} : WS C (.exit j) N X R ρ H D = X j ρ H D := rfl
theorem WS_ret : WS C .ret N X R ρ H D = R ρ H D := rfl

end

/-- Steps. -/
def PS (C : Ctx) (o : Option AV) (d : Option Tmp) (l : List SO) (ρ : SE) (H : Heap) (D : SD) (Q : SQ) : Prop := ∃ v, o = some v ∧ wpo C l (upO ρ d v) H D Q
def ES (C : Ctx) (o : Option (AV × Heap)) (d : Option Tmp) (l : List SO) (ρ : SE) (H : Heap) (D : SD) (Q : SQ) : Prop := ∃ v H', o = some (v, H') ∧ wpo C l (upO ρ d v) H' D Q
def HS (C : Ctx) (o : Option Heap) (d : Option Tmp) (l : List SO) (ρ : SE) (H : Heap) (D : SD) (Q : SQ) : Prop := ∃ H', o = some H' ∧ wpo C l (upO ρ d (.tup [])) H' D Q
def CS (C : Ctx) (f : AV) (args : List AV) (d : Option Tmp) (l : List SO) (ρ : SE) (H : Heap) (D : SD) (Q : SQ) : Prop := Cl C f args H fun v H' => wpo C l (upO ρ d v) H' D Q
def wpZ := @wpo
def wpS (C : Ctx) (d : Option Tmp) (l : List SO) (ρ : SE) (H : Heap) (D : SD) (Q : SQ) : Prop := wpo C l (upO ρ d (.tup [])) H D Q
section
variable {C : Ctx} {ρ : SE} {H : Heap} {D : SD} {Q : SQ} {l : List SO} {d : Option Tmp}
theorem wpo_nil : wpo C [] ρ H D Q = Q ρ H D := rfl
theorem UN_Z : UN (wpZ C l ρ H D Q) = wpo C l ρ H D Q := rfl
theorem UN_S : UN (wpS C d l ρ H D Q) = wpo C l (upO ρ d (.tup [])) H D Q := rfl
theorem wpo_guard {op : Op} {g : Tmp} {w : Bool} : wpo C (⟨d, op, some (g, w)⟩ :: l) ρ H D Q = Gd (ρ g) w (wpZ C (⟨d, op, none⟩ :: l) ρ H D Q) (wpS C d l ρ H D Q) := by
  simp only [wpo, Gd, wpZ, wpS]
  cases ρ g <;> rfl
theorem PS_some {v : AV} : PS C (some v) d l ρ H D Q = wpo C l (upO ρ d v) H D Q := by
  refine propext ⟨?_, fun h => ⟨v, rfl, h⟩⟩
  rintro ⟨v', h, hk⟩; cases h; exact hk
theorem ES_some {v : AV} {H' : Heap} : ES C (some (v, H')) d l ρ H D Q = wpo C l (upO ρ d v) H' D Q := by
  refine propext ⟨?_, fun h => ⟨v, H', rfl, h⟩⟩
  rintro ⟨v', H', h, hk⟩; cases h; exact hk
theorem HS_some {H' : Heap} : HS C (some H') d l ρ H D Q = wpo C l (upO ρ d (.tup [])) H' D Q := by
  refine propext ⟨?_, fun h => ⟨H', rfl, h⟩⟩
  rintro ⟨v', h, hk⟩; cases h; exact hk
theorem PS_map {o : Option AV} : ES C (o.map (·, H)) d l ρ H D Q = PS C o d l ρ H D Q := by
  cases o with
  | none => simp only [ES, PS, Option.map_none]; refine propext ⟨?_, ?_⟩ <;> (rintro ⟨_, h⟩; simp at h)
  | some v => rw [PS_some]; exact ES_some
theorem HS_map {o : Option Heap} : ES C (o.map (AV.tup [], ·)) d l ρ H D Q = HS C o d l ρ H D Q := by
  cases o with
  | none => simp only [ES, HS, Option.map_none]; refine propext ⟨?_, ?_⟩ <;> (rintro ⟨_, h⟩; simp at h)
  | some v => rw [HS_some]; exact ES_some
theorem CS_fn {g : FuncId} {args : List AV} {Q' : AV → Heap → Prop} (h : F C g args H Q') (hk : ∀ v H', Q' v H' → wpo C l (upO ρ d v) H' D Q) : CS C (.fn g []) args d l ρ H D Q := by
  simp only [CS, Cl, List.append_nil]; exact h.mono hk
theorem wp_call {f : Operand} {args : List Operand} {ts : Array TypeId} : wpo C (⟨d, .call { callee := .value f, args := ⟨args⟩, argTypes := ts }, none⟩ :: l) ρ H D Q = CS C (ope ρ f) (args.map (ope ρ)) d l ρ H D Q := by
  simp only [wpo, wp1, CS, Cl]
  cases ope ρ f <;> rfl
theorem wp_move {x : Operand} : wpo C (⟨d, .move x, none⟩ :: l) ρ H D Q = wpo C l (upO ρ d (ope ρ x)) H D Q := ES_some (d := d) (H := H)
theorem wp_assign {x : Operand} : wpo C (⟨d, .assign x, none⟩ :: l) ρ H D Q = wpo C l (upO ρ d (ope ρ x)) H D Q := ES_some (d := d) (H := H)
theorem wp_pick {c a b : Operand} : wpo C (⟨d, .pick c a b, none⟩ :: l) ρ H D Q = PS C (pickA (ope ρ c) (ope ρ a) (ope ρ b)) d l ρ H D Q := by
  rw [← PS_map]
  simp only [wpo, wp1, opE, ES, pickA]
  cases ope ρ c <;> rfl
theorem wp_load {t : TypeId} {a : Operand} : wpo C (⟨d, .load t a, none⟩ :: l) ρ H D Q = PS C (loadP C.P t H (ope ρ a)) d l ρ H D Q := by
  rw [← PS_map]
  simp only [wpo, wp1, opE, ES, loadP]
  cases ope ρ a <;> rfl
theorem wp_store {t : TypeId} {a x : Operand} : wpo C (⟨d, .store t a x, none⟩ :: l) ρ H D Q = HS C (storeP C.P t H (ope ρ a) (ope ρ x)) d l ρ H D Q := by
  rw [← HS_map]
  simp only [wpo, wp1, opE, ES, storeP]
  cases ope ρ a <;> rfl
theorem wp_nilCheck {x : Operand} : wpo C (⟨d, .nilCheck x, none⟩ :: l) ρ H D Q = PS C (nilCkA (ope ρ x)) d l ρ H D Q := by
  rw [← PS_map]
  simp only [wpo, wp1, opE, ES, nilCkA]
  cases ope ρ x <;> rfl
theorem wp_extract {x : Operand} {i : Nat} : wpo C (⟨d, .extract x i, none⟩ :: l) ρ H D Q = PS C (extrA (ope ρ x) i) d l ρ H D Q := by
  rw [← PS_map]
  simp only [wpo, wp1, opE, ES, extrA]
  cases ope ρ x <;> rfl
theorem wp_alloc {t : TypeId} : wpo C (⟨d, .alloc t, none⟩ :: l) ρ H D Q = ES C (allocA (zeroA C.P t) t H) d l ρ H D Q := rfl
theorem wp_box {t : TypeId} {x : Operand} : wpo C (⟨d, .box t x, none⟩ :: l) ρ H D Q = ES C (boxA (ope ρ x) t H) d l ρ H D Q := by
  simp only [wpo, wp1, opE, ES, boxA]
  cases hx : ope ρ x <;> rfl
theorem wp_build {t : TypeId} {parts : List (Nat × Operand)} : wpo C (⟨d, .build t ⟨parts⟩, none⟩ :: l) ρ H D Q = PS C (buildA C.P t (parts.map fun p => (p.1, ope ρ p.2))) d l ρ H D Q := PS_map
theorem wp_buildSlice {t : TypeId} {n : Nat} {parts : List (Nat × Operand)} : wpo C (⟨d, .buildSlice t n ⟨parts⟩, none⟩ :: l) ρ H D Q = ES C (buildSliceA C.P t n (parts.map fun p => (p.1, ope ρ p.2)) H) d l ρ H D Q := rfl
theorem wp_binOp {op : BinOp} {t u : TypeId} {x y : Operand} : wpo C (⟨d, .binOp op t x y u, none⟩ :: l) ρ H D Q = PS C (binA C op t (ope ρ x) (ope ρ y)) d l ρ H D Q := PS_map
theorem wp_unOp {op : UnOp} {t : TypeId} {x : Operand} : wpo C (⟨d, .unOp op t x, none⟩ :: l) ρ H D Q = PS C (unA op (ope ρ x)) d l ρ H D Q := PS_map
theorem wp_convert {s t : TypeId} {x : Operand} : wpo C (⟨d, .convert s t x, none⟩ :: l) ρ H D Q = PS C (convA C.P s t (ope ρ x)) d l ρ H D Q := PS_map
theorem wp_makeMap {t : TypeId} : wpo C (⟨d, .makeMap t none, none⟩ :: l) ρ H D Q = wpo C l (upO ρ d (.map H.length)) (H ++ [.map []]) D Q := ES_some (d := d) (H := H)
theorem wp_makeSlice {t : TypeId} {n c : Operand} : wpo C (⟨d, .makeSlice t n c, none⟩ :: l) ρ H D Q = ES C (makeSliceA C.P t (ope ρ n) (ope ρ c) H) d l ρ H D Q := rfl
theorem wp_slice {t : TypeId} {x : Operand} {lo hi : Option Operand} : wpo C (⟨d, .slice t x lo hi none, none⟩ :: l) ρ H D Q = PS C (sliceA C.P t (ope ρ x) (lo.map (ope ρ)) (hi.map (ope ρ))) d l ρ H D Q := PS_map
theorem wp_fieldAddr {s : TypeId} {x : Operand} {f : Nat} : wpo C (⟨d, .fieldAddr s x f, none⟩ :: l) ρ H D Q = PS C (fieldAddrA C.P s (ope ρ x) f) d l ρ H D Q := PS_map
theorem wp_field {s : TypeId} {x : Operand} {f : Nat} : wpo C (⟨d, .field s x f, none⟩ :: l) ρ H D Q = PS C (fieldA C.P s (ope ρ x) f) d l ρ H D Q := PS_map
theorem wp_indexAddr {t : TypeId} {x i : Operand} : wpo C (⟨d, .indexAddr t x i, none⟩ :: l) ρ H D Q = PS C (indexAddrA C.P t (ope ρ x) (ope ρ i)) d l ρ H D Q := PS_map
theorem wp_index {t : TypeId} {x i : Operand} : wpo C (⟨d, .index t x i, none⟩ :: l) ρ H D Q = PS C (indexA C.P t (ope ρ x) (ope ρ i)) d l ρ H D Q := PS_map
theorem wp_lookup {t : TypeId} {x k : Operand} {ok : Bool} : wpo C (⟨d, .lookup t x k ok, none⟩ :: l) ρ H D Q = PS C (lookupA C t (ope ρ x) (ope ρ k) ok H) d l ρ H D Q := PS_map
theorem wp_mapUpdate {t : TypeId} {m k v : Operand} : wpo C (⟨d, .mapUpdate t m k v, none⟩ :: l) ρ H D Q = HS C (mapUpdateA C t (ope ρ m) (ope ρ k) (ope ρ v) H) d l ρ H D Q := HS_map
theorem wp_insert {t : TypeId} {m k v : Operand} : wpo C (⟨d, .insert t m k v, none⟩ :: l) ρ H D Q = HS C (mapUpdateA C t (ope ρ m) (ope ρ k) (ope ρ v) H) d l ρ H D Q := HS_map
theorem wp_len {x : Operand} {t : TypeId} : wpo C (⟨d, .call { callee := .builtin .len, args := ⟨[x]⟩, argTypes := ⟨[t]⟩ }, none⟩ :: l) ρ H D Q = PS C (lenA C.P t (ope ρ x)) d l ρ H D Q := PS_map
theorem wp_append {x y : Operand} {t : TypeId} : wpo C (⟨d, .call { callee := .builtin .append, args := ⟨[x, y]⟩, argTypes := ⟨[t, t]⟩ }, none⟩ :: l) ρ H D Q = ES C (appendA C.P t t (ope ρ x) (ope ρ y) H) d l ρ H D Q := by
  have : builtinA C.P .append ⟨[t, t]⟩ [ope ρ x, ope ρ y] H = appendA C.P t t (ope ρ x) (ope ρ y) H := by simp [builtinA]
  simp only [wpo, wp1, opE, ES, List.map, this]
theorem wp_min {x y : Operand} {ts : Array TypeId} : wpo C (⟨d, .call { callee := .builtin .min, args := ⟨[x, y]⟩, argTypes := ts }, none⟩ :: l) ρ H D Q = PS C (minA (ope ρ x) (ope ρ y)) d l ρ H D Q := PS_map
end


end Go.Va
