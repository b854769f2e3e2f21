/- Part 5 of the proof: PT PS PN PU SA SB SC SD SE SG SH SI. -/
import Derived.Test.YtokbecghdofohaaVaK4
section
set_option linter.unusedSimpArgs false
set_option linter.unusedVariables false
set_option linter.unusedSectionVars false
namespace Go.Va

inductive Tm where
  | num (k : Nat)
  | wd (k : Nat)
  | un (t : Tm)
  | bi (op : Int) (a b : Tm)
  deriving DecidableEq, Inhabited

def nodeT (n : Nd) (f : Nat → Tm) : Tm := if n.op = 1 then .num n.k.toNat else if n.op = 2 then .wd n.k.toNat else if n.op = 384 then .un (f n.a.toNat) else .bi (n.op - 256) (f n.a.toNat) (f n.b.toNat)
def trees (l : List Nd) : Nat → List Tm
  | 0 => []
  | m + 1 => trees l m ++ [match l[m]? with
    | some n => nodeT n fun j => (trees l m).getD j (.num 0)
    | none => .num 0]
theorem trees_len {l : List Nd} : ∀ m, (trees l m).length = m
  | 0 => rfl
  | m + 1 => by simp [trees, trees_len m]
/-- The tree at a place. -/
def tr (l : List Nd) (i : Nat) : Tm := (trees l l.length).getD i (.num 0)
theorem trees_get {l : List Nd} {m j : Nat} (hj : j < m) : ∀ {M : Nat}, m ≤ M → (trees l M).getD j (.num 0) = (trees l m).getD j (.num 0)
  | 0, h => by omega
  | M + 1, h => by
    rcases Nat.eq_or_lt_of_le h with h' | h'
    · rw [h']
    · rw [← trees_get hj (M := M) (by omega)]
      simp only [trees, List.getD_eq_getElem?_getD]
      rw [List.getElem?_append_left (by rw [trees_len]; omega)]

/-- A row in which each node may stand where it does. -/
def May (l : List Nd) : Prop := ∀ i (h : i < l.length), mayB l[i] i = true
theorem May.of_check {l : List Nd} (h : (checkP l).2 = 0) : May l := (checkP_ok h).2

theorem nodeT_congr {n : Nd} {i : Nat} {f g : Nat → Tm} (hm : mayB n i = true) (h : ∀ p ∈ partsZ n, f p.toNat = g p.toNat) : nodeT n f = nodeT n g := by
  unfold nodeT
  split
  · rfl
  · rename_i h1
    split
    · rfl
    · rename_i h2
      have ha := h _ (partsZ_a hm h1 h2)
      split
      · rw [ha]
      · rename_i h3
        rw [ha, h _ (partsZ_b hm h1 h2 h3)]

theorem tr_at {l : List Nd} (hl : May l) {i : Nat} (hi : i < l.length) : tr l i = nodeT l[i] (tr l) := by
  unfold tr
  rw [trees_get (Nat.lt_succ_self i) (show i + 1 ≤ l.length from hi)]
  have : (trees l (i + 1)).getD i (.num 0) = nodeT l[i] fun j => (trees l i).getD j (.num 0) := by
    simp only [trees, List.getElem?_eq_getElem hi, List.getD_eq_getElem?_getD]
    rw [List.getElem?_append_right (by rw [trees_len]; exact Nat.le_refl _), trees_len, Nat.sub_self]; rfl
  rw [this]
  refine nodeT_congr (hl i hi) fun p hp => ?_
  have := partsZ_lt (hl i hi) p hp
  exact (trees_get (by omega) (by omega)).symm

theorem May.app {l r : List Nd} (h : May (l ++ r)) : May l := fun i hi => by
  have := h i (by rw [List.length_append]; omega)
  rwa [List.getElem_append_left hi] at this
theorem tr_app {l r : List Nd} (h : May (l ++ r)) : ∀ i, i < l.length → tr (l ++ r) i = tr l i := by
  intro i
  induction i using Nat.strongRecOn with
  | ind i ih =>
    intro hi
    have hi' : i < (l ++ r).length := by rw [List.length_append]; omega
    rw [tr_at h hi', tr_at h.app hi, List.getElem_append_left hi]
    refine nodeT_congr (h.app i hi) fun p hp => ?_
    have := partsZ_lt (h.app i hi) p hp
    exact ih _ (by omega) (by omega)

/-- The value of a tree. -/
def ev (rc : Nat → Nat) : Tm → Nat
  | .num k => k
  | .wd k => rc k
  | .un t => (aluN 128 (ev rc t) 0).1
  | .bi op a b => (aluN op (ev rc a) (ev rc b)).1
theorem vals_ev {l : List Nd} (hl : May l) {rc : Nat → Nat} : ∀ i, i < l.length → (valsL l rc l.length).getD i 0 = ev rc (tr l i) := by
  intro i
  induction i using Nat.strongRecOn with
  | ind i ih =>
    intro hi
    have hp : ∀ p ∈ partsZ l[i], (valsL l rc i).getD p.toNat 0 = ev rc (tr l p.toNat) := by
      intro p hp
      have hpl := partsZ_lt (hl i hi) p hp
      rw [← ih p.toNat (by omega) (by omega)]
      exact (valsL_get (m := i) (by omega) (by omega)).symm
    rw [valsL_at hi hi, tr_at hl hi]
    unfold valN nodeT
    split
    · rfl
    · rename_i h1
      split
      · rfl
      · rename_i h2
        have ha := hp _ (partsZ_a (hl i hi) h1 h2)
        split
        · rename_i h3
          simp only [ev]
          rw [ha, h3]
          exact congrArg Prod.fst alu_neg0
        · rename_i h3
          simp only [ev]
          rw [ha, hp _ (partsZ_b (hl i hi) h1 h2 h3)]

/-- A row that may be, and has each node once. -/
structure Nice (l : List Nd) : Prop where
  may : May l
  nd : l.Nodup
  ok : ∀ n ∈ l, n.ok
theorem Nice.nil : Nice [] := ⟨fun i h => by simp at h, List.nodup_nil, by simp⟩

theorem may_ext {n m : Nd} {i j : Nat} {f : Nat → Tm} (hn : mayB n i = true) (hm : mayB m j = true) (on : n.ok) (om : m.ok) (h : nodeT n f = nodeT m f) (hf : ∀ p ∈ partsZ n, ∀ q ∈ partsZ m, f p.toNat = f q.toNat → p.toNat = q.toNat) : n = m := by
  obtain ⟨op, a, b, k⟩ := n
  obtain ⟨op', a', b', k'⟩ := m
  obtain ⟨ok1, ok2, -, -⟩ := on
  obtain ⟨om1, om2, -, -⟩ := om
  simp only at ok1 ok2 om1 om2
  unfold nodeT at h
  simp only at h
  by_cases h1 : op = 1
  · subst h1
    by_cases g1 : op' = 1
    · subst g1
      simp [mayB] at hn hm h
      obtain ⟨rfl, rfl⟩ := hn
      obtain ⟨rfl, rfl⟩ := hm
      congr 1; omega
    · simp only [if_true, if_neg g1] at h
      split at h
      · cases h
      · split at h <;> cases h
  · by_cases h2 : op = 2
    · subst h2
      by_cases g1 : op' = 1
      · subst g1; simp at h
      · by_cases g2 : op' = 2
        · subst g2
          simp [mayB] at hn hm h
          obtain ⟨rfl, rfl, -⟩ := hn
          obtain ⟨rfl, rfl, -⟩ := hm
          congr 1; omega
        · simp only [if_neg h1, if_true, if_neg g1, if_neg g2] at h
          split at h <;> cases h
    · by_cases g1 : op' = 1
      · subst g1; simp only [if_neg h1, if_neg h2, if_true] at h; split at h <;> cases h
      · by_cases g2 : op' = 2
        · subst g2; simp only [if_neg h1, if_neg h2, if_neg g1, if_true] at h; split at h <;> cases h
        · simp only [if_neg h1, if_neg h2, if_neg g1, if_neg g2] at h
          obtain ⟨-, k0, a0, a1, b0, b1⟩ := may_alu hn h1 h2
          obtain ⟨-, k0', a0', a1', b0', b1'⟩ := may_alu hm g1 g2
          have pa := partsZ_a hn h1 h2
          have qa := partsZ_a hm g1 g2
          simp only at k0 a0 b0 k0' a0' b0' pa qa
          by_cases h3 : op = 384
          · subst h3
            by_cases g3 : op' = 384
            · subst g3
              simp only [if_true, Tm.un.injEq] at h
              have := hf _ pa _ qa h
              simp [mayB, alus] at hn hm
              congr 1 <;> omega
            · simp [g3] at h
          · by_cases g3 : op' = 384
            · simp [h3, g3] at h
            · simp only [if_neg h3, if_neg g3, Tm.bi.injEq] at h
              obtain ⟨e1, e2, e3⟩ := h
              have pb := partsZ_b hn h1 h2 h3
              have qb := partsZ_b hm g1 g2 g3
              have f1 := hf _ pa _ qa e2
              have f2 := hf _ pb _ qb e3
              simp only at f1 f2
              congr 1 <;> omega

theorem nodup_at {l : List Nd} (h : l.Nodup) {i j : Nat} (hi : i < l.length) (hj : j < l.length) (e : l[i] = l[j]) : i = j := by
  induction l generalizing i j with
  | nil => simp at hi
  | cons n l ih =>
    rw [List.nodup_cons] at h
    cases i with
    | zero =>
      cases j with
      | zero => rfl
      | succ j => simp at e; exact absurd (e ▸ List.getElem_mem _) h.1
    | succ i =>
      cases j with
      | zero => simp at e; exact absurd (e ▸ List.getElem_mem _) h.1
      | succ j => simp at e; rw [ih h.2 (by simpa using hi) (by simpa using hj) e]

/-- Places in a nice row are alike just if their trees are. -/
theorem tr_inj {l : List Nd} (hl : Nice l) : ∀ i j, i < l.length → j < l.length → tr l i = tr l j → i = j := by
  intro i
  induction i using Nat.strongRecOn with
  | ind i ih =>
    intro j hi hj h
    rw [tr_at hl.may hi, tr_at hl.may hj] at h
    refine nodup_at hl.nd hi hj (may_ext (hl.may i hi) (hl.may j hj) (hl.ok _ (List.getElem_mem hi)) (hl.ok _ (List.getElem_mem hj)) h fun p hp q hq e => ?_)
    have h1 := partsZ_lt (hl.may i hi) p hp
    have h2 := partsZ_lt (hl.may j hj) q hq
    exact ih p.toNat (by omega) q.toNat (by omega) (by omega) e

theorem may_mono {n : Nd} {i j : Nat} (h : mayB n i = true) (hij : i ≤ j) : mayB n j = true := by
  unfold mayB at h ⊢
  split at h
  · rename_i h1; rw [if_pos h1]; exact h
  · rename_i h1
    rw [if_neg h1]
    split at h
    · rename_i h2; rw [if_pos h2]; exact h
    · rename_i h2
      rw [if_neg h2]
      split at h
      · cases h
      · rename_i h3
        rw [if_neg (by intro h; apply h3; rcases h with h | h | h | h; exact .inl h; exact .inr (.inl h); exact .inr (.inr (.inl h)); exact .inr (.inr (.inr (by omega))))]
        split at h
        · rename_i h4; rw [if_pos h4]; exact h
        · rename_i h4
          rw [if_neg h4]
          have := of_decide_eq_true h
          exact decide_eq_true (by omega)

theorem Nice.put {l : List Nd} (hl : Nice l) {n : Nd} (hm : mayB n l.length = true) (ho : n.ok) : Nice (putP l n) ∧ (∃ r, putP l n = l ++ r) ∧ tr (putP l n) ((putP l n).idxOf n) = nodeT n (tr l) := by
  have hix := putP_idx (l := l) (n := n)
  have hget : (putP l n)[(putP l n).idxOf n] = n := List.getElem_idxOf hix
  have hN : Nice (putP l n) ∧ ∃ r, putP l n = l ++ r := by
    unfold putP
    split
    · exact ⟨hl, [], by simp⟩
    · rename_i h
      refine ⟨⟨fun i hi => ?_, ?_, fun m hm => ?_⟩, [n], rfl⟩
      · rw [List.length_append] at hi
        rw [List.getElem_append]
        split
        · exact hl.may i _
        · have : i = l.length := by simp at hi; omega
          subst this; simpa using hm
      · rw [List.nodup_append]
        exact ⟨hl.nd, by simp, fun a ha b hb e => by simp at hb; subst hb; subst e; exact h ha⟩
      · rcases List.mem_append.1 hm with hm | hm
        · exact hl.ok m hm
        · simp at hm; subst hm; exact ho
  obtain ⟨h1, r, hr⟩ := hN
  refine ⟨h1, ⟨r, hr⟩, ?_⟩
  rw [tr_at h1.may hix, hget]
  refine nodeT_congr hm fun p hp => ?_
  have := partsZ_lt hm p hp
  have hmay := h1.may
  rw [hr] at hmay ⊢
  exact tr_app hmay _ (by omega)

theorem nodeT_renum {n : Nd} {i : Nat} {out : Nat → Nat} {f : Nat → Tm} (hm : mayB n i = true) : nodeT (renum n out) f = nodeT n fun j => f (out j) := by
  unfold renum
  split
  · rename_i h
    unfold nodeT
    rcases h with h | h
    · simp [h]
    · simp [h]
  · rename_i h
    have h1 : ¬ n.op = 1 := fun e => h (.inl e)
    have h2 : ¬ n.op = 2 := fun e => h (.inr e)
    split
    · rename_i h3
      simp only [nodeT, h1, h2, h3, if_true, if_false, Int.toNat_natCast]
    · rename_i h3
      simp only [nodeT, h1, h2, h3, if_false, Int.toNat_natCast]

/-- A row put into a nice one: the trees stay. -/
theorem into_tr {P0 l : List Nd} (hP : Nice P0) (hl : May l) (ho : ∀ n ∈ l, n.ok) : ∀ {m : Nat}, m ≤ l.length → Nice (intoP P0 l m).1 ∧ (∃ r, (intoP P0 l m).1 = P0 ++ r) ∧ ∀ i, i < m → tr (intoP P0 l m).1 ((intoP P0 l m).2.getD i 0) = tr l i
  | 0, _ => ⟨hP, ⟨[], by simp [intoP]⟩, fun i h => by omega⟩
  | m + 1, h => by
    have hm : m < l.length := h
    obtain ⟨h1, ⟨r, hr⟩, h3⟩ := into_tr hP hl ho (m := m) (by omega)
    have hmm : mayB (renum l[m] fun j => (intoP P0 l m).2.getD j 0) (intoP P0 l m).1.length = true := renum_may (hl m hm) (intoP_lt (by omega))
    have hok : (renum l[m] fun j => (intoP P0 l m).2.getD j 0).ok := by
      obtain ⟨k1, k2, k3, k4⟩ := ho _ (List.getElem_mem hm)
      have e : (renum l[m] fun j => (intoP P0 l m).2.getD j 0).op = l[m].op ∧ (renum l[m] fun j => (intoP P0 l m).2.getD j 0).k = l[m].k := by
        unfold renum; split
        · exact ⟨rfl, rfl⟩
        · split <;> exact ⟨rfl, rfl⟩
      unfold Nd.ok; rw [e.1, e.2]; exact ⟨k1, k2, k3, k4⟩
    obtain ⟨g1, ⟨s, hs⟩, g3⟩ := h1.put hmm hok
    rw [intoP_succ hm]
    refine ⟨g1, ⟨r ++ s, by simp only; rw [hs, hr, List.append_assoc]⟩, fun i hi => ?_⟩
    have hlen := (intoP_len (P0 := P0) (l := l) (m := m) (by omega)).1
    rcases Nat.eq_or_lt_of_le (Nat.le_of_lt_succ hi) with e | h'
    · subst e
      have := getD_last (S := (intoP P0 l i).2) (x := (putP (intoP P0 l i).1 (renum l[i] fun j => (intoP P0 l i).2.getD j 0)).idxOf (renum l[i] fun j => (intoP P0 l i).2.getD j 0))
      rw [hlen] at this
      simp only
      rw [this, g3, nodeT_renum (hl i hm), tr_at hl hm]
      refine nodeT_congr (hl i hm) fun p hp => ?_
      have := partsZ_lt (hl i hm) p hp
      exact h3 _ (by omega)
    · simp only
      rw [getD_pre (by omega), ← h3 i h']
      have hlt := intoP_lt (P0 := P0) (l := l) (m := m) (by omega) i h'
      have hmay := g1.may
      rw [hs] at hmay ⊢
      exact tr_app hmay _ hlt
end Go.Va
end

section
set_option linter.unusedSimpArgs false
set_option linter.unusedVariables false
set_option linter.unusedSectionVars false
namespace Go.Va

def eitherB (op : Int) : Bool := decide (op = 0 ∨ op = 32 ∨ op = 64 ∨ op = 80 ∨ op = 160)
def ops9 : List Int := [0, 16, 32, 48, 64, 80, 96, 112, 160]
def alu1 (op : Int) (a b : Nat) : Nat := (aluN op a b).1
def redK (op : Int) (k : Nat) : Nat := if op = 96 ∨ op = 112 then k % 32 else k
/-- What comes of a number on the right: the other side (1), a number (2), or neither. -/
def plainP (op : Int) (k : Nat) : Nat × Nat :=
  if op = 0 ∨ op = 16 ∨ op = 160 ∨ op = 96 ∨ op = 112 then (if k = 0 then (1, 0) else (0, 0))
  else if op = 64 then (if k = 0 then (1, 0) else if k = 4294967295 then (2, 4294967295) else (0, 0))
  else if op = 80 then (if k = 0 then (2, 0) else if k = 4294967295 then (1, 0) else (0, 0))
  else if op = 32 ∨ op = 48 then (if k = 0 then (2, 0) else if k = 1 then (1, 0) else (0, 0))
  else (0, 0)
def numOf : Tm → Option Nat
  | .num k => some k
  | _ => none

/-- Of a term and a number. -/
def rtT (op : Int) (t : Tm) (k : Nat) : Tm :=
  if (plainP op (redK op k)).1 = 1 then t else if (plainP op (redK op k)).1 = 2 then .num (plainP op (redK op k)).2 else
  match t with
  | .bi op' a (.num j) => if eitherB op = true ∧ op' = op then (match numOf a with
    | some x => .num (alu1 op x (alu1 op j (redK op k)))
    | none => rtT op a (alu1 op j (redK op k))) else .bi op (.bi op' a (.num j)) (.num (redK op k))
  | t => .bi op t (.num (redK op k))
termination_by structural t

def negT : Tm → Tm
  | .num k => .num (alu1 128 k 0)
  | .un t => t
  | t => .un t
/-- Of two terms. -/
def mkT (op : Int) (a b : Tm) : Tm :=
  if op = 128 then negT a else
  match numOf a, numOf b with
  | some j, some k => .num (alu1 op j k)
  | some j, none => if eitherB op = true then rtT op b j else .bi op a b
  | none, some k => rtT op a k
  | none, none => if a = b ∧ (op = 16 ∨ op = 160) then .num 0 else if a = b ∧ (op = 64 ∨ op = 80) then a else .bi op a b
def anewT : Tm → Tm
  | .num k => .num k
  | .wd k => .wd k
  | .un t => negT (anewT t)
  | .bi op a b => mkT op (anewT a) (anewT b)

theorem numOf_some {t : Tm} {k : Nat} (h : numOf t = some k) : t = .num k := by
  cases t <;> simp [numOf] at h
  rw [h]

/-- Well formed. -/
def wfT : Tm → Prop
  | .num k => k < 4294967296
  | .wd k => k < 16
  | .un t => wfT t
  | .bi op a b => op ∈ ops9 ∧ wfT a ∧ wfT b
theorem ops9_ne {op : Int} (h : op ∈ ops9) : op ≠ 128 := by intro e; subst e; revert h; decide
theorem alu1_lt {op : Int} {a b : Nat} (ha : a < 4294967296) (hb : b < 4294967296) : alu1 op a b < 4294967296 := aluN_lt ha hb
theorem redK_lt {op : Int} {k : Nat} (h : k < 4294967296) : redK op k < 4294967296 := by unfold redK; split <;> omega
theorem plainP_lt {op : Int} {k : Nat} : (plainP op k).2 < 4294967296 := by
  unfold plainP
  repeat' split
  all_goals decide
theorem wf_rt {op : Int} (ho : op ∈ ops9) : ∀ {t : Tm} {k : Nat}, wfT t → k < 4294967296 → wfT (rtT op t k) := by
  intro t
  induction t with
  | num j =>
    intro k ht hk
    unfold rtT
    split
    · exact ht
    · split
      · exact plainP_lt
      · exact ⟨ho, ht, redK_lt hk⟩
  | wd j =>
    intro k ht hk
    unfold rtT
    split
    · exact ht
    · split
      · exact plainP_lt
      · exact ⟨ho, ht, redK_lt hk⟩
  | un t ih =>
    intro k ht hk
    unfold rtT
    split
    · exact ht
    · split
      · exact plainP_lt
      · exact ⟨ho, ht, redK_lt hk⟩
  | bi op' a b iha ihb =>
    intro k ht hk
    unfold rtT
    split
    · exact ht
    · split
      · exact plainP_lt
      · split
        · rename_i op'' a' j e
          cases e
          have hj : j < 4294967296 := ht.2.2
          split
          · cases hn : numOf a with
            | some x =>
              have := numOf_some hn
              subst this
              exact alu1_lt ht.2.1 (alu1_lt hj (redK_lt hk))
            | none => exact iha ht.2.1 (alu1_lt hj (redK_lt hk))
          · exact ⟨ho, ht, redK_lt hk⟩
        · exact ⟨ho, ht, redK_lt hk⟩
theorem wf_neg {t : Tm} (h : wfT t) : wfT (negT t) := by
  cases t with
  | num k => exact alu1_lt h (by decide)
  | wd k => exact h
  | un t => exact h
  | bi op a b => exact h
theorem wf_mk {op : Int} (ho : op ∈ ops9 ∨ op = 128) {a b : Tm} (ha : wfT a) (hb : wfT b) : wfT (mkT op a b) := by
  unfold mkT
  split
  · exact wf_neg ha
  · rename_i h
    have ho : op ∈ ops9 := by
      rcases ho with h' | h'
      · exact h'
      · exact absurd h' h
    split
    · rename_i j k h1 h2
      rw [numOf_some h1] at ha
      rw [numOf_some h2] at hb
      exact alu1_lt ha hb
    · rename_i j h1 h2
      split
      · rw [numOf_some h1] at ha; exact wf_rt ho hb ha
      · exact ⟨ho, ha, hb⟩
    · rename_i k h1 h2
      rw [numOf_some h2] at hb; exact wf_rt ho ha hb
    · split
      · show (0 : Nat) < _; decide
      · split
        · exact ha
        · exact ⟨ho, ha, hb⟩
theorem wf_anew {t : Tm} (h : wfT t) : wfT (anewT t) := by
  induction t with
  | num k => exact h
  | wd k => exact h
  | un t ih => exact wf_neg (ih h)
  | bi op a b iha ihb => exact wf_mk (.inl h.1) (iha h.2.1) (ihb h.2.2)

/-- Values. -/
theorem ev_lt {rc : Nat → Nat} (hr : ∀ j, rc j < 4294967296) {t : Tm} (h : wfT t) : ev rc t < 4294967296 := by
  induction t with
  | num k => exact h
  | wd k => exact hr k
  | un t ih => exact aluN_lt (ih h) (by decide)
  | bi op a b iha ihb => exact aluN_lt (iha h.2.1) (ihb h.2.2)
theorem alu_red {op : Int} {x k : Nat} : alu1 op x (redK op k) = alu1 op x k := by
  unfold redK
  split
  · rename_i h
    rcases h with rfl | rfl <;> simp [alu1, aluN]
  · rfl
theorem and_all {x : Nat} (hx : x < 4294967296) : x &&& 4294967295 = x := by
  have := Nat.and_two_pow_sub_one_eq_mod x 32
  simp at this; rw [this]; omega
theorem or_all {x : Nat} (hx : x < 4294967296) : x ||| 4294967295 = 4294967295 := by
  apply Nat.eq_of_testBit_eq
  intro i
  rw [Nat.testBit_or]
  have e : (4294967295 : Nat) = 2 ^ 32 - 1 := rfl
  rw [e, Nat.testBit_two_pow_sub_one]
  by_cases h : i < 32
  · simp [h]
  · have : x.testBit i = false := Nat.testBit_lt_two_pow (Nat.lt_of_lt_of_le hx (Nat.pow_le_pow_right (n := 2) (by decide) (show 32 ≤ i by omega)))
    simp [h, this]
theorem plain_ok {op : Int} {x k : Nat} (hx : x < 4294967296) : ((plainP op k).1 = 1 → alu1 op x k = x) ∧ ((plainP op k).1 = 2 → alu1 op x k = (plainP op k).2) := by
  unfold plainP
  split
  · rename_i h
    split
    · rename_i hk; subst hk
      rcases h with rfl | rfl | rfl | rfl | rfl <;> simp [alu1, aluN] <;> omega
    · simp
  · split
    · rename_i h; subst h
      split
      · rename_i hk; subst hk; simp [alu1, aluN]
      · split
        · rename_i hk; subst hk; simp [alu1, aluN, or_all hx]
        · simp
    · split
      · rename_i h; subst h
        split
        · rename_i hk; subst hk; simp [alu1, aluN]
        · split
          · rename_i hk; subst hk; simp [alu1, aluN, and_all hx]
          · simp
      · split
        · rename_i h
          split
          · rename_i hk; subst hk
            rcases h with rfl | rfl <;> simp [alu1, aluN]
          · split
            · rename_i hk; subst hk
              rcases h with rfl | rfl <;> simp [alu1, aluN] <;> omega
            · simp
        · simp
theorem alu_assoc {op : Int} {x j k : Nat} (h : eitherB op = true) : alu1 op (alu1 op x j) k = alu1 op x (alu1 op j k) := by
  unfold eitherB at h
  rcases of_decide_eq_true h with rfl | rfl | rfl | rfl | rfl
  · simp [alu1, aluN]; omega
  · simp [alu1, aluN]; rw [Nat.mul_assoc]
  · simp [alu1, aluN, Nat.or_assoc]
  · simp [alu1, aluN, Nat.and_assoc]
  · simp [alu1, aluN, Nat.xor_assoc]
theorem alu_comm {op : Int} {x k : Nat} (h : eitherB op = true) : alu1 op x k = alu1 op k x := by
  unfold eitherB at h
  rcases of_decide_eq_true h with rfl | rfl | rfl | rfl | rfl
  · simp [alu1, aluN, Nat.add_comm]
  · simp [alu1, aluN, Nat.mul_comm]
  · simp [alu1, aluN, Nat.or_comm]
  · simp [alu1, aluN, Nat.and_comm]
  · simp [alu1, aluN, Nat.xor_comm]
theorem ev_rt {op : Int} {rc : Nat → Nat} (hr : ∀ j, rc j < 4294967296) : ∀ {t : Tm} {k : Nat}, wfT t → k < 4294967296 → ev rc (rtT op t k) = alu1 op (ev rc t) k := by
  have base : ∀ {t : Tm} {k : Nat}, wfT t → k < 4294967296 → ((plainP op (redK op k)).1 = 1 → ev rc t = alu1 op (ev rc t) k) ∧ ((plainP op (redK op k)).1 = 2 → (plainP op (redK op k)).2 = alu1 op (ev rc t) k) := by
    intro t k ht hk
    have := plain_ok (op := op) (k := redK op k) (ev_lt hr ht)
    rw [alu_red] at this
    exact ⟨fun h => (this.1 h).symm, fun h => (this.2 h).symm⟩
  have last : ∀ {t : Tm} {k : Nat}, ev rc (.bi op t (.num (redK op k))) = alu1 op (ev rc t) k := fun {t k} => alu_red
  intro t
  induction t with
  | num j =>
    intro k ht hk
    unfold rtT
    split
    · rename_i h; exact (base ht hk).1 h
    · split
      · rename_i h; exact (base ht hk).2 h
      · exact last
  | wd j =>
    intro k ht hk
    unfold rtT
    split
    · rename_i h; exact (base ht hk).1 h
    · split
      · rename_i h; exact (base ht hk).2 h
      · exact last
  | un t ih =>
    intro k ht hk
    unfold rtT
    split
    · rename_i h; exact (base ht hk).1 h
    · split
      · rename_i h; exact (base ht hk).2 h
      · exact last
  | bi op' a b iha ihb =>
    intro k ht hk
    unfold rtT
    split
    · rename_i h; exact (base ht hk).1 h
    · split
      · rename_i h; exact (base ht hk).2 h
      · split
        · rename_i op'' a' j e
          cases e
          have hj : j < 4294967296 := ht.2.2
          split
          · rename_i hc
            obtain ⟨hc, rfl⟩ := hc
            have e0 : ev rc (.bi op' a (.num j)) = alu1 op' (ev rc a) j := rfl
            have e1 : alu1 op' j (redK op' k) = alu1 op' j k := alu_red
            rw [e0, alu_assoc hc, e1]
            cases hn : numOf a with
            | some x =>
              have := numOf_some hn
              subst this; rfl
            | none => exact iha ht.2.1 (alu1_lt hj hk)
          · exact last
        · exact last
theorem ev_neg {rc : Nat → Nat} (hr : ∀ j, rc j < 4294967296) {t : Tm} (h : wfT t) : ev rc (negT t) = alu1 128 (ev rc t) 0 := by
  cases t with
  | num k => rfl
  | wd k => rfl
  | un t =>
    have := ev_lt hr (t := t) h
    simp only [negT, ev, alu1, aluN]
    simp; omega
  | bi op a b => rfl
theorem ev_mk {op : Int} {rc : Nat → Nat} (hr : ∀ j, rc j < 4294967296) {a b : Tm} (ha : wfT a) (hb : wfT b) : ev rc (mkT op a b) = alu1 op (ev rc a) (ev rc b) := by
  unfold mkT
  split
  · rename_i h; subst h
    rw [ev_neg hr ha]
    exact (congrArg Prod.fst alu_neg0).symm
  · split
    · rename_i j k h1 h2
      rw [numOf_some h1, numOf_some h2]; rfl
    · rename_i j h1 h2
      split
      · rename_i he
        rw [numOf_some h1] at ha ⊢
        rw [ev_rt hr hb ha, alu_comm he]; rfl
      · rfl
    · rename_i k h1 h2
      rw [numOf_some h2] at hb ⊢
      exact ev_rt hr ha hb
    · split
      · rename_i h
        obtain ⟨rfl, rfl | rfl⟩ := h
        · simp [ev, alu1, aluN]
        · simp [ev, alu1, aluN]
      · split
        · rename_i h
          obtain ⟨rfl, rfl | rfl⟩ := h
          · simp [alu1, aluN]
          · simp [alu1, aluN]
        · rfl
theorem ev_anew {rc : Nat → Nat} (hr : ∀ j, rc j < 4294967296) {t : Tm} (h : wfT t) : ev rc (anewT t) = ev rc t := by
  induction t with
  | num k => rfl
  | wd k => rfl
  | un t ih => simp only [anewT, ev]; rw [ev_neg hr (wf_anew (t := t) h), ih h]; rfl
  | bi op a b iha ihb => simp only [anewT, ev]; rw [ev_mk hr (wf_anew h.2.1) (wf_anew h.2.2), iha h.2.1, ihb h.2.2]; rfl
end Go.Va
end

section
set_option linter.unusedSimpArgs false
set_option linter.unusedVariables false
set_option linter.unusedSectionVars false
namespace Go.Va

def tsz : Tm → Nat
  | .num _ => 1
  | .wd _ => 1
  | .un t => 1 + tsz t
  | .bi _ a b => 1 + tsz a + tsz b
theorem tsz_pos {t : Tm} : 1 ≤ tsz t := by cases t <;> simp [tsz] <;> omega
def tws : Tm → List Nat
  | .num _ => []
  | .wd k => [k]
  | .un t => tws t
  | .bi _ a b => tws a ++ tws b

theorem rt_size {op : Int} : ∀ {t : Tm} {k : Nat}, tsz (rtT op t k) ≤ tsz t + 2 ∧ ∀ w ∈ tws (rtT op t k), w ∈ tws t := by
  have last : ∀ {t : Tm} {k : Nat}, tsz (.bi op t (.num k)) ≤ tsz t + 2 ∧ ∀ w ∈ tws (.bi op t (.num k)), w ∈ tws t := by
    intro t k
    refine ⟨by simp only [tsz]; omega, fun w hw => by simpa [tws] using hw⟩
  have two : ∀ {t : Tm} {n : Nat}, tsz (.num n) ≤ tsz t + 2 ∧ ∀ w ∈ tws (.num n), w ∈ tws t := by
    intro t n
    exact ⟨by simp only [tsz]; omega, fun w hw => by simp [tws] at hw⟩
  have one : ∀ {t : Tm}, tsz t ≤ tsz t + 2 ∧ ∀ w ∈ tws t, w ∈ tws t := fun {t} => ⟨by omega, fun w hw => hw⟩
  intro t
  induction t with
  | num j =>
    intro k; unfold rtT; split
    · exact one
    · split
      · exact two
      · exact last
  | wd j =>
    intro k; unfold rtT; split
    · exact one
    · split
      · exact two
      · exact last
  | un t ih =>
    intro k; unfold rtT; split
    · exact one
    · split
      · exact two
      · exact last
  | bi op' a b iha ihb =>
    intro k; unfold rtT; split
    · exact one
    · split
      · exact two
      · split
        · rename_i op'' a' j e
          cases e
          split
          · split
            · exact two
            · have := iha (k := alu1 op j (redK op k))
              refine ⟨by have h := this.1; simp only [tsz]; omega, fun w hw => ?_⟩
              have h := this.2 w hw
              simp [tws, h]
          · exact last
        · exact last
theorem neg_size {t : Tm} : tsz (negT t) ≤ 1 + tsz t ∧ ∀ w ∈ tws (negT t), w ∈ tws t := by
  cases t with
  | num k => exact ⟨by simp [negT, tsz], fun w hw => by simp [negT, tws] at hw⟩
  | wd k => exact ⟨by simp [negT, tsz], fun w hw => hw⟩
  | un t => exact ⟨by simp [negT, tsz]; omega, fun w hw => hw⟩
  | bi op a b => exact ⟨by simp [negT, tsz], fun w hw => hw⟩
theorem mk_size {op : Int} {a b : Tm} (h : op ≠ 128) : tsz (mkT op a b) ≤ 1 + tsz a + tsz b ∧ ∀ w ∈ tws (mkT op a b), w ∈ tws a ∨ w ∈ tws b := by
  unfold mkT
  rw [if_neg h]
  have pa := tsz_pos (t := a)
  have pb := tsz_pos (t := b)
  have bid : tsz (.bi op a b) ≤ 1 + tsz a + tsz b ∧ ∀ w ∈ tws (.bi op a b), w ∈ tws a ∨ w ∈ tws b := ⟨Nat.le_refl _, fun w hw => by simpa [tws] using hw⟩
  split
  · exact ⟨by simp only [tsz]; omega, fun w hw => by simp [tws] at hw⟩
  · rename_i j h1 h2
    split
    · have := rt_size (op := op) (t := b) (k := j)
      exact ⟨by have := this.1; omega, fun w hw => .inr (this.2 w hw)⟩
    · exact bid
  · rename_i k h1 h2
    have := rt_size (op := op) (t := a) (k := k)
    exact ⟨by have := this.1; omega, fun w hw => .inl (this.2 w hw)⟩
  · split
    · exact ⟨by simp only [tsz]; omega, fun w hw => by simp [tws] at hw⟩
    · split
      · exact ⟨by omega, fun w hw => .inl hw⟩
      · exact bid
theorem anew_size {t : Tm} (h : wfT t) : tsz (anewT t) ≤ tsz t ∧ ∀ w ∈ tws (anewT t), w ∈ tws t := by
  induction t with
  | num k => exact ⟨Nat.le_refl _, fun w hw => hw⟩
  | wd k => exact ⟨Nat.le_refl _, fun w hw => hw⟩
  | un t ih =>
    obtain ⟨i1, i2⟩ := ih h
    have := neg_size (t := anewT t)
    exact ⟨by have := this.1; simp only [anewT, tsz]; omega, fun w hw => i2 w (this.2 w hw)⟩
  | bi op a b iha ihb =>
    obtain ⟨i1, i2⟩ := iha h.2.1
    obtain ⟨j1, j2⟩ := ihb h.2.2
    have := mk_size (op := op) (a := anewT a) (b := anewT b) (ops9_ne h.1)
    refine ⟨by have := this.1; simp only [anewT, tsz]; omega, fun w hw => ?_⟩
    simp only [tws, List.mem_append]
    rcases this.2 w hw with h | h
    · exact .inl (i2 w h)
    · exact .inr (j2 w h)
theorem anew_num {t : Tm} (h : wfT t) (hw : tws t = []) {rc : Nat → Nat} : anewT t = .num (ev rc t) := by
  induction t with
  | num k => rfl
  | wd k => simp [tws] at hw
  | un t ih => simp only [anewT]; rw [ih h hw]; rfl
  | bi op a b iha ihb =>
    simp only [tws, List.append_eq_nil_iff] at hw
    simp only [anewT]
    rw [iha h.2.1 hw.1, ihb h.2.2 hw.2]
    unfold mkT
    rw [if_neg (ops9_ne h.1)]; rfl

/-- No rule turns it. -/
def nfT : Tm → Prop
  | .num _ => True
  | .wd _ => True
  | .un t => nfT t ∧ numOf t = none ∧ (∀ s, t ≠ .un s)
  | .bi op a b => nfT a ∧ nfT b ∧ (numOf a = none ∨ (numOf b = none ∧ eitherB op = false)) ∧
      (∀ k, b = .num k → redK op k = k ∧ (plainP op k).1 ≠ 1 ∧ (plainP op k).1 ≠ 2 ∧ ∀ s j, a = .bi op s (.num j) → eitherB op = false) ∧
      (numOf a = none → numOf b = none → a = b → ¬ (op = 16 ∨ op = 160 ∨ op = 64 ∨ op = 80))
theorem redK_redK {op : Int} {k : Nat} : redK op (redK op k) = redK op k := by
  unfold redK; split <;> omega
theorem nf_rt {op : Int} (ho : op ∈ ops9) {t : Tm} {k : Nat} (ht : nfT t) (hn : numOf t = none) : nfT (rtT op t k) := by
  have fin : ∀ {t : Tm} {k : Nat}, nfT t → numOf t = none → (plainP op (redK op k)).1 ≠ 1 → (plainP op (redK op k)).1 ≠ 2 → (∀ s j, t = .bi op s (.num j) → eitherB op = false) → nfT (.bi op t (.num (redK op k))) := by
    intro t k ht hn h1 h2 h3
    refine ⟨ht, trivial, .inl hn, fun k' e => ?_, fun _ h => by simp [numOf] at h⟩
    cases e
    exact ⟨redK_redK, h1, h2, h3⟩
  unfold rtT
  split
  · exact ht
  · rename_i h1
    split
    · trivial
    · rename_i h2
      split
      · rename_i op' a j
        split
        · rename_i hc
          obtain ⟨hc, rfl⟩ := hc
          obtain ⟨na, -, n1, n2, -⟩ := ht
          have hna : numOf a = none := by
            rcases n1 with h | ⟨h, _⟩
            · exact h
            · simp [numOf] at h
          have hch : ∀ s i, a ≠ .bi op' s (.num i) := fun s i e => by
            have := (n2 j rfl).2.2.2 s i e
            rw [hc] at this; cases this
          rw [hna]
          simp only
          unfold rtT
          split
          · exact na
          · rename_i g1
            split
            · trivial
            · rename_i g2
              split
              · rename_i op'' a' j'
                split
                · rename_i hc'
                  obtain ⟨-, rfl⟩ := hc'
                  exact absurd rfl (hch a' j')
                · rename_i hc'
                  exact fin na hna g1 g2 fun s i e => absurd e (hch s i)
              · exact fin na hna g1 g2 fun s i e => absurd e (hch s i)
        · rename_i hc
          refine fin ht rfl h1 h2 fun s i e => ?_
          cases e
          cases he : eitherB op with
          | false => rfl
          | true => exact absurd ⟨he, rfl⟩ hc
      · rename_i hx
        exact fin ht hn h1 h2 fun s i e => absurd e (hx _ _ _)
theorem nf_neg {t : Tm} (h : nfT t) : nfT (negT t) := by
  cases t with
  | num k => trivial
  | wd k => exact ⟨h, rfl, fun s e => by cases e⟩
  | un t => exact h.1
  | bi op a b => exact ⟨h, rfl, fun s e => by cases e⟩
theorem nf_mk {op : Int} (ho : op ∈ ops9) {a b : Tm} (ha : nfT a) (hb : nfT b) : nfT (mkT op a b) := by
  unfold mkT
  rw [if_neg (ops9_ne ho)]
  split
  · trivial
  · rename_i j h1 h2
    split
    · exact nf_rt ho hb h2
    · rename_i he
      refine ⟨ha, hb, .inr ⟨h2, by simpa using he⟩, fun k e => by subst e; simp [numOf] at h2, fun h => by rw [h1] at h; cases h⟩
  · rename_i k h1 h2
    exact nf_rt ho ha h1
  · rename_i h1 h2
    split
    · trivial
    · rename_i g1
      split
      · exact ha
      · rename_i g2
        refine ⟨ha, hb, .inl h1, fun k e => by subst e; simp [numOf] at h2, fun _ _ e h => ?_⟩
        rcases h with h | h | h | h
        · exact g1 ⟨e, .inl h⟩
        · exact g1 ⟨e, .inr h⟩
        · exact g2 ⟨e, .inl h⟩
        · exact g2 ⟨e, .inr h⟩
theorem nf_anew {t : Tm} (h : wfT t) : nfT (anewT t) := by
  induction t with
  | num k => trivial
  | wd k => trivial
  | un t ih => exact nf_neg (ih h)
  | bi op a b iha ihb => exact nf_mk h.1 (iha h.2.1) (ihb h.2.2)
/-- What no rule turns comes again as it is. -/
theorem anew_nf {t : Tm} (hw : wfT t) (h : nfT t) : anewT t = t := by
  induction t with
  | num k => rfl
  | wd k => rfl
  | un t ih =>
    obtain ⟨h1, h2, h3⟩ := h
    simp only [anewT]
    rw [ih hw h1]
    cases t with
    | num k => simp [numOf] at h2
    | wd k => rfl
    | un s => exact absurd rfl (h3 s)
    | bi op a b => rfl
  | bi op a b iha ihb =>
    obtain ⟨h1, h2, h3, h4, h5⟩ := h
    obtain ⟨w1, w2, w3⟩ := hw
    simp only [anewT]
    rw [iha w2 h1, ihb w3 h2]
    unfold mkT
    rw [if_neg (ops9_ne w1)]
    split
    · rename_i j k e1 e2
      rcases h3 with h | ⟨h, _⟩
      · rw [e1] at h; cases h
      · rw [e2] at h; cases h
    · rename_i j e1 e2
      rcases h3 with h | ⟨_, h⟩
      · rw [e1] at h; cases h
      · rw [h]; rfl
    · rename_i k e1 e2
      have := numOf_some e2
      subst this
      obtain ⟨g1, g2, g3, g4⟩ := h4 k rfl
      unfold rtT
      rw [g1, if_neg g2, if_neg g3]
      split
      · rename_i op' a' j
        split
        · rename_i hc
          obtain ⟨hc, rfl⟩ := hc
          rw [g4 _ _ rfl] at hc; cases hc
        · rfl
      · rfl
    · rename_i e1 e2
      rw [if_neg (fun h => h5 e1 e2 h.1 (by rcases h.2 with h | h <;> simp [h])), if_neg (fun h => h5 e1 e2 h.1 (by rcases h.2 with h | h <;> simp [h]))]

/-- How often an op is done one behind the other, with numbers on the right. -/
def chn (op : Int) : Tm → Nat
  | .bi op' a b => if eitherB op = true ∧ op' = op ∧ (numOf b).isSome = true then chn op a + 1 else 0
  | _ => 0
theorem chn_tr {l : List Nd} (hl : May l) {op : Int} : ∀ i, i < l.length → chn op (tr l i) ≤ i := by
  intro i
  induction i using Nat.strongRecOn with
  | ind i ih =>
    intro hi
    rw [tr_at hl hi]
    unfold nodeT
    split
    · simp [chn]
    · rename_i h1
      split
      · simp [chn]
      · rename_i h2
        split
        · simp [chn]
        · rename_i h3
          have pa := partsZ_lt (hl i hi) _ (partsZ_a (hl i hi) h1 h2)
          have := ih l[i].a.toNat (by omega) (by omega)
          simp only [chn]
          split
          · omega
          · omega
end Go.Va
end

section
set_option linter.unusedSimpArgs false
set_option linter.unusedVariables false
set_option linter.unusedSectionVars false
namespace Go.Va

theorem mem_parts {n : Nd} {i : Nat} (hm : mayB n i = true) {p : Int} (hp : p ∈ partsZ n) : ¬ n.op = 1 ∧ ¬ n.op = 2 ∧ (p = n.a ∨ (¬ n.op = 384 ∧ p = n.b)) := by
  unfold partsZ at hp
  split at hp
  · simp at hp
  · rename_i h
    refine ⟨fun e => h (.inl e), fun e => h (.inr e), ?_⟩
    split at hp
    · simp at hp; exact .inl hp
    · rename_i h3
      simp at hp
      rcases hp with h | h
      · exact .inl h
      · exact .inr ⟨h3, h⟩

theorem sizes_tr {l : List Nd} (hl : May l) : ∀ i, i < l.length → (sizesL l l.length).getD i 0 = min (tsz (tr l i)) mostN := by
  intro i
  induction i using Nat.strongRecOn with
  | ind i ih =>
    intro hi
    have h0 : (sizesL l l.length).getD i 0 = szF (sizesL l i) (partsZ l[i]) := by
      rw [sizesL_get (Nat.lt_succ_self i) (show i + 1 ≤ l.length from hi)]
      simp only [sizesL, List.getElem?_eq_getElem hi]
      have := getD_last (S := sizesL l i) (x := szF (sizesL l i) (partsZ l[i]))
      rw [sizesL_len] at this; exact this
    have hp : ∀ p ∈ partsZ l[i], (sizesL l i).getD p.toNat 0 = min (tsz (tr l p.toNat)) mostN := fun p hp => by
      have hpl := partsZ_lt (hl i hi) p hp
      rw [← ih p.toNat (by omega) (by omega)]
      exact (sizesL_get (m := i) (by omega) (by omega)).symm
    rw [h0, tr_at hl hi]
    have hm := hl i hi
    have hpos : ∀ t, 1 ≤ tsz t := fun t => tsz_pos
    unfold nodeT
    by_cases h1 : l[i].op = 1
    · have : partsZ l[i] = [] := by unfold partsZ; rw [if_pos (.inl h1)]
      rw [this, if_pos h1]; simp [szF, tsz, mostN]
    · by_cases h2 : l[i].op = 2
      · have : partsZ l[i] = [] := by unfold partsZ; rw [if_pos (.inr h2)]
        rw [this, if_neg h1, if_pos h2]; simp [szF, tsz, mostN]
      · rw [if_neg h1, if_neg h2]
        by_cases h3 : l[i].op = 384
        · have e : partsZ l[i] = [l[i].a] := by unfold partsZ; rw [if_neg (by omega), if_pos h3]
          rw [e] at hp ⊢
          rw [if_pos h3]
          have := hp l[i].a (by simp)
          simp only [szF, List.foldl_cons, List.foldl_nil, this, tsz]
          have := hpos (tr l l[i].a.toNat)
          simp only [mostN]; omega
        · have e : partsZ l[i] = [l[i].a, l[i].b] := by unfold partsZ; rw [if_neg (by omega), if_neg h3]
          rw [e] at hp ⊢
          rw [if_neg h3]
          have ha := hp l[i].a (by simp)
          have hb := hp l[i].b (by simp)
          simp only [szF, List.foldl_cons, List.foldl_nil, ha, hb, tsz]
          have := hpos (tr l l[i].a.toNat)
          have := hpos (tr l l[i].b.toNat)
          simp only [mostN]; omega

/-- Parts of a tree. -/
def subs : Tm → List Tm
  | .num k => [.num k]
  | .wd k => [.wd k]
  | .un t => .un t :: subs t
  | .bi op a b => .bi op a b :: (subs a ++ subs b)
theorem subs_self {t : Tm} : t ∈ subs t := by cases t <;> simp [subs]
theorem subs_step {l : List Nd} (hl : May l) {a : Nat} (ha : a < l.length) {s : Tm} : s ∈ subs (tr l a) ↔ s = tr l a ∨ ∃ p ∈ partsZ l[a], s ∈ subs (tr l p.toNat) := by
  have hm := hl a ha
  have e := tr_at hl ha
  unfold nodeT at e
  unfold partsZ
  by_cases h1 : l[a].op = 1
  · rw [if_pos h1] at e
    rw [if_pos (.inl h1), e]; simp [subs]
  · by_cases h2 : l[a].op = 2
    · rw [if_neg h1, if_pos h2] at e
      rw [if_pos (.inr h2), e]; simp [subs]
    · rw [if_neg h1, if_neg h2] at e
      rw [if_neg (by omega)]
      by_cases h3 : l[a].op = 384
      · rw [if_pos h3] at e
        rw [if_pos h3, e]; simp [subs]
      · rw [if_neg h3] at e
        rw [if_neg h3, e]; simp [subs]
theorem Tr_subs {l : List Nd} (hl : May l) {a i : Nat} (ha : a < l.length) (h : Tr l a i) : tr l i ∈ subs (tr l a) := by
  induction h with
  | refl => exact subs_self
  | step h1 h2 g ih =>
    obtain ⟨hi, rfl⟩ := List.getElem?_eq_some_iff.1 h1
    have := partsZ_lt (hl _ hi) _ h2
    exact (subs_step hl hi).2 (.inr ⟨_, h2, ih (by omega)⟩)
theorem subs_Tr {l : List Nd} (hl : May l) {s : Tm} : ∀ a, a < l.length → s ∈ subs (tr l a) → ∃ i, Tr l a i ∧ i < l.length ∧ tr l i = s := by
  intro a
  induction a using Nat.strongRecOn with
  | ind a ih =>
    intro ha h
    rcases (subs_step hl ha).1 h with rfl | ⟨p, hp, hs⟩
    · exact ⟨a, .refl a, ha, rfl⟩
    · have hpl := partsZ_lt (hl a ha) p hp
      obtain ⟨i, h1, h2, h3⟩ := ih p.toNat (by omega) (by omega) hs
      exact ⟨i, .step (List.getElem?_eq_getElem ha) hp h1, h2, h3⟩

theorem words_subs {t : Tm} {w : Nat} : w ∈ tws t ↔ Tm.wd w ∈ subs t := by
  induction t with
  | num k => simp [tws, subs]
  | wd k => simp [tws, subs]
  | un t ih => simp [tws, subs, ih]
  | bi op a b iha ihb => simp [tws, subs, iha, ihb]
theorem tr_wd {l : List Nd} (hl : May l) {i w : Nat} (hi : i < l.length) : tr l i = .wd w ↔ l[i].op = 2 ∧ l[i].k.toNat = w := by
  rw [tr_at hl hi]
  unfold nodeT
  by_cases h1 : l[i].op = 1
  · rw [if_pos h1]; simp; omega
  · by_cases h2 : l[i].op = 2
    · rw [if_neg h1, if_pos h2]; simp [h2]
    · rw [if_neg h1, if_neg h2]
      split <;> simp [h2]
/-- The words that a term looks at. -/
theorem uses_tr {l : List Nd} (hl : May l) {a w : Nat} (ha : a < l.length) : (usesP l (inL l [(a : Int)]) l.length).testBit w = true ↔ w ∈ tws (tr l a) := by
  rw [uses_bit, words_subs]
  have hin : ∀ i, (inL l [(a : Int)]).getD i false = true ↔ Tr l a i := fun i => by
    rw [inL_iff hl (by simp; omega)]; simp
  constructor
  · rintro ⟨i, n, hi, hn, h1, h2, h3⟩
    obtain ⟨_, rfl⟩ := List.getElem?_eq_some_iff.1 hn
    rw [← (tr_wd hl hi).2 ⟨h2, h3⟩]
    exact Tr_subs hl ha ((hin i).1 h1)
  · intro h
    obtain ⟨i, h1, h2, h3⟩ := subs_Tr hl a ha h
    obtain ⟨g1, g2⟩ := (tr_wd hl h2).1 h3
    exact ⟨i, l[i], h2, List.getElem?_eq_getElem h2, (hin i).2 h1, g1, g2⟩

/-- Rows in which all is in the tree of one place have as many places as the tree has unlike parts. -/
theorem len_of_mem {α : Type} [DecidableEq α] : ∀ {xs ys : List α}, xs.Nodup → (∀ x ∈ xs, x ∈ ys) → xs.length ≤ ys.length
  | [], ys, _, _ => Nat.zero_le _
  | x :: xs, ys, hx, h => by
    rw [List.nodup_cons] at hx
    have h1 : x ∈ ys := h x (by simp)
    have := len_of_mem (xs := xs) (ys := ys.erase x) hx.2 (fun y hy => by
      have hne : y ≠ x := fun e => hx.1 (e ▸ hy)
      exact (List.mem_erase_of_ne hne).2 (h y (by simp [hy])))
    rw [List.length_erase_of_mem h1] at this
    have hp := List.length_pos_of_mem h1
    simp only [List.length_cons]; omega
theorem trees_nodup {l : List Nd} (hl : Nice l) : (trees l l.length).Nodup := by
  rw [List.nodup_iff_pairwise_ne, List.pairwise_iff_getElem]
  intro i j hi hj hij e
  rw [trees_len] at hi hj
  have g : ∀ k (h : k < (trees l l.length).length), (trees l l.length)[k] = tr l k := fun k h => by
    unfold tr; simp [List.getD_eq_getElem?_getD, h]
  rw [g, g] at e
  have := tr_inj hl i j hi hj e
  omega
theorem trees_mem {l : List Nd} {s : Tm} : s ∈ trees l l.length ↔ ∃ i, i < l.length ∧ tr l i = s := by
  have g : ∀ k (h : k < (trees l l.length).length), (trees l l.length)[k] = tr l k := fun k h => by
    unfold tr; simp [List.getD_eq_getElem?_getD, h]
  rw [List.mem_iff_getElem]
  constructor
  · rintro ⟨i, hi, e⟩
    rw [g] at e
    rw [trees_len] at hi
    exact ⟨i, hi, e⟩
  · rintro ⟨i, hi, e⟩
    have hi' : i < (trees l l.length).length := by rw [trees_len]; exact hi
    exact ⟨i, hi', by rw [g]; exact e⟩
theorem len_le {l m : List Nd} (hl : Nice l) (hm : May m) {a b : Nat} (ha : a < l.length) (hb : b < m.length) (h : ∀ k, k < l.length → Tr l a k) (e : tr l a = tr m b) : l.length ≤ m.length := by
  have := len_of_mem (xs := trees l l.length) (ys := trees m m.length) (trees_nodup hl) (fun s hs => by
    obtain ⟨i, hi, rfl⟩ := trees_mem.1 hs
    have h1 := Tr_subs hl.may ha (h i hi)
    rw [e] at h1
    obtain ⟨j, -, h2, h3⟩ := subs_Tr hm b hb h1
    exact trees_mem.2 ⟨j, h2, h3⟩)
  rwa [trees_len, trees_len] at this

section
variable {l : List Nd} {L : List Bool} (hmay : May l) (hcl : ∀ i n, L.getD i false = true → l[i]? = some n → ∀ p ∈ partsZ n, L.getD p.toNat false = true)
include hmay hcl
theorem only_May (hn : l.length ≤ 65536) : May (onlyP l L l.length).1 := .of_check (only_right hmay hcl hn)
/-- The tree of what stays. -/
theorem only_tr (hn : l.length ≤ 65536) : ∀ i, i < l.length → L.getD i false = true → tr (onlyP l L l.length).1 (onlyP l L i).1.length = tr l i := by
  intro i
  induction i using Nat.strongRecOn with
  | ind i ih =>
    intro hi hL
    have hk := only_lt hi (Nat.le_refl _) hL
    have hg := only_get hi (Nat.le_refl _) hi hL
    rw [List.getElem?_eq_getElem hk] at hg
    have hM := only_May hmay hcl hn
    rw [tr_at hM hk, Option.some.inj hg, nodeT_renum (hmay i hi), tr_at hmay hi]
    refine nodeT_congr (hmay i hi) fun p hp => ?_
    have hpl := partsZ_lt (hmay i hi) p hp
    have hLp := hcl i _ hL (List.getElem?_eq_getElem hi) p hp
    rw [only_to (by omega) (by omega) hLp]
    exact ih _ (by omega) (by omega) hLp
theorem only_Tr {a b : Nat} (h : Tr l a b) : L.getD a false = true → a < l.length → Tr (onlyP l L l.length).1 (onlyP l L a).1.length (onlyP l L b).1.length := by
  induction h with
  | refl => intro _ _; exact .refl _
  | step h1 hp g ih =>
    rename_i a i n p
    intro hL ha
    obtain ⟨_, rfl⟩ := List.getElem?_eq_some_iff.1 h1
    have hpl := partsZ_lt (hmay a ha) p hp
    have hLp := hcl a _ hL h1 p hp
    have hk := only_lt ha (Nat.le_refl _) hL
    have hg := only_get ha (Nat.le_refl _) ha hL
    have := ih hLp (by omega)
    have hto := only_to (l := l) (L := L) (m := a) (show p.toNat < a by omega) (by omega) hLp
    refine .step (p := (((onlyP l L a).2.getD p.toNat 0 : Nat) : Int)) hg ?_ (by rw [hto, Int.toNat_natCast]; exact this)
    obtain ⟨g1, g2, g3⟩ := mem_parts (hmay a ha) hp
    have h12 : ¬ (l[a].op = 1 ∨ l[a].op = 2) := fun h => h.elim g1 g2
    unfold renum partsZ
    rw [if_neg h12]
    by_cases h3 : l[a].op = 384
    · rw [if_pos h3]
      rcases g3 with rfl | ⟨h4, _⟩
      · simp [g1, g2, h3]
      · exact absurd h3 h4
    · rw [if_neg h3]
      rcases g3 with rfl | ⟨_, rfl⟩
      · simp [g1, g2, h3]
      · simp [g1, g2, h3]
theorem only_Nice (hN : Nice l) (hn : l.length ≤ 65536) : Nice (onlyP l L l.length).1 := by
  have hM := only_May hmay hcl hn
  refine ⟨hM, ?_, fun n hm => ?_⟩
  · rw [List.nodup_iff_pairwise_ne, List.pairwise_iff_getElem]
    intro i j hi hj hij e
    obtain ⟨x, hx, hLx, ex⟩ := only_from (Nat.le_refl _) hi
    obtain ⟨y, hy, hLy, ey⟩ := only_from (Nat.le_refl _) hj
    have t : tr (onlyP l L l.length).1 i = tr (onlyP l L l.length).1 j := by
      rw [tr_at hM hi, tr_at hM hj, e]
    rw [ex, ey, only_tr hmay hcl hn x hx hLx, only_tr hmay hcl hn y hy hLy] at t
    have := tr_inj hN x y hx hy t
    subst this
    omega
  · obtain ⟨k, hk, rfl⟩ := List.getElem_of_mem hm
    obtain ⟨i, hi, hL, e⟩ := only_from (Nat.le_refl _) hk
    have := only_get hi (Nat.le_refl _) hi hL
    rw [← e, List.getElem?_eq_getElem hk] at this
    rw [Option.some.inj this]
    exact renum_ok (hN.ok _ (List.getElem_mem hi))
end
end Go.Va
end

section
set_option linter.unusedSimpArgs false
set_option linter.unusedVariables false
set_option linter.unusedSectionVars false
namespace Go.Va
open Go.Proofs

def ChB (D : Nat) (P : List Nd) : Prop := ∀ i op, i < P.length → chn op (tr P i) ≤ D
/-- A pool that has grown. -/
structure Grew (H H' : Heap) (pid mid : Nat) (nv : AV) (P : List Nd) (D k : Nat) (nv' : AV) (P' : List Nd) : Prop where
  at' : PoolAt H' pid mid nv' P'
  keep : Keep (Foot pid mid nv) H H'
  foot : ∀ i, Foot pid mid nv' i → Foot pid mid nv i ∨ H.length ≤ i
  nice : Nice P'
  pre : ∃ r, P' = P ++ r
  len : P'.length ≤ P.length + k
  ch : ChB D P'
section
variable {H H' H'' : Heap} {pid mid : Nat} {nv nv' nv'' : AV} {P P' P'' : List Nd} {D k k' : Nat}
theorem Grew.le (h : Grew H H' pid mid nv P D k nv' P') (hk : k ≤ k') : Grew H H' pid mid nv P D k' nv' P' := { h with len := Nat.le_trans h.len (by omega) }
theorem Grew.refl (hP : PoolAt H pid mid nv P) (hN : Nice P) (hD : ChB D P) (hE : Ext H H') : Grew H H' pid mid nv P D k nv P :=
  ⟨hP.ext hE, hE.keep, fun _ h => .inl h, hN, ⟨[], by simp⟩, by omega, hD⟩
theorem Grew.ext (h : Grew H' H'' pid mid nv P D k nv' P') (hE : Ext H H') : Grew H H'' pid mid nv P D k nv' P' :=
  { h with keep := hE.keep.trans h.keep, foot := fun i hi => (h.foot i hi).imp id fun e => Nat.le_trans hE.len e }
theorem Grew.app (h : Grew H H' pid mid nv P D k nv' P') (hE : Ext H' H'') : Grew H H'' pid mid nv P D k nv' P' :=
  { h with at' := h.at'.ext hE, keep := h.keep.trans hE.keep }
theorem Grew.out (h : Grew H H' pid mid nv P D k nv' P') {i : Nat} (hi : ¬ Foot pid mid nv i) (hl : i < H.length) : ¬ Foot pid mid nv' i := fun e => by
  rcases h.foot i e with e | e
  · exact hi e
  · omega
theorem Grew.trans (h : Grew H H' pid mid nv P D k nv' P') (g : Grew H' H'' pid mid nv' P' D k' nv'' P'') : Grew H H'' pid mid nv P D (k + k') nv'' P'' := by
  refine ⟨g.at', ⟨Nat.le_trans h.keep.1 g.keep.1, fun i o hn hi => g.keep.2 i o (h.out hn ?_) (h.keep.2 i o hn hi)⟩, fun i hi => ?_, g.nice, ?_, ?_, g.ch⟩
  · rw [List.getElem?_eq_some_iff] at hi; exact hi.1
  · rcases g.foot i hi with e | e
    · exact h.foot i e
    · exact .inr (Nat.le_trans h.keep.1 e)
  · obtain ⟨r, hr⟩ := h.pre
    obtain ⟨s, hs⟩ := g.pre
    exact ⟨r ++ s, by rw [hs, hr, List.append_assoc]⟩
  · have := h.len; have := g.len; omega
theorem Grew.tr (h : Grew H H' pid mid nv P D k nv' P') {i : Nat} (hi : i < P.length) : tr P' i = tr P i := by
  obtain ⟨r, hr⟩ := h.pre
  have := h.nice.may
  rw [hr] at this ⊢
  exact tr_app this i hi
theorem Grew.lt (h : Grew H H' pid mid nv P D k nv' P') {i : Nat} (hi : i < P.length) : i < P'.length := by
  obtain ⟨r, hr⟩ := h.pre
  rw [hr, List.length_append]; omega
theorem Grew.get (h : Grew H H' pid mid nv P D k nv' P') {i : Nat} (hi : i < P.length) : P'[i]'(h.lt hi) = P[i] := by
  obtain ⟨r, hr⟩ := h.pre
  subst hr
  exact List.getElem_append_left hi
end

theorem tr_wf {l : List Nd} (hl : Nice l) : ∀ i, i < l.length → wfT (tr l i) := by
  intro i
  induction i using Nat.strongRecOn with
  | ind i ih =>
    intro hi
    rw [tr_at hl.may hi]
    have hm := hl.may i hi
    obtain ⟨k0, k1, -, -⟩ := hl.ok _ (List.getElem_mem hi)
    unfold nodeT
    split
    · show l[i].k.toNat < 4294967296; omega
    · rename_i h1
      split
      · rename_i h2
        have := may_word hm h2
        show l[i].k.toNat < 16; omega
      · rename_i h2
        obtain ⟨m1, -, a0, a1, b0, b1⟩ := may_alu hm h1 h2
        have ia := ih l[i].a.toNat (by omega) (by omega)
        have ib := ih l[i].b.toNat (by omega) (by omega)
        split
        · exact ia
        · rename_i h3
          refine ⟨?_, ia, ib⟩
          simp [alus] at m1
          simp [ops9]; omega
theorem tr_num {l : List Nd} (hl : May l) {i : Nat} (hi : i < l.length) : numOf (tr l i) = if l[i].op = 1 then some l[i].k.toNat else none := by
  rw [tr_at hl hi]
  unfold nodeT
  split
  · rfl
  · split
    · rfl
    · split <;> rfl

/-- A maker, of a pool, with nothing gone wrong. -/
def MkAt (H : Heap) (qid pid : Nat) : Prop := ∃ b, b ≤ 2 ∧ H[qid]? = some (.cells [.ptr pid 0 2, .int .i64 0] 110 b false)
theorem MkAt.lt {H : Heap} {qid pid : Nat} (h : MkAt H qid pid) : qid < H.length := by
  obtain ⟨b, -, h⟩ := h
  rw [List.getElem?_eq_some_iff] at h; exact h.1
theorem MkAt.ext {H H' : Heap} {qid pid : Nat} (h : MkAt H qid pid) (hE : Ext H H') : MkAt H' qid pid := by
  obtain ⟨b, h1, h2⟩ := h; exact ⟨b, h1, hE _ _ h2⟩
theorem MkAt.grew {H H' : Heap} {qid pid mid : Nat} {nv nv' : AV} {P P' : List Nd} {D k : Nat} (h : MkAt H qid pid) (hq : ¬ Foot pid mid nv qid) (g : Grew H H' pid mid nv P D k nv' P') : MkAt H' qid pid ∧ ¬ Foot pid mid nv' qid := by
  refine ⟨?_, g.out hq h.lt⟩
  obtain ⟨b, h1, h2⟩ := h; exact ⟨b, h1, g.keep.2 _ _ hq h2⟩

theorem bldNum (k : Int) : buildA Try.prog 52 [(0, .int .i64 1), (3, .int .u32 k)] = some (.agg [.int .i64 1, .int .i64 0, .int .i64 0, .int .u32 k]) := by kernel_rfl
theorem bldWd (k : Int) : buildA Try.prog 52 [(0, .int .i64 2), (3, .int .u32 k)] = some (.agg [.int .i64 2, .int .i64 0, .int .i64 0, .int .u32 k]) := by kernel_rfl
theorem bldUn (a : Int) : buildA Try.prog 52 [(0, .int .i64 384), (1, .int .i64 a)] = some (.agg [.int .i64 384, .int .i64 a, .int .i64 0, .int .u32 0]) := by kernel_rfl
theorem bldBi (op a b : Int) : buildA Try.prog 52 [(0, .int .i64 op), (1, .int .i64 a), (2, .int .i64 b)] = some (.agg [.int .i64 op, .int .i64 a, .int .i64 b, .int .u32 0]) := by kernel_rfl
theorem bldMk (a b c : Nat) : buildA Try.prog 110 [(0, .ptr a b c)] = some (.agg [.ptr a b c, .int .i64 0]) := by kernel_rfl

/-- What a call in a pool comes to: a place with a tree. -/
def Made (H H' : Heap) (pid mid : Nat) (nv : AV) (P : List Nd) (D k : Nat) (r : AV) (t : Tm) : Prop :=
  ∃ nv' P' x, Grew H H' pid mid nv P D k nv' P' ∧ r = .int .i64 (x : Nat) ∧ x < P'.length ∧ tr P' x = t

theorem mput_spec (n : Nd) (P : List Nd) (D qid pid mid : Nat) (nv : AV) (H : Heap) (hM : MkAt H qid pid) (hq : ¬ Foot pid mid nv qid) (hP : PoolAt H pid mid nv P) (hN : Nice P) (hD : ChB D P) (hm : mayB n P.length = true) (ho : n.ok) (hl : P.length + 1 ≤ 65536) (hc : ∀ op, chn op (nodeT n (tr P)) ≤ D) :
    F X 91 [.ptr qid 0 2, n.v] H fun r H' => Made H H' pid mid nv P D 1 r (nodeT n (tr P)) := by
  refine F_slim S91_eq rfl fun ρ hρ => ?_
  simp only [AGs] at hρ
  obtain ⟨h0, h1, -⟩ := hρ
  obtain ⟨b, hb, hobj⟩ := hM
  have he : putE n P = 0 := by
    have : ¬ 65536 ≤ P.length := by omega
    simp [putE, hm, this]
  simp -implicitDefEqProofs only [↓gP, gQ, ↓reduceIte, Nat.reduceAdd, Nat.reduceEqDiff, Nat.reduceLT, Nat.reduceLeDiff, Int.reduceEq, S91, h0, h1, Nd.v]
  have hE1 : Ext H (H ++ [AObj.cells [AV.int .i64 n.op, AV.int .i64 n.a, AV.int .i64 n.b, AV.int .u32 n.k] 52 0 false]) := Ext.refl.app
  simp -implicitDefEqProofs only [↓gP, gQ, ↓reduceIte, Nat.reduceAdd, Nat.reduceEqDiff, Nat.reduceLT, Nat.reduceLeDiff, Int.reduceEq, h0, h1, hE1 _ _ hobj, hb]
  refine CS_fn (Put_spec n P pid mid nv _ (hP.ext hE1) (by omega)) ?_
  rintro _ H2 ⟨nv', hP2, hK2, hF2, rfl⟩
  rw [he, if_pos rfl] at hP2
  simp -implicitDefEqProofs only [↓gP, gQ, ↓reduceIte, Nat.reduceAdd, Nat.reduceEqDiff, Nat.reduceLT, Nat.reduceLeDiff, Int.reduceEq, h0, h1, he]
  obtain ⟨n1, n2, n3⟩ := hN.put hm ho
  refine ⟨nv', putP P n, _, ?_, rfl, putP_idx, n3⟩
  have g : Grew _ H2 pid mid nv P D 1 nv' (putP P n) := ⟨hP2, hK2, hF2, n1, n2, putP_len, fun i op hi => ?_⟩
  · exact g.ext hE1
  · obtain ⟨r, hr⟩ := n2
    by_cases hi' : i < P.length
    · have := hD i op hi'
      have hmay := n1.may
      rw [hr] at hmay ⊢
      rw [tr_app hmay i hi']; exact this
    · have hix := putP_idx (l := P) (n := n)
      have e : i = (putP P n).idxOf n := by
        rw [idx_put]
        have hh := putP_len (l := P) (n := n)
        by_cases hmem : n ∈ P
        · rw [putP, if_pos hmem] at hi; omega
        · rw [if_neg hmem]; omega
      rw [e, n3]; exact hc op

theorem number_spec (k : Nat) (P : List Nd) (D qid pid mid : Nat) (nv : AV) (H : Heap) (hM : MkAt H qid pid) (hq : ¬ Foot pid mid nv qid) (hP : PoolAt H pid mid nv P) (hN : Nice P) (hD : ChB D P) (hk : k < 4294967296) (hl : P.length + 1 ≤ 65536) :
    F X 73 [.ptr qid 0 2, .int .u32 (k : Nat)] H fun r H' => Made H H' pid mid nv P D 1 r (.num k) := by
  refine F_slim S73_eq rfl fun ρ hρ => ?_
  simp only [AGs] at hρ
  obtain ⟨h0, h1, -⟩ := hρ
  simp -implicitDefEqProofs only [↓gP, gQ, ↓reduceIte, Nat.reduceAdd, Nat.reduceEqDiff, Nat.reduceLT, Nat.reduceLeDiff, Int.reduceEq, S73, h0, h1, bldNum]
  refine CS_fn (mput_spec ⟨1, 0, 0, k⟩ P D qid pid mid nv H hM hq hP hN hD rfl ⟨by simp, by simp; omega, by simp, by simp⟩ hl (fun op => by simp [nodeT, chn])) ?_
  rintro r H' hr
  simp -implicitDefEqProofs only [↓gP, gQ, ↓reduceIte, Nat.reduceAdd, Nat.reduceEqDiff, Nat.reduceLT, Nat.reduceLeDiff, Int.reduceEq, h0, h1]
  exact hr

theorem sis_spec (i : Nat) (P : List Nd) (qid pid mid : Nat) (nv : AV) (H : Heap) (hM : MkAt H qid pid) (hP : PoolAt H pid mid nv P) (hi : i < P.length) :
    F X 87 [.ptr qid 0 2, .int .i64 (i : Nat)] H fun r H' => Ext H H' ∧ r = .tup [.int .u32 P[i].k, .bool (decide (P[i].op = 1))] := by
  refine F_slim S87_eq rfl fun ρ hρ => ?_
  simp only [AGs] at hρ
  obtain ⟨h0, h1, -⟩ := hρ
  obtain ⟨b, hb, hobj⟩ := hM
  simp -implicitDefEqProofs only [↓gP, gQ, ↓reduceIte, Nat.reduceAdd, Nat.reduceEqDiff, Nat.reduceLT, Nat.reduceLeDiff, Int.reduceEq, S87, h0, h1, hobj, hb]
  refine CS_fn (at_spec _ P pid mid nv _ hP) ?_
  rintro r H2 ⟨hE, hr⟩
  rw [dif_pos ⟨by omega, by omega⟩] at hr
  simp only [Int.toNat_natCast] at hr
  subst hr
  simp -implicitDefEqProofs only [↓gP, gQ, ↓reduceIte, Nat.reduceAdd, Nat.reduceEqDiff, Nat.reduceLT, Nat.reduceLeDiff, Int.reduceEq, h0, h1, Nd.v]
  exact ⟨hE.app, trivial⟩

theorem either_spec (op : Int) (H : Heap) : F X 89 [.int .i64 op] H fun r H' => r = .bool (eitherB op) ∧ H = H' := by
  refine F_slim S89_eq rfl fun ρ hρ => ?_
  simp only [AGs] at hρ
  obtain ⟨h0, -⟩ := hρ
  simp -implicitDefEqProofs only [↓gP, gQ, ↓reduceIte, Nat.reduceAdd, Nat.reduceEqDiff, Nat.reduceLT, Nat.reduceLeDiff, Int.reduceEq, S89, h0]
  iterate 6 (all_goals (try (refine Br_dec (fun h => ?_) (fun h => ?_) <;> simp -implicitDefEqProofs only [↓gP, gQ, ↓reduceIte, Nat.reduceAdd, Nat.reduceEqDiff, Nat.reduceLT, Nat.reduceLeDiff, Int.reduceEq, h])))
  all_goals simp [eitherB, *]

theorem tells_spec (op : Int) (a b : Nat) (H : Heap) (ha : a < 4294967296) (hb : b < 4294967296) : F X 88 [.int .i64 op, .int .u32 (a : Nat), .int .u32 (b : Nat)] H fun r H' => r = .int .u32 (alu1 op a b : Nat) ∧ H = H' := by
  refine F_slim S88_eq rfl fun ρ hρ => ?_
  simp only [AGs] at hρ
  obtain ⟨h0, h1, h2, -⟩ := hρ
  simp -implicitDefEqProofs only [↓gP, gQ, ↓reduceIte, Nat.reduceAdd, Nat.reduceEqDiff, Nat.reduceLT, Nat.reduceLeDiff, Int.reduceEq, S88, h0, h1, h2]
  refine CS_fn (alu_spec op a b H ha hb) ?_
  rintro _ _ ⟨rfl, rfl⟩
  simp -implicitDefEqProofs only [↓gP, gQ, ↓reduceIte, Nat.reduceAdd, Nat.reduceEqDiff, Nat.reduceLT, Nat.reduceLeDiff, Int.reduceEq]
  exact ⟨rfl, trivial⟩

theorem plain_spec (op : Int) (k : Nat) (H : Heap) : F X 98 [.int .i64 op, .int .u32 (k : Nat)] H fun r H' => r = .tup [.int .i64 ((plainP op k).1 : Nat), .int .u32 ((plainP op k).2 : Nat)] ∧ H = H' := by
  refine F_slim S98_eq rfl fun ρ hρ => ?_
  simp only [AGs] at hρ
  obtain ⟨h0, h1, -⟩ := hρ
  simp -implicitDefEqProofs only [↓gP, gQ, ↓reduceIte, Nat.reduceAdd, Nat.reduceEqDiff, Nat.reduceLT, Nat.reduceLeDiff, Int.reduceEq, S98, h0, h1]
  iterate 12 (all_goals (try (refine Br_dec (fun h => ?_) (fun h => ?_) <;> simp -implicitDefEqProofs only [↓gP, gQ, ↓reduceIte, Nat.reduceAdd, Nat.reduceEqDiff, Nat.reduceLT, Nat.reduceLeDiff, Int.reduceEq, h0, h1, h])))
  all_goals (refine ⟨?_, by first | trivial | rfl⟩)
  all_goals (by_cases hk0 : k = 0 <;> by_cases hk1 : k = 1 <;> by_cases hka : k = 4294967295 <;> first | (exfalso; omega) | (simp [plainP, *]; done) | (simp_all [plainP]; done) | (simp_all [plainP]; omega))
end Go.Va
end

section
set_option linter.unusedSimpArgs false
set_option linter.unusedVariables false
set_option linter.unusedSectionVars false
namespace Go.Va
open Go.Proofs

theorem or256 {op : Int} (h : op ∈ ops9) : IntKind.i64.wrap ((BitVec.ofInt IntKind.i64.bits 256 ||| BitVec.ofInt IntKind.i64.bits op).toNat : Nat) = 256 + op := by
  simp only [ops9, List.mem_cons, List.not_mem_nil, or_false] at h
  rcases h with rfl | rfl | rfl | rfl | rfl | rfl | rfl | rfl | rfl <;> decide
theorem alus_op {op : Int} (h : op ∈ ops9) : 256 + op ∈ alus ∧ 256 + op ≠ 1 ∧ 256 + op ≠ 2 ∧ 256 + op ≠ 384 := by
  simp only [ops9, List.mem_cons, List.not_mem_nil, or_false] at h
  rcases h with rfl | rfl | rfl | rfl | rfl | rfl | rfl | rfl | rfl <;> decide
theorem op_range {op : Int} (h : op ∈ ops9) : 0 ≤ op ∧ op ≤ 160 := by
  simp [ops9] at h; omega
/-- A node of two places. -/
theorem bi_node {op : Int} (h : op ∈ ops9) {a b N : Nat} (ha : a < N) (hb : b < N) (f : Nat → Tm) : mayB ⟨256 + op, a, b, 0⟩ N = true ∧ (⟨256 + op, a, b, 0⟩ : Nd).ok ∧ nodeT ⟨256 + op, a, b, 0⟩ f = .bi op (f a) (f b) := by
  obtain ⟨h1, h2, h3, h4⟩ := alus_op h
  obtain ⟨h5, h6⟩ := op_range h
  refine ⟨?_, ⟨by simp, by simp, by simp only; omega, by simp only; omega⟩, ?_⟩
  · unfold mayB
    simp only
    rw [if_neg h2, if_neg h3, if_neg (by simp [h1]; omega), if_neg h4]
    simp; omega
  · unfold nodeT
    simp only
    rw [if_neg h2, if_neg h3, if_neg h4, Int.toNat_natCast, Int.toNat_natCast]
    congr 1; omega
theorem un_node {a N : Nat} (ha : a < N) (f : Nat → Tm) : mayB ⟨384, a, 0, 0⟩ N = true ∧ (⟨384, a, 0, 0⟩ : Nd).ok ∧ nodeT ⟨384, a, 0, 0⟩ f = .un (f a) := by
  refine ⟨?_, ⟨by simp, by simp, by simp, by simp⟩, ?_⟩
  · unfold mayB
    simp only
    rw [if_neg (by decide), if_neg (by decide), if_neg (by simp [alus]; omega)]; simp
  · unfold nodeT; simp
theorem tr_un {l : List Nd} (hl : May l) {i : Nat} (hi : i < l.length) (h : l[i].op = 384) : tr l i = .un (tr l l[i].a.toNat) ∧ 0 ≤ l[i].a ∧ l[i].a.toNat < i := by
  have hm := may_alu (hl i hi) (by omega) (by omega)
  refine ⟨?_, by omega, by omega⟩
  rw [tr_at hl hi]; unfold nodeT; rw [if_neg (by omega), if_neg (by omega), if_pos h]
theorem tr_bi {l : List Nd} (hl : May l) {i : Nat} (hi : i < l.length) (h1 : ¬ l[i].op = 1) (h2 : ¬ l[i].op = 2) (h3 : ¬ l[i].op = 384) : tr l i = .bi (l[i].op - 256) (tr l l[i].a.toNat) (tr l l[i].b.toNat) ∧ 0 ≤ l[i].a ∧ l[i].a.toNat < i ∧ 0 ≤ l[i].b ∧ l[i].b.toNat < i := by
  have hm := may_alu (hl i hi) h1 h2
  refine ⟨?_, by omega, by omega, by omega, by omega⟩
  rw [tr_at hl hi]; unfold nodeT; rw [if_neg h1, if_neg h2, if_neg h3]
theorem ok_k {l : List Nd} (hl : Nice l) {i : Nat} (hi : i < l.length) : ∃ k : Nat, l[i].k = k ∧ k < 4294967296 := by
  obtain ⟨k0, k1, -, -⟩ := hl.ok _ (List.getElem_mem hi)
  exact ⟨l[i].k.toNat, (Int.toNat_of_nonneg k0).symm, by omega⟩

theorem other_spec (a : Nat) (P : List Nd) (D qid pid mid : Nat) (nv : AV) (H : Heap) (hM : MkAt H qid pid) (hq : ¬ Foot pid mid nv qid) (hP : PoolAt H pid mid nv P) (hN : Nice P) (hD : ChB D P) (ha : a < P.length) (hl : P.length + 1 ≤ 65536) :
    F X 86 [.ptr qid 0 2, .int .i64 (a : Nat)] H fun r H' => Made H H' pid mid nv P D 1 r (negT (tr P a)) := by
  refine F_slim S86_eq rfl fun ρ hρ => ?_
  simp only [AGs] at hρ
  obtain ⟨h0, h1, -⟩ := hρ
  obtain ⟨k, hk, hk2⟩ := ok_k hN ha
  have hnum := tr_num hN.may ha
  rw [hk, Int.toNat_natCast] at hnum
  simp -implicitDefEqProofs only [↓gP, gQ, ↓reduceIte, Nat.reduceAdd, Nat.reduceEqDiff, Nat.reduceLT, Nat.reduceLeDiff, Int.reduceEq, S86, h0, h1]
  refine CS_fn (sis_spec a P qid pid mid nv H hM hP ha) ?_
  rintro _ H1 ⟨hE1, rfl⟩
  rw [hk]
  simp -implicitDefEqProofs only [↓gP, gQ, ↓reduceIte, Nat.reduceAdd, Nat.reduceEqDiff, Nat.reduceLT, Nat.reduceLeDiff, Int.reduceEq, h0, h1]
  refine Br_dec (fun g1 => ?_) (fun g1 => ?_)
  · rw [if_pos g1] at hnum
    rw [numOf_some hnum]
    simp -implicitDefEqProofs only [↓gP, gQ, ↓reduceIte, Nat.reduceAdd, Nat.reduceEqDiff, Nat.reduceLT, Nat.reduceLeDiff, Int.reduceEq, h0, h1]
    refine CS_fn (tells_spec 128 k 0 _ hk2 (by decide)) ?_
    rintro _ _ ⟨rfl, rfl⟩
    simp -implicitDefEqProofs only [↓gP, gQ, ↓reduceIte, Nat.reduceAdd, Nat.reduceEqDiff, Nat.reduceLT, Nat.reduceLeDiff, Int.reduceEq, h0, h1]
    refine CS_fn (number_spec _ P D qid pid mid nv _ (hM.ext hE1) hq (hP.ext hE1) hN hD (alu1_lt hk2 (by decide)) hl) ?_
    rintro r H2 ⟨nv', P', x, hg, rfl, hx, ht⟩
    simp -implicitDefEqProofs only [↓gP, gQ, ↓reduceIte, Nat.reduceAdd, Nat.reduceEqDiff, Nat.reduceLT, Nat.reduceLeDiff, Int.reduceEq, h0, h1]
    exact ⟨nv', P', x, hg.ext hE1, rfl, hx, ht⟩
  · rw [if_neg g1] at hnum
    obtain ⟨b, hb, hobj⟩ := hM
    simp -implicitDefEqProofs only [↓gP, gQ, ↓reduceIte, Nat.reduceAdd, Nat.reduceEqDiff, Nat.reduceLT, Nat.reduceLeDiff, Int.reduceEq, h0, h1, hE1 _ _ hobj, hb]
    refine CS_fn (at_spec _ P pid mid nv _ (hP.ext hE1)) ?_
    rintro r H2 ⟨hE2, hr⟩
    rw [dif_pos ⟨by omega, by omega⟩] at hr
    simp only [Int.toNat_natCast] at hr
    subst hr
    have hE12 := hE1.trans hE2
    simp -implicitDefEqProofs only [↓gP, gQ, ↓reduceIte, Nat.reduceAdd, Nat.reduceEqDiff, Nat.reduceLT, Nat.reduceLeDiff, Int.reduceEq, h0, h1, Nd.v]
    refine Br_dec (fun g2 => ?_) (fun g2 => ?_)
    · obtain ⟨t1, t2, t3⟩ := tr_un hN.may ha g2
      simp -implicitDefEqProofs only [↓gP, gQ, ↓reduceIte, Nat.reduceAdd, Nat.reduceEqDiff, Nat.reduceLT, Nat.reduceLeDiff, Int.reduceEq, h0, h1]
      rw [t1]
      refine ⟨nv, P, P[a].a.toNat, Grew.refl hP hN hD hE12.app, by rw [Int.toNat_of_nonneg t2], by omega, rfl⟩
    · have ht : negT (tr P a) = .un (tr P a) := by
        rw [tr_at hN.may ha] at hnum ⊢
        unfold nodeT at hnum ⊢
        rw [if_neg g1] at hnum ⊢
        split
        · rfl
        · rfl
      obtain ⟨n1, n2, n3⟩ := un_node ha (tr P)
      simp -implicitDefEqProofs only [↓gP, gQ, ↓reduceIte, Nat.reduceAdd, Nat.reduceEqDiff, Nat.reduceLT, Nat.reduceLeDiff, Int.reduceEq, h0, h1, bldUn]
      have hE3 := hE12.app (l := [AObj.cells [AV.int .i64 P[a].op, AV.int .i64 P[a].a, AV.int .i64 P[a].b, AV.int .u32 P[a].k] 52 4 false])
      refine CS_fn (mput_spec ⟨384, a, 0, 0⟩ P D qid pid mid nv _ (MkAt.ext ⟨b, hb, hobj⟩ hE3) hq (hP.ext hE3) hN hD n1 n2 hl (fun op => by rw [n3]; simp [chn])) ?_
      rintro r H4 ⟨nv', P', x, hg, rfl, hx, ht'⟩
      simp -implicitDefEqProofs only [↓gP, gQ, ↓reduceIte, Nat.reduceAdd, Nat.reduceEqDiff, Nat.reduceLT, Nat.reduceLeDiff, Int.reduceEq, h0, h1]
      refine ⟨nv', P', x, hg.ext hE3, rfl, hx, ?_⟩
      rw [ht', n3, ht]

/-- What right comes to, at a place. -/
def RtAt (op : Int) (a : Nat) : Prop :=
  ∀ (k : Nat) (P : List Nd) (D qid pid mid c : Nat) (nv : AV) (H : Heap), MkAt H qid pid → ¬ Foot pid mid nv qid → PoolAt H pid mid nv P → Nice P → ChB D P → 1 ≤ D → a < P.length → k < 4294967296 → chn op (tr P a) ≤ c → P.length + c + 2 ≤ 65536 →
    F X 90 [.ptr qid 0 2, .int .i64 op, .int .i64 (a : Nat), .int .u32 (k : Nat)] H fun r H' => Made H H' pid mid nv P D (c + 2) r (rtT op (tr P a) k)

theorem make_aux (op : Int) (ho : op ∈ ops9) (a b : Nat) (P : List Nd) (D qid pid mid c : Nat) (nv : AV) (H : Heap) (hM : MkAt H qid pid) (hq : ¬ Foot pid mid nv qid) (hP : PoolAt H pid mid nv P) (hN : Nice P) (hD : ChB D P) (hD1 : 1 ≤ D) (ha : a < P.length) (hb : b < P.length)
    (hca : chn op (tr P a) ≤ c) (hcb : chn op (tr P b) ≤ c) (hl : P.length + c + 2 ≤ 65536) (hRa : RtAt op a) (hRb : numOf (tr P b) = none → RtAt op b) :
    F X 65 [.ptr qid 0 2, .int .i64 op, .int .i64 (a : Nat), .int .i64 (b : Nat)] H fun r H' => Made H H' pid mid nv P D (c + 2) r (mkT op (tr P a) (tr P b)) := by
  refine F_slim S65_eq rfl fun ρ hρ => ?_
  simp only [AGs] at hρ
  obtain ⟨h0, h1, h2, h3, -⟩ := hρ
  obtain ⟨ka, hka, hka2⟩ := ok_k hN ha
  obtain ⟨kb, hkb, hkb2⟩ := ok_k hN hb
  have hna := tr_num hN.may ha
  rw [hka, Int.toNat_natCast] at hna
  have hnb := tr_num hN.may hb
  rw [hkb, Int.toNat_natCast] at hnb
  have ne := ops9_ne ho
  simp -implicitDefEqProofs only [↓gP, gQ, ↓reduceIte, Nat.reduceAdd, Nat.reduceEqDiff, Nat.reduceLT, Nat.reduceLeDiff, Int.reduceEq, S65, h0, h1, h2, h3, ne]
  refine CS_fn (sis_spec a P qid pid mid nv H hM hP ha) ?_
  rintro _ H1 ⟨hE1, rfl⟩
  rw [hka]
  simp -implicitDefEqProofs only [↓gP, gQ, ↓reduceIte, Nat.reduceAdd, Nat.reduceEqDiff, Nat.reduceLT, Nat.reduceLeDiff, Int.reduceEq, h0, h1, h2, h3]
  refine CS_fn (sis_spec b P qid pid mid nv _ (hM.ext hE1) (hP.ext hE1) hb) ?_
  rintro _ H2 ⟨hE2, rfl⟩
  rw [hkb]
  have hE := hE1.trans hE2
  have hab : (((a : Nat) : Int) = (b : Nat)) = (a = b) := propext Int.ofNat_inj
  have hout : ∀ (t : Tm) (r : AV) (H3 : Heap), Made H2 H3 pid mid nv P D (c + 2) r t → Made H H3 pid mid nv P D (c + 2) r t := fun t r H3 ⟨nv', P', x, hg, hr, hx, ht⟩ => ⟨nv', P', x, hg.ext hE, hr, hx, ht⟩
  have hput : ∀ (H2' : Heap), Ext H2 H2' → (numOf (tr P b) = none ∨ eitherB op = false) → F X 91 [.ptr qid 0 2, .agg [.int .i64 (256 + op), .int .i64 (a : Nat), .int .i64 (b : Nat), .int .u32 0]] H2' fun r H' => Made H2 H' pid mid nv P D (c + 2) r (.bi op (tr P a) (tr P b)) := by
    intro H2' hE3 hch
    obtain ⟨n1, n2, n3⟩ := bi_node ho ha hb (tr P)
    refine (mput_spec ⟨256 + op, a, b, 0⟩ P D qid pid mid nv _ ((hM.ext hE).ext hE3) hq ((hP.ext hE).ext hE3) hN hD n1 n2 (by omega) (fun op' => ?_)).mono ?_
    · rw [n3]
      simp only [chn]
      rw [if_neg]
      · omega
      · rintro ⟨g1, rfl, g3⟩
        rcases hch with h | h
        · rw [h] at g3; cases g3
        · rw [h] at g1; cases g1
    · rintro r H3 ⟨nv', P', x, hg, hr, hx, ht⟩
      exact ⟨nv', P', x, (hg.ext hE3).le (by omega), hr, hx, by rw [ht, n3]⟩
  by_cases ga : P[a].op = 1
  · rw [if_pos ga] at hna
    by_cases gb : P[b].op = 1
    · rw [if_pos gb] at hnb
      have hm : mkT op (tr P a) (tr P b) = .num (alu1 op ka kb) := by
        unfold mkT; rw [if_neg ne, hna, hnb]
      simp -implicitDefEqProofs only [↓gP, gQ, ↓reduceIte, Nat.reduceAdd, Nat.reduceEqDiff, Nat.reduceLT, Nat.reduceLeDiff, Int.reduceEq, h0, h1, h2, h3, ga, gb]
      refine CS_fn (tells_spec op ka kb _ hka2 hkb2) ?_
      rintro _ _ ⟨rfl, rfl⟩
      simp -implicitDefEqProofs only [↓gP, gQ, ↓reduceIte, Nat.reduceAdd, Nat.reduceEqDiff, Nat.reduceLT, Nat.reduceLeDiff, Int.reduceEq, h0, h1, h2, h3]
      refine CS_fn (number_spec _ P D qid pid mid nv _ (hM.ext hE) hq (hP.ext hE) hN hD (alu1_lt hka2 hkb2) (by omega)) ?_
      rintro r H3 ⟨nv', P', x, hg, rfl, hx, ht⟩
      simp -implicitDefEqProofs only [↓gP, gQ, ↓reduceIte, Nat.reduceAdd, Nat.reduceEqDiff, Nat.reduceLT, Nat.reduceLeDiff, Int.reduceEq, h0, h1]
      refine hout _ _ _ ⟨nv', P', x, hg.le (by omega), rfl, hx, by rw [ht, hm]⟩
    · rw [if_neg gb] at hnb
      simp -implicitDefEqProofs only [↓gP, gQ, ↓reduceIte, Nat.reduceAdd, Nat.reduceEqDiff, Nat.reduceLT, Nat.reduceLeDiff, Int.reduceEq, h0, h1, h2, h3, ga, gb]
      refine CS_fn (either_spec op _) ?_
      rintro _ _ ⟨rfl, rfl⟩
      simp -implicitDefEqProofs only [↓gP, gQ, ↓reduceIte, Nat.reduceAdd, Nat.reduceEqDiff, Nat.reduceLT, Nat.reduceLeDiff, Int.reduceEq, h0, h1, h2, h3]
      refine Br_bool (fun ge => ?_) (fun ge => ?_)
      · have hm : mkT op (tr P a) (tr P b) = rtT op (tr P b) ka := by
          unfold mkT; rw [if_neg ne, hna, hnb]; simp [ge]
        simp -implicitDefEqProofs only [↓gP, gQ, ↓reduceIte, Nat.reduceAdd, Nat.reduceEqDiff, Nat.reduceLT, Nat.reduceLeDiff, Int.reduceEq, h0, h1, h2, h3, ge]
        refine CS_fn (hRb hnb ka P D qid pid mid c nv _ (hM.ext hE) hq (hP.ext hE) hN hD hD1 hb hka2 hcb hl) ?_
        rintro r H3 hr
        simp -implicitDefEqProofs only [↓gP, gQ, ↓reduceIte, Nat.reduceAdd, Nat.reduceEqDiff, Nat.reduceLT, Nat.reduceLeDiff, Int.reduceEq, h0, h1]
        rw [hm]; exact hout _ _ _ hr
      · have hm : mkT op (tr P a) (tr P b) = .bi op (tr P a) (tr P b) := by
          unfold mkT; rw [if_neg ne, hna, hnb]; simp [ge]
        have hne : ¬ a = b := fun e => by subst e; exact gb ga
        simp -implicitDefEqProofs only [↓gP, gQ, ↓reduceIte, Nat.reduceAdd, Nat.reduceEqDiff, Nat.reduceLT, Nat.reduceLeDiff, Int.reduceEq, h0, h1, h2, h3, ga, gb, ge, hab, hne, bin_or, or256 ho, bldBi]
        refine CS_fn (hput _ Ext.refl (.inr ge)) ?_
        rintro r H3 hr
        simp -implicitDefEqProofs only [↓gP, gQ, ↓reduceIte, Nat.reduceAdd, Nat.reduceEqDiff, Nat.reduceLT, Nat.reduceLeDiff, Int.reduceEq, h0, h1]
        rw [hm]; exact hout _ _ _ hr
  · rw [if_neg ga] at hna
    by_cases gb : P[b].op = 1
    · rw [if_pos gb] at hnb
      have hm : mkT op (tr P a) (tr P b) = rtT op (tr P a) kb := by
        unfold mkT; rw [if_neg ne, hna, hnb]
      simp -implicitDefEqProofs only [↓gP, gQ, ↓reduceIte, Nat.reduceAdd, Nat.reduceEqDiff, Nat.reduceLT, Nat.reduceLeDiff, Int.reduceEq, h0, h1, h2, h3, ga, gb]
      refine CS_fn (hRa kb P D qid pid mid c nv _ (hM.ext hE) hq (hP.ext hE) hN hD hD1 ha hkb2 hca hl) ?_
      rintro r H3 hr
      simp -implicitDefEqProofs only [↓gP, gQ, ↓reduceIte, Nat.reduceAdd, Nat.reduceEqDiff, Nat.reduceLT, Nat.reduceLeDiff, Int.reduceEq, h0, h1]
      rw [hm]; exact hout _ _ _ hr
    · rw [if_neg gb] at hnb
      have htr : (tr P a = tr P b) = (a = b) := propext ⟨fun e => tr_inj hN a b ha hb e, fun e => by rw [e]⟩
      have hm : mkT op (tr P a) (tr P b) = if tr P a = tr P b ∧ (op = 16 ∨ op = 160) then .num 0 else if tr P a = tr P b ∧ (op = 64 ∨ op = 80) then tr P a else .bi op (tr P a) (tr P b) := by
        unfold mkT; rw [if_neg ne, hna, hnb]
      have num0 : F X 73 [.ptr qid 0 2, .int .u32 0] H2 fun r H' => Made H2 H' pid mid nv P D 1 r (.num 0) := number_spec 0 P D qid pid mid nv _ (hM.ext hE) hq (hP.ext hE) hN hD (by decide) (by omega)
      by_cases e : a = b
      · have te : tr P a = tr P b := by rw [e]
        by_cases e1 : op = 16
        · rw [if_pos ⟨te, .inl e1⟩] at hm
          simp -implicitDefEqProofs only [↓gP, gQ, ↓reduceIte, Nat.reduceAdd, Nat.reduceEqDiff, Nat.reduceLT, Nat.reduceLeDiff, Int.reduceEq, h0, h1, h2, h3, ga, gb, hab, e, e1]
          subst e
          refine CS_fn num0 ?_
          rintro r H3 ⟨nv', P', x, hg, rfl, hx, ht⟩
          simp -implicitDefEqProofs only [↓gP, gQ, ↓reduceIte, Nat.reduceAdd, Nat.reduceEqDiff, Nat.reduceLT, Nat.reduceLeDiff, Int.reduceEq, h0, h1]
          refine hout _ _ _ ⟨nv', P', x, hg.le (by omega), rfl, hx, by rw [ht, ← e1, hm]⟩
        · by_cases e2 : op = 160
          · rw [if_pos ⟨te, .inr e2⟩] at hm
            simp -implicitDefEqProofs only [↓gP, gQ, ↓reduceIte, Nat.reduceAdd, Nat.reduceEqDiff, Nat.reduceLT, Nat.reduceLeDiff, Int.reduceEq, h0, h1, h2, h3, ga, gb, hab, e, e1, e2]
            subst e
            refine CS_fn num0 ?_
            rintro r H3 ⟨nv', P', x, hg, rfl, hx, ht⟩
            simp -implicitDefEqProofs only [↓gP, gQ, ↓reduceIte, Nat.reduceAdd, Nat.reduceEqDiff, Nat.reduceLT, Nat.reduceLeDiff, Int.reduceEq, h0, h1]
            refine hout _ _ _ ⟨nv', P', x, hg.le (by omega), rfl, hx, by rw [ht, ← e2, hm]⟩
          · rw [if_neg (fun h => h.2.elim e1 e2)] at hm
            by_cases e3 : op = 64
            · rw [if_pos ⟨te, .inl e3⟩] at hm
              simp -implicitDefEqProofs only [↓gP, gQ, ↓reduceIte, Nat.reduceAdd, Nat.reduceEqDiff, Nat.reduceLT, Nat.reduceLeDiff, Int.reduceEq, h0, h1, h2, h3, ga, gb, hab, e, e1, e2, e3]
              subst e
              exact hout _ _ _ ⟨nv, P, a, Grew.refl (hP.ext hE) hN hD Ext.refl, rfl, ha, by rw [← e3, hm]⟩
            · by_cases e4 : op = 80
              · rw [if_pos ⟨te, .inr e4⟩] at hm
                simp -implicitDefEqProofs only [↓gP, gQ, ↓reduceIte, Nat.reduceAdd, Nat.reduceEqDiff, Nat.reduceLT, Nat.reduceLeDiff, Int.reduceEq, h0, h1, h2, h3, ga, gb, hab, e, e1, e2, e3, e4]
                subst e
                exact hout _ _ _ ⟨nv, P, a, Grew.refl (hP.ext hE) hN hD Ext.refl, rfl, ha, by rw [← e4, hm]⟩
              · rw [if_neg (fun h => h.2.elim e3 e4)] at hm
                subst e
                simp -implicitDefEqProofs only [↓gP, gQ, ↓reduceIte, Nat.reduceAdd, Nat.reduceEqDiff, Nat.reduceLT, Nat.reduceLeDiff, Int.reduceEq, h0, h1, h2, h3, ga, hab, e1, e2, e3, e4, bin_or, or256 ho, bldBi]
                refine CS_fn (hput _ Ext.refl (.inl hnb)) ?_
                rintro r H3 hr
                simp -implicitDefEqProofs only [↓gP, gQ, ↓reduceIte, Nat.reduceAdd, Nat.reduceEqDiff, Nat.reduceLT, Nat.reduceLeDiff, Int.reduceEq, h0, h1]
                rw [hm]; exact hout _ _ _ hr
      · have te : ¬ tr P a = tr P b := by rw [htr]; exact e
        rw [if_neg (fun h => te h.1), if_neg (fun h => te h.1)] at hm
        simp -implicitDefEqProofs only [↓gP, gQ, ↓reduceIte, Nat.reduceAdd, Nat.reduceEqDiff, Nat.reduceLT, Nat.reduceLeDiff, Int.reduceEq, h0, h1, h2, h3, ga, gb, hab, e, bin_or, or256 ho, bldBi]
        refine CS_fn (hput _ Ext.refl (.inl hnb)) ?_
        rintro r H3 hr
        simp -implicitDefEqProofs only [↓gP, gQ, ↓reduceIte, Nat.reduceAdd, Nat.reduceEqDiff, Nat.reduceLT, Nat.reduceLeDiff, Int.reduceEq, h0, h1]
        rw [hm]; exact hout _ _ _ hr
end Go.Va
end

section
set_option linter.unusedSimpArgs false
set_option linter.unusedVariables false
set_option linter.unusedSectionVars false
namespace Go.Va
open Go.Proofs

theorem tmod32 {k : Nat} : ((k : Nat) : Int).tmod 32 = ((k % 32 : Nat) : Int) := by
  rw [Int.tmod_eq_emod_of_nonneg (by omega)]; omega
theorem redK_if {op : Int} {k : Nat} : (redK op k : Int) = if op = 96 ∨ op = 112 then ((k % 32 : Nat) : Int) else (k : Nat) := by
  unfold redK; split <;> rfl
theorem plainP_12 {op : Int} {k : Nat} : (plainP op k).1 = 0 ∨ (plainP op k).1 = 1 ∨ (plainP op k).1 = 2 := by
  unfold plainP
  repeat' split
  all_goals simp
theorem rt_eq1 {op : Int} {t : Tm} {k : Nat} (h : (plainP op (redK op k)).1 = 1) : rtT op t k = t := by
  unfold rtT; rw [if_pos h]
theorem rt_eq2 {op : Int} {t : Tm} {k : Nat} (h : (plainP op (redK op k)).1 = 2) : rtT op t k = .num (plainP op (redK op k)).2 := by
  unfold rtT; rw [if_neg (by omega), if_pos h]
theorem rt_chain {op : Int} {a : Tm} {j k : Nat} (h : (plainP op (redK op k)).1 = 0) (he : eitherB op = true) : rtT op (.bi op a (.num j)) k = match numOf a with
    | some x => .num (alu1 op x (alu1 op j (redK op k)))
    | none => rtT op a (alu1 op j (redK op k)) := by
  conv => lhs; unfold rtT
  rw [if_neg (by omega), if_neg (by omega)]
  simp only [he, true_and, if_true]
  all_goals (cases numOf a <;> rfl)
theorem rt_last {op : Int} {t : Tm} {k : Nat} (h : (plainP op (redK op k)).1 = 0) (hn : ∀ a j, t = .bi op a (.num j) → eitherB op = false) : rtT op t k = .bi op t (.num (redK op k)) := by
  conv => lhs; unfold rtT
  rw [if_neg (by omega), if_neg (by omega)]
  split
  · rename_i op' a j
    rw [if_neg]
    rintro ⟨h1, rfl⟩
    rw [hn _ _ rfl] at h1; cases h1
  · rfl
theorem chn_zero {op : Int} {t : Tm} (hn : ∀ a j, t = .bi op a (.num j) → eitherB op = false) : chn op t = 0 := by
  cases t with
  | bi op' a b =>
    simp only [chn]
    rw [if_neg]
    rintro ⟨h1, rfl, h3⟩
    obtain ⟨j, hj⟩ := Option.isSome_iff_exists.1 h3
    rw [numOf_some hj] at hn
    rw [hn _ _ rfl] at h1; cases h1
  | _ => rfl

theorem right_spec' (op : Int) (ho : op ∈ ops9) : ∀ a, RtAt op a := by
  intro a
  induction a using Nat.strongRecOn with
  | ind a ih =>
  intro k P D qid pid mid c nv H hM hq hP hN hD hD1 ha hk hc hl
  refine F_slim S90_eq rfl fun ρ hρ => ?_
  simp only [AGs] at hρ
  obtain ⟨h0, h1, h2, h3, -⟩ := hρ
  have hr := redK_lt (op := op) hk
  have hri := redK_if (op := op) (k := k)
  have e1 := rt_eq1 (op := op) (t := tr P a) (k := k)
  have e2 := rt_eq2 (op := op) (t := tr P a) (k := k)
  have e3 := fun t j => rt_chain (op := op) (a := t) (j := j) (k := k)
  have e4 := rt_last (op := op) (t := tr P a) (k := k)
  generalize redK op k = k' at hr hri e1 e2 e3 e4
  obtain ⟨b, hb, hobj⟩ := id hM
  have hp2 := plainP_lt (op := op) (k := k')
  simp -implicitDefEqProofs only [↓gP, gQ, ↓reduceIte, Nat.reduceAdd, Nat.reduceEqDiff, Nat.reduceLT, Nat.reduceLeDiff, Int.reduceEq, S90, h0, h1, h2, h3]
  by_cases s1 : op = 96
  focus
    rw [if_pos (.inl s1)] at hri
    simp -implicitDefEqProofs only [↓gP, gQ, ↓reduceIte, Nat.reduceAdd, Nat.reduceEqDiff, Nat.reduceLT, Nat.reduceLeDiff, Int.reduceEq, h0, h1, h2, h3, eq_true s1, tmod_bin32, tmod32]
  rotate_left
  focus
    by_cases s2 : op = 112
    focus
      rw [if_pos (.inr s2)] at hri
      simp -implicitDefEqProofs only [↓gP, gQ, ↓reduceIte, Nat.reduceAdd, Nat.reduceEqDiff, Nat.reduceLT, Nat.reduceLeDiff, Int.reduceEq, h0, h1, h2, h3, eq_false s1, eq_true s2, tmod_bin32, tmod32]
    rotate_left
    focus
      rw [if_neg (by omega)] at hri
      simp -implicitDefEqProofs only [↓gP, gQ, ↓reduceIte, Nat.reduceAdd, Nat.reduceEqDiff, Nat.reduceLT, Nat.reduceLeDiff, Int.reduceEq, h0, h1, h2, h3, eq_false s1, eq_false s2]
  all_goals
    simp only [← hri] at h3 ⊢
    refine CS_fn (plain_spec _ k' _) ?_
    rintro _ _ ⟨rfl, rfl⟩
    rcases plainP_12 (op := op) (k := k') with p | p | p
    · have i1 : ¬ (((plainP op k').1 : Nat) : Int) = 1 := by omega
      have i2 : ¬ (((plainP op k').1 : Nat) : Int) = 2 := by omega
      simp -implicitDefEqProofs only [↓gP, gQ, ↓reduceIte, Nat.reduceAdd, Nat.reduceEqDiff, Nat.reduceLT, Nat.reduceLeDiff, Int.reduceEq, h0, h1, h2, h3, i1, i2, hobj, hb]
      refine CS_fn (at_spec _ P pid mid nv _ hP) ?_
      rintro r H2 ⟨hE2, hr2⟩
      rw [dif_pos ⟨by omega, by omega⟩] at hr2
      simp only [Int.toNat_natCast] at hr2
      subst hr2
      have hEb : ∀ l, Ext H (H2 ++ l) := fun l => hE2.app
      simp -implicitDefEqProofs only [↓gP, gQ, ↓reduceIte, Nat.reduceAdd, Nat.reduceEqDiff, Nat.reduceLT, Nat.reduceLeDiff, Int.reduceEq, h0, h1, h2, h3, Nd.v]
      refine CS_fn (either_spec op _) ?_
      rintro _ _ ⟨rfl, rfl⟩
      -- no chain: the number, and the node
      have last : ∀ (H3 : Heap), Ext H H3 → (∀ t j, tr P a = .bi op t (.num j) → eitherB op = false) → ∀ (N : AV → Heap → Prop), (∀ r H', Made H H' pid mid nv P D (c + 2) r (rtT op (tr P a) k) → N r H') →
          F X 73 [.ptr qid 0 2, .int .u32 (k' : Nat)] H3 fun r H4 => ∃ x : Nat, r = .int .i64 (x : Nat) ∧ F X 91 [.ptr qid 0 2, .agg [.int .i64 (256 + op), .int .i64 (a : Nat), .int .i64 (x : Nat), .int .u32 0]] H4 N := by
        intro H3 hE3 hch N hN'
        refine (number_spec k' P D qid pid mid nv _ (hM.ext hE3) hq (hP.ext hE3) hN hD hr (by omega)).mono ?_
        rintro r H4 ⟨nv', P', x, hg, rfl, hx, ht⟩
        refine ⟨x, rfl, ?_⟩
        obtain ⟨hM4, hq4⟩ := (hM.ext hE3).grew hq hg
        obtain ⟨n1, n2, n3⟩ := bi_node ho (hg.lt ha) hx (tr P')
        have hlen := hg.len
        refine (mput_spec ⟨256 + op, a, x, 0⟩ P' D qid pid mid nv' _ hM4 hq4 hg.at' hg.nice hg.ch n1 n2 (by omega) (fun op' => ?_)).mono ?_
        · rw [n3, hg.tr ha]
          simp only [chn]
          split
          · rename_i h
            rw [h.2.1.symm, chn_zero hch]; omega
          · omega
        · rintro r H5 ⟨nv'', P'', y, hg2, hr5, hy, hty⟩
          refine hN' _ _ ⟨nv'', P'', y, ((hg.trans hg2).le (by omega)).ext hE3, hr5, hy, ?_⟩
          rw [hty, n3, hg.tr ha, ht, e4 p hch]
      by_cases he : eitherB op = true
      · have hbox : (H2 ++ [AObj.cells [AV.int .i64 P[a].op, AV.int .i64 P[a].a, AV.int .i64 P[a].b, AV.int .u32 P[a].k] 52 4 false])[H2.length]? = some (.cells [AV.int .i64 P[a].op, AV.int .i64 P[a].a, AV.int .i64 P[a].b, AV.int .u32 P[a].k] 52 4 false) := hp_get0
        have hE3 : Ext H (H2 ++ [AObj.cells [AV.int .i64 P[a].op, AV.int .i64 P[a].a, AV.int .i64 P[a].b, AV.int .u32 P[a].k] 52 4 false]) := hE2.app
        have hlt3 : H.length ≤ H2.length := hE2.len
        simp -implicitDefEqProofs only [↓gP, gQ, ↓reduceIte, Nat.reduceAdd, Nat.reduceEqDiff, Nat.reduceLT, Nat.reduceLeDiff, Int.reduceEq, h0, h1, h2, h3, he, bin_or, or256 ho]
        generalize H2 ++ [AObj.cells [AV.int .i64 P[a].op, AV.int .i64 P[a].a, AV.int .i64 P[a].b, AV.int .u32 P[a].k] 52 4 false] = H3 at hbox hE3
        by_cases hop : P[a].op = 256 + op
        · obtain ⟨q1, q2, q3, q4⟩ := alus_op ho
          obtain ⟨t1, t2, t3, t4, t5⟩ := tr_bi hN.may ha (by omega) (by omega) (by omega)
          have hop' : P[a].op - 256 = op := by omega
          rw [hop'] at t1
          have hA : P[a].a = ((P[a].a.toNat : Nat) : Int) := (Int.toNat_of_nonneg t2).symm
          have hB : P[a].b = ((P[a].b.toNat : Nat) : Int) := (Int.toNat_of_nonneg t4).symm
          generalize hAn : P[a].a.toNat = A at *
          generalize hBn : P[a].b.toNat = Bn at *
          have hAl : A < P.length := by omega
          have hBl : Bn < P.length := by omega
          rw [hA, hB] at hbox
          obtain ⟨kB, hkB, hkB2⟩ := ok_k hN hBl
          have hnB := tr_num hN.may hBl
          rw [hkB, Int.toNat_natCast] at hnB
          rw [hop] at hbox
          simp -implicitDefEqProofs only [↓gP, gQ, ↓reduceIte, Nat.reduceAdd, Nat.reduceEqDiff, Nat.reduceLT, Nat.reduceLeDiff, Int.reduceEq, h0, h1, h2, h3, hbox, hop]
          refine CS_fn (sis_spec Bn P qid pid mid nv _ (hM.ext hE3) (hP.ext hE3) hBl) ?_
          rintro _ H4 ⟨hE4, rfl⟩
          have hE34 := hE3.trans hE4
          have hbox4 := hE4 _ _ hbox
          rw [hkB]
          simp -implicitDefEqProofs only [↓gP, gQ, ↓reduceIte, Nat.reduceAdd, Nat.reduceEqDiff, Nat.reduceLT, Nat.reduceLeDiff, Int.reduceEq, h0, h1, h2, h3]
          by_cases gB : P[Bn].op = 1
          · rw [if_pos gB] at hnB
            have htB := numOf_some hnB
            rw [htB] at t1
            have hj2 := alu1_lt (op := op) hkB2 hr
            have hchA : chn op (tr P A) + 1 ≤ c := by
              rw [t1] at hc
              simp only [chn] at hc
              rw [if_pos (by simp [he, numOf])] at hc
              exact hc
            have e5 := e3 (tr P A) kB p he
            simp -implicitDefEqProofs only [↓gP, gQ, ↓gL, gM, ↓reduceIte, Nat.reduceAdd, Nat.reduceEqDiff, Nat.reduceLT, Nat.reduceLeDiff, Int.reduceEq, h0, h1, h2, h3, gB, hbox4]
            refine CSL_fn (tells_spec op kB k' _ hkB2 hr) ?_
            rintro _ _ ⟨rfl, rfl⟩
            simp -implicitDefEqProofs only [↓gP, gQ, ↓gL, gM, ↓reduceIte, Nat.reduceAdd, Nat.reduceEqDiff, Nat.reduceLT, Nat.reduceLeDiff, Int.reduceEq, h0, h1, h2, h3, hbox4]
            refine CSL_fn (number_spec _ P D qid pid mid nv _ (hM.ext hE34) hq (hP.ext hE34) hN hD hj2 (by omega)) ?_
            rintro r H5 ⟨nv', P', x, hg, rfl, hx, ht⟩
            obtain ⟨hM5, hq5⟩ := (hM.ext hE34).grew hq hg
            have hlen := hg.len
            have hbox5 := hg.keep.2 _ _ (fun e => by have := hP.lt e; omega) hbox4
            simp -implicitDefEqProofs only [↓gP, gQ, ↓gL, gM, ↓reduceIte, Nat.reduceAdd, Nat.reduceEqDiff, Nat.reduceLT, Nat.reduceLeDiff, Int.reduceEq, h0, h1, h2, h3]
            refine CSL_fn (make_aux op ho A x P' D qid pid mid (c - 1) nv' _ hM5 hq5 hg.at' hg.nice hg.ch hD1 (hg.lt hAl) hx (by rw [hg.tr hAl]; omega) (by rw [ht]; simp [chn]) (by omega) (ih A (by omega)) (fun h => by rw [ht] at h; simp [numOf] at h)) ?_
            rintro r H6 ⟨nv'', P'', y, hg2, rfl, hy, hty⟩
            simp -implicitDefEqProofs only [↓gP, gQ, ↓gL, gM, ↓reduceIte, Nat.reduceAdd, Nat.reduceEqDiff, Nat.reduceLT, Nat.reduceLeDiff, Int.reduceEq, h0, h1, h2, h3]
            rw [thenL_eq]
            refine ⟨?_, ?_⟩
            · intro q hq'
              simp only [List.mem_cons, List.not_mem_nil, or_false] at hq'
              rcases hq' with rfl | rfl
              · refine same_load (v := .int .i64 (A : Nat)) rfl rfl rfl ?_ ?_
                · simp -implicitDefEqProofs only [↓gP, gQ, ↓reduceIte, Nat.reduceAdd, Nat.reduceEqDiff, Nat.reduceLT, Nat.reduceLeDiff, Int.reduceEq, hbox4]
                · simp -implicitDefEqProofs only [↓gP, gQ, ↓reduceIte, Nat.reduceAdd, Nat.reduceEqDiff, Nat.reduceLT, Nat.reduceLeDiff, Int.reduceEq, hbox4]
              · refine same_load (v := .int .i64 (A : Nat)) rfl rfl rfl ?_ ?_
                · simp -implicitDefEqProofs only [↓gP, gQ, ↓reduceIte, Nat.reduceAdd, Nat.reduceEqDiff, Nat.reduceLT, Nat.reduceLeDiff, Int.reduceEq, hbox4]
                · simp -implicitDefEqProofs only [↓gP, gQ, ↓reduceIte, Nat.reduceAdd, Nat.reduceEqDiff, Nat.reduceLT, Nat.reduceLeDiff, Int.reduceEq, hbox5]
            · simp -implicitDefEqProofs only [↓gP, gQ, ↓reduceIte, Nat.reduceAdd, Nat.reduceEqDiff, Nat.reduceLT, Nat.reduceLeDiff, Int.reduceEq, h0, h1]
              refine ⟨nv'', P'', y, ((hg.trans hg2).le (by omega)).ext hE34, rfl, hy, ?_⟩
              rw [hty, hg.tr hAl, ht, t1, e5]
              unfold mkT
              rw [if_neg (ops9_ne ho)]
              cases numOf (tr P A) <;> rfl
          · rw [if_neg gB] at hnB
            simp -implicitDefEqProofs only [↓gP, gQ, ↓reduceIte, Nat.reduceAdd, Nat.reduceEqDiff, Nat.reduceLT, Nat.reduceLeDiff, Int.reduceEq, h0, h1, h2, h3, gB, bin_or, or256 ho]
            refine CS_fn (last _ hE34 (fun t j e => by rw [t1] at e; rw [(Tm.bi.inj e).2.2] at hnB; simp [numOf] at hnB) _ (fun r H' h => h)) ?_
            rintro _ H5 ⟨x, rfl, hput⟩
            simp -implicitDefEqProofs only [↓gP, gQ, ↓reduceIte, Nat.reduceAdd, Nat.reduceEqDiff, Nat.reduceLT, Nat.reduceLeDiff, Int.reduceEq, h0, h1, h2, h3, bldBi]
            refine CS_fn hput ?_
            rintro r H5 hr5
            simp -implicitDefEqProofs only [↓gP, gQ, ↓reduceIte, Nat.reduceAdd, Nat.reduceEqDiff, Nat.reduceLT, Nat.reduceLeDiff, Int.reduceEq, h0, h1]
            exact hr5
        · have hch : ∀ t j, tr P a = .bi op t (.num j) → eitherB op = false := by
            intro t j e
            rw [tr_at hN.may ha] at e
            unfold nodeT at e
            split at e
            · cases e
            · split at e
              · cases e
              · split at e
                · cases e
                · have := (Tm.bi.inj e).1; omega
          simp -implicitDefEqProofs only [↓gP, gQ, ↓reduceIte, Nat.reduceAdd, Nat.reduceEqDiff, Nat.reduceLT, Nat.reduceLeDiff, Int.reduceEq, h0, h1, h2, h3, hbox, hop, bin_or, or256 ho]
          refine CS_fn (last _ hE3 hch _ (fun r H' h => h)) ?_
          rintro _ H5 ⟨x, rfl, hput⟩
          simp -implicitDefEqProofs only [↓gP, gQ, ↓reduceIte, Nat.reduceAdd, Nat.reduceEqDiff, Nat.reduceLT, Nat.reduceLeDiff, Int.reduceEq, h0, h1, h2, h3, bldBi]
          refine CS_fn hput ?_
          rintro r H5 hr5
          simp -implicitDefEqProofs only [↓gP, gQ, ↓reduceIte, Nat.reduceAdd, Nat.reduceEqDiff, Nat.reduceLT, Nat.reduceLeDiff, Int.reduceEq, h0, h1]
          exact hr5
      · have he' : eitherB op = false := by simpa using he
        simp -implicitDefEqProofs only [↓gP, gQ, ↓reduceIte, Nat.reduceAdd, Nat.reduceEqDiff, Nat.reduceLT, Nat.reduceLeDiff, Int.reduceEq, h0, h1, h2, h3, he', bin_or, or256 ho]
        refine CS_fn (last _ (hEb _) (fun _ _ _ => he') _ (fun r H' h => h)) ?_
        rintro _ H4 ⟨x, rfl, hput⟩
        simp -implicitDefEqProofs only [↓gP, gQ, ↓reduceIte, Nat.reduceAdd, Nat.reduceEqDiff, Nat.reduceLT, Nat.reduceLeDiff, Int.reduceEq, h0, h1, h2, h3, bldBi]
        refine CS_fn hput ?_
        rintro r H5 hr5
        simp -implicitDefEqProofs only [↓gP, gQ, ↓reduceIte, Nat.reduceAdd, Nat.reduceEqDiff, Nat.reduceLT, Nat.reduceLeDiff, Int.reduceEq, h0, h1]
        exact hr5
    · have i1 : (((plainP op k').1 : Nat) : Int) = 1 := by omega
      simp -implicitDefEqProofs only [↓gP, gQ, ↓reduceIte, Nat.reduceAdd, Nat.reduceEqDiff, Nat.reduceLT, Nat.reduceLeDiff, Int.reduceEq, h0, h1, h2, h3, i1]
      exact ⟨nv, P, a, Grew.refl hP hN hD Ext.refl, rfl, ha, (e1 p).symm⟩
    · have i1 : (((plainP op k').1 : Nat) : Int) = 2 := by omega
      simp -implicitDefEqProofs only [↓gP, gQ, ↓reduceIte, Nat.reduceAdd, Nat.reduceEqDiff, Nat.reduceLT, Nat.reduceLeDiff, Int.reduceEq, h0, h1, h2, h3, i1]
      refine CS_fn (number_spec _ P D qid pid mid nv _ hM hq hP hN hD hp2 (by omega)) ?_
      rintro r H3 ⟨nv', P', x, hg, rfl, hx, ht⟩
      simp -implicitDefEqProofs only [↓gP, gQ, ↓reduceIte, Nat.reduceAdd, Nat.reduceEqDiff, Nat.reduceLT, Nat.reduceLeDiff, Int.reduceEq, h0, h1]
      exact ⟨nv', P', x, hg.le (by omega), rfl, hx, by rw [ht, e2 p]⟩
end Go.Va
end

section
set_option linter.unusedSimpArgs false
set_option linter.unusedVariables false
set_option linter.unusedSectionVars false
namespace Go.Va
open Go.Proofs

theorem make_spec (op : Int) (ho : op ∈ ops9) (a b : Nat) (P : List Nd) (D qid pid mid c : Nat) (nv : AV) (H : Heap) (hM : MkAt H qid pid) (hq : ¬ Foot pid mid nv qid) (hP : PoolAt H pid mid nv P) (hN : Nice P) (hD : ChB D P) (hD1 : 1 ≤ D) (ha : a < P.length) (hb : b < P.length)
    (hca : chn op (tr P a) ≤ c) (hcb : chn op (tr P b) ≤ c) (hl : P.length + c + 2 ≤ 65536) :
    F X 65 [.ptr qid 0 2, .int .i64 op, .int .i64 (a : Nat), .int .i64 (b : Nat)] H fun r H' => Made H H' pid mid nv P D (c + 2) r (mkT op (tr P a) (tr P b)) :=
  make_aux op ho a b P D qid pid mid c nv H hM hq hP hN hD hD1 ha hb hca hcb hl (right_spec' op ho a) fun _ => right_spec' op ho b

theorem make_neg (a : Nat) (b : Int) (P : List Nd) (D qid pid mid : Nat) (nv : AV) (H : Heap) (hM : MkAt H qid pid) (hq : ¬ Foot pid mid nv qid) (hP : PoolAt H pid mid nv P) (hN : Nice P) (hD : ChB D P) (ha : a < P.length) (hl : P.length + 1 ≤ 65536) :
    F X 65 [.ptr qid 0 2, .int .i64 128, .int .i64 (a : Nat), .int .i64 b] H fun r H' => Made H H' pid mid nv P D 1 r (negT (tr P a)) := by
  refine F_slim S65_eq rfl fun ρ hρ => ?_
  simp only [AGs] at hρ
  obtain ⟨h0, h1, h2, h3, -⟩ := hρ
  simp -implicitDefEqProofs only [↓gP, gQ, ↓reduceIte, Nat.reduceAdd, Nat.reduceEqDiff, Nat.reduceLT, Nat.reduceLeDiff, Int.reduceEq, S65, h0, h1, h2, h3, eq_self]
  refine CS_fn (other_spec a P D qid pid mid nv H hM hq hP hN hD ha hl) ?_
  rintro r H' hr
  simp -implicitDefEqProofs only [↓gP, gQ, ↓reduceIte, Nat.reduceAdd, Nat.reduceEqDiff, Nat.reduceLT, Nat.reduceLeDiff, Int.reduceEq, h0]
  exact hr

theorem told_spec (qid pid : Nat) (x : Int) (H : Heap) (hM : MkAt H qid pid) : F X 64 [.ptr qid 0 2, .int .i64 x] H fun r H' => r = .tup [.int .i64 x, .int .i64 0] ∧ H = H' := by
  refine F_slim S64_eq rfl fun ρ hρ => ?_
  simp only [AGs] at hρ
  obtain ⟨h0, h1, -⟩ := hρ
  obtain ⟨b, hb, hobj⟩ := hM
  simp -implicitDefEqProofs only [↓gP, gQ, ↓reduceIte, Nat.reduceAdd, Nat.reduceEqDiff, Nat.reduceLT, Nat.reduceLeDiff, Int.reduceEq, S64, h0, h1, hobj, hb, eq_self, and_self]

def ops10 : List Int := [0, 16, 32, 48, 64, 80, 96, 112, 128, 160]
theorem known_spec (op : Int) (H : Heap) : F X 63 [.int .i64 op] H fun r H' => r = .bool (decide (op ∈ ops10)) ∧ H = H' := by
  refine F_slim S63_eq rfl fun ρ hρ => ?_
  simp only [AGs] at hρ
  obtain ⟨h0, -⟩ := hρ
  simp -implicitDefEqProofs only [↓gP, gQ, ↓reduceIte, Nat.reduceAdd, Nat.reduceEqDiff, Nat.reduceLT, Nat.reduceLeDiff, Int.reduceEq, S63, h0]
  iterate 11 (all_goals (try (refine Br_dec (fun h => ?_) (fun h => ?_) <;> simp -implicitDefEqProofs only [↓gP, gQ, ↓reduceIte, Nat.reduceAdd, Nat.reduceEqDiff, Nat.reduceLT, Nat.reduceLeDiff, Int.reduceEq, h])))
  all_goals simp [ops10, *]

/-- A place with a tree, and no error. -/
def Made2 (H H' : Heap) (pid mid : Nat) (nv : AV) (P : List Nd) (D k : Nat) (r : AV) (t : Tm) : Prop :=
  ∃ nv' P' x, Grew H H' pid mid nv P D k nv' P' ∧ r = .tup [.int .i64 (x : Nat), .int .i64 0] ∧ x < P'.length ∧ tr P' x = t

theorem snumber_spec (k : Nat) (P : List Nd) (D pid mid : Nat) (nv : AV) (H : Heap) (hP : PoolAt H pid mid nv P) (hN : Nice P) (hD : ChB D P) (hk : k < 4294967296) (hl : P.length + 1 ≤ 65536) :
    F X 46 [.ptr pid 0 2, .int .u32 (k : Nat)] H fun r H' => Made2 H H' pid mid nv P D 1 r (.num k) := by
  refine F_slim S46_eq rfl fun ρ hρ => ?_
  simp only [AGs] at hρ
  obtain ⟨h0, h1, -⟩ := hρ
  simp -implicitDefEqProofs only [↓gP, gQ, ↓reduceIte, Nat.reduceAdd, Nat.reduceEqDiff, Nat.reduceLT, Nat.reduceLeDiff, Int.reduceEq, S46, h0, h1, bldMk]
  have hE : Ext H (H ++ [AObj.cells [AV.ptr pid 0 2, AV.int .i64 0] 110 0 false]) := Ext.refl.app
  have hM : MkAt (H ++ [AObj.cells [AV.ptr pid 0 2, AV.int .i64 0] 110 0 false]) H.length pid := ⟨0, by decide, hp_get0⟩
  have hq : ¬ Foot pid mid nv H.length := fun e => by have := hP.lt e; omega
  generalize H ++ [AObj.cells [AV.ptr pid 0 2, AV.int .i64 0] 110 0 false] = H1 at hE hM
  refine CS_fn (number_spec k P D H.length pid mid nv _ hM hq (hP.ext hE) hN hD hk hl) ?_
  rintro r H2 ⟨nv', P', x, hg, rfl, hx, ht⟩
  simp -implicitDefEqProofs only [↓gP, gQ, ↓reduceIte, Nat.reduceAdd, Nat.reduceEqDiff, Nat.reduceLT, Nat.reduceLeDiff, Int.reduceEq, h0, h1]
  refine CS_fn (told_spec _ _ _ _ (hM.grew hq hg).1) ?_
  rintro _ _ ⟨rfl, rfl⟩
  simp -implicitDefEqProofs only [↓gP, gQ, ↓reduceIte, Nat.reduceAdd, Nat.reduceEqDiff, Nat.reduceLT, Nat.reduceLeDiff, Int.reduceEq, h0]
  exact ⟨nv', P', x, hg.ext hE, rfl, hx, ht⟩

theorem neq_pool {a b c : Nat} : binA X .neq 40 (.ptr a b c) .nilp = some (.bool true) := by kernel_rfl
theorem chn_wd {op : Int} {k : Nat} : chn op (.wd k) = 0 := rfl
theorem sword_spec (w : Nat) (P : List Nd) (D pid mid : Nat) (nv : AV) (H : Heap) (hP : PoolAt H pid mid nv P) (hN : Nice P) (hD : ChB D P) (hw : w < 16) (hl : P.length + 1 ≤ 65536) :
    F X 48 [.ptr pid 0 2, .int .i64 (w : Nat)] H fun r H' => Made2 H H' pid mid nv P D 1 r (.wd w) := by
  refine F_slim S48_eq rfl fun ρ hρ => ?_
  simp only [AGs] at hρ
  obtain ⟨h0, h1, -⟩ := hρ
  have i1 : ¬ ((w : Nat) : Int) < 0 := by omega
  have i2 : ¬ (16 : Int) ≤ (w : Nat) := by omega
  have hwr : IntKind.u32.wrap ((w : Nat) : Int) = (w : Nat) := by rw [u32w]; omega
  have hm : mayB ⟨2, 0, 0, w⟩ P.length = true := by simp [mayB]; omega
  have he : putE ⟨2, 0, 0, w⟩ P = 0 := by
    have : ¬ 65536 ≤ P.length := by omega
    simp [putE, hm, this]
  have ho : (⟨2, 0, 0, w⟩ : Nd).ok := ⟨by simp, by simp; omega, by simp, by simp⟩
  simp -implicitDefEqProofs only [↓gP, gQ, ↓reduceIte, Nat.reduceAdd, Nat.reduceEqDiff, Nat.reduceLT, Nat.reduceLeDiff, Int.reduceEq, S48, h0, h1, neq_pool, i1, i2, hwr, bldWd]
  refine CS_fn (Put_spec ⟨2, 0, 0, w⟩ P pid mid nv _ hP (by omega)) ?_
  rintro _ H2 ⟨nv', hP2, hK2, hF2, rfl⟩
  rw [he, if_pos rfl] at hP2
  simp -implicitDefEqProofs only [↓gP, gQ, ↓reduceIte, Nat.reduceAdd, Nat.reduceEqDiff, Nat.reduceLT, Nat.reduceLeDiff, Int.reduceEq, h0, h1, he]
  obtain ⟨n1, n2, n3⟩ := hN.put hm ho
  refine ⟨nv', putP P ⟨2, 0, 0, w⟩, _, ⟨hP2, hK2, hF2, n1, n2, putP_len, fun i op hi => ?_⟩, rfl, putP_idx, by rw [n3]; simp [nodeT]⟩
  obtain ⟨r, hr⟩ := n2
  by_cases hi' : i < P.length
  · have := hD i op hi'
    have hmay := n1.may
    rw [hr] at hmay ⊢
    rw [tr_app hmay i hi']; exact this
  · have e : i = (putP P ⟨2, 0, 0, w⟩).idxOf ⟨2, 0, 0, w⟩ := by
      rw [idx_put]
      have hh := putP_len (l := P) (n := ⟨2, 0, 0, w⟩)
      by_cases hmem : (⟨2, 0, 0, w⟩ : Nd) ∈ P
      · rw [putP, if_pos hmem] at hi; omega
      · rw [if_neg hmem]; omega
    rw [e, n3]; simp [nodeT, chn]

/-- What is made of two terms of a pool. -/
theorem sMake_spec (op a b : Int) (P : List Nd) (D pid mid c : Nat) (nv : AV) (H : Heap) (hP : PoolAt H pid mid nv P) (hN : Nice P) (hD : ChB D P) (hD1 : 1 ≤ D) (hc : ∀ i, i < P.length → chn op (tr P i) ≤ c) (hl : P.length + c + 2 ≤ 65536) :
    F X 33 [.ptr pid 0 2, .int .i64 op, .int .i64 a, .int .i64 b] H fun r H' =>
      if op ∉ ops10 then r = .tup [.int .i64 0, .int .i64 1] ∧ Ext H H' else
      if ¬ (0 ≤ a ∧ a < P.length) ∨ (¬ (0 ≤ b ∧ b < P.length) ∧ op ≠ 128) then r = .tup [.int .i64 0, .int .i64 2] ∧ Ext H H' else
      Made2 H H' pid mid nv P D (c + 2) r (if op = 128 then negT (tr P a.toNat) else mkT op (tr P a.toNat) (tr P b.toNat)) := by
  refine F_slim S33_eq rfl fun ρ hρ => ?_
  simp only [AGs] at hρ
  obtain ⟨h0, h1, h2, h3, -⟩ := hρ
  simp -implicitDefEqProofs only [↓gP, gQ, ↓reduceIte, Nat.reduceAdd, Nat.reduceEqDiff, Nat.reduceLT, Nat.reduceLeDiff, Int.reduceEq, S33, h0, h1, h2, h3, eql_pool]
  refine CS_fn (known_spec op _) ?_
  rintro _ _ ⟨rfl, rfl⟩
  simp -implicitDefEqProofs only [↓gP, gQ, ↓reduceIte, Nat.reduceAdd, Nat.reduceEqDiff, Nat.reduceLT, Nat.reduceLeDiff, Int.reduceEq, h0, h1, h2, h3]
  refine Br_dec (fun g1 => ?_) (fun g1 => ?_)
  · simp -implicitDefEqProofs only [↓gP, gQ, ↓reduceIte, Nat.reduceAdd, Nat.reduceEqDiff, Nat.reduceLT, Nat.reduceLeDiff, Int.reduceEq, h0, h1, h2, h3]
    refine CS_fn (at_spec a P pid mid nv _ hP) ?_
    rintro r1 H1 ⟨hE1, hr1⟩
    obtain ⟨n1, ba, hba, rfl⟩ : ∃ (n : Nd) (ba : Bool), (ba = true ↔ (0 ≤ a ∧ a < P.length)) ∧ r1 = .tup [.agg [.int .i64 n.op, .int .i64 n.a, .int .i64 n.b, .int .u32 n.k], .bool ba] := by
      by_cases h : 0 ≤ a ∧ a < P.length
      · rw [dif_pos h] at hr1; exact ⟨_, true, by simp [h], hr1⟩
      · rw [dif_neg h] at hr1; exact ⟨⟨0, 0, 0, 0⟩, false, by simp [h], hr1⟩
    clear hr1
    simp -implicitDefEqProofs only [↓gP, gQ, ↓reduceIte, Nat.reduceAdd, Nat.reduceEqDiff, Nat.reduceLT, Nat.reduceLeDiff, Int.reduceEq, h0, h1, h2, h3]
    have hEa : ∀ l, Ext H (H1 ++ l) := fun l => hE1.app
    refine CS_fn (at_spec b P pid mid nv _ (hP.ext (hEa _))) ?_
    rintro r2 H2 ⟨hE2, hr2⟩
    obtain ⟨n2, bb, hbb, rfl⟩ : ∃ (n : Nd) (ba : Bool), (ba = true ↔ (0 ≤ b ∧ b < P.length)) ∧ r2 = .tup [.agg [.int .i64 n.op, .int .i64 n.a, .int .i64 n.b, .int .u32 n.k], .bool ba] := by
      by_cases h : 0 ≤ b ∧ b < P.length
      · rw [dif_pos h] at hr2; exact ⟨_, true, by simp [h], hr2⟩
      · rw [dif_neg h] at hr2; exact ⟨⟨0, 0, 0, 0⟩, false, by simp [h], hr2⟩
    clear hr2
    simp -implicitDefEqProofs only [↓gP, gQ, ↓reduceIte, Nat.reduceAdd, Nat.reduceEqDiff, Nat.reduceLT, Nat.reduceLeDiff, Int.reduceEq, h0, h1, h2, h3]
    have hE02 : Ext H (H2 ++ [AObj.cells [AV.int .i64 n2.op, AV.int .i64 n2.a, AV.int .i64 n2.b, AV.int .u32 n2.k] 52 4 false]) := ((hEa _).trans hE2).app
    generalize H2 ++ [AObj.cells [AV.int .i64 n2.op, AV.int .i64 n2.a, AV.int .i64 n2.b, AV.int .u32 n2.k] 52 4 false] = H2' at hE02
    -- what comes where both are told
    have good : ∀ (H3 : Heap), Ext H H3 → 0 ≤ a ∧ a < P.length → (0 ≤ b ∧ b < P.length ∨ op = 128) → ∀ q, q = H3.length →
        F X 65 [.ptr q 0 2, .int .i64 op, .int .i64 a, .int .i64 b] (H3 ++ [.cells [.ptr pid 0 2, .int .i64 0] 110 0 false]) fun r H' => (∃ x : Nat, r = .int .i64 (x : Nat) ∧ MkAt H' q pid ∧ Made2 H H' pid mid nv P D (c + 2) (.tup [.int .i64 (x : Nat), .int .i64 0]) (if op = 128 then negT (tr P a.toNat) else mkT op (tr P a.toNat) (tr P b.toNat))) := by
      rintro H3 hE3 ⟨a0, a1⟩ hb q rfl
      have hE4 : Ext H (H3 ++ [AObj.cells [AV.ptr pid 0 2, AV.int .i64 0] 110 0 false]) := hE3.app
      have hM : MkAt (H3 ++ [AObj.cells [AV.ptr pid 0 2, AV.int .i64 0] 110 0 false]) H3.length pid := ⟨0, by decide, hp_get0⟩
      have hq : ¬ Foot pid mid nv H3.length := fun e => by have := hP.lt e; have := hE3.len; omega
      obtain ⟨x, rfl⟩ : ∃ x : Nat, a = x := ⟨a.toNat, (Int.toNat_of_nonneg a0).symm⟩
      rw [Int.toNat_natCast]
      by_cases h128 : op = 128
      · subst h128
        rw [if_pos rfl]
        refine (make_neg x b P D _ pid mid nv _ hM hq (hP.ext hE4) hN hD (by omega) (by omega)).mono ?_
        rintro r H5 ⟨nv', P', y, hg, rfl, hy, ht⟩
        exact ⟨y, rfl, (hM.grew hq hg).1, nv', P', y, (hg.le (by omega)).ext hE4, rfl, hy, ht⟩
      · rw [if_neg h128]
        obtain ⟨b0, b1⟩ := hb.resolve_right h128
        obtain ⟨z, rfl⟩ : ∃ z : Nat, b = z := ⟨b.toNat, (Int.toNat_of_nonneg b0).symm⟩
        have ho : op ∈ ops9 := by
          simp [ops10] at g1
          simp [ops9]; omega
        rw [Int.toNat_natCast]
        refine (make_spec op ho x z P D _ pid mid c nv _ hM hq (hP.ext hE4) hN hD hD1 (by omega) (by omega) (hc x (by omega)) (hc z (by omega)) hl).mono ?_
        rintro r H5 ⟨nv', P', y, hg, rfl, hy, ht⟩
        exact ⟨y, rfl, (hM.grew hq hg).1, nv', P', y, hg.ext hE4, rfl, hy, ht⟩
    have g1' : ¬ op ∉ ops10 := fun h => h g1
    refine Br_bool (fun g2 => ?_) (fun g2 => ?_)
    · have ga := hba.1 g2
      simp -implicitDefEqProofs only [↓gP, gQ, ↓reduceIte, Nat.reduceAdd, Nat.reduceEqDiff, Nat.reduceLT, Nat.reduceLeDiff, Int.reduceEq, h0, h1, h2, h3, g2]
      refine Br_bool (fun g3 => ?_) (fun g3 => ?_)
      focus
        have gb := hbb.1 g3
        simp -implicitDefEqProofs only [↓gP, gQ, ↓reduceIte, Nat.reduceAdd, Nat.reduceEqDiff, Nat.reduceLT, Nat.reduceLeDiff, Int.reduceEq, h0, h1, h2, h3, g3, bldMk]
        refine CS_fn (good _ hE02 ga (.inl gb) _ rfl) ?_
      rotate_left
      focus
        have gb : ¬ (0 ≤ b ∧ b < P.length) := fun h => by rw [hbb.2 h] at g3; cases g3
        simp -implicitDefEqProofs only [↓gP, gQ, ↓reduceIte, Nat.reduceAdd, Nat.reduceEqDiff, Nat.reduceLT, Nat.reduceLeDiff, Int.reduceEq, h0, h1, h2, h3, g3]
        refine Br_dec (fun g4 => ?_) (fun g4 => ?_)
        focus
          simp -implicitDefEqProofs only [↓gP, gQ, ↓reduceIte, Nat.reduceAdd, Nat.reduceEqDiff, Nat.reduceLT, Nat.reduceLeDiff, Int.reduceEq, h0, h1, h2, h3, eq_true g4, bldMk]
          refine CS_fn (good _ hE02 ga (.inr g4) _ rfl) ?_
        rotate_left
        focus
          simp -implicitDefEqProofs only [↓gP, gQ, ↓reduceIte, Nat.reduceAdd, Nat.reduceEqDiff, Nat.reduceLT, Nat.reduceLeDiff, Int.reduceEq, h0, h1, h2, h3, g4]
          rw [if_neg g1', if_pos (.inr ⟨gb, g4⟩)]
          exact ⟨by first | trivial | rfl, hE02⟩
      all_goals
        rintro _ H4 ⟨x, rfl, hM4, hmd⟩
        simp -implicitDefEqProofs only [↓gP, gQ, ↓reduceIte, Nat.reduceAdd, Nat.reduceEqDiff, Nat.reduceLT, Nat.reduceLeDiff, Int.reduceEq, h0, h1, h2, h3, List.length_append]
        refine CS_fn (told_spec _ pid _ _ hM4) ?_
        rintro _ _ ⟨rfl, rfl⟩
        simp -implicitDefEqProofs only [↓gP, gQ, ↓reduceIte, Nat.reduceAdd, Nat.reduceEqDiff, Nat.reduceLT, Nat.reduceLeDiff, Int.reduceEq, h0, h1, h2, h3]
        rw [if_neg g1', if_neg (by rintro (h | h); exact h ga; first | exact h.1 gb | exact h.2 g4)]
        first | exact hmd | (rw [if_pos g4] at hmd; exact hmd)
    · have ga : ¬ (0 ≤ a ∧ a < P.length) := fun h => by rw [hba.2 h] at g2; cases g2
      simp -implicitDefEqProofs only [↓gP, gQ, ↓reduceIte, Nat.reduceAdd, Nat.reduceEqDiff, Nat.reduceLT, Nat.reduceLeDiff, Int.reduceEq, h0, h1, h2, h3, g2]
      rw [if_neg g1', if_pos (.inl ga)]
      exact ⟨by first | trivial | rfl, hE02⟩
  · simp -implicitDefEqProofs only [↓gP, gQ, ↓reduceIte, Nat.reduceAdd, Nat.reduceEqDiff, Nat.reduceLT, Nat.reduceLeDiff, Int.reduceEq, h0, h1, h2, h3]
    rw [if_pos g1]
    exact ⟨by first | trivial | rfl, Ext.refl⟩
end Go.Va
end

section
set_option linter.unusedSimpArgs false
set_option linter.unusedVariables false
set_option linter.unusedSectionVars false
namespace Go.Va
open Go.Proofs

/-- A row that has grown. -/
structure GrewR (H H' : Heap) (v : AV) (P : List Nd) (D k : Nat) (v' : AV) (P' : List Nd) : Prop where
  row : RowAt H' v' P'
  grown : Grown H H' v v' P
  gr : ∀ id c e born ro, slId v = some id → H[id]? = some (.cells c e born ro) → ∃ d, H'[id]? = some (.cells (c ++ d) e born ro)
  nice : Nice P'
  pre : ∃ r, P' = P ++ r
  len : P'.length ≤ P.length + k
  ch : ChB D P'
section
variable {H H' H'' : Heap} {v v' v'' : AV} {P P' P'' : List Nd} {D k k' : Nat}
theorem GrewR.le (h : GrewR H H' v P D k v' P') (hk : k ≤ k') : GrewR H H' v P D k' v' P' := { h with len := Nat.le_trans h.len (by omega) }
theorem GrewR.refl (hO : RowAt H v P) (hN : Nice P) (hD : ChB D P) (hE : Ext H H') : GrewR H H' v P D k v P :=
  ⟨hO.ext hE, Grown.refl hO hE, fun id c e born ro _ h => ⟨[], by rw [List.append_nil]; exact hE _ _ h⟩, hN, ⟨[], by simp⟩, by omega, hD⟩
theorem GrewR.ext (h : GrewR H' H'' v P D k v' P') (hE : Ext H H') : GrewR H H'' v P D k v' P' :=
  { h with
    grown := ⟨hE.keep.trans h.grown.keep, h.grown.old, h.grown.place.imp id fun ⟨i, e, hi⟩ => ⟨i, e, Nat.le_trans hE.len hi⟩⟩
    gr := fun id c e born ro hv hc => h.gr id c e born ro hv (hE _ _ hc) }
theorem GrewR.app (h : GrewR H H' v P D k v' P') (hE : Ext H' H'') : GrewR H H'' v P D k v' P' :=
  { h with
    row := h.row.ext hE
    grown := ⟨h.grown.keep.trans hE.keep, h.grown.old.ext hE, h.grown.place⟩
    gr := fun id c e born ro hv hc => let ⟨d, hd⟩ := h.gr id c e born ro hv hc; ⟨d, hE _ _ hd⟩ }
theorem GrewR.trans (h : GrewR H H' v P D k v' P') (g : GrewR H' H'' v' P' D k' v'' P'') : GrewR H H'' v P D (k + k') v'' P'' := by
  have key : ∀ id c e born ro, slId v = some id → id < H.length → H'[id]? = some (.cells c e born ro) → ∃ d, H''[id]? = some (.cells (c ++ d) e born ro) := by
    intro id c e born ro hv hlt hc
    by_cases hv' : slId v' = some id
    · exact g.gr id c e born ro hv' hc
    · exact ⟨[], by rw [List.append_nil]; exact g.grown.keep.2 _ _ hv' hc⟩
  refine ⟨g.row, ⟨⟨Nat.le_trans h.grown.keep.1 g.grown.keep.1, fun i o hn hi => ?_⟩, ?_, ?_⟩, fun id c e born ro hv hc => ?_, g.nice, ?_, ?_, g.ch⟩
  · refine g.grown.keep.2 i o ?_ (h.grown.keep.2 i o hn hi)
    intro e
    rcases h.grown.place with p | ⟨id, p, q⟩
    · rw [p] at e; exact hn e
    · rw [p] at e; cases e
      rw [List.getElem?_eq_some_iff] at hi; have := hi.1; omega
  · refine h.grown.old.grow fun id c e born ro hv hc => ?_
    by_cases hv' : slId v' = some id
    · exact g.gr id c e born ro hv' hc
    · exact ⟨[], by rw [List.append_nil]; exact g.grown.keep.2 _ _ hv' hc⟩
  · rcases g.grown.place with p | ⟨id, p, q⟩
    · rw [p]; exact h.grown.place
    · exact .inr ⟨id, p, Nat.le_trans h.grown.keep.1 q⟩
  · obtain ⟨d, hd⟩ := h.gr id c e born ro hv hc
    have hlt : id < H.length := by rw [List.getElem?_eq_some_iff] at hc; exact hc.1
    obtain ⟨d2, hd2⟩ := key id _ e born ro hv hlt hd
    exact ⟨d ++ d2, by rw [← List.append_assoc]; exact hd2⟩
  · obtain ⟨r, hr⟩ := h.pre
    obtain ⟨s, hs⟩ := g.pre
    exact ⟨r ++ s, by rw [hs, hr, List.append_assoc]⟩
  · have := h.len; have := g.len; omega
theorem GrewR.tr (h : GrewR H H' v P D k v' P') {i : Nat} (hi : i < P.length) : tr P' i = tr P i := by
  obtain ⟨r, hr⟩ := h.pre
  have := h.nice.may
  rw [hr] at this ⊢
  exact tr_app this i hi
theorem GrewR.lt (h : GrewR H H' v P D k v' P') {i : Nat} (hi : i < P.length) : i < P'.length := by
  obtain ⟨r, hr⟩ := h.pre
  rw [hr, List.length_append]; omega
end

/-- A row and a place in it with a tree. -/
def MadeR (H H' : Heap) (v : AV) (P : List Nd) (D k : Nat) (r : AV) (t : Tm) : Prop :=
  ∃ v' P' x, GrewR H H' v P D k v' P' ∧ r = .tup [v', .int .i64 (x : Nat)] ∧ x < P'.length ∧ tr P' x = t

theorem rput2 (n : Nd) (P : List Nd) (D : Nat) (v : AV) (H : Heap) (hO : RowAt H v P) (hN : Nice P) (hD : ChB D P) (hm : mayB n P.length = true) (ho : n.ok) (hl : P.length + 1 ≤ 65536) (hc : ∀ op, chn op (nodeT n (tr P)) ≤ D) :
    F X 56 [v, .agg [.int .i64 n.op, .int .i64 n.a, .int .i64 n.b, .int .u32 n.k]] H fun r H' => MadeR H H' v P D 1 r (nodeT n (tr P)) := by
  refine (rput_spec n P v H hO (by omega)).mono ?_
  rintro r H' ⟨v', rfl, h1, h2, h3⟩
  obtain ⟨n1, n2, n3⟩ := hN.put hm ho
  refine ⟨v', putP P n, _, ⟨h1, h2, h3, n1, n2, putP_len, fun i op hi => ?_⟩, rfl, putP_idx, n3⟩
  obtain ⟨r, hr⟩ := n2
  by_cases hi' : i < P.length
  · have := hD i op hi'
    have hmay := n1.may
    rw [hr] at hmay ⊢
    rw [tr_app hmay i hi']; exact this
  · have e : i = (putP P n).idxOf n := by
      rw [idx_put]
      have hh := putP_len (l := P) (n := n)
      by_cases hmem : n ∈ P
      · rw [putP, if_pos hmem] at hi; omega
      · rw [if_neg hmem]; omega
    rw [e, n3]; exact hc op

theorem rnumber_spec (k : Nat) (P : List Nd) (D : Nat) (v : AV) (H : Heap) (hO : RowAt H v P) (hN : Nice P) (hD : ChB D P) (hk : k < 4294967296) (hl : P.length + 1 ≤ 65536) :
    F X 61 [v, .int .u32 (k : Nat)] H fun r H' => MadeR H H' v P D 1 r (.num k) := by
  refine F_slim S61_eq rfl fun ρ hρ => ?_
  simp only [AGs] at hρ
  obtain ⟨h0, h1, -⟩ := hρ
  simp -implicitDefEqProofs only [↓gP, gQ, ↓reduceIte, Nat.reduceAdd, Nat.reduceEqDiff, Nat.reduceLT, Nat.reduceLeDiff, Int.reduceEq, S61, h0, h1, bldNum]
  refine CS_fn (rput2 ⟨1, 0, 0, k⟩ P D v H hO hN hD rfl ⟨by simp, by simp; omega, by simp, by simp⟩ hl (fun op => by simp [nodeT, chn])) ?_
  rintro r H' ⟨v', P', x, hg, rfl, hx, ht⟩
  simp -implicitDefEqProofs only [↓gP, gQ, ↓reduceIte, Nat.reduceAdd, Nat.reduceEqDiff, Nat.reduceLT, Nat.reduceLeDiff, Int.reduceEq, h0, h1]
  exact ⟨v', P', x, hg, rfl, hx, by rw [ht]; simp [nodeT]⟩

theorem sum_spec (op : Int) (a b : Nat) (H : Heap) (ha : a < 4294967296) (hb : b < 4294967296) : F X 66 [.int .i64 op, .int .u32 (a : Nat), .int .u32 (b : Nat)] H fun r H' => Ext H H' ∧ r = .int .u32 (alu1 op a b : Nat) := by
  refine F_slim S66_eq rfl fun ρ hρ => ?_
  simp only [AGs] at hρ
  obtain ⟨h0, h1, h2, -⟩ := hρ
  simp -implicitDefEqProofs only [↓gP, gQ, ↓reduceIte, Nat.reduceAdd, Nat.reduceEqDiff, Nat.reduceLT, Nat.reduceLeDiff, Int.reduceEq, S66, h0, h1, h2]
  refine CS_fn (ralu_spec op a b H ha hb) ?_
  rintro _ H2 ⟨rfl, hE⟩
  simp -implicitDefEqProofs only [↓gP, gQ, ↓reduceIte, Nat.reduceAdd, Nat.reduceEqDiff, Nat.reduceLT, Nat.reduceLeDiff, Int.reduceEq]
  refine Br_bool (fun g => ?_) (fun g => ?_) <;> simp -implicitDefEqProofs only [↓gP, gQ, ↓reduceIte, Nat.reduceAdd, Nat.reduceEqDiff, Nat.reduceLT, Nat.reduceLeDiff, Int.reduceEq, g]
  · exact ⟨hE, rfl⟩
  · exact ⟨hE, by unfold alu1; rw [alu_no g]; rfl⟩

theorem turns_spec (op : Int) (H : Heap) : F X 67 [.int .i64 op] H fun r H' => r = .bool (eitherB op) ∧ H = H' := by
  refine F_slim S67_eq rfl fun ρ hρ => ?_
  simp only [AGs] at hρ
  obtain ⟨h0, -⟩ := hρ
  simp -implicitDefEqProofs only [↓gP, gQ, ↓reduceIte, Nat.reduceAdd, Nat.reduceEqDiff, Nat.reduceLT, Nat.reduceLeDiff, Int.reduceEq, S67, h0]
  iterate 6 (all_goals (try (refine Br_dec (fun h => ?_) (fun h => ?_) <;> simp -implicitDefEqProofs only [↓gP, gQ, ↓reduceIte, Nat.reduceAdd, Nat.reduceEqDiff, Nat.reduceLT, Nat.reduceLeDiff, Int.reduceEq, h0, h])))
  all_goals simp [eitherB, *]

theorem isop_spec (op : Int) (H : Heap) : F X 34 [.int .i64 op] H fun r H' => r = .bool (decide (op ∈ ops10)) ∧ H = H' := by
  refine F_slim S34_eq rfl fun ρ hρ => ?_
  simp only [AGs] at hρ
  obtain ⟨h0, -⟩ := hρ
  simp -implicitDefEqProofs only [↓gP, gQ, ↓reduceIte, Nat.reduceAdd, Nat.reduceEqDiff, Nat.reduceLT, Nat.reduceLeDiff, Int.reduceEq, S34, h0]
  iterate 11 (all_goals (try (refine Br_dec (fun h => ?_) (fun h => ?_) <;> simp -implicitDefEqProofs only [↓gP, gQ, ↓reduceIte, Nat.reduceAdd, Nat.reduceEqDiff, Nat.reduceLT, Nat.reduceLeDiff, Int.reduceEq, h0, h])))
  all_goals simp [ops10, *]
end Go.Va
end

section
set_option linter.unusedSimpArgs false
set_option linter.unusedVariables false
set_option linter.unusedSectionVars false
namespace Go.Va
open Go.Proofs

theorem add256 {op : Int} (h : op ∈ ops9) : IntKind.i64.wrap (256 + op) = 256 + op := by
  obtain ⟨h1, h2⟩ := op_range h
  rw [wrap64 (by omega) (by omega)]

/-- What the reference's right comes to, at a place. -/
def RtAtR (op : Int) (a : Nat) : Prop :=
  ∀ (k : Nat) (P : List Nd) (D c : Nat) (v : AV) (H : Heap), RowAt H v P → Nice P → ChB D P → 1 ≤ D → a < P.length → k < 4294967296 → chn op (tr P a) ≤ c → P.length + c + 2 ≤ 65536 →
    F X 68 [v, .int .i64 op, .int .i64 (a : Nat), .int .u32 (k : Nat)] H fun r H' => MadeR H H' v P D (c + 2) r (rtT op (tr P a) k)

theorem rmake_nn (op : Int) (ho : op ∈ ops9) (a b : Nat) (P : List Nd) (D c : Nat) (v : AV) (H : Heap) (hO : RowAt H v P) (hN : Nice P) (hD : ChB D P) (hD1 : 1 ≤ D) (ha : a < P.length) (hb : b < P.length)
    (hca : chn op (tr P a) ≤ c) (hl : P.length + c + 2 ≤ 65536) (hRa : RtAtR op a) (ga : ¬ P[a].op = 1) :
    F X 35 [v, .int .i64 op, .int .i64 (a : Nat), .int .i64 (b : Nat)] H fun r H' => MadeR H H' v P D (c + 2) r (mkT op (tr P a) (tr P b)) := by
  refine F_slim S35_eq rfl fun ρ hρ => ?_
  simp only [AGs] at hρ
  obtain ⟨h0, h1, h2, h3, -⟩ := hρ
  obtain ⟨kb, hkb, hkb2⟩ := ok_k hN hb
  have hna := tr_num hN.may ha
  rw [if_neg ga] at hna
  have hnb := tr_num hN.may hb
  rw [hkb, Int.toNat_natCast] at hnb
  have ne := ops9_ne ho
  have hab : (((a : Nat) : Int) = (b : Nat)) = (a = b) := propext Int.ofNat_inj
  obtain ⟨nx, -, -, -, -, -, nld⟩ := hO.shows.nodes
  have hE1 : ∀ l, Ext H (H ++ l) := fun l => Ext.refl.app
  simp -implicitDefEqProofs only [↓gP, gQ, ↓reduceIte, Nat.reduceAdd, Nat.reduceEqDiff, Nat.reduceLT, Nat.reduceLeDiff, Int.reduceEq, S35, h0, h1, h2, h3, ne, nx, nld _ _ ha Ext.refl, nld _ _ hb (hE1 _), ha, hb, hkb, ga]
  generalize hH2 : H ++ [AObj.cells [AV.int .i64 P[a].op, AV.int .i64 P[a].a, AV.int .i64 P[a].b, AV.int .u32 P[a].k] 52 4 false, AObj.cells [AV.int .i64 P[b].op, AV.int .i64 P[b].a, AV.int .i64 P[b].b, AV.int .u32 (kb : Nat)] 52 4 false] = H2
  have hE : Ext H H2 := by rw [← hH2]; exact hE1 _
  have hb2 : H2[H.length + 1]? = some (.cells [AV.int .i64 P[b].op, AV.int .i64 P[b].a, AV.int .i64 P[b].b, AV.int .u32 (kb : Nat)] 52 4 false) := by rw [← hH2]; exact hp_get
  have hout : ∀ (t : Tm) (r : AV) (H3 : Heap), MadeR H2 H3 v P D (c + 2) r t → MadeR H H3 v P D (c + 2) r t := fun t r H3 ⟨v', P', x, hg, hr, hx, ht⟩ => ⟨v', P', x, hg.ext hE, hr, hx, ht⟩
  by_cases gb : P[b].op = 1
  · rw [if_pos gb] at hnb
    have hm : mkT op (tr P a) (tr P b) = rtT op (tr P a) kb := by
      unfold mkT; rw [if_neg ne, hna, hnb]
    simp -implicitDefEqProofs only [↓gP, gQ, ↓reduceIte, Nat.reduceAdd, Nat.reduceEqDiff, Nat.reduceLT, Nat.reduceLeDiff, Int.reduceEq, h0, h1, h2, h3, gb, hb2]
    refine CS_fn (hRa kb P D c v _ (hO.ext hE) hN hD hD1 ha hkb2 hca hl) ?_
    rintro r H3 ⟨v', P', x, hg, rfl, hx, ht⟩
    simp -implicitDefEqProofs only [↓gP, gQ, ↓reduceIte, Nat.reduceAdd, Nat.reduceEqDiff, Nat.reduceLT, Nat.reduceLeDiff, Int.reduceEq, h0, h1]
    rw [hm]; exact hout _ _ _ ⟨v', P', x, hg, rfl, hx, ht⟩
  · rw [if_neg gb] at hnb
    have hm : mkT op (tr P a) (tr P b) = if tr P a = tr P b ∧ (op = 16 ∨ op = 160) then .num 0 else if tr P a = tr P b ∧ (op = 64 ∨ op = 80) then tr P a else .bi op (tr P a) (tr P b) := by
      unfold mkT; rw [if_neg ne, hna, hnb]
    have num0 : F X 61 [v, .int .u32 0] H2 fun r H' => MadeR H2 H' v P D 1 r (.num 0) := rnumber_spec 0 P D v _ (hO.ext hE) hN hD (by decide) (by omega)
    have hput : F X 56 [v, .agg [.int .i64 (256 + op), .int .i64 (a : Nat), .int .i64 (b : Nat), .int .u32 0]] H2 fun r H' => MadeR H2 H' v P D (c + 2) r (.bi op (tr P a) (tr P b)) := by
      obtain ⟨n1, n2, n3⟩ := bi_node ho ha hb (tr P)
      refine (rput2 ⟨256 + op, a, b, 0⟩ P D v _ (hO.ext hE) hN hD n1 n2 (by omega) (fun op' => ?_)).mono ?_
      · rw [n3]
        simp only [chn]
        rw [if_neg (by rintro ⟨_, _, g3⟩; rw [hnb] at g3; cases g3)]
        omega
      · rintro r H3 ⟨v', P', x, hg, hr, hx, ht⟩
        exact ⟨v', P', x, hg.le (by omega), hr, hx, by rw [ht, n3]⟩
    by_cases e : a = b
    · have te : tr P a = tr P b := by rw [e]
      by_cases e1 : op = 16
      · rw [if_pos ⟨te, .inl e1⟩] at hm
        simp -implicitDefEqProofs only [↓gP, gQ, ↓reduceIte, Nat.reduceAdd, Nat.reduceEqDiff, Nat.reduceLT, Nat.reduceLeDiff, Int.reduceEq, h0, h1, h2, h3, gb, hb2, hab, eq_true e, eq_true e1]
        refine CS_fn num0 ?_
        rintro r H3 ⟨v', P', x, hg, rfl, hx, ht⟩
        simp -implicitDefEqProofs only [↓gP, gQ, ↓reduceIte, Nat.reduceAdd, Nat.reduceEqDiff, Nat.reduceLT, Nat.reduceLeDiff, Int.reduceEq, h0, h1]
        exact hout _ _ _ ⟨v', P', x, hg.le (by omega), rfl, hx, by rw [ht, hm]⟩
      · by_cases e2 : op = 160
        · rw [if_pos ⟨te, .inr e2⟩] at hm
          simp -implicitDefEqProofs only [↓gP, gQ, ↓reduceIte, Nat.reduceAdd, Nat.reduceEqDiff, Nat.reduceLT, Nat.reduceLeDiff, Int.reduceEq, h0, h1, h2, h3, gb, hb2, hab, eq_true e, e1, eq_true e2]
          refine CS_fn num0 ?_
          rintro r H3 ⟨v', P', x, hg, rfl, hx, ht⟩
          simp -implicitDefEqProofs only [↓gP, gQ, ↓reduceIte, Nat.reduceAdd, Nat.reduceEqDiff, Nat.reduceLT, Nat.reduceLeDiff, Int.reduceEq, h0, h1]
          exact hout _ _ _ ⟨v', P', x, hg.le (by omega), rfl, hx, by rw [ht, hm]⟩
        · rw [if_neg (fun h => h.2.elim e1 e2)] at hm
          by_cases e3 : op = 64
          · rw [if_pos ⟨te, .inl e3⟩] at hm
            simp -implicitDefEqProofs only [↓gP, gQ, ↓reduceIte, Nat.reduceAdd, Nat.reduceEqDiff, Nat.reduceLT, Nat.reduceLeDiff, Int.reduceEq, h0, h1, h2, h3, gb, hb2, hab, eq_true e, e1, e2, eq_true e3]
            exact hout _ _ _ ⟨v, P, a, GrewR.refl (hO.ext hE) hN hD Ext.refl, rfl, ha, by rw [hm]⟩
          · by_cases e4 : op = 80
            · rw [if_pos ⟨te, .inr e4⟩] at hm
              simp -implicitDefEqProofs only [↓gP, gQ, ↓reduceIte, Nat.reduceAdd, Nat.reduceEqDiff, Nat.reduceLT, Nat.reduceLeDiff, Int.reduceEq, h0, h1, h2, h3, gb, hb2, hab, eq_true e, e1, e2, e3, eq_true e4]
              exact hout _ _ _ ⟨v, P, a, GrewR.refl (hO.ext hE) hN hD Ext.refl, rfl, ha, by rw [hm]⟩
            · rw [if_neg (fun h => h.2.elim e3 e4)] at hm
              simp -implicitDefEqProofs only [↓gP, gQ, ↓reduceIte, Nat.reduceAdd, Nat.reduceEqDiff, Nat.reduceLT, Nat.reduceLeDiff, Int.reduceEq, h0, h1, h2, h3, gb, hb2, hab, eq_true e, e1, e2, e3, e4, add256 ho, bldBi]
              refine CS_fn hput ?_
              rintro r H3 ⟨v', P', x, hg, rfl, hx, ht⟩
              simp -implicitDefEqProofs only [↓gP, gQ, ↓reduceIte, Nat.reduceAdd, Nat.reduceEqDiff, Nat.reduceLT, Nat.reduceLeDiff, Int.reduceEq, h0, h1]
              rw [hm]; exact hout _ _ _ ⟨v', P', x, hg, rfl, hx, ht⟩
    · have te : ¬ tr P a = tr P b := fun h => e (tr_inj hN a b ha hb h)
      rw [if_neg (fun h => te h.1), if_neg (fun h => te h.1)] at hm
      simp -implicitDefEqProofs only [↓gP, gQ, ↓reduceIte, Nat.reduceAdd, Nat.reduceEqDiff, Nat.reduceLT, Nat.reduceLeDiff, Int.reduceEq, h0, h1, h2, h3, gb, hb2, hab, e, add256 ho, bldBi]
      refine CS_fn hput ?_
      rintro r H3 ⟨v', P', x, hg, rfl, hx, ht⟩
      simp -implicitDefEqProofs only [↓gP, gQ, ↓reduceIte, Nat.reduceAdd, Nat.reduceEqDiff, Nat.reduceLT, Nat.reduceLeDiff, Int.reduceEq, h0, h1]
      rw [hm]; exact hout _ _ _ ⟨v', P', x, hg, rfl, hx, ht⟩

theorem rmake_aux (op : Int) (ho : op ∈ ops9) (a b : Nat) (P : List Nd) (D c : Nat) (v : AV) (H : Heap) (hO : RowAt H v P) (hN : Nice P) (hD : ChB D P) (hD1 : 1 ≤ D) (ha : a < P.length) (hb : b < P.length)
    (hca : chn op (tr P a) ≤ c) (hcb : chn op (tr P b) ≤ c) (hl : P.length + c + 2 ≤ 65536) (hRa : RtAtR op a) (hRb : numOf (tr P b) = none → RtAtR op b) :
    F X 35 [v, .int .i64 op, .int .i64 (a : Nat), .int .i64 (b : Nat)] H fun r H' => MadeR H H' v P D (c + 2) r (mkT op (tr P a) (tr P b)) := by
  by_cases ga : P[a].op = 1
  case neg => exact rmake_nn op ho a b P D c v H hO hN hD hD1 ha hb hca hl hRa ga
  refine F_slim S35_eq rfl fun ρ hρ => ?_
  simp only [AGs] at hρ
  obtain ⟨h0, h1, h2, h3, -⟩ := hρ
  obtain ⟨ka, hka, hka2⟩ := ok_k hN ha
  obtain ⟨kb, hkb, hkb2⟩ := ok_k hN hb
  have hna := tr_num hN.may ha
  rw [hka, Int.toNat_natCast, if_pos ga] at hna
  have hnb := tr_num hN.may hb
  rw [hkb, Int.toNat_natCast] at hnb
  have ne := ops9_ne ho
  have hab : (((a : Nat) : Int) = (b : Nat)) = (a = b) := propext Int.ofNat_inj
  obtain ⟨nx, -, -, -, -, -, nld⟩ := hO.shows.nodes
  have hE1 : ∀ l, Ext H (H ++ l) := fun l => Ext.refl.app
  simp -implicitDefEqProofs only [↓gP, gQ, ↓reduceIte, Nat.reduceAdd, Nat.reduceEqDiff, Nat.reduceLT, Nat.reduceLeDiff, Int.reduceEq, S35, h0, h1, h2, h3, ne, nx, nld _ _ ha Ext.refl, nld _ _ hb (hE1 _), ha, hb, hka, hkb, ga, eq_self]
  generalize hH2 : H ++ [AObj.cells [AV.int .i64 1, AV.int .i64 P[a].a, AV.int .i64 P[a].b, AV.int .u32 (ka : Nat)] 52 4 false, AObj.cells [AV.int .i64 P[b].op, AV.int .i64 P[b].a, AV.int .i64 P[b].b, AV.int .u32 (kb : Nat)] 52 4 false] = H2
  have hE : Ext H H2 := by rw [← hH2]; exact hE1 _
  have hb1 : H2[H.length]? = some (.cells [AV.int .i64 1, AV.int .i64 P[a].a, AV.int .i64 P[a].b, AV.int .u32 (ka : Nat)] 52 4 false) := by rw [← hH2]; exact hp_get0
  have hb2 : H2[H.length + 1]? = some (.cells [AV.int .i64 P[b].op, AV.int .i64 P[b].a, AV.int .i64 P[b].b, AV.int .u32 (kb : Nat)] 52 4 false) := by rw [← hH2]; exact hp_get
  have hout : ∀ (t : Tm) (r : AV) (H3 : Heap), MadeR H2 H3 v P D (c + 2) r t → MadeR H H3 v P D (c + 2) r t := fun t r H3 ⟨v', P', x, hg, hr, hx, ht⟩ => ⟨v', P', x, hg.ext hE, hr, hx, ht⟩
  by_cases gb : P[b].op = 1
  · rw [if_pos gb] at hnb
    have hm : mkT op (tr P a) (tr P b) = .num (alu1 op ka kb) := by
      unfold mkT; rw [if_neg ne, hna, hnb]
    simp -implicitDefEqProofs only [↓gP, gQ, ↓reduceIte, Nat.reduceAdd, Nat.reduceEqDiff, Nat.reduceLT, Nat.reduceLeDiff, Int.reduceEq, h0, h1, h2, h3, eq_true gb, hb1, hb2]
    refine CS_fn (sum_spec op ka kb _ hka2 hkb2) ?_
    rintro _ H3 ⟨hE3, rfl⟩
    simp -implicitDefEqProofs only [↓gP, gQ, ↓reduceIte, Nat.reduceAdd, Nat.reduceEqDiff, Nat.reduceLT, Nat.reduceLeDiff, Int.reduceEq, h0, h1, h2, h3]
    refine CS_fn (rnumber_spec _ P D v _ ((hO.ext hE).ext hE3) hN hD (alu1_lt hka2 hkb2) (by omega)) ?_
    rintro r H4 ⟨v', P', x, hg, rfl, hx, ht⟩
    simp -implicitDefEqProofs only [↓gP, gQ, ↓reduceIte, Nat.reduceAdd, Nat.reduceEqDiff, Nat.reduceLT, Nat.reduceLeDiff, Int.reduceEq, h0, h1]
    exact hout _ _ _ ⟨v', P', x, (hg.le (by omega)).ext hE3, rfl, hx, by rw [ht, hm]⟩
  · rw [if_neg gb] at hnb
    simp -implicitDefEqProofs only [↓gP, gQ, ↓reduceIte, Nat.reduceAdd, Nat.reduceEqDiff, Nat.reduceLT, Nat.reduceLeDiff, Int.reduceEq, h0, h1, h2, h3, eq_false gb, hb1, hb2]
    refine CS_fn (turns_spec op _) ?_
    rintro _ _ ⟨rfl, rfl⟩
    simp -implicitDefEqProofs only [↓gP, gQ, ↓reduceIte, Nat.reduceAdd, Nat.reduceEqDiff, Nat.reduceLT, Nat.reduceLeDiff, Int.reduceEq, h0, h1, h2, h3]
    refine Br_bool (fun ge => ?_) (fun ge => ?_)
    · have hm : mkT op (tr P a) (tr P b) = mkT op (tr P b) (tr P a) := by
        have e1 : mkT op (tr P a) (tr P b) = rtT op (tr P b) ka := by unfold mkT; rw [if_neg ne, hna, hnb]; simp [ge]
        have e2 : mkT op (tr P b) (tr P a) = rtT op (tr P b) ka := by unfold mkT; rw [if_neg ne, hna, hnb]
        rw [e1, e2]
      simp -implicitDefEqProofs only [↓gP, gQ, ↓reduceIte, Nat.reduceAdd, Nat.reduceEqDiff, Nat.reduceLT, Nat.reduceLeDiff, Int.reduceEq, h0, h1, h2, h3, ge]
      refine CS_fn (rmake_nn op ho b a P D c v _ (hO.ext hE) hN hD hD1 hb ha hcb hl (hRb hnb) gb) ?_
      rintro r H3 ⟨v', P', x, hg, rfl, hx, ht⟩
      simp -implicitDefEqProofs only [↓gP, gQ, ↓reduceIte, Nat.reduceAdd, Nat.reduceEqDiff, Nat.reduceLT, Nat.reduceLeDiff, Int.reduceEq, h0, h1]
      rw [hm]; exact hout _ _ _ ⟨v', P', x, hg, rfl, hx, ht⟩
    · have hm : mkT op (tr P a) (tr P b) = .bi op (tr P a) (tr P b) := by
        unfold mkT; rw [if_neg ne, hna, hnb]; simp [ge]
      have hne : ¬ a = b := fun e => by subst e; exact gb ga
      obtain ⟨n1, n2, n3⟩ := bi_node ho ha hb (tr P)
      simp -implicitDefEqProofs only [↓gP, gQ, ↓reduceIte, Nat.reduceAdd, Nat.reduceEqDiff, Nat.reduceLT, Nat.reduceLeDiff, Int.reduceEq, h0, h1, h2, h3, ge, eq_false gb, hb1, hb2, hab, hne, add256 ho, bldBi]
      refine CS_fn (rput2 ⟨256 + op, a, b, 0⟩ P D v _ (hO.ext hE) hN hD n1 n2 (by omega) (fun op' => ?_)) ?_
      · rw [n3]
        simp only [chn]
        rw [if_neg (by rintro ⟨_, _, g3⟩; rw [hnb] at g3; cases g3)]
        omega
      · rintro r H3 ⟨v', P', x, hg, rfl, hx, ht⟩
        simp -implicitDefEqProofs only [↓gP, gQ, ↓reduceIte, Nat.reduceAdd, Nat.reduceEqDiff, Nat.reduceLT, Nat.reduceLeDiff, Int.reduceEq, h0, h1]
        rw [hm]; exact hout _ _ _ ⟨v', P', x, hg.le (by omega), rfl, hx, by rw [ht, n3]⟩
end Go.Va
end

section
set_option linter.unusedSimpArgs false
set_option linter.unusedVariables false
set_option linter.unusedSectionVars false
namespace Go.Va
open Go.Proofs

theorem plain_gen {op : Int} {k : Nat} (h0 : ¬ k = 0) (h1 : k = 1 → ¬ op = 32 ∧ ¬ op = 48) (h2 : k = 4294967295 → ¬ op = 80 ∧ ¬ op = 64) : (plainP op k).1 = 0 := by
  unfold plainP
  by_cases e1 : k = 1
  · obtain ⟨a, b⟩ := h1 e1
    subst e1
    simp [a, b]
    repeat' split
    all_goals simp
  · by_cases e2 : k = 4294967295
    · obtain ⟨a, b⟩ := h2 e2
      subst e2
      simp [a, b]
      repeat' split
      all_goals simp
    · simp [h0, e1, e2]

set_option maxHeartbeats 4000000 in
theorem rright_spec (op : Int) (ho : op ∈ ops9) : ∀ a, RtAtR op a := by
  intro a
  induction a using Nat.strongRecOn with
  | ind a ih =>
  intro k P D c v H hO hN hD hD1 ha hk hc hl
  refine F_slim S68_eq rfl fun ρ hρ => ?_
  simp only [AGs] at hρ
  obtain ⟨h0, h1, h2, h3, -⟩ := hρ
  have hr := redK_lt (op := op) hk
  have hri := redK_if (op := op) (k := k)
  have e1 := rt_eq1 (op := op) (t := tr P a) (k := k)
  have e2 := rt_eq2 (op := op) (t := tr P a) (k := k)
  have e3 := fun t j => rt_chain (op := op) (a := t) (j := j) (k := k)
  have e4 := rt_last (op := op) (t := tr P a) (k := k)
  generalize redK op k = k' at hr hri e1 e2 e3 e4
  obtain ⟨nx, nf, nop, -, -, nk, nld⟩ := hO.shows.nodes
  -- what comes without more ado
  have one : (plainP op k').1 = 1 → ∀ H', Ext H H' → MadeR H H' v P D (c + 2) (.tup [v, .int .i64 (a : Nat)]) (rtT op (tr P a) k) := fun p H' hE => ⟨v, P, a, GrewR.refl hO hN hD hE, rfl, ha, (e1 p).symm⟩
  have two : ∀ n, (plainP op k').1 = 2 → (plainP op k').2 = n → F X 61 [v, .int .u32 (n : Nat)] H fun r H' => MadeR H H' v P D (c + 2) r (rtT op (tr P a) k) := by
    rintro n p rfl
    refine (rnumber_spec _ P D v _ hO hN hD plainP_lt (by omega)).mono ?_
    rintro r H' ⟨v', P', x, hg, hr, hx, ht⟩
    exact ⟨v', P', x, hg.le (by omega), hr, hx, by rw [ht, e2 p]⟩
  simp -implicitDefEqProofs only [↓gP, gQ, ↓reduceIte, Nat.reduceAdd, Nat.reduceEqDiff, Nat.reduceLT, Nat.reduceLeDiff, Int.reduceEq, S68, h0, h1, h2, h3]
  by_cases s1 : op = 96
  focus
    rw [if_pos (.inl s1)] at hri
    simp -implicitDefEqProofs only [↓gP, gQ, ↓reduceIte, Nat.reduceAdd, Nat.reduceEqDiff, Nat.reduceLT, Nat.reduceLeDiff, Int.reduceEq, h0, h1, h2, h3, eq_true s1, tmod_bin32, tmod32]
  rotate_left
  focus
    by_cases s2 : op = 112
    focus
      rw [if_pos (.inr s2)] at hri
      simp -implicitDefEqProofs only [↓gP, gQ, ↓reduceIte, Nat.reduceAdd, Nat.reduceEqDiff, Nat.reduceLT, Nat.reduceLeDiff, Int.reduceEq, h0, h1, h2, h3, eq_false s1, eq_true s2, tmod_bin32, tmod32]
    rotate_left
    focus
      rw [if_neg (by omega)] at hri
      simp -implicitDefEqProofs only [↓gP, gQ, ↓reduceIte, Nat.reduceAdd, Nat.reduceEqDiff, Nat.reduceLT, Nat.reduceLeDiff, Int.reduceEq, h0, h1, h2, h3, eq_false s1, eq_false s2]
  all_goals
    simp only [← hri] at h3 ⊢
    by_cases k0 : k' = 0
    focus
      have i0 : ((((k' : Nat) : Int) = 0) = True) := eq_true (by omega)
      have i1 : ((((k' : Nat) : Int) = 1) = False) := eq_false (by omega)
      have ia : ((((k' : Nat) : Int) = 4294967295) = False) := eq_false (by omega)
      by_cases m1 : op = 0 ∨ op = 16 ∨ op = 64 ∨ op = 160 ∨ op = 96 ∨ op = 112
      focus
        have p1 : (plainP op k').1 = 1 := by subst k0; rcases m1 with rfl | rfl | rfl | rfl | rfl | rfl <;> rfl
        have := one p1
        rcases m1 with m | m | m | m | m | m <;> simp -implicitDefEqProofs only [↓gP, gQ, ↓reduceIte, Nat.reduceAdd, Nat.reduceEqDiff, Nat.reduceLT, Nat.reduceLeDiff, Int.reduceEq, h0, h1, h2, h3, i0, i1, ia, m]
        all_goals (rw [m] at this; exact this _ Ext.refl)
      focus
        have m2 : op = 32 ∨ op = 80 ∨ op = 48 := by simp [ops9] at ho; omega
        have p1 : (plainP op k').1 = 2 ∧ (plainP op k').2 = 0 := by subst k0; rcases m2 with rfl | rfl | rfl <;> exact ⟨rfl, rfl⟩
        have := two 0 p1.1 p1.2
        rcases m2 with m | m | m <;> simp -implicitDefEqProofs only [↓gP, gQ, ↓reduceIte, Nat.reduceAdd, Nat.reduceEqDiff, Nat.reduceLT, Nat.reduceLeDiff, Int.reduceEq, h0, h1, h2, h3, i0, i1, ia, m]
        all_goals
          rw [m] at this
          refine CS_fn this ?_
          rintro r H3 ⟨v', P', x, hg, rfl, hx, ht⟩
          simp -implicitDefEqProofs only [↓gP, gQ, ↓reduceIte, Nat.reduceAdd, Nat.reduceEqDiff, Nat.reduceLT, Nat.reduceLeDiff, Int.reduceEq, h0, h1]
          exact ⟨v', P', x, hg, rfl, hx, ht⟩
    have i0 : ((((k' : Nat) : Int) = 0) = False) := eq_false (by omega)
    by_cases k1 : k' = 1
    focus
      have i1 : ((((k' : Nat) : Int) = 1) = True) := eq_true (by omega)
      have ia : ((((k' : Nat) : Int) = 4294967295) = False) := eq_false (by omega)
      by_cases m1 : op = 32 ∨ op = 48
      focus
        have p1 : (plainP op k').1 = 1 := by subst k1; rcases m1 with rfl | rfl <;> rfl
        have := one p1
        rcases m1 with m | m <;> simp -implicitDefEqProofs only [↓gP, gQ, ↓reduceIte, Nat.reduceAdd, Nat.reduceEqDiff, Nat.reduceLT, Nat.reduceLeDiff, Int.reduceEq, h0, h1, h2, h3, i0, i1, ia, m]
        all_goals (rw [m] at this; exact this _ Ext.refl)
      have m2 : ¬ op = 32 := fun h => m1 (.inl h)
      have m3 : ¬ op = 48 := fun h => m1 (.inr h)
      have p : (plainP op k').1 = 0 := plain_gen k0 (fun _ => ⟨m2, m3⟩) (fun h => by omega)
      simp -implicitDefEqProofs only [↓gP, gQ, ↓reduceIte, Nat.reduceAdd, Nat.reduceEqDiff, Nat.reduceLT, Nat.reduceLeDiff, Int.reduceEq, h0, h1, h2, h3, i0, i1, ia, m2, m3]
    rotate_left
    focus
      have i1 : ((((k' : Nat) : Int) = 1) = False) := eq_false (by omega)
      by_cases ka : k' = 4294967295
      focus
        have ia : ((((k' : Nat) : Int) = 4294967295) = True) := eq_true (by omega)
        by_cases m1 : op = 80
        focus
          have p1 : (plainP op k').1 = 1 := by subst ka; rw [m1]; rfl
          have := one p1
          simp -implicitDefEqProofs only [↓gP, gQ, ↓reduceIte, Nat.reduceAdd, Nat.reduceEqDiff, Nat.reduceLT, Nat.reduceLeDiff, Int.reduceEq, h0, h1, h2, h3, i0, i1, ia, m1]
          rw [m1] at this; exact this _ Ext.refl
        by_cases m2 : op = 64
        focus
          have p1 : (plainP op k').1 = 2 ∧ (plainP op k').2 = 4294967295 := by subst ka; rw [m2]; exact ⟨rfl, rfl⟩
          have := two _ p1.1 p1.2
          simp -implicitDefEqProofs only [↓gP, gQ, ↓reduceIte, Nat.reduceAdd, Nat.reduceEqDiff, Nat.reduceLT, Nat.reduceLeDiff, Int.reduceEq, h0, h1, h2, h3, i0, i1, ia, m1, m2]
          rw [m2] at this
          refine CS_fn this ?_
          rintro r H3 ⟨v', P', x, hg, rfl, hx, ht⟩
          simp -implicitDefEqProofs only [↓gP, gQ, ↓reduceIte, Nat.reduceAdd, Nat.reduceEqDiff, Nat.reduceLT, Nat.reduceLeDiff, Int.reduceEq, h0, h1]
          exact ⟨v', P', x, hg, rfl, hx, ht⟩
        have p : (plainP op k').1 = 0 := plain_gen k0 (fun h => by omega) (fun _ => ⟨m1, m2⟩)
        simp -implicitDefEqProofs only [↓gP, gQ, ↓reduceIte, Nat.reduceAdd, Nat.reduceEqDiff, Nat.reduceLT, Nat.reduceLeDiff, Int.reduceEq, h0, h1, h2, h3, i0, i1, ia, m1, m2]
      rotate_left
      focus
        have ia : ((((k' : Nat) : Int) = 4294967295) = False) := eq_false (by omega)
        have p : (plainP op k').1 = 0 := plain_gen k0 (fun h => absurd h k1) (fun h => absurd h ka)
        simp -implicitDefEqProofs only [↓gP, gQ, ↓reduceIte, Nat.reduceAdd, Nat.reduceEqDiff, Nat.reduceLT, Nat.reduceLeDiff, Int.reduceEq, h0, h1, h2, h3, i0, i1, ia]
    all_goals
      simp -implicitDefEqProofs only [↓gP, gQ, ↓reduceIte, Nat.reduceAdd, Nat.reduceEqDiff, Nat.reduceLT, Nat.reduceLeDiff, Int.reduceEq, h0, h1, h2, h3, nx, nld _ _ ha Ext.refl, ha]
      have hbox : (H ++ [AObj.cells [AV.int .i64 P[a].op, AV.int .i64 P[a].a, AV.int .i64 P[a].b, AV.int .u32 P[a].k] 52 4 false])[H.length]? = some (.cells [AV.int .i64 P[a].op, AV.int .i64 P[a].a, AV.int .i64 P[a].b, AV.int .u32 P[a].k] 52 4 false) := hp_get0
      have hE3 : Ext H (H ++ [AObj.cells [AV.int .i64 P[a].op, AV.int .i64 P[a].a, AV.int .i64 P[a].b, AV.int .u32 P[a].k] 52 4 false]) := Ext.refl.app
      generalize H ++ [AObj.cells [AV.int .i64 P[a].op, AV.int .i64 P[a].a, AV.int .i64 P[a].b, AV.int .u32 P[a].k] 52 4 false] = H3 at hbox hE3
      refine CS_fn (turns_spec op _) ?_
      rintro _ _ ⟨rfl, rfl⟩
      have last : (∀ t j, tr P a = .bi op t (.num j) → eitherB op = false) → F X 61 [v, .int .u32 (k' : Nat)] H3 fun r H4 => ∃ (v' : AV) (x : Nat), r = .tup [v', .int .i64 (x : Nat)] ∧
          F X 56 [v', .agg [.int .i64 (256 + op), .int .i64 (a : Nat), .int .i64 (x : Nat), .int .u32 0]] H4 fun r H' => MadeR H H' v P D (c + 2) r (rtT op (tr P a) k) := by
        intro hch
        refine (rnumber_spec k' P D v _ (hO.ext hE3) hN hD hr (by omega)).mono ?_
        rintro r H4 ⟨v', P', x, hg, rfl, hx, ht⟩
        refine ⟨v', x, rfl, ?_⟩
        obtain ⟨n1, n2, n3⟩ := bi_node ho (hg.lt ha) hx (tr P')
        have hlen := hg.len
        refine (rput2 ⟨256 + op, a, x, 0⟩ P' D v' _ hg.row hg.nice hg.ch n1 n2 (by omega) (fun op' => ?_)).mono ?_
        · rw [n3, hg.tr ha]
          simp only [chn]
          split
          · rename_i h
            rw [h.2.1.symm, chn_zero hch]; omega
          · omega
        · rintro r H5 ⟨v'', P'', y, hg2, hr5, hy, hty⟩
          refine ⟨v'', P'', y, ((hg.trans hg2).le (by omega)).ext hE3, hr5, hy, ?_⟩
          rw [hty, n3, hg.tr ha, ht, e4 p hch]
      have fin : ∀ (H4 : Heap) (v' : AV) (x : Nat), F X 56 [v', .agg [.int .i64 (256 + op), .int .i64 (a : Nat), .int .i64 (x : Nat), .int .u32 0]] H4 (fun r H' => MadeR H H' v P D (c + 2) r (rtT op (tr P a) k)) → F X 56 [v', .agg [.int .i64 (256 + op), .int .i64 (a : Nat), .int .i64 (x : Nat), .int .u32 0]] H4 (fun r H' => ∃ (v'' : AV) (y : Nat), r = .tup [v'', .int .i64 (y : Nat)] ∧ MadeR H H' v P D (c + 2) r (rtT op (tr P a) k)) := fun H4 v' x h => h.mono fun r H' ⟨v'', P'', y, hg, hr, hy, ht⟩ => ⟨v'', y, hr, v'', P'', y, hg, hr, hy, ht⟩
      by_cases he : eitherB op = true
      · by_cases hop : P[a].op = 256 + op
        · obtain ⟨q1, q2, q3, q4⟩ := alus_op ho
          obtain ⟨t1, t2, t3, t4, t5⟩ := tr_bi hN.may ha (by omega) (by omega) (by omega)
          have hop' : P[a].op - 256 = op := by omega
          rw [hop'] at t1
          have hA : P[a].a = ((P[a].a.toNat : Nat) : Int) := (Int.toNat_of_nonneg t2).symm
          have hB : P[a].b = ((P[a].b.toNat : Nat) : Int) := (Int.toNat_of_nonneg t4).symm
          generalize hAn : P[a].a.toNat = A at *
          generalize hBn : P[a].b.toNat = Bn at *
          have hAl : A < P.length := by omega
          have hBl : Bn < P.length := by omega
          rw [hA, hB, hop] at hbox
          obtain ⟨kB, hkB, hkB2⟩ := ok_k hN hBl
          have hnB := tr_num hN.may hBl
          rw [hkB, Int.toNat_natCast] at hnB
          by_cases gB : P[Bn].op = 1
          · rw [if_pos gB] at hnB
            have htB := numOf_some hnB
            rw [htB] at t1
            have hj2 := alu1_lt (op := op) hkB2 hr
            have hchA : chn op (tr P A) + 1 ≤ c := by
              rw [t1] at hc
              simp only [chn] at hc
              rw [if_pos (by simp [he, numOf])] at hc
              exact hc
            have e5 := e3 (tr P A) kB p he
            simp -implicitDefEqProofs only [↓gP, gQ, ↓reduceIte, Nat.reduceAdd, Nat.reduceEqDiff, Nat.reduceLT, Nat.reduceLeDiff, Int.reduceEq, h0, h1, h2, h3, he, hbox, add256 ho, eq_self, nx, nf, nop _ _ hBl hE3, nk _ _ hBl hE3, hBl, gB, hkB]
            refine CS_fn (sum_spec op kB k' _ hkB2 hr) ?_
            rintro _ H4 ⟨hE4, rfl⟩
            have hE34 := hE3.trans hE4
            simp -implicitDefEqProofs only [↓gP, gQ, ↓reduceIte, Nat.reduceAdd, Nat.reduceEqDiff, Nat.reduceLT, Nat.reduceLeDiff, Int.reduceEq, h0, h1, h2, h3]
            refine CS_fn (rnumber_spec _ P D v _ (hO.ext hE34) hN hD hj2 (by omega)) ?_
            rintro r H5 ⟨v', P', x, hg, rfl, hx, ht⟩
            have hlen := hg.len
            have hbox5 := hg.grown.keep.2 _ _ (fun e => by
              rcases hO.2 with ⟨rfl, -⟩ | ⟨id, b, -, rfl, -, g⟩
              · cases e
              · cases e; rw [List.getElem?_eq_some_iff] at g; have := g.1; omega) (hE4 _ _ hbox)
            simp -implicitDefEqProofs only [↓gP, gQ, ↓reduceIte, Nat.reduceAdd, Nat.reduceEqDiff, Nat.reduceLT, Nat.reduceLeDiff, Int.reduceEq, h0, h1, h2, h3, hbox5]
            refine CS_fn (rmake_aux op ho A x P' D (c - 1) v' _ hg.row hg.nice hg.ch hD1 (hg.lt hAl) hx (by rw [hg.tr hAl]; omega) (by rw [ht]; simp [chn]) (by omega) (ih A (by omega)) (fun h => by rw [ht] at h; simp [numOf] at h)) ?_
            rintro r H6 ⟨v'', P'', y, hg2, rfl, hy, hty⟩
            simp -implicitDefEqProofs only [↓gP, gQ, ↓reduceIte, Nat.reduceAdd, Nat.reduceEqDiff, Nat.reduceLT, Nat.reduceLeDiff, Int.reduceEq, h0, h1]
            refine ⟨v'', P'', y, ((hg.trans hg2).le (by omega)).ext hE34, rfl, hy, ?_⟩
            rw [hty, hg.tr hAl, ht, t1, e5]
            unfold mkT
            rw [if_neg (ops9_ne ho)]
            cases numOf (tr P A) <;> rfl
          · rw [if_neg gB] at hnB
            simp -implicitDefEqProofs only [↓gP, gQ, ↓reduceIte, Nat.reduceAdd, Nat.reduceEqDiff, Nat.reduceLT, Nat.reduceLeDiff, Int.reduceEq, h0, h1, h2, h3, he, hbox, add256 ho, eq_self, nx, nf, nop _ _ hBl hE3, nk _ _ hBl hE3, hBl, gB, hkB]
            refine CS_fn (last (fun t j e => by rw [t1] at e; rw [(Tm.bi.inj e).2.2] at hnB; simp [numOf] at hnB)) ?_
            rintro _ H5 ⟨v', x, rfl, hput⟩
            simp -implicitDefEqProofs only [↓gP, gQ, ↓reduceIte, Nat.reduceAdd, Nat.reduceEqDiff, Nat.reduceLT, Nat.reduceLeDiff, Int.reduceEq, h0, h1, h2, h3, add256 ho, bldBi]
            refine CS_fn (fin _ _ _ hput) ?_
            rintro _ H5 ⟨v'', y, rfl, hr5⟩
            simp -implicitDefEqProofs only [↓gP, gQ, ↓reduceIte, Nat.reduceAdd, Nat.reduceEqDiff, Nat.reduceLT, Nat.reduceLeDiff, Int.reduceEq, h0, h1]
            exact hr5
        · have hch : ∀ t j, tr P a = .bi op t (.num j) → eitherB op = false := by
            intro t j e
            rw [tr_at hN.may ha] at e
            unfold nodeT at e
            split at e
            · cases e
            · split at e
              · cases e
              · split at e
                · cases e
                · have := (Tm.bi.inj e).1; omega
          simp -implicitDefEqProofs only [↓gP, gQ, ↓reduceIte, Nat.reduceAdd, Nat.reduceEqDiff, Nat.reduceLT, Nat.reduceLeDiff, Int.reduceEq, h0, h1, h2, h3, he, hbox, add256 ho, hop]
          refine CS_fn (last hch) ?_
          rintro _ H5 ⟨v', x, rfl, hput⟩
          simp -implicitDefEqProofs only [↓gP, gQ, ↓reduceIte, Nat.reduceAdd, Nat.reduceEqDiff, Nat.reduceLT, Nat.reduceLeDiff, Int.reduceEq, h0, h1, h2, h3, add256 ho, bldBi]
          refine CS_fn (fin _ _ _ hput) ?_
          rintro _ H5 ⟨v'', y, rfl, hr5⟩
          simp -implicitDefEqProofs only [↓gP, gQ, ↓reduceIte, Nat.reduceAdd, Nat.reduceEqDiff, Nat.reduceLT, Nat.reduceLeDiff, Int.reduceEq, h0, h1]
          exact hr5
      · have he' : eitherB op = false := by simpa using he
        simp -implicitDefEqProofs only [↓gP, gQ, ↓reduceIte, Nat.reduceAdd, Nat.reduceEqDiff, Nat.reduceLT, Nat.reduceLeDiff, Int.reduceEq, h0, h1, h2, h3, he', hbox, add256 ho]
        refine CS_fn (last (fun _ _ _ => he')) ?_
        rintro _ H5 ⟨v', x, rfl, hput⟩
        simp -implicitDefEqProofs only [↓gP, gQ, ↓reduceIte, Nat.reduceAdd, Nat.reduceEqDiff, Nat.reduceLT, Nat.reduceLeDiff, Int.reduceEq, h0, h1, h2, h3, add256 ho, bldBi]
        refine CS_fn (fin _ _ _ hput) ?_
        rintro _ H5 ⟨v'', y, rfl, hr5⟩
        simp -implicitDefEqProofs only [↓gP, gQ, ↓reduceIte, Nat.reduceAdd, Nat.reduceEqDiff, Nat.reduceLT, Nat.reduceLeDiff, Int.reduceEq, h0, h1]
        exact hr5
end Go.Va
end

section
set_option linter.unusedSimpArgs false
set_option linter.unusedVariables false
set_option linter.unusedSectionVars false
namespace Go.Va
open Go.Proofs

theorem rmake_neg (a : Nat) (b : Int) (P : List Nd) (D : Nat) (v : AV) (H : Heap) (hO : RowAt H v P) (hN : Nice P) (hD : ChB D P) (ha : a < P.length) (hl : P.length + 1 ≤ 65536) :
    F X 35 [v, .int .i64 128, .int .i64 (a : Nat), .int .i64 b] H fun r H' => MadeR H H' v P D 1 r (negT (tr P a)) := by
  refine F_slim S35_eq rfl fun ρ hρ => ?_
  simp only [AGs] at hρ
  obtain ⟨h0, h1, h2, h3, -⟩ := hρ
  obtain ⟨k, hk, hk2⟩ := ok_k hN ha
  have hnum := tr_num hN.may ha
  rw [hk, Int.toNat_natCast] at hnum
  obtain ⟨nx, -, -, -, -, -, nld⟩ := hO.shows.nodes
  have hE1 : ∀ l, Ext H (H ++ l) := fun l => Ext.refl.app
  simp -implicitDefEqProofs only [↓gP, gQ, ↓reduceIte, Nat.reduceAdd, Nat.reduceEqDiff, Nat.reduceLT, Nat.reduceLeDiff, Int.reduceEq, S35, h0, h1, h2, h3, eq_self, nx, nld _ _ ha Ext.refl, ha, hk]
  refine Br_dec (fun g1 => ?_) (fun g1 => ?_)
  · rw [if_pos g1] at hnum
    rw [numOf_some hnum]
    simp -implicitDefEqProofs only [↓gP, gQ, ↓reduceIte, Nat.reduceAdd, Nat.reduceEqDiff, Nat.reduceLT, Nat.reduceLeDiff, Int.reduceEq, h0, h1, h2, h3]
    refine CS_fn (sum_spec 128 k 0 _ hk2 (by decide)) ?_
    rintro _ H2 ⟨hE2, rfl⟩
    simp -implicitDefEqProofs only [↓gP, gQ, ↓reduceIte, Nat.reduceAdd, Nat.reduceEqDiff, Nat.reduceLT, Nat.reduceLeDiff, Int.reduceEq, h0, h1, h2, h3]
    have hE := (hE1 _).trans hE2
    refine CS_fn (rnumber_spec _ P D v _ (hO.ext hE) hN hD (alu1_lt hk2 (by decide)) (by omega)) ?_
    rintro r H4 ⟨v', P', x, hg, rfl, hx, ht⟩
    simp -implicitDefEqProofs only [↓gP, gQ, ↓reduceIte, Nat.reduceAdd, Nat.reduceEqDiff, Nat.reduceLT, Nat.reduceLeDiff, Int.reduceEq, h0, h1]
    exact ⟨v', P', x, hg.ext hE, rfl, hx, ht⟩
  · rw [if_neg g1] at hnum
    simp -implicitDefEqProofs only [↓gP, gQ, ↓reduceIte, Nat.reduceAdd, Nat.reduceEqDiff, Nat.reduceLT, Nat.reduceLeDiff, Int.reduceEq, h0, h1, h2, h3]
    refine Br_dec (fun g2 => ?_) (fun g2 => ?_)
    · obtain ⟨t1, t2, t3⟩ := tr_un hN.may ha g2
      simp -implicitDefEqProofs only [↓gP, gQ, ↓reduceIte, Nat.reduceAdd, Nat.reduceEqDiff, Nat.reduceLT, Nat.reduceLeDiff, Int.reduceEq, h0, h1]
      rw [t1]
      exact ⟨v, P, P[a].a.toNat, GrewR.refl hO hN hD (hE1 _), by rw [Int.toNat_of_nonneg t2], by omega, rfl⟩
    · have ht : negT (tr P a) = .un (tr P a) := by
        rw [tr_at hN.may ha] at hnum ⊢
        unfold nodeT at hnum ⊢
        rw [if_neg g1] at hnum ⊢
        split
        · rfl
        · rfl
      obtain ⟨n1, n2, n3⟩ := un_node ha (tr P)
      simp -implicitDefEqProofs only [↓gP, gQ, ↓reduceIte, Nat.reduceAdd, Nat.reduceEqDiff, Nat.reduceLT, Nat.reduceLeDiff, Int.reduceEq, h0, h1, h2, bldUn]
      refine CS_fn (rput2 ⟨384, a, 0, 0⟩ P D v _ (hO.ext (hE1 _)) hN hD n1 n2 hl (fun op => by rw [n3]; simp [chn])) ?_
      rintro r H4 ⟨v', P', x, hg, rfl, hx, ht'⟩
      simp -implicitDefEqProofs only [↓gP, gQ, ↓reduceIte, Nat.reduceAdd, Nat.reduceEqDiff, Nat.reduceLT, Nat.reduceLeDiff, Int.reduceEq, h0, h1]
      refine ⟨v', P', x, hg.ext (hE1 _), rfl, hx, ?_⟩
      rw [ht', n3, ht]

theorem rMake_spec (op : Int) (a b : Nat) (P : List Nd) (D c : Nat) (v : AV) (H : Heap) (hO : RowAt H v P) (hN : Nice P) (hD : ChB D P) (hD1 : 1 ≤ D) (ha : a < P.length) (hb : b < P.length ∨ op = 128) (ho : op ∈ ops10) (hc : ∀ i, i < P.length → chn op (tr P i) ≤ c) (hl : P.length + c + 2 ≤ 65536) :
    F X 35 [v, .int .i64 op, .int .i64 (a : Nat), .int .i64 (b : Nat)] H fun r H' => MadeR H H' v P D (c + 2) r (if op = 128 then negT (tr P a) else mkT op (tr P a) (tr P b)) := by
  by_cases h : op = 128
  · subst h
    rw [if_pos rfl]
    refine (rmake_neg a b P D v H hO hN hD ha (by omega)).mono ?_
    rintro r H' ⟨v', P', x, hg, hr, hx, ht⟩
    exact ⟨v', P', x, hg.le (by omega), hr, hx, ht⟩
  · rw [if_neg h]
    have ho9 : op ∈ ops9 := by
      simp [ops10] at ho
      simp [ops9]; omega
    have hb := hb.resolve_right h
    exact rmake_aux op ho9 a b P D c v H hO hN hD hD1 ha hb (hc a ha) (hc b hb) hl (rright_spec op ho9 a) fun _ => rright_spec op ho9 b

theorem put_take {P : List Nd} (h : P.Nodup) {i : Nat} (hi : i < P.length) : putP (P.take i) P[i] = P.take (i + 1) ∧ (putP (P.take i) P[i]).idxOf P[i] = i := by
  have hn : P[i] ∉ P.take i := by
    rw [List.mem_take_iff_getElem]
    rintro ⟨j, hj, e⟩
    have := nodup_at h (by omega) hi e
    omega
  refine ⟨?_, ?_⟩
  · rw [putP, if_neg hn, List.take_succ_eq_append_getElem hi]
  · rw [idx_put, if_neg hn, List.length_take]; omega

theorem Keep.extB {S : Nat → Prop} {H0 H H' : Heap} (k : Keep S H H') (h : Ext H0 H) (hs : ∀ j, S j → H0.length ≤ j) : Ext H0 H' := fun i o e => k.2 i o (fun hi => by
  have := hs i hi
  rw [List.getElem?_eq_some_iff] at e; have := e.1; omega) (h i o e)

theorem lpool_spec (P : List Nd) (v : AV) (H : Heap) (hS : Shows H v 4 (P.map Nd.c)) (hN : Nice P) (hl : P.length ≤ 65536) :
    F X 32 [v] H fun r H' => ∃ pid mid nv, r = .tup [.ptr pid 0 2, .bool true] ∧ PoolAt H' pid mid nv P ∧ Ext H H' ∧ ∀ j, Foot pid mid nv j → H.length ≤ j := by
  refine F_slim S32_eq rfl fun ρ hρ => ?_
  simp only [AGs] at hρ
  obtain ⟨h0, -⟩ := hρ
  have hlen := hS.lenA isSl_22
  rw [List.length_map] at hlen
  simp -implicitDefEqProofs only [↓gP, gQ, ↓reduceIte, Nat.reduceAdd, Nat.reduceEqDiff, Nat.reduceLT, Nat.reduceLeDiff, Int.reduceEq, S32, h0]
  refine CS_fn (new_spec _) ?_
  rintro _ H1 ⟨rfl, hP1, hE1⟩
  simp -implicitDefEqProofs only [↓gP, gQ, ↓reduceIte, Nat.reduceAdd, Nat.reduceEqDiff, Nat.reduceLT, Nat.reduceLeDiff, Int.reduceEq, h0, hlen]
  refine loop_rule (fun k ρ' H' D' => ∃ i nv, k = P.length - i ∧ i ≤ P.length ∧ ρ' 12 = .int .i64 (i : Nat) ∧ ρ' 11 = .int .i64 (P.length : Nat) ∧ ρ' 10 = v ∧ ρ' 4 = .ptr (H.length + 1) 0 2 ∧ PoolAt H' (H.length + 1) H.length nv (P.take i) ∧
      (∀ j, Foot (H.length + 1) H.length nv j → H.length ≤ j) ∧ Ext H H' ∧ D' = []) P.length
    ⟨0, .nilsl, by simp, by simp, by simp only [up_get]; rfl, by simp only [up_get]; rfl, by simp only [up_get]; rfl, by simp only [up_get]; rfl, by rw [List.take_zero]; exact hP1, (fun j e => ?_), hE1, rfl⟩ ?_
  · rcases e with e | e | e
    · omega
    · omega
    · cases e
  rintro k ρ' H' D' ⟨i, nv, hk, hi, e12, e11, e10, e4, hP, hge, hE, rfl⟩
  simp -implicitDefEqProofs only [↓gP, gQ, ↓reduceIte, Nat.reduceAdd, Nat.reduceEqDiff, Nat.reduceLT, Nat.reduceLeDiff, Int.reduceEq, S32L1, e12, e11, e10, e4]
  refine Br_dec (fun g => ?_) (fun g => ?_)
  · have hil : i < P.length := by omega
    have hw : IntKind.i64.wrap ((i : Int) + 1) = ((i + 1 : Nat) : Int) := by rw [wrap64 (by omega) (by omega)]; rfl
    obtain ⟨nx, -, -, -, -, -, nld⟩ := (hS.ext hE).nodes
    obtain ⟨q1, q2⟩ := put_take hN.nd hil
    have hlt : (P.take i).length = i := by rw [List.length_take]; omega
    have he : putE P[i] (P.take i) = 0 := by
      have h1 : mayB P[i] (P.take i).length = true := by rw [hlt]; exact hN.may i hil
      have : ¬ 65536 ≤ (P.take i).length := by omega
      unfold putE
      rw [if_neg (by rw [h1]; decide), if_neg this]
      split <;> rfl
    simp -implicitDefEqProofs only [↓gP, gQ, ↓reduceIte, Nat.reduceAdd, Nat.reduceEqDiff, Nat.reduceLT, Nat.reduceLeDiff, Int.reduceEq, e12, e11, e10, e4, nx, nld _ _ hil Ext.refl, hil]
    have hEb : Ext H' (H' ++ [AObj.cells [AV.int .i64 P[i].op, AV.int .i64 P[i].a, AV.int .i64 P[i].b, AV.int .u32 P[i].k] 52 4 false]) := Ext.refl.app
    refine CS_fn (Put_spec P[i] _ _ _ nv _ (hP.ext hEb) (by omega)) ?_
    rintro _ H4 ⟨nv', hP4, hK4, hF4, rfl⟩
    rw [he, if_pos rfl, q1] at hP4
    rw [he, if_pos rfl, q2]
    simp -implicitDefEqProofs only [↓gP, gQ, ↓reduceIte, Nat.reduceAdd, Nat.reduceEqDiff, Nat.reduceLT, Nat.reduceLeDiff, Int.reduceEq, e12, e11, e10, e4, eq_self, hw]
    refine ⟨P.length - (i + 1), by omega, i + 1, nv', rfl, hil, by first | exact True.intro | rfl, by first | exact True.intro | rfl, by first | exact True.intro | rfl, by first | exact True.intro | rfl, hP4, fun j e => ?_, hK4.extB (hE.trans hEb) hge, by first | exact True.intro | rfl⟩
    rcases hF4 j e with e | e
    · exact hge j e
    · have := hE.len; have := hEb.len; omega
  · have : i = P.length := by omega
    subst this
    rw [List.take_length] at hP
    simp -implicitDefEqProofs only [↓gP, gQ, ↓reduceIte, Nat.reduceAdd, Nat.reduceEqDiff, Nat.reduceLT, Nat.reduceLeDiff, Int.reduceEq, e12, e11, e10, e4]
    exact ⟨_, _, nv, rfl, hP, hE, hge⟩
end Go.Va
end
