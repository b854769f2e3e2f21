/- Rows: what came in, as an abstract heap of things that nobody writes to. -/
import Derived.Test.YtkofbgicfmojjaaVaLC
import Derived.Deep.Slices
import Derived.OpenShut
import Derived.Below
set_option linter.unusedSimpArgs false
set_option linter.unusedVariables false
set_option linter.unusedSectionVars false
namespace Go.Va
open Go.ChangeShapes Go.WideShapes

/-- The cells of a type without references: whole numbers by kind, bools (none). -/
def flatF (P : Program) (g : TypeId → Option (List (Option IntKind))) : List Field → Nat → Option (List (Option IntKind))
  | [], _ => some []
  | f :: fs, off => (g f.type).bind fun ks => if f.offset = off ∧ P.cellsOf f.type = ks.length then (flatF P g fs (off + ks.length)).map (ks ++ ·) else none
def flat (P : Program) : Nat → TypeId → Option (List (Option IntKind))
  | 0, _ => none
  | n + 1, t => match P.underlying t with
    | some .bool => some [none]
    | some (.int k) => some [some k]
    | some (.struct fs) => (flatF P (flat P n) fs.toList 0).bind fun ks => if P.cellsOf t = ks.length then some ks else none
    | some (.array m e) => (flat P n e).bind fun ks => if P.cellsOf e = ks.length ∧ P.cellsOf t = m * ks.length then some (List.replicate m ks).flatten else none
    | _ => none

def LeafOk : Option IntKind → Value → Prop
  | some k, v => ∃ n, v = .int k n ∧ (Lit.int k n).wf = true
  | none, v => ∃ b, v = .bool b
def LeavesOk (ks : List (Option IntKind)) (cs : List Value) : Prop := cs.length = ks.length ∧ ∀ (i : Nat) (k : Option IntKind), ks[i]? = some k → ∃ v, cs[i]? = some v ∧ LeafOk k v

theorem LeavesOk.append {ks ls : List (Option IntKind)} {cs ds : List Value} (h : LeavesOk ks cs) (g : LeavesOk ls ds) : LeavesOk (ks ++ ls) (cs ++ ds) := by
  refine ⟨by rw [List.length_append, List.length_append, h.1, g.1], fun i k hk => ?_⟩
  rw [List.getElem?_append] at hk ⊢
  rw [h.1]
  split
  · rename_i hi; rw [if_pos hi] at hk; exact h.2 i k hk
  · rename_i hi; rw [if_neg hi] at hk; exact g.2 _ k hk

section
variable {H : Type} {enc : TypeId × Value → H} {P : Program} {w : World} {base : Nat} {spare : Nat → Bool} {held : Bool}

theorem flatF_ok {g : TypeId → Option (List (Option IntKind))} {n : Nat} (hg : ∀ t ks cs x, g t = some ks → DataW.trod enc P w base spare held n t cs = some x → LeavesOk ks cs) {cs : List Value} :
    ∀ (fs : List Field) (off : Nat) (ks : List (Option IntKind)), flatF P g fs off = some ks → (∀ f, f ∈ fs → ∃ x, DataW.trod enc P w base spare held n f.type ((cs.drop f.offset).take (P.cellsOf f.type)) = some x) →
      LeavesOk ks ((cs.drop off).take ks.length)
  | [], off, ks, h, _ => by
    simp only [flatF, Option.some.injEq] at h; subst h
    exact ⟨by simp, fun i k hk => by simp at hk⟩
  | f :: fs, off, ks, h, hx => by
    simp only [flatF, Option.bind_eq_some_iff] at h
    obtain ⟨k1, h1, h⟩ := h
    split at h
    · rename_i hc
      obtain ⟨c1, c2⟩ := hc
      simp only [Option.map_eq_some_iff] at h
      obtain ⟨k2, h2, rfl⟩ := h
      obtain ⟨x, hx1⟩ := hx f (by simp)
      have l1 := hg _ _ _ _ h1 hx1
      rw [c1, c2] at l1
      have l2 := flatF_ok hg fs (off + k1.length) k2 h2 (fun f' hf' => hx f' (by simp [hf']))
      have l3 := l1.append l2
      rw [List.length_append, List.take_add, List.drop_drop]
      exact l3
    · cases h

theorem trod_flat : ∀ (n : Nat) (t : TypeId) (ks : List (Option IntKind)) (fuel : Nat) (cs : List Value) (x : DataW H × List MemPlace), flat P n t = some ks → DataW.trod enc P w base spare held fuel t cs = some x → LeavesOk ks cs
  | 0, t, ks, fuel, cs, x, h, _ => by simp [flat] at h
  | n + 1, t, ks, fuel, cs, x, h, hx => by
    unfold flat at h
    split at h
    · rename_i ht
      cases h
      obtain ⟨b, rfl, -⟩ := DataW.trod_bool ht hx
      exact ⟨rfl, fun i k hk => by
        cases i with
        | zero => simp at hk; subst hk; exact ⟨_, rfl, b, rfl⟩
        | succ i => simp at hk⟩
    · rename_i k ht
      cases h
      obtain ⟨m, rfl, -, hw⟩ := DataW.trod_int ht hx
      exact ⟨rfl, fun i k hk => by
        cases i with
        | zero => simp at hk; subst hk; exact ⟨_, rfl, m, rfl, hw⟩
        | succ i => simp at hk⟩
    · rename_i fs ht
      simp only [Option.bind_eq_some_iff] at h
      obtain ⟨ks', h, hc⟩ := h
      split at hc
      case isFalse => cases hc
      rename_i hc'
      cases hc
      obtain ⟨xs, m, rfl, -, hlen, hxl, hf⟩ := DataW.trod_struct ht hx
      have := flatF_ok (g := flat P n) (n := m) (fun t ks cs x hg hx => trod_flat n t ks m cs x hg hx) (cs := cs) fs.toList 0 ks h (fun f hf' => by
        obtain ⟨i, hi, rfl⟩ := List.getElem_of_mem hf'
        have h1 := hf i fs[i] (by simp at hi; simp [hi])
        have h2 : i < xs.length := by rw [hxl]; simpa using hi
        rw [List.getElem?_eq_getElem h2] at h1
        exact ⟨_, by simpa using h1⟩)
      rw [List.drop_zero, List.take_of_length_le (by omega)] at this
      exact this
    · rename_i m e ht
      simp only [Option.bind_eq_some_iff] at h
      obtain ⟨k1, h1, h⟩ := h
      split at h
      · rename_i hce
        obtain ⟨hce, hc⟩ := hce
        cases h
        obtain ⟨xs, k, rfl, -, hlen, hxl, hf⟩ := DataW.trod_array ht hx
        have key : ∀ j, j ≤ m → LeavesOk (List.replicate j k1).flatten (cs.take (j * k1.length)) := by
          intro j
          induction j with
          | zero => intro _; exact ⟨by simp, fun i k hk => by simp at hk⟩
          | succ j ih =>
            intro hj
            have g1 := hf j (by omega)
            have h2 : j < xs.length := by omega
            rw [List.getElem?_eq_getElem h2, hce] at g1
            have g2 := trod_flat n e k1 k _ _ h1 g1
            have g3 := (ih (by omega)).append g2
            have e1 : (List.replicate (j + 1) k1).flatten = (List.replicate j k1).flatten ++ k1 := by
              rw [List.replicate_succ']; simp
            rw [e1, Nat.succ_mul, List.take_add]
            exact g3
        have := key m (Nat.le_refl _)
        have hl : (List.replicate m k1).flatten.length = m * k1.length := by simp [List.length_flatten]
        rw [List.take_of_length_le (by omega)] at this
        exact this
      · cases h
    · cases h
end
end Go.Va
