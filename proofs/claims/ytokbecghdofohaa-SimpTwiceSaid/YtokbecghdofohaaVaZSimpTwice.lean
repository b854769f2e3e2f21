/- The row: whatever the input, the law SimpTwice answers true, and what came in reads as it did. -/
import Derived.Test.YtokbecghdofohaaRows
import Derived.WalkKit
import Derived.ProofKit
import Derived.OpenShut
import Derived.ShutString
import Derived.ChangeOld
import Derived.Below
import Derived.Carry
import Derived.SizedLaws
import Derived.Test.YtokbecghdofohaaVaK10
namespace Go.Proofs.Ytokbecghdofohaa.simpTwice
open Go.ChangeShapes Go.WideShapes Go.ChangeAt Go.RowKit Go.Va
set_option linter.unusedVariables false
set_option linter.unusedSimpArgs false
theorem own : ownKnob Try.prog.godebug = none := by kernel_rfl
theorem laidOut : laidOutB Try.prog = true := by kernel_rfl
set_option maxRecDepth 100000 in
theorem lifted (os : Os) (started : os.Started) (H : Type) (enc : TypeId × Value → H) :
    ReturnsInHanded {} Try.checked os 13 .any (Rows.simpTwiceSpec.pre6 enc Try.prog Try.f13 Rows.simpTwiceRow.domain false) (Rows.simpTwiceSpec.post enc Try.prog Try.f13 false true false false) := by
  refine returnsInHanded_of_change_sized (C := Try.checked) own started (by kernel_rfl) Try.func13
    (ChangeSpec.witness6 (enc := enc) (C := Try.checked) false ⟨#[], #[.slice none 0 0], []⟩ 8 (by kernel_rfl) (by kernel_rfl) (by kernel_rfl) (by kernel_rfl)) ?_
  intro W base args ds gs before hval0 hW hcnd hsz0 _
  have hval : ∀ (j : Nat) t v, Try.f13.params[j]? = some t → args[j]? = some v → Value.okWide Try.prog W .any base t v := hval0
  have hW' := hW
  obtain ⟨p, q, hA0, hV, rfl, hfz, hnd⟩ := hW
  have hA : DataW.TrodAll enc Try.prog W 0 (fun _ => true) true Try.f13.params.toList args.toList ds p := hA0
  rw [Try.params13] at hA hval
  obtain ⟨v0, vs0, d0, ds0, p0, q0, hargs, rfl, rfl, h0, r0⟩ := trodAll_cons hA
  obtain ⟨rfl, rfl, rfl⟩ := trodAll_nil r0
  obtain rfl : args = #[v0] := by cases args; simp_all
  obtain ⟨rfl, rfl⟩ := trodVars_none hV
  have lt0 : ∀ x ∈ p0, x.block < W.heap.size := by obtain ⟨m, hm⟩ := h0; exact DataW.trod_lt m _ _ _ hm
  obtain ⟨M0, Hp0, av0, L0, hR0, le0, ex0, vr0, hS0, hrow0, hb0⟩ := open_rows (n := 4) (ks := ndK) (M := (fun _ _ => none)) (Hp := []) Try.underlying22 (by kernel_rfl) (by kernel_rfl) (by decide) (okWide_slice Try.underlying22 (hval 0 22 v0 rfl rfl)) h0 (Ro.nil W)
  have law : F X 13 [av0] Hp0 fun v _ => v = .bool true := by
    obtain ⟨l, rfl, hl⟩ := nds_of hrow0
    exact law_twice l _ _ hl hS0
  refine (law_row X_ok law (hR0) (VRs.cons_ (vr0) VRs.nil_)).mono fun e W2 ⟨he, bel⟩ => ?_
  subst he
  exact ⟨_, rfl, _, _, _, [], _, [], hW', trodAll_mk1 (shut_bool Try.underlying4 _), (trodAll_cons_mk (Below.trod laidOut (by kernel_rfl) (of_decide_eq_true (by kernel_rfl)) h0 bel lt0) trodAll_mk0), rfl, bel.frame _, fun h => by cases h⟩
theorem over : Rows.simpTwiceRow.holds Try.pinned (OpenSpec.ofChange Rows.simpTwiceSpec) :=
  OpenClaim.holds_of_wide 13 Try.f13 rfl rfl rfl rfl rfl rfl rfl ⟨rfl, rfl, rfl, rfl, rfl⟩ rfl rfl rfl rfl rfl (by kernel_rfl) Try.func13 (by kernel_rfl)
    (of_decide_eq_true (by kernel_rfl)) (by unfold Func.isWrapper; first | (rw [if_pos (by decide +kernel)]; kernel_rfl) | (rw [if_neg (by decide +kernel)]; exact ⟨rfl, rfl⟩))
    (fun os started H enc _ => lifted os started H enc)
theorem proved : Rows.SimpTwiceSaid := over
#print axioms proved
end Go.Proofs.Ytokbecghdofohaa.simpTwice
namespace Go.Proofs.Ytokbecghdofohaa
/-- The row, under a short name, for the claim. -/
theorem simpTwice_holds : Rows.SimpTwiceSaid := simpTwice.proved
end Go.Proofs.Ytokbecghdofohaa
