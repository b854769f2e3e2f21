/- The row: whatever the input, the law AtomHolds answers true, and what came in reads as it did. -/
import Derived.Test.YtokbecghdofohaaRows
import Derived.WalkKit
import Derived.ProofKit
import Derived.OpenShut
import Derived.ShutString
import Derived.ChangeOld
import Derived.Below
import Derived.Carry
import Derived.SizedLaws
import Derived.Test.YtokbecghdofohaaVaK12
namespace Go.Proofs.Ytokbecghdofohaa.atomHolds
open Go.ChangeShapes Go.WideShapes Go.ChangeAt Go.RowKit Go.Va
set_option linter.unusedVariables false
set_option linter.unusedSimpArgs false
theorem own : ownKnob Try.prog.godebug = none := by kernel_rfl
theorem laidOut : laidOutB Try.prog = true := by kernel_rfl
set_option maxRecDepth 100000 in
theorem lifted (os : Os) (started : os.Started) (H : Type) (enc : TypeId × Value → H) :
    ReturnsInHanded {} Try.checked os 3 .any (Rows.atomHoldsSpec.pre6 enc Try.prog Try.f3 Rows.atomHoldsRow.domain false) (Rows.atomHoldsSpec.post enc Try.prog Try.f3 false true false false) := by
  refine returnsInHanded_of_change_sized (C := Try.checked) own started (by kernel_rfl) Try.func3
    (ChangeSpec.witness6 (enc := enc) (C := Try.checked) false ⟨#[], #[.slice none 0 0, .agg #[.int .i64 0, .int .i64 0, .int .i64 0, .bool false], .agg #[.int .u32 0, .int .u32 0, .int .u32 0, .int .u32 0, .int .u32 0, .int .u32 0, .int .u32 0, .int .u32 0, .int .u32 0, .int .u32 0, .int .u32 0, .int .u32 0, .int .u32 0, .int .u32 0, .int .u32 0, .int .u32 0]], []⟩ 8 (by kernel_rfl) (by kernel_rfl) (by kernel_rfl) (by kernel_rfl)) ?_
  intro W base args ds gs before hval0 hW hcnd hsz0 _
  have hval : ∀ (j : Nat) t v, Try.f3.params[j]? = some t → args[j]? = some v → Value.okWide Try.prog W .any base t v := hval0
  have hW' := hW
  obtain ⟨p, q, hA0, hV, rfl, hfz, hnd⟩ := hW
  have hA : DataW.TrodAll enc Try.prog W 0 (fun _ => true) true Try.f3.params.toList args.toList ds p := hA0
  rw [Try.params3] at hA hval
  obtain ⟨v0, vs0, d0, ds0, p0, q0, hargs, rfl, rfl, h0, r0⟩ := trodAll_cons hA
  obtain ⟨v1, vs1, d1, ds1, p1, q1, rfl, rfl, rfl, h1, r1⟩ := trodAll_cons r0
  obtain ⟨v2, vs2, d2, ds2, p2, q2, rfl, rfl, rfl, h2, r2⟩ := trodAll_cons r1
  obtain ⟨rfl, rfl, rfl⟩ := trodAll_nil r2
  obtain rfl : args = #[v0, v1, v2] := by cases args; simp_all
  obtain ⟨rfl, rfl⟩ := trodVars_none hV
  have lt0 : ∀ x ∈ p0, x.block < W.heap.size := by obtain ⟨m, hm⟩ := h0; exact DataW.trod_lt m _ _ _ hm
  obtain ⟨M0, Hp0, av0, L0, hR0, le0, ex0, vr0, hS0, hrow0, hb0⟩ := open_rows (n := 4) (ks := ndK) (M := (fun _ _ => none)) (Hp := []) Try.underlying22 (by kernel_rfl) (by kernel_rfl) (by decide) (okWide_slice Try.underlying22 (hval 0 22 v0 rfl rfl)) h0 (Ro.nil W)
  have lt1 : ∀ x ∈ p1, x.block < W.heap.size := by obtain ⟨m, hm⟩ := h1; exact DataW.trod_lt m _ _ _ hm
  obtain ⟨rr1, hrow1, vr1⟩ := open_agg (n := 4) (ks := atK) (by kernel_rfl) (let ⟨cs, e, _⟩ := okWide_struct Try.underlying24 (hval 1 24 v1 rfl rfl); ⟨cs, e⟩) h1
  have lt2 : ∀ x ∈ p2, x.block < W.heap.size := by obtain ⟨m, hm⟩ := h2; exact DataW.trod_lt m _ _ _ hm
  obtain ⟨rr2, hrow2, vr2⟩ := open_agg (n := 4) (ks := (List.replicate 16 (some .u32))) (by kernel_rfl) (okWide_array Try.underlying27 (hval 2 27 v2 rfl rfl)) h2
  have law : F X 3 [av0, .agg rr1, .agg rr2] Hp0 fun v _ => v = .bool true := by
    obtain ⟨l, rfl, hl⟩ := nds_of hrow0
    obtain ⟨op, a, b, no, rfl, -⟩ := at_of hrow1
    obtain ⟨rc, hr, hrc⟩ := rec_of hrow2
    exact law_holds l op a b no _ _ rc _ hl hrc hS0 hr
  refine (law_row X_ok law (hR0) (VRs.cons_ (vr0) (VRs.cons_ (vr1 _) (VRs.cons_ (vr2 _) VRs.nil_)))).mono fun e W2 ⟨he, bel⟩ => ?_
  subst he
  exact ⟨_, rfl, _, _, _, [], _, [], hW', trodAll_mk1 (shut_bool Try.underlying4 _), (trodAll_cons_mk (Below.trod laidOut (by kernel_rfl) (of_decide_eq_true (by kernel_rfl)) h0 bel lt0) (trodAll_cons_mk (Below.trod laidOut (by kernel_rfl) (of_decide_eq_true (by kernel_rfl)) h1 bel lt1) (trodAll_cons_mk (Below.trod laidOut (by kernel_rfl) (of_decide_eq_true (by kernel_rfl)) h2 bel lt2) trodAll_mk0))), rfl, bel.frame _, fun h => by cases h⟩
theorem over : Rows.atomHoldsRow.holds Try.pinned (OpenSpec.ofChange Rows.atomHoldsSpec) :=
  OpenClaim.holds_of_wide 3 Try.f3 rfl rfl rfl rfl rfl rfl rfl ⟨rfl, rfl, rfl, rfl, rfl⟩ rfl rfl rfl rfl rfl (by kernel_rfl) Try.func3 (by kernel_rfl)
    (of_decide_eq_true (by kernel_rfl)) (by unfold Func.isWrapper; first | (rw [if_pos (by decide +kernel)]; kernel_rfl) | (rw [if_neg (by decide +kernel)]; exact ⟨rfl, rfl⟩))
    (fun os started H enc _ => lifted os started H enc)
theorem proved : Rows.AtomHoldsSaid := over
#print axioms proved
end Go.Proofs.Ytokbecghdofohaa.atomHolds
namespace Go.Proofs.Ytokbecghdofohaa
/-- The row, under a short name, for the claim. -/
theorem atomHolds_holds : Rows.AtomHoldsSaid := atomHolds.proved
end Go.Proofs.Ytokbecghdofohaa
