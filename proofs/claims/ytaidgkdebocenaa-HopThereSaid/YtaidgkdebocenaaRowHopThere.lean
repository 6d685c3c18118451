/- The statement HopThereSaid: for every input the law answers true, and the input reads as it did.
   No conditions: the given statement. -/
import Derived.Test.YtaidgkdebocenaaRows
import Derived.Test.YtaidgkdebocenaaArg14
import Derived.Test.YtaidgkdebocenaaFac
import Derived.Test.YtaidgkdebocenaaHopThere
namespace Go.Proofs.Ytaidgkdebocenaa.hopThere
open Go Go.RowKit
open Go.ChangeShapes Go.WideShapes Go.ChangeAt
set_option linter.unusedVariables false

set_option maxRecDepth 100000 in
theorem lifted (os : Os) (started : os.Started) (H : Type) (enc : TypeId × Value → H) :
    ReturnsInHanded {} Try.checked os 15 .any (Rows.hopThereSpec.pre6 enc Try.prog Try.f15 Rows.hopThereRow.domain false) (Rows.hopThereSpec.post enc Try.prog Try.f15 false true false false) := by
  refine returnsInHanded_of_change (C := Try.checked) own_knob started (by kernel_rfl) Try.func15
    (ChangeSpec.witness6 (enc := enc) (C := Try.checked) false ⟨#[], #[.agg #[.int .u64 0, .int .u8 0, .int .u8 0, .int .u64 0, .int .u64 0, .int .u64 0, .int .u64 0, .int .u64 0, .int .u64 0, .int .u64 0, .int .u64 0, .int .u64 0, .int .u64 0], .agg #[.int .u64 0, .int .u8 0, .int .u8 0, .int .u8 0, .int .u64 0, .int .u64 0, .int .u64 0, .int .u64 0, .int .u64 0, .int .u64 0, .int .u64 0, .int .u64 0, .int .u64 0, .int .u64 0]], []⟩ 8 (by kernel_rfl) (by kernel_rfl) (by kernel_rfl) (by kernel_rfl)) ?_
  intro W base args ds gs before hval0 hW hcnd _
  have hval : ∀ (j : Nat) t v, Try.f15.params[j]? = some t → args[j]? = some v → Value.okWide Try.prog W .any base t v := hval0
  have hW' := hW
  obtain ⟨p, q, hA0, hV, rfl, hfz, hnd⟩ := hW
  have hA : DataW.TrodAll enc Try.prog W 0 (fun _ => true) true Try.f15.params.toList args.toList ds p := hA0
  rw [Try.params15] at hA hval
  obtain ⟨v0, vs0, d0, ds0, p0, q0, hargs, rfl, rfl, h0, r0⟩ := trodAll_cons hA
  obtain ⟨v1, vs1, d1, ds1, p1, q1, rfl, rfl, rfl, h1, r1⟩ := trodAll_cons r0
  obtain ⟨rfl, rfl, rfl⟩ := trodAll_nil r1
  obtain rfl : args = #[v0, v1] := by cases args; simp_all
  obtain ⟨rfl, rfl⟩ := trodVars_none hV
  have k0 := h0
  have lt0 : ∀ x ∈ p0, x.block < W.heap.size := by obtain ⟨m, hm⟩ := k0; exact DataW.trod_lt m _ _ _ hm
  obtain ⟨x0, rfl, b0⟩ := open_entryV (hval 0 81 v0 rfl rfl) h0
  have k1 := h1
  have lt1 : ∀ x ∈ p1, x.block < W.heap.size := by obtain ⟨m, hm⟩ := k1; exact DataW.trod_lt m _ _ _ hm
  obtain ⟨x1, rfl, b1⟩ := open_hopV (hval 1 83 v1 rfl rfl) h1
  clear hA0 hval0
  refine (hopThere_c W _ _ b0 b1).mono fun e W' ⟨he, hext⟩ => ?_
  subst he
  have bel := Ext.below hext
  exact ⟨_, rfl, _, _, _, [], _, [], hW', trodAll_mk1 (shut_bool Try.underlying4 _), (trodAll_cons_mk (Below.trod laid_out (by kernel_rfl) (of_decide_eq_true (by kernel_rfl)) k0 bel lt0) (trodAll_cons_mk (Below.trod laid_out (by kernel_rfl) (of_decide_eq_true (by kernel_rfl)) k1 bel lt1) trodAll_mk0)), rfl, bel.frame _, fun h => by cases h⟩

set_option maxHeartbeats 0 in
theorem closed : joinedFacts Try.pinned.checked.prog 15 Try.f15 Rows.hopThereSpec Rows.hopThereRow = true := by
  unfold joinedFacts
  iterate 4
    refine fac_and ?_ ?g1
    case g1 => as_aux_lemma => kernel_rfl
  refine fac_and (fac_and (fac_and (fac_and ?_ fac_heard) fac_enter) fac_lifts) fac_make
  iterate 21
    refine fac_and ?_ ?g1
    case g1 => as_aux_lemma => kernel_rfl
  refine fac_and (fac_and ?_ fac_laid) fac_maps
  as_aux_lemma => kernel_rfl
theorem wrapper : Try.f15.isWrapper Try.pinned.checked.prog Rows.hopThereRow.wrapper Rows.hopThereRow.mainSum := by
  unfold Func.isWrapper
  rw [if_neg (by decide +kernel)]
  exact ⟨rfl, rfl⟩

theorem over : Rows.hopThereRow.holds Try.pinned (OpenSpec.ofChange Rows.hopThereSpec) :=
  OpenClaim.holds_of_wide 15 Try.f15 rfl rfl rfl rfl rfl rfl rfl ⟨rfl, rfl, rfl, rfl, rfl⟩ rfl rfl rfl rfl rfl (by kernel_rfl) Try.func15 closed
    (of_decide_eq_true (by kernel_rfl)) wrapper
    (fun os started H enc _ => lifted os started H enc)

theorem proved : Rows.HopThereSaid := over
#print axioms proved
end Go.Proofs.Ytaidgkdebocenaa.hopThere
