/- The statement LineActsSaid: for every input the law answers true, and the input reads as it did.
   No conditions: the given statement. -/
import Derived.Test.YtaidgkdebocenaaRows
import Derived.Test.YtaidgkdebocenaaArg13
import Derived.Test.YtaidgkdebocenaaFac
import Derived.Test.YtaidgkdebocenaaLineActs
namespace Go.Proofs.Ytaidgkdebocenaa.lineActs
open Go Go.RowKit
open Go.ChangeShapes Go.WideShapes Go.ChangeAt
set_option linter.unusedVariables false

set_option maxRecDepth 100000 in
theorem lifted (os : Os) (started : os.Started) (H : Type) (enc : TypeId × Value → H) :
    ReturnsInHanded {} Try.checked os 12 .any (Rows.lineActsSpec.pre6 enc Try.prog Try.f12 Rows.lineActsRow.domain false) (Rows.lineActsSpec.post enc Try.prog Try.f12 false true false false) := by
  refine returnsInHanded_of_change (C := Try.checked) own_knob started (by kernel_rfl) Try.func12
    (ChangeSpec.witness6 (enc := enc) (C := Try.checked) false ⟨#[], #[.slice none 0 0, .bool false], []⟩ 8 (by kernel_rfl) (by kernel_rfl) (by kernel_rfl) (by kernel_rfl)) ?_
  intro W base args ds gs before hval0 hW hcnd _
  have hval : ∀ (j : Nat) t v, Try.f12.params[j]? = some t → args[j]? = some v → Value.okWide Try.prog W .any base t v := hval0
  have hW' := hW
  obtain ⟨p, q, hA0, hV, rfl, hfz, hnd⟩ := hW
  have hA : DataW.TrodAll enc Try.prog W 0 (fun _ => true) true Try.f12.params.toList args.toList ds p := hA0
  rw [Try.params12] at hA hval
  obtain ⟨v0, vs0, d0, ds0, p0, q0, hargs, rfl, rfl, h0, r0⟩ := trodAll_cons hA
  obtain ⟨v1, vs1, d1, ds1, p1, q1, rfl, rfl, rfl, h1, r1⟩ := trodAll_cons r0
  obtain ⟨rfl, rfl, rfl⟩ := trodAll_nil r1
  obtain rfl : args = #[v0, v1] := by cases args; simp_all
  obtain ⟨rfl, rfl⟩ := trodVars_none hV
  obtain ⟨a0, len0, cap0, rfl⟩ := okWide_slice Try.underlying52 (hval 0 52 v0 rfl rfl)
  have k0 := h0
  have lt0 : ∀ x ∈ p0, x.block < W.heap.size := by obtain ⟨m, hm⟩ := k0; exact DataW.trod_lt m _ _ _ hm
  obtain ⟨x0, rfl, b0⟩ : ∃ xs, xs.length = len0 ∧ Acts13 W (.slice a0 len0 cap0) xs := by
    obtain ⟨fuel, hf⟩ := h0
    exact open_acts13 hf
  obtain ⟨a1, rfl, rfl, rfl⟩ := open_bool Try.underlying4 (hval 1 4 v1 rfl rfl) h1
  clear hA0 hval0
  refine (lineActs_c b0).mono fun e W' ⟨he, hext⟩ => ?_
  subst he
  have bel := Ext.below hext
  exact ⟨_, rfl, _, _, _, [], _, [], hW', trodAll_mk1 (shut_bool Try.underlying4 _), (trodAll_cons_mk (Below.trod laid_out (by kernel_rfl) (of_decide_eq_true (by kernel_rfl)) k0 bel lt0) (trodAll_cons_mk (shut_bool Try.underlying4 a1) trodAll_mk0)), rfl, bel.frame _, fun h => by cases h⟩

set_option maxHeartbeats 0 in
theorem closed : joinedFacts Try.pinned.checked.prog 12 Try.f12 Rows.lineActsSpec Rows.lineActsRow = true := by
  unfold joinedFacts
  iterate 4
    refine fac_and ?_ ?g1
    case g1 => as_aux_lemma => kernel_rfl
  refine fac_and (fac_and (fac_and (fac_and ?_ fac_heard) fac_enter) fac_lifts) fac_make
  iterate 21
    refine fac_and ?_ ?g1
    case g1 => as_aux_lemma => kernel_rfl
  refine fac_and (fac_and ?_ fac_laid) fac_maps
  as_aux_lemma => kernel_rfl
theorem wrapper : Try.f12.isWrapper Try.pinned.checked.prog Rows.lineActsRow.wrapper Rows.lineActsRow.mainSum := by
  unfold Func.isWrapper
  rw [if_neg (by decide +kernel)]
  exact ⟨rfl, rfl⟩

theorem over : Rows.lineActsRow.holds Try.pinned (OpenSpec.ofChange Rows.lineActsSpec) :=
  OpenClaim.holds_of_wide 12 Try.f12 rfl rfl rfl rfl rfl rfl rfl ⟨rfl, rfl, rfl, rfl, rfl⟩ rfl rfl rfl rfl rfl (by kernel_rfl) Try.func12 closed
    (of_decide_eq_true (by kernel_rfl)) wrapper
    (fun os started H enc _ => lifted os started H enc)

theorem proved : Rows.LineActsSaid := over
#print axioms proved
end Go.Proofs.Ytaidgkdebocenaa.lineActs
