/- The statement LineRipesSaid: for every input the law answers true, and the input reads as it did.
   No conditions: the given statement. -/
import Derived.Test.YtaidgkdebocenaaRows
import Derived.Test.YtaidgkdebocenaaArg13
import Derived.Test.YtaidgkdebocenaaFac
import Derived.Test.YtaidgkdebocenaaLineRipes
namespace Go.Proofs.Ytaidgkdebocenaa.lineRipes
open Go Go.RowKit
open Go.ChangeShapes Go.WideShapes Go.ChangeAt
set_option linter.unusedVariables false

set_option maxRecDepth 100000 in
theorem lifted (os : Os) (started : os.Started) (H : Type) (enc : TypeId × Value → H) :
    ReturnsInHanded {} Try.checked os 13 .any (Rows.lineRipesSpec.pre6 enc Try.prog Try.f13 Rows.lineRipesRow.domain false) (Rows.lineRipesSpec.post enc Try.prog Try.f13 false true false false) := by
  refine returnsInHanded_of_change (C := Try.checked) own_knob started (by kernel_rfl) Try.func13
    (ChangeSpec.witness6 (enc := enc) (C := Try.checked) false ⟨#[], #[.slice none 0 0, .int .u64 0, .bool false], []⟩ 8 (by kernel_rfl) (by kernel_rfl) (by kernel_rfl) (by kernel_rfl)) ?_
  intro W base args ds gs before hval0 hW hcnd _
  have hval : ∀ (j : Nat) t v, Try.f13.params[j]? = some t → args[j]? = some v → Value.okWide Try.prog W .any base t v := hval0
  have hW' := hW
  obtain ⟨p, q, hA0, hV, rfl, hfz, hnd⟩ := hW
  have hA : DataW.TrodAll enc Try.prog W 0 (fun _ => true) true Try.f13.params.toList args.toList ds p := hA0
  rw [Try.params13] at hA hval
  obtain ⟨v0, vs0, d0, ds0, p0, q0, hargs, rfl, rfl, h0, r0⟩ := trodAll_cons hA
  obtain ⟨v1, vs1, d1, ds1, p1, q1, rfl, rfl, rfl, h1, r1⟩ := trodAll_cons r0
  obtain ⟨v2, vs2, d2, ds2, p2, q2, rfl, rfl, rfl, h2, r2⟩ := trodAll_cons r1
  obtain ⟨rfl, rfl, rfl⟩ := trodAll_nil r2
  obtain rfl : args = #[v0, v1, v2] := by cases args; simp_all
  obtain ⟨rfl, rfl⟩ := trodVars_none hV
  obtain ⟨a0, len0, cap0, rfl⟩ := okWide_slice Try.underlying52 (hval 0 52 v0 rfl rfl)
  have k0 := h0
  have lt0 : ∀ x ∈ p0, x.block < W.heap.size := by obtain ⟨m, hm⟩ := k0; exact DataW.trod_lt m _ _ _ hm
  obtain ⟨x0, rfl, b0⟩ : ∃ xs, xs.length = len0 ∧ Acts13 W (.slice a0 len0 cap0) xs := by
    obtain ⟨fuel, hf⟩ := h0
    exact open_acts13 hf
  obtain ⟨a1, rfl, rfl, rfl, w1⟩ := open_int Try.underlying54 (hval 1 54 v1 rfl rfl) h1
  obtain ⟨a2, rfl, rfl, rfl⟩ := open_bool Try.underlying4 (hval 2 4 v2 rfl rfl) h2
  clear hA0 hval0
  refine (lineRipes_w b0 w1).mono fun e W' ⟨he, hext⟩ => ?_
  subst he
  have bel := Ext.below hext
  exact ⟨_, rfl, _, _, _, [], _, [], hW', trodAll_mk1 (shut_bool Try.underlying4 _), (trodAll_cons_mk (Below.trod laid_out (by kernel_rfl) (of_decide_eq_true (by kernel_rfl)) k0 bel lt0) (trodAll_cons_mk (shut_int Try.underlying54 w1) (trodAll_cons_mk (shut_bool Try.underlying4 a2) trodAll_mk0))), rfl, bel.frame _, fun h => by cases h⟩

set_option maxHeartbeats 0 in
theorem closed : joinedFacts Try.pinned.checked.prog 13 Try.f13 Rows.lineRipesSpec Rows.lineRipesRow = true := by
  unfold joinedFacts
  iterate 4
    refine fac_and ?_ ?g1
    case g1 => as_aux_lemma => kernel_rfl
  refine fac_and (fac_and (fac_and (fac_and ?_ fac_heard) fac_enter) fac_lifts) fac_make
  iterate 21
    refine fac_and ?_ ?g1
    case g1 => as_aux_lemma => kernel_rfl
  refine fac_and (fac_and ?_ fac_laid) fac_maps
  as_aux_lemma => kernel_rfl
theorem wrapper : Try.f13.isWrapper Try.pinned.checked.prog Rows.lineRipesRow.wrapper Rows.lineRipesRow.mainSum := by
  unfold Func.isWrapper
  rw [if_neg (by decide +kernel)]
  exact ⟨rfl, rfl⟩

theorem over : Rows.lineRipesRow.holds Try.pinned (OpenSpec.ofChange Rows.lineRipesSpec) :=
  OpenClaim.holds_of_wide 13 Try.f13 rfl rfl rfl rfl rfl rfl rfl ⟨rfl, rfl, rfl, rfl, rfl⟩ rfl rfl rfl rfl rfl (by kernel_rfl) Try.func13 closed
    (of_decide_eq_true (by kernel_rfl)) wrapper
    (fun os started H enc _ => lifted os started H enc)

theorem proved : Rows.LineRipesSaid := over
#print axioms proved
end Go.Proofs.Ytaidgkdebocenaa.lineRipes
