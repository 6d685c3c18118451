/- The statement LineNilSaid: for every input the law answers true, and the input reads as it did.
   No conditions: the given statement. -/
import Derived.Test.YtaidgkdebocenaaRows
import Derived.Test.YtaidgkdebocenaaOpen
import Derived.Test.YtaidgkdebocenaaFac
import Derived.Test.YtaidgkdebocenaaLineNil
namespace Go.Proofs.Ytaidgkdebocenaa.lineNil
open Go Go.RowKit
open Go.ChangeShapes Go.WideShapes Go.ChangeAt
set_option linter.unusedVariables false

set_option maxRecDepth 100000 in
theorem lifted (os : Os) (started : os.Started) (H : Type) (enc : TypeId × Value → H) :
    ReturnsInHanded {} Try.checked os 14 .any (Rows.lineNilSpec.pre6 enc Try.prog Try.f14 Rows.lineNilRow.domain false) (Rows.lineNilSpec.post enc Try.prog Try.f14 false true false false) := by
  refine returnsInHanded_of_change (C := Try.checked) own_knob started (by kernel_rfl) Try.func14
    (ChangeSpec.witness6 (enc := enc) (C := Try.checked) false ⟨#[], #[.int .u8 0, .int .u64 0, .int .u64 0, .slice none 0 0], []⟩ 8 (by kernel_rfl) (by kernel_rfl) (by kernel_rfl) (by kernel_rfl)) ?_
  intro W base args ds gs before hval0 hW hcnd _
  have hval : ∀ (j : Nat) t v, Try.f14.params[j]? = some t → args[j]? = some v → Value.okWide Try.prog W .any base t v := hval0
  have hW' := hW
  obtain ⟨p, q, hA0, hV, rfl, hfz, hnd⟩ := hW
  have hA : DataW.TrodAll enc Try.prog W 0 (fun _ => true) true Try.f14.params.toList args.toList ds p := hA0
  rw [Try.params14] at hA hval
  obtain ⟨v0, vs0, d0, ds0, p0, q0, hargs, rfl, rfl, h0, r0⟩ := trodAll_cons hA
  obtain ⟨v1, vs1, d1, ds1, p1, q1, rfl, rfl, rfl, h1, r1⟩ := trodAll_cons r0
  obtain ⟨v2, vs2, d2, ds2, p2, q2, rfl, rfl, rfl, h2, r2⟩ := trodAll_cons r1
  obtain ⟨v3, vs3, d3, ds3, p3, q3, rfl, rfl, rfl, h3, r3⟩ := trodAll_cons r2
  obtain ⟨rfl, rfl, rfl⟩ := trodAll_nil r3
  obtain rfl : args = #[v0, v1, v2, v3] := by cases args; simp_all
  obtain ⟨rfl, rfl⟩ := trodVars_none hV
  obtain ⟨a0, rfl, rfl, rfl, w0⟩ := open_int Try.underlying5 (hval 0 5 v0 rfl rfl) h0
  obtain ⟨a1, rfl, rfl, rfl, w1⟩ := open_int Try.underlying54 (hval 1 54 v1 rfl rfl) h1
  obtain ⟨a2, rfl, rfl, rfl, w2⟩ := open_int Try.underlying54 (hval 2 54 v2 rfl rfl) h2
  obtain ⟨a3, len3, cap3, rfl⟩ := okWide_slice Try.underlying33 (hval 3 33 v3 rfl rfl)
  have k3 := h3
  have lt3 : ∀ x ∈ p3, x.block < W.heap.size := by obtain ⟨m, hm⟩ := k3; exact DataW.trod_lt m _ _ _ hm
  obtain ⟨x3, rfl, b3⟩ : ∃ xs, xs.length = len3 ∧ BV W (.slice a3 len3 cap3) xs := by
    obtain ⟨fuel, hf⟩ := h3
    exact open_bytes hf
  clear hA0 hval0
  refine (lineNil_c w0 w1 w2 b3).mono fun e W' ⟨he, hext⟩ => ?_
  subst he
  have bel := Ext.below hext
  exact ⟨_, rfl, _, _, _, [], _, [], hW', trodAll_mk1 (shut_bool Try.underlying4 _), (trodAll_cons_mk (shut_int Try.underlying5 w0) (trodAll_cons_mk (shut_int Try.underlying54 w1) (trodAll_cons_mk (shut_int Try.underlying54 w2) (trodAll_cons_mk (Below.trod laid_out (by kernel_rfl) (of_decide_eq_true (by kernel_rfl)) k3 bel lt3) trodAll_mk0)))), rfl, bel.frame _, fun h => by cases h⟩

set_option maxHeartbeats 0 in
theorem closed : joinedFacts Try.pinned.checked.prog 14 Try.f14 Rows.lineNilSpec Rows.lineNilRow = true := by
  unfold joinedFacts
  iterate 4
    refine fac_and ?_ ?g1
    case g1 => as_aux_lemma => kernel_rfl
  refine fac_and (fac_and (fac_and (fac_and ?_ fac_heard) fac_enter) fac_lifts) fac_make
  iterate 21
    refine fac_and ?_ ?g1
    case g1 => as_aux_lemma => kernel_rfl
  refine fac_and (fac_and ?_ fac_laid) fac_maps
  as_aux_lemma => kernel_rfl
theorem wrapper : Try.f14.isWrapper Try.pinned.checked.prog Rows.lineNilRow.wrapper Rows.lineNilRow.mainSum := by
  unfold Func.isWrapper
  rw [if_neg (by decide +kernel)]
  exact ⟨rfl, rfl⟩

theorem over : Rows.lineNilRow.holds Try.pinned (OpenSpec.ofChange Rows.lineNilSpec) :=
  OpenClaim.holds_of_wide 14 Try.f14 rfl rfl rfl rfl rfl rfl rfl ⟨rfl, rfl, rfl, rfl, rfl⟩ rfl rfl rfl rfl rfl (by kernel_rfl) Try.func14 closed
    (of_decide_eq_true (by kernel_rfl)) wrapper
    (fun os started H enc _ => lifted os started H enc)

theorem proved : Rows.LineNilSaid := over
#print axioms proved
end Go.Proofs.Ytaidgkdebocenaa.lineNil
