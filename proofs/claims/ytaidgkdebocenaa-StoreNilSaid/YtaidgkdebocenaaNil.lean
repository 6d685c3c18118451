/- jointurelaw05.StoreNil answers true, and turns nothing that was there.
   No conditions but that the arguments lie in memory as bytes. -/
import Derived.Test.YtaidgkdebocenaaRolls
namespace Go.Proofs.Ytaidgkdebocenaa
open Go Go.RowKit

set_option maxRecDepth 100000 in
set_option maxHeartbeats 1000000 in
theorem storeNil_c {w : World} {kv vv : Value} {key val : BS} (hk : BV w kv key) (hv : BV w vv val) :
    Calls Try.prog 9 #[kv, vv] w fun e w' => e = .returned (.bool true) ∧ Ext w w' := by
  obtain ⟨ka, kcap, hka, hkn, hkc⟩ := hk.val
  obtain ⟨va, vcap, hva, hvn, hvc⟩ := hv.val
  subst hka hva
  have HK := hid hk
  have HV := hid hv
  have HR := hid (rolls_c w)
  have hkk : (key.length : Int) ≤ 9223372036854775807 := by omega
  have hvv : (val.length : Int) ≤ 9223372036854775807 := by omega
  clear hk hv
  by_cases h1 : key.length ≤ 100
  · by_cases h2 : val.length ≤ 100
    · have t1 : ¬ (100 : Int) < key.length := by omega
      have t2 : ¬ (100 : Int) < val.length := by omega
      have HB := hid (And.intro h1 h2)
      clear h1 h2
      go_enter Try.func9, Try.ntmps9
      go_wp2_with fail
      refine HR.out.mono ?_
      rintro e w1 ⟨rfl, hE1⟩
      have hk1 := HK.out.ext hE1
      have hv1 := HV.out.ext hE1
      have HS := hid (nil_set hk1 hv1 (le_big (by have := HB.out.1; omega)) (le_big (by have := HB.out.2; omega)))
      have HE1 := hid hE1
      clear hE1 hk1 hv1 HR
      go_wp2_with fail
      refine HS.out.mono ?_
      rintro e w2 ⟨rfl, hE2⟩
      have hE := HE1.out.trans hE2
      have HD := hid (nil_delete (HK.out.ext hE) (le_big (by have := HB.out.1; omega)))
      have HE := hid hE
      clear hE hE2 HE1 HS
      go_wp2_with fail
      refine HD.out.mono ?_
      rintro e w3 ⟨rfl, hE3⟩
      have hE := HE.out.trans hE3
      have HBg := hid (nil_begin w3)
      have HG := hid (nil_get (HK.out.ext hE))
      have HKs := hid (nil_keys (HK.out.ext hE))
      have HCo := hid (nil_commit w3)
      have HRo := hid (nil_rollback w3)
      have HDe := hid (nil_depth w3)
      have HLe := hid (nil_len w3)
      have HCp := hid (nil_copy w3)
      have HNe := hid (new_c w3)
      have HE2 := hid hE
      clear hE hE3 HE HD
      go_wp2_with fail
      refine HBg.out.mono ?_
      rintro e wx ⟨rfl, rfl⟩
      go_wp2_with fail
      refine HG.out.mono ?_
      rintro e wx ⟨rfl, rfl⟩
      go_wp2_with fail
      refine HKs.out.mono ?_
      rintro e wx ⟨rfl, rfl⟩
      go_wp2_with fail
      refine HCo.out.mono ?_
      rintro e wx ⟨rfl, rfl⟩
      go_wp2_with fail
      refine HRo.out.mono ?_
      rintro e wx ⟨rfl, rfl⟩
      go_wp2_with fail
      refine HDe.out.mono ?_
      rintro e wx ⟨rfl, rfl⟩
      go_wp2_with fail
      refine HLe.out.mono ?_
      rintro e wx ⟨rfl, rfl⟩
      go_wp2_with fail
      refine HCp.out.mono ?_
      rintro e wx ⟨rfl, rfl⟩
      go_wp2_with fail
      refine HNe.out.mono ?_
      rintro e w4 ⟨rfl, hn, hE4⟩
      have HSa := hid (nil_same_new hn rfl)
      have HSb := hid (nil_same_nil w4)
      have HE4 := hid hE4
      clear hn hE4 HNe HBg HG HKs HCo HRo HDe HLe HCp
      dsimp only [newG] at HSa
      go_wp2_with fail
      refine HSa.out.mono ?_
      rintro e wx ⟨rfl, rfl⟩
      go_wp2_with fail
      refine HSb.out.mono ?_
      rintro e wx ⟨rfl, rfl⟩
      go_wp2_with fail
      go_ret
      exact ⟨rfl, HE2.out.trans HE4.out⟩
    · have t1 : ¬ (100 : Int) < key.length := by omega
      have t2 : (100 : Int) < val.length := by omega
      clear h1 h2
      go_enter Try.func9, Try.ntmps9
      go_wp2_with fail
      refine HR.out.mono ?_
      rintro e w1 ⟨rfl, hE1⟩
      have HR1 := hid (rolls_c w1)
      have HE1 := hid hE1
      clear hE1 HR
      go_wp2_with fail
      refine HR1.out.mono ?_
      rintro e w2 ⟨rfl, hE2⟩
      have HE2 := hid hE2
      clear hE2 HR1
      go_wp2_with fail
      go_ret
      exact ⟨rfl, HE1.out.trans HE2.out⟩
  · have t1 : (100 : Int) < key.length := by omega
    clear h1
    go_enter Try.func9, Try.ntmps9
    go_wp2_with fail
    refine HR.out.mono ?_
    rintro e w1 ⟨rfl, hE1⟩
    have HR1 := hid (rolls_c w1)
    have HE1 := hid hE1
    clear hE1 HR
    go_wp2_with fail
    refine HR1.out.mono ?_
    rintro e w2 ⟨rfl, hE2⟩
    have HE2 := hid hE2
    clear hE2 HR1
    go_wp2_with fail
    go_ret
    exact ⟨rfl, HE1.out.trans HE2.out⟩

end Go.Proofs.Ytaidgkdebocenaa
