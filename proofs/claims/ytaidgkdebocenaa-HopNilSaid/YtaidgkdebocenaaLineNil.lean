/- jointurelaw13.LineNil answers true, and turns nothing that was there.
   No conditions but that the arguments lie in memory. -/
import Derived.Test.YtaidgkdebocenaaLineAdds
import Derived.Test.YtaidgkdebocenaaArg
namespace Go.Proofs.Ytaidgkdebocenaa
open Go Go.RowKit

theorem lineAdd_nil {w : World} {κ due : Int} {v : Value} {p : BS} (hp : BV w v p) : Calls Try.prog 49 #[.pointer none, .int .u8 κ, .int .u64 due, v] w fun e w' => e = .returned (.int .u64 0) ∧ w = w' := by
  obtain ⟨a, c, rfl, -, -⟩ := hp.val
  clear hp
  go_enter Try.func49, Try.ntmps49
  go_wp2
  go_ret
  exact ⟨rfl, rfl⟩

theorem lineRemove_nil {w : World} {κ : UInt8} {d n : Nat} (hd : d < W64) (hn : n < W64) : Calls Try.prog 51 #[.pointer none, .int .u8 (κ.toNat : Int), .int .u64 (d : Int), .int .u64 (n : Int)] w fun e w' => e = .returned (.bool false) ∧ Ext w w' := by
  have HK := hid (lineKey_c (w := w) (κ := κ) hd hn)
  have hkl := wkey_length κ d n
  obtain ⟨k, hk⟩ : ∃ k, k = wkey κ d n := ⟨_, rfl⟩
  rw [← hk] at HK hkl
  have Hkl := hid hkl
  clear hk hkl hd hn
  go_enter Try.func51, Try.ntmps51
  go_wp2_with fail
  refine HK.out.mono ?_
  rintro e w1 ⟨a, c, rfl, h1, hE1⟩
  have HG := hid (nil_get (BV.of_owns h1))
  have HD := hid (nil_delete (BV.of_owns h1) (le_big (by have := Hkl.out; omega)))
  have HE := hid hE1
  clear h1 hE1 HK
  go_wp2_with fail
  refine HG.out.mono ?_
  rintro e w2 ⟨rfl, rfl⟩
  go_wp2_with fail
  refine HD.out.mono ?_
  rintro e w3 ⟨rfl, hE3⟩
  have HE3 := hid (HE.out.trans hE3)
  clear hE3 HD
  go_wp2_with fail
  go_ret
  exact ⟨rfl, HE3.out⟩

theorem lineSet_nil {w : World} {κ : UInt8} {d n : Nat} {v : Value} {p : BS} (hp : BV w v p) (hd : d < W64) (hn : n < W64) : Calls Try.prog 58 #[.pointer none, .int .u8 (κ.toNat : Int), .agg #[.int .u64 (d : Int), .int .u64 (n : Int), v]] w fun e w' => e = .returned (.bool false) ∧ Ext w w' := by
  obtain ⟨pa, pc, rfl, -, -⟩ := hp.val
  obtain ⟨W, hW⟩ : ∃ W, W = w.alloc (.cells #[.int .u64 (d : Int), .int .u64 (n : Int), .slice pa p.length pc] 61) := ⟨_, rfl⟩
  have hE : Ext w W := by rw [hW]; exact (Ext.refl w).alloc _
  have HK := hid (lineKey_c (w := W) (κ := κ) hd hn)
  have HE := hid hE
  have HW := hid hW
  clear hE hW hp hd hn
  go_enter Try.func58, Try.ntmps58
  go_wp2_with fail
  rw [← HW.out]
  refine HK.out.mono ?_
  rintro e w1 ⟨a, c, rfl, h1, hE1⟩
  have HG := hid (nil_get (BV.of_owns h1))
  have HE1 := hid (HE.out.trans hE1)
  clear h1 hE1 HK
  go_wp2_with fail
  refine HG.out.mono ?_
  rintro e w2 ⟨rfl, rfl⟩
  go_wp2_with fail
  go_ret
  exact ⟨rfl, HE1.out⟩

theorem lineAll_nil {w : World} {κ : UInt8} : Calls Try.prog 50 #[.pointer none, .int .u8 (κ.toNat : Int)] w fun e w' => e = .returned (.slice none 0 0) ∧ Ext w w' := by
  have HK := hid (nil_keys (lit2 w 119 κ).bv)
  obtain ⟨kn, hkn⟩ : ∃ kn, kn = κ.toNat := ⟨_, rfl⟩
  unfold bval at HK
  rw [← hkn] at HK ⊢
  clear hkn
  go_enter Try.func50, Try.ntmps50
  go_wp2_with fail
  refine HK.out.mono ?_
  rintro e w2 ⟨rfl, rfl⟩
  clear HK
  go_wp2_with fail
  go_loopw [5, 16] (fun l i wr => l = .slice none 0 0 ∧ i = .int .i64 0 ∧ Ext w wr) (fun _ _ _ => 0)
  case atStart => exact ⟨rfl, rfl, (Ext.refl w).alloc _⟩
  case round =>
    obtain ⟨rfl, rfl, hE⟩ := hrel
    have HE := hid hE
    clear hE
    go_wp2_with fail
    go_ret
    exact ⟨rfl, HE.out⟩

theorem lineRipe_nil {w : World} {κ : UInt8} {now : Int} : Calls Try.prog 57 #[.pointer none, .int .u8 (κ.toNat : Int), .int .u64 now] w fun e w' => e = .returned (.slice none 0 0) ∧ Ext w w' := by
  have HA := hid (lineAll_nil (w := w) (κ := κ))
  go_enter Try.func57, Try.ntmps57
  go_wp2_with fail
  refine HA.out.mono ?_
  rintro e w2 ⟨rfl, hE⟩
  have HE := hid hE
  clear hE HA
  go_wp2_with fail
  go_loopw [15] (fun i wr => i = .int .i64 0 ∧ Ext w wr) (fun _ _ => 0)
  case atStart => exact ⟨rfl, HE.out⟩
  case round =>
    obtain ⟨rfl, hE⟩ := hrel
    have HE := hid hE
    clear hE
    go_wp2_with fail
    go_ret
    exact ⟨rfl, HE.out⟩

set_option maxRecDepth 100000 in
set_option maxHeartbeats 2000000 in
theorem lineNil_n {w : World} {κ : UInt8} {due no : Nat} {v : Value} {p : BS} (hd : due < W64) (hn : no < W64) (hp : BV w v p) :
    Calls Try.prog 14 #[.int .u8 (κ.toNat : Int), .int .u64 (due : Int), .int .u64 (no : Int), v] w fun e w' => e = .returned (.bool true) ∧ Ext w w' := by
  obtain ⟨pa, pc, hpv, -, -⟩ := hp.val
  have HR := hid (adds13_c w)
  have HP := hid hp
  subst hpv
  clear hp
  go_enter Try.func14, Try.ntmps14
  go_wp2_with fail
  refine HR.out.mono ?_
  rintro e w1 ⟨rfl, hE1⟩
  have HE1 := hid hE1
  clear hE1 HR
  by_cases hl : 300 < p.length
  · have t1 : decide ((300 : Int) < (p.length : Int)) = true := by simp; omega
    have t2 : (300 : Int) < (p.length : Int) := by omega
    go_wp2_with fail
    go_ret
    exact ⟨rfl, HE1.out⟩
  · have t1 : decide ((300 : Int) < (p.length : Int)) = false := by simp; omega
    have t2 : ¬ (300 : Int) < (p.length : Int) := by omega
    have HA := hid (lineAdd_nil (κ := (κ.toNat : Int)) (due := (due : Int)) (HP.out.ext HE1.out))
    go_wp2_with fail
    refine HA.out.mono ?_
    rintro e w2 ⟨rfl, rfl⟩
    have HS := hid (lineSet_nil (κ := κ) (HP.out.ext HE1.out) hd hn)
    go_wp2_with fail
    refine HS.out.mono ?_
    rintro e w2 ⟨rfl, hE2⟩
    have HR := hid (lineRemove_nil (w := w2) (κ := κ) hd hn)
    have HE2 := hid (HE1.out.trans hE2)
    clear hE2 HS
    go_wp2_with fail
    refine HR.out.mono ?_
    rintro e w3 ⟨rfl, hE3⟩
    have HAl := hid (lineAll_nil (w := w3) (κ := κ))
    have HE3 := hid (HE2.out.trans hE3)
    clear hE3 HR
    go_wp2_with fail
    refine HAl.out.mono ?_
    rintro e w4 ⟨rfl, hE4⟩
    have HRi := hid (lineRipe_nil (w := w4) (κ := κ) (now := (due : Int)))
    have HE4 := hid (HE3.out.trans hE4)
    clear hE4 HAl
    go_wp2_with fail
    refine HRi.out.mono ?_
    rintro e w5 ⟨rfl, hE5⟩
    have HE5 := hid (HE4.out.trans hE5)
    clear hE5 HRi
    go_wp2_with fail
    go_ret
    exact ⟨rfl, HE5.out⟩

theorem lineNil_c {w : World} {k d n : Int} {v : Value} {p : BS} (hk : (Lit.int .u8 k).wf = true) (hd : (Lit.int .u64 d).wf = true) (hn : (Lit.int .u64 n).wf = true) (hp : BV w v p) :
    Calls Try.prog 14 #[.int .u8 k, .int .u64 d, .int .u64 n, v] w fun e w' => e = .returned (.bool true) ∧ Ext w w' := by
  have h1 := u8_of_wf hk
  have h2 := u64_of_wf hd
  have h3 := u64_of_wf hn
  rw [← h1, ← h2.1, ← h3.1]
  exact lineNil_n h2.2 h3.2 hp

end Go.Proofs.Ytaidgkdebocenaa
