/- jointurelaw05.StoreActs answers true, and turns nothing that was there.
   No conditions but that the argument lies in memory as deeds. -/
import Derived.Test.YtaidgkdebocenaaInv5
import Derived.Test.YtaidgkdebocenaaRolls
namespace Go.Proofs.Ytaidgkdebocenaa
open Go Go.RowKit

set_option maxRecDepth 100000 in
set_option maxHeartbeats 2000000 in
theorem storeActs_c {w : World} {v : Value} {l : List ActV} (h : ActsV w v l) :
    Calls Try.prog 3 #[v] w fun e w' => e = .returned (.bool true) ∧ Ext w w' := by
  obtain ⟨ao, cap, rfl, hlc, hcm⟩ := h.val
  unfold maxLen at hcm
  have HR := hid (rolls_c w)
  have H := hid h
  clear h
  by_cases hf : few l = true
  · obtain ⟨h40, hsm⟩ := few_at hf
    have HSm := hid hsm
    have Hf := hid hf
    clear hsm hf
    go_enter Try.func3, Try.ntmps3
    go_wp2_with fail
    refine HR.out.mono ?_
    rintro e w1 ⟨rfl, hE1⟩
    have hF := few5_c (H.out.ext hE1)
    rw [Hf.out] at hF
    have HF := hid hF
    have HN := hid (new_c w1)
    have HE1 := hid hE1
    clear hE1 hF HR
    go_wp2_with fail
    refine HF.out.mono ?_
    rintro e wx ⟨rfl, rfl⟩
    go_wp2_with fail
    refine HN.out.mono ?_
    rintro e w2 ⟨rfl, hn, hE2⟩
    have hI := Inv.new (HE1.out.trans hE2) hn HE1.out.size rfl
    have HI := hid hI
    clear hI hn hE2 HN HF
    go_wp2_with fail
    go_loopw [5] (fun j wr => ∃ (k : Nat) (s : SG) (m : RG), k ≤ l.length ∧ j = .int .i64 k ∧ Inv w wr w1.heap.size w2.heap.size k s m) (fun j _ => l.length - (intOf j).toNat)
    case atStart => exact ⟨0, _, _, Nat.zero_le _, rfl, HI.out⟩
    case round =>
      obtain ⟨k, s, m, hk, rfl, hI⟩ := hrel
      have HI := hid hI
      clear hI
      by_cases hlt : k < l.length
      · have hki : (k : Int) < (l.length : Int) := by omega
        obtain ⟨g, off, cap', ka, kcap, va, vcap, hv, -, -, -, hkv, hvv, c0, c1, c2⟩ := (H.out.ext HI.out.ext).at hlt
        obtain ⟨rfl, -, rfl⟩ : ao = some ⟨g, off, none⟩ ∧ True ∧ cap = cap' := by simpa using hv
        have hD := doesI (d := (l[k]).d) HI.out (by omega) (((H.out.ext HI.out.ext).bytes hlt).1) (((H.out.ext HI.out.ext).bytes hlt).2) (by have := (HSm.out _ (List.getElem_mem hlt)).1; omega) (by have := (HSm.out _ (List.getElem_mem hlt)).2; omega)
        rw [hkv, hvv] at hD
        have HD := hid hD
        obtain ⟨kl, hkl⟩ : ∃ kl, kl = (l[k]).key.length := ⟨_, rfl⟩
        obtain ⟨vl, hvl⟩ : ∃ vl, vl = (l[k]).val.length := ⟨_, rfl⟩
        obtain ⟨dd, hdd⟩ : ∃ dd, dd = (l[k]).d.toNat := ⟨_, rfl⟩
        rw [← hdd] at c0 HD
        rw [← hkl] at c1 HD
        rw [← hvl] at c2 HD
        clear hv hD hkl hvl hdd hkv hvv
        go_wp2_with fail
        refine HD.out.mono ?_
        rintro e w3 ⟨rfl, s', m', hI'⟩
        have HI' := hid hI'
        have HSa := hid (sameI hI' (by omega))
        clear hI' HD
        go_wp2_with fail
        refine HSa.out.mono ?_
        rintro e w4 ⟨rfl, hE4⟩
        have HE4 := hid hE4
        clear hE4
        go_wp2_with fail
        exact ⟨⟨k + 1, s', m', hlt, by go_num, HI'.out.after HE4.out⟩, by simp [intOf]; omega⟩
      · obtain rfl : k = l.length := by omega
        go_wp2_with fail
        go_ret
        exact ⟨rfl, HI.out.ext⟩
  · have hf' : few l = false := by simpa using hf
    have Hf := hid hf'
    clear hf hf'
    go_enter Try.func3, Try.ntmps3
    go_wp2_with fail
    refine HR.out.mono ?_
    rintro e w1 ⟨rfl, hE1⟩
    have hF := few5_c (H.out.ext hE1)
    rw [Hf.out] at hF
    have HF := hid hF
    have HR1 := hid (rolls_c w1)
    have HE1 := hid hE1
    clear hE1 hF HR
    go_wp2_with fail
    refine HF.out.mono ?_
    rintro e wx ⟨rfl, rfl⟩
    go_wp2_with fail
    refine HR1.out.mono ?_
    rintro e w2 ⟨rfl, hE2⟩
    have HE2 := hid hE2
    clear hE2 HR1
    go_wp2_with fail
    go_ret
    exact ⟨rfl, HE1.out.trans HE2.out⟩

end Go.Proofs.Ytaidgkdebocenaa
