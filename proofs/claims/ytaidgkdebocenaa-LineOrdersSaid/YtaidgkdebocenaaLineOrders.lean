/- jointurelaw13.LineOrders answers true, and turns nothing that was there.
   No conditions but that the argument lies in memory as deeds. -/
import Derived.Test.YtaidgkdebocenaaArg13
import Derived.Test.YtaidgkdebocenaaLineAdds
import Derived.StillTailTactics
import Derived.Deep.QuietTactic
import Derived.BigQuiet
namespace Go.Proofs.Ytaidgkdebocenaa
open Go Go.RowKit

set_option maxRecDepth 100000 in
set_option maxHeartbeats 2000000 in
theorem lineOrders_c {w : World} {v : Value} {l : List A13} (h : Acts13 w v l) :
    Calls Try.prog 10 #[v] w fun e w' => e = .returned (.bool true) ∧ Ext w w' := by
  obtain ⟨ao, cap, rfl, hlc, hcm⟩ := ArgV.val h
  have HR := hid (adds13_c w)
  have H := hid h
  clear h
  by_cases hf : few13 l = true
  · obtain ⟨h40, hsm⟩ := few13_at hf
    have HSm := hid hsm
    have Hf := hid hf
    clear hsm hf
    go_enter Try.func10, Try.ntmps10
    go_wp2_with fail
    refine HR.out.mono ?_
    rintro e w1 ⟨rfl, hE1⟩
    have hF := few13_c (H.out.ext hE1)
    rw [Hf.out] at hF
    have HF := hid hF
    have HN := hid (St.new (w0 := w) hE1)
    clear hE1 hF HR
    go_wp2_with fail
    refine HF.out.mono ?_
    rintro e wx ⟨rfl, rfl⟩
    go_wp2_with fail
    refine HN.out.mono ?_
    rintro e w2 ⟨b, rfl, hS, -, -⟩
    have HS := hid hS
    clear hS HN HF
    go_wp2_with fail
    go_loopw [4] (fun j wr => ∃ (k : Nat) (M : List KV) (L : List It), k ≤ l.length ∧ j = .int .i64 k ∧ St w wr b M ∧ LineOk M 3 L k ∧ L.length = k ∧ M.length ≤ 2 * k) (fun j _ => l.length - (intOf j).toNat)
    case atStart => exact ⟨0, [], [], Nat.zero_le _, rfl, HS.out, LineOk.new 3, rfl, Nat.le_refl _⟩
    case round =>
      obtain ⟨k, M, L, hk, rfl, hS, hL, hLl, hM⟩ := hrel
      have HX := hid (And.intro hS (And.intro hL (And.intro hLl hM)))
      clear hS hL hLl hM
      by_cases hlt : k < l.length
      · have hki : (k : Int) < (l.length : Int) := by omega
        obtain ⟨hS, hL, hLl, hM⟩ := HX.out
        obtain ⟨g, off, cap', pa, pc, hv, -, -, -, hpv, hok, -, -, c2, -, c4⟩ := (H.out.ext hS.base).at hlt
        have hsb : SB w wr.drew (l[k]).pv (l[k]).p := SB.old ((H.out.mem _ (List.getElem_mem hlt)).1)
        have hA := adds_add (κ := 3) (due := (l[k]).due) (hS.ext (Ext.drewOne wr)) hL (by omega) hok.2.1 (by omega) hsb (by have := HSm.out _ (List.getElem_mem hlt); omega)
        rw [hpv] at hA
        cases hv
        obtain ⟨pl, hpl⟩ : ∃ pl, pl = (l[k]).p.length := ⟨_, rfl⟩
        obtain ⟨du, hdu⟩ : ∃ du, du = (l[k]).due := ⟨_, rfl⟩
        rw [← hpl] at c4 hA
        rw [← hdu] at c2 hA
        have HA := hid hA
        clear hS hL hLl hM hpv hok hsb hA hpl hdu
        go_wp2_with fail
        go_still_tail 11, (by kernel_rfl)
        go_wp2_with fail
        refine HA.out.mono ?_
        rintro e w3 ⟨rfl, hS3, hL3, hlen, -, -⟩
        obtain ⟨M3, hM3⟩ : ∃ M3, M3 = addM M 3 k du (l[k]).p := ⟨_, rfl⟩
        rw [← hM3] at hS3 hL3 hlen
        have HN := hid (And.intro hS3 (And.intro hL3 hlen))
        clear hS3 hL3 hlen hM3 HA
        go_wp2_with fail
        refine ⟨⟨k + 1, M3, _, hlt, by go_num, HN.out.1, HN.out.2.1, ?_, ?_⟩, by simp [intOf]; omega⟩
        · rw [insIt_length, HX.out.2.2.1]
        · have := HN.out.2.2
          have := HX.out.2.2.2
          omega
      · obtain rfl : k = l.length := by omega
        obtain ⟨hS, hL, hLl, hM⟩ := HX.out
        have HA := hid (lineAll_c hS (by omega) hL.sub hL.ok)
        have HSo := hid (And.intro hL.so (And.intro hLl hS.base))
        clear hS hL hLl hM HX
        go_wp2_with fail
        refine HA.out.mono ?_
        rintro e w3 ⟨v, rs, rfl, hI, hrm, hE3⟩
        obtain ⟨n, hn⟩ : ∃ n, n = l.length := ⟨_, rfl⟩
        have hrl : rs.length = n := by rw [hn, ← HSo.out.2.1, ← hrm, List.length_map]
        obtain ⟨xa, xc, hxv, hxc1, hxc2⟩ := row_len hI.1
        rw [hrl] at hxv hxc1
        subst hxv
        have HI := hid (And.intro hI (And.intro hrm (And.intro hE3 hrl)))
        rw [← hn] at hlc hk ⊢
        have Hn := hid hn
        clear hI hrm hE3 hrl HA hn
        go_wp2_with fail
        go_loopw [6] (fun j wr => ∃ k : Nat, k ≤ n ∧ j = .int .i64 ((k : Int) + 1) ∧ Ext w3 wr) (fun j _ => n + 1 - (intOf j).toNat)
        case atStart => exact ⟨0, Nat.zero_le _, rfl, Ext.refl _⟩
        case round =>
          obtain ⟨k, hk, rfl, hEr⟩ := hrel
          by_cases hlt2 : k + 1 < n
          · have hki : (k : Int) + 1 < (n : Int) := by omega
            obtain ⟨hI, hrm, hE3, hrl⟩ := HI.out
            obtain ⟨g, c1, hv1, -, -, -, -, hc1⟩ := rowCell IV.cells_len (hI.ext hEr).1 (i := k) (by omega)
            obtain ⟨g2, c2, hv2, -, -, -, -, hc2⟩ := rowCell IV.cells_len (hI.ext hEr).1 (i := k + 1) (by omega)
            rw [hrl] at hv1
            cases hv1
            cases hv2
            have hb : before (rs[k]'(by omega)).it (rs[k + 1]'(by omega)).it := by
              have hs := HSo.out.1
              rw [← hrm] at hs
              have := List.pairwise_iff_getElem.1 hs k (k + 1) (by simp; omega) (by simp; omega) (by omega)
              simpa using this
            have k0 := (hc1 0 (by decide)).1
            have k1 := (hc1 1 (by decide)).1
            have k2 := (hc2 0 (by decide)).1
            have k3 := (hc2 1 (by decide)).1
            simp only [IV.cells, List.getElem?_cons_zero, List.getElem?_cons_succ, Nat.add_zero] at k0 k1 k2 k3
            obtain ⟨d0, hd0⟩ : ∃ d0, d0 = (rs[k]'(by omega)).it.due := ⟨_, rfl⟩
            obtain ⟨n0, hn0⟩ : ∃ n0, n0 = (rs[k]'(by omega)).it.no := ⟨_, rfl⟩
            obtain ⟨d1, hd1⟩ : ∃ d1, d1 = (rs[k + 1]'(by omega)).it.due := ⟨_, rfl⟩
            obtain ⟨n1, hn1⟩ : ∃ n1, n1 = (rs[k + 1]'(by omega)).it.no := ⟨_, rfl⟩
            rw [← hd0] at k0
            rw [← hn0] at k1
            rw [← hd1] at k2
            rw [← hn1] at k3
            unfold before at hb
            rw [← hd0, ← hn0, ← hd1, ← hn1] at hb
            have t1 : decide (d1 < d0) = false := by simp; omega
            have HEr := hid hEr
            clear hI hrm hE3 hrl hc1 hc2 hd0 hn0 hd1 hn1 hEr
            by_cases hde : d0 = d1
            · subst hde
              have t2 : decide (n1 ≤ n0) = false := by simp; omega
              clear hb
              go_wp2_with fail
              go_quiet (fail)
              go_wp2_with fail
              exact ⟨⟨k + 1, by omega, by go_num, HEr.out.trans (Ext.of_drewN _ _)⟩, by simp [intOf]; omega⟩
            · have t2 : ((d0 : Int) == (d1 : Int)) = false := by rw [beq_eq_false_iff_ne]; omega
              clear hb
              go_wp2_with fail
              go_quiet (fail)
              go_wp2_with fail
              exact ⟨⟨k + 1, by omega, by go_num, HEr.out.trans (Ext.of_drewN _ _)⟩, by simp [intOf]; omega⟩
          · have hki : ¬ (k : Int) + 1 < (n : Int) := by omega
            have HEr := hid hEr
            clear hEr
            go_wp2_with fail
            go_ret
            exact ⟨rfl, (HSo.out.2.2.trans HI.out.2.2.1).trans HEr.out⟩
  · have hf' : few13 l = false := by simpa using hf
    have Hf := hid hf'
    clear hf hf'
    go_enter Try.func10, Try.ntmps10
    go_wp2_with fail
    refine HR.out.mono ?_
    rintro e w1 ⟨rfl, hE1⟩
    have hF := few13_c (H.out.ext hE1)
    rw [Hf.out] at hF
    have HF := hid hF
    have HR1 := hid (adds13_c w1)
    have HE1 := hid hE1
    clear hE1 hF HR
    go_wp2_with fail
    refine HF.out.mono ?_
    rintro e wx ⟨rfl, rfl⟩
    go_wp2_with fail
    refine HR1.out.mono ?_
    rintro e w2 ⟨rfl, hE2⟩
    have HE2 := hid hE2
    clear hE2 HR1
    go_wp2_with fail
    go_ret
    exact ⟨rfl, HE1.out.trans HE2.out⟩

end Go.Proofs.Ytaidgkdebocenaa
