/- jointurelaw13.LineNumbers answers true, and turns nothing that was there.
   No conditions but that the argument lies in memory as deeds. -/
import Derived.Test.YtaidgkdebocenaaArg13
import Derived.Test.YtaidgkdebocenaaLineAdds
import Derived.StillTailTactics
namespace Go.Proofs.Ytaidgkdebocenaa
open Go Go.RowKit

theorem insIt_self (L : List It) (y : It) : y ∈ insIt L y := by
  induction L with
  | nil => simp [insIt]
  | cons z L ih => rw [insIt]; split <;> simp [ih]

theorem hasIt_self (L : List It) (d n : Nat) (p : BS) : hasIt (insIt L ⟨d, n, p⟩) d n = true :=
  List.any_eq_true.2 ⟨_, insIt_self L ⟨d, n, p⟩, by simp [at?]⟩
theorem hasIt_over {L : List It} {d n c : Nat} (h : ∀ x ∈ L, x.no ≤ c) (hn : c < n) : hasIt L d n = false := by
  cases hh : hasIt L d n with
  | false => rfl
  | true =>
    obtain ⟨x, hx, hxx⟩ := List.any_eq_true.1 hh
    simp only [at?, decide_eq_true_eq] at hxx
    have := h x hx
    omega

/-- Remove, with what becomes of the line. -/
theorem rem_line {w0 w : World} {b : Nat} {M : List KV} {κ : UInt8} {L : List It} {c d n : Nat} {m : Int} (h : St w0 w b M) (hl : LineOk M κ L c) (hm : M.length ≤ 8000) (hd : d < W64) (hn : n < W64) (hmn : m = (n : Int)) :
    Calls Try.prog 51 #[.pointer (some ⟨b, 0, none⟩), .int .u8 (κ.toNat : Int), .int .u64 (d : Int), .int .u64 m] w fun e w' => e = .returned (.bool (hasIt L d n)) ∧ St w0 w' b (delLM M κ d n) ∧ LineOk (delLM M κ d n) κ (delIt L d n) c ∧
      (delLM M κ d n).length ≤ M.length + 1 ∧ TK StT w w' := by
  subst hmn
  refine (lineRemove_c h (by omega) hd hn).mono ?_
  rintro e w' ⟨rfl, h1, h2⟩
  exact ⟨by rw [hl.has hd hn], h1, hl.del h.so hd hn, delLM_length _ _ _ _, h2⟩

set_option maxRecDepth 100000 in
set_option maxHeartbeats 4000000 in
theorem lineNumbers_c {w : World} {v : Value} {l : List A13} (h : Acts13 w v l) :
    Calls Try.prog 11 #[v] w fun e w' => e = .returned (.bool true) ∧ Ext w w' := by
  obtain ⟨ao, cap, rfl, hlc, hcm⟩ := ArgV.val h
  have HR := hid (adds13_c w)
  have H := hid h
  clear h
  by_cases hf : few13 l = true
  · obtain ⟨h40, hsm⟩ := few13_at hf
    have HSm := hid hsm
    have Hf := hid hf
    clear hsm hf
    go_enter Try.func11, Try.ntmps11
    go_wp2_with fail
    refine HR.out.mono ?_
    rintro e w1 ⟨rfl, hE1⟩
    have hF := few13_c (H.out.ext hE1)
    rw [Hf.out] at hF
    have HF := hid hF
    have HN := hid (St.new (w0 := w) hE1)
    clear hE1 hF HR
    go_wp2_with fail
    refine HF.out.mono ?_
    rintro e wx ⟨rfl, rfl⟩
    go_wp2_with fail
    refine HN.out.mono ?_
    rintro e w2 ⟨b, rfl, hS, -, -⟩
    have HS := hid hS
    clear hS HN HF
    go_wp2_with fail
    go_loopw [4, 5] (fun n j wr => ∃ (k : Nat) (M : List KV) (L : List It), k ≤ l.length ∧ j = .int .i64 k ∧ n = .int .u64 k ∧ St w wr b M ∧ LineOk M 4 L k ∧ M.length ≤ 4 * k) (fun _ j _ => l.length - (intOf j).toNat)
    case atStart => exact ⟨0, [], [], Nat.zero_le _, rfl, rfl, HS.out, LineOk.new 4, Nat.le_refl _⟩
    case round =>
      obtain ⟨k, M, L, hk, rfl, rfl, hS, hL, hM⟩ := hrel
      have HX := hid (And.intro hS (And.intro hL hM))
      clear hS hL hM
      by_cases hlt : k < l.length
      · have hki : (k : Int) < (l.length : Int) := by omega
        have hk40 : (k : Int) ≤ 40 := by omega
        obtain ⟨hS, hL, hM⟩ := HX.out
        obtain ⟨g, off, cap', pa, pc, hv, -, -, hgl, hpv, hok, c0, -, c2, -, c4⟩ := (H.out.ext hS.base).at hlt
        have hsb : SB w wr.drew (l[k]).pv (l[k]).p := SB.old ((H.out.mem _ (List.getElem_mem hlt)).1)
        have hA := adds_add (κ := 4) (due := (l[k]).due) (hS.ext (Ext.drewOne wr)) hL (by omega) hok.2.1 (by omega) hsb (by have := HSm.out _ (List.getElem_mem hlt); omega)
        rw [hpv] at hA
        cases hv
        obtain ⟨pl, hpl⟩ : ∃ pl, pl = (l[k]).p.length := ⟨_, rfl⟩
        obtain ⟨du, hdu⟩ : ∃ du, du = (l[k]).due := ⟨_, rfl⟩
        obtain ⟨dd, hdd⟩ : ∃ dd, dd = (l[k]).d.toNat := ⟨_, rfl⟩
        rw [← hpl] at c4 hA
        rw [← hdu] at c2 hA
        rw [← hdd] at c0
        have HA := hid hA
        have HDu := hid (And.intro hok.2.1 (And.intro hdu hdd))
        clear hS hL hM hpv hok hsb hA hpl hdu hdd
        go_wp2_with fail
        go_still_tail 11, (by kernel_rfl)
        go_wp2_with fail
        refine HA.out.mono ?_
        rintro e w3 ⟨rfl, hS3, hL3, hlen, -, -⟩
        have hhas : hasIt (insIt L ⟨du, k + 1, (l[k]).p⟩) du (k + 1) = true := hasIt_self _ _ _ _
        obtain ⟨L3, hL3e⟩ : ∃ L3, L3 = insIt L ⟨du, k + 1, (l[k]).p⟩ := ⟨_, rfl⟩
        obtain ⟨M3, hM3⟩ : ∃ M3, M3 = addM M 4 k du (l[k]).p := ⟨_, rfl⟩
        rw [← hM3] at hS3 hL3 hlen
        rw [← hL3e] at hL3 hhas
        have hM3l : M3.length ≤ 4 * k + 2 := by have := HX.out.2.2; omega
        have hdw : du < W64 := by rw [HDu.out.2.1]; exact HDu.out.1
        obtain ⟨g3, o3, cap3, pa3, pc3, hv2, -, -, -, hpv2, -, d0, -, d2, -, d4⟩ := (H.out.ext hS3.base).at hlt
        cases hv2
        rw [← HDu.out.2.2] at d0
        rw [← HDu.out.2.1] at d2
        have HN := hid (And.intro hS3 (And.intro hL3 (And.intro hM3l hdw)))
        have he1 : ((k : Int) + 1 == (k : Int) + 1) = true := by simp
        have he2 : (((k : Int) + 1) != ((k : Int) + 1)) = false := by simp
        by_cases h2 : dd % 2 = 0
        · have t2 : ((dd : Int) % 2 == 0) = true := by rw [beq_iff_eq]; omega
          have hR1 := rem_line (m := (k : Int) + 1) hS3 hL3 (by omega) hdw (n := k + 1) (by unfold W64; omega) (by omega)
          rw [hhas] at hR1
          have HR1 := hid hR1
          clear hS3 hL3 hM3l hdw hlen hL3e hM3 hhas hR1 HA hpv2 d4
          go_wp2_with fail
          refine HR1.out.mono ?_
          rintro e w4 ⟨rfl, hS4, hL4, hlen4, -⟩
          have hover : hasIt (delIt L3 du (k + 1)) du (k + 2) = false := hasIt_over hL4.lt (by omega)
          have hR2 := rem_line (m := (k : Int) + 1 + 1) hS4 hL4 (by have := HN.out.2.2.1; omega) HN.out.2.2.2 (n := k + 2) (by unfold W64; omega) (by omega)
          rw [hover] at hR2
          obtain ⟨g4, o4, cap4, pa4, pc4, hv2, -, -, -, -, -, f0, -, f2, -, -⟩ := (H.out.ext hS4.base).at hlt
          cases hv2
          rw [← HDu.out.2.1] at f2
          have HR2 := hid hR2
          have Hlen4 := hid hlen4
          clear hS4 hL4 hlen4 hover hR2 HR1
          go_wp2_with fail
          refine HR2.out.mono ?_
          rintro e w5 ⟨rfl, hS5, hL5, hlen5, -⟩
          have H5 := hid (And.intro hS5 (And.intro hL5 hlen5))
          clear hS5 hL5 hlen5 HR2
          go_wp2_with fail
          refine ⟨⟨k + 1, _, _, hlt, by go_num, by go_num, H5.out.1, H5.out.2.1, ?_⟩, by simp [intOf]; omega⟩
          have := H5.out.2.2
          have := Hlen4.out
          have := HN.out.2.2.1
          omega
        · have t2 : ((dd : Int) % 2 == 0) = false := by rw [beq_eq_false_iff_ne]; omega
          have hover : hasIt L3 du (k + 2) = false := hasIt_over hL3.lt (by omega)
          have hR2 := rem_line (m := (k : Int) + 1 + 1) hS3 hL3 (by omega) hdw (n := k + 2) (by unfold W64; omega) (by omega)
          rw [hover] at hR2
          have HR2 := hid hR2
          clear hS3 hL3 hM3l hdw hlen hL3e hM3 hhas hover hR2 HA hpv2 d4
          go_wp2_with fail
          refine HR2.out.mono ?_
          rintro e w5 ⟨rfl, hS5, hL5, hlen5, -⟩
          have H5 := hid (And.intro hS5 (And.intro hL5 hlen5))
          clear hS5 hL5 hlen5 HR2
          go_wp2_with fail
          refine ⟨⟨k + 1, _, _, hlt, by go_num, by go_num, H5.out.1, H5.out.2.1, ?_⟩, by simp [intOf]; omega⟩
          have := H5.out.2.2
          have := HN.out.2.2.1
          omega
      · obtain rfl : k = l.length := by omega
        have HE := hid HX.out.1.base
        go_wp2_with fail
        go_ret
        exact ⟨rfl, HE.out⟩
  · have hf' : few13 l = false := by simpa using hf
    have Hf := hid hf'
    clear hf hf'
    go_enter Try.func11, Try.ntmps11
    go_wp2_with fail
    refine HR.out.mono ?_
    rintro e w1 ⟨rfl, hE1⟩
    have hF := few13_c (H.out.ext hE1)
    rw [Hf.out] at hF
    have HF := hid hF
    have HR1 := hid (adds13_c w1)
    have HE1 := hid hE1
    clear hE1 hF HR
    go_wp2_with fail
    refine HF.out.mono ?_
    rintro e wx ⟨rfl, rfl⟩
    go_wp2_with fail
    refine HR1.out.mono ?_
    rintro e w2 ⟨rfl, hE2⟩
    have HE2 := hid hE2
    clear hE2 HR1
    go_wp2_with fail
    go_ret
    exact ⟨rfl, HE1.out.trans HE2.out⟩

end Go.Proofs.Ytaidgkdebocenaa
