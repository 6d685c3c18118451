/- jointurelaw05.same: it answers true of stores that are alike.
   Conditions: both stores lie in memory, are small, and hold the same pairs and as many parts. -/
import Derived.Test.YtaidgkdebocenaaDoes
namespace Go.Proofs.Ytaidgkdebocenaa
open Go Go.RowKit

set_option maxRecDepth 100000 in
set_option maxHeartbeats 2000000 in
theorem same5_c {w : World} {s : SG} {m : RG} (hs : SRep w s) (hm : RRep w m) (hM : absL s.L = absL m.L) (hl : s.marks.length = m.was.length) (hf : Fit (abs s)) :
    Calls Try.prog 29 #[.pointer (some ⟨s.b, 0, none⟩), .pointer (some ⟨m.b, 0, none⟩)] w fun e w' => e = .returned (.bool true) ∧ Ext w w' := by
  have hlen : s.L.length = m.L.length := by have := congrArg List.length hM; simpa [absL] using this
  have hbb := hf.small.1
  rw [big_eq] at hbb
  have HK := keys_c hs (BV.nil w) (Nat.le_of_lt hf.small.1) (fun e he => (hf.vals e he).1)
  rw [keysM_nil] at HK
  have HK := hid HK
  have HS := hid hs
  have HM := hid hm
  have HE := hid hM
  have HF := hid hf
  have HLen := hid hlen
  have HL := hid hl
  clear hs hm hM hl hf hlen
  go_enter Try.func29, Try.ntmps29
  go_wp2_with fail
  refine HK.out.mono ?_
  rintro e W1 ⟨v, rs, rfl, hrows, hmap, hE1⟩
  have hn : rs.length = s.L.length := by have := congrArg List.length hmap; simpa [absL] using this
  have hR1 := HM.out.ext hE1
  have hS1 := HS.out.ext hE1
  obtain ⟨s0, s1, -, -⟩ := hR1.rcells
  obtain ⟨la, lcap, hla, -, -⟩ := owns_val hR1.hl
  obtain ⟨wa, wcap, hwa, -, -⟩ := owns_val hR1.hw
  rw [hla, ← HLen.out] at s0
  rw [hwa, ← HL.out] at s1
  obtain ⟨va, vcap, hv⟩ := owns_slice hrows.1
  rw [hn] at hv
  subst hv
  have hq1 := hid (fun n => len_c (hS1.drewN n))
  have hq2 := hid (fun n => depth_c (hS1.drewN n))
  have Hla := hid hla
  have HRows := hid hrows
  have HMap := hid hmap
  have HE1 := hid hE1
  have Hn := hid hn
  clear hE1 hrows hmap hn hR1 hS1 hla hwa HK
  go_wp2_with fail
  go_quiet (first | (go_at_call 34; exact Calls.quiet_of_same ((hq1.out _).mono fun e w' h => ⟨h.1, h.2.symm⟩)) | (go_at_call 42; exact Calls.quiet_of_same ((hq2.out _).mono fun e w' h => ⟨h.1, h.2.symm⟩)))
  go_wp2_with fail
  go_loopw [6] (fun j wr => ∃ k : Nat, k ≤ s.L.length ∧ j = .int .i64 k ∧ Ext W1 wr) (fun j _ => s.L.length - (intOf j).toNat)
  case atStart => exact ⟨0, Nat.zero_le _, rfl, Ext.of_drewN _ _⟩
  case round =>
    obtain ⟨k, hk, rfl, hEr⟩ := hrel
    clear s0 s1
    by_cases hlt : k < s.L.length
    · have hki : (k : Int) < (s.L.length : Int) := by omega
      have hEw := HE1.out.trans hEr
      have hkr : k < rs.length := by rw [Hn.out]; exact hlt
      have hkm : k < m.L.length := by rw [← HLen.out]; exact hlt
      obtain ⟨g, cap, hv, hn2, hc, c0, hob⟩ := (HRows.out.ext hEr).cell hkr
      rw [Hn.out] at hv hn2
      obtain ⟨hk1, hk2⟩ := keys_mem (i := k) HMap.out (by simpa using hkr)
      rw [List.getElem_map] at hk2
      obtain ⟨key, hkk⟩ : ∃ key, key = (rs[k]).xs := ⟨_, rfl⟩
      rw [← hkk] at hob hk2
      obtain ⟨ka, kcap, hkv, -, -⟩ := hob.bv.val
      rw [hkv] at c0 hob
      have hsM := sortedM_abs HS.out.so
      have hhas := hasM_at _ hsM k hk1
      have hget := getM_at _ hsM k hk1
      rw [← hk2] at hhas hget
      have hmk : (m.L[k]).key = key := by
        have : (absL m.L)[k]'(by simpa [absL] using hkm) = (absL s.L)[k] := by simp [HE.out]
        rw [hk2, ← this]; simp [absL]
      have hmv : (m.L[k]).val = getM (absL s.L) key := by
        have : (absL m.L)[k]'(by simpa [absL] using hkm) = (absL s.L)[k] := by simp [HE.out]
        rw [hget, ← this]; simp [absL]
      have hg' := get_c (HS.out.ext hEw) hob.bv (by rw [big_eq]; omega) (fun e he => (HF.out.vals e he).2)
      unfold GetPost at hg'
      rw [hhas] at hg'
      have HG := hid hg'
      have Hob := hid hob
      have HEr := hid hEr
      have HMk := hid (And.intro hmk hmv)
      obtain ⟨val, hval⟩ : ∃ val, val = getM (absL s.L) key := ⟨_, rfl⟩
      rw [← hval] at HG HMk
      cases hv
      unfold maxLen at hc
      clear hob hEw hhas hget hkk hk2 hkv hEr hsM hk1 hg' hmk hmv hval
      go_wp2_with fail
      refine HG.out.mono ?_
      rintro e W2 ⟨x, rfl, hx, hE2⟩
      have hEw2 := (HE1.out.trans HEr.out).trans hE2
      have hR2 := HM.out.ext hEw2
      obtain ⟨s0, -, -, -⟩ := hR2.rcells
      obtain ⟨g2, cap2, hv2, -, hc2, d0, d1⟩ := rowPair hR2.hl hkm
      rw [hv2, ← HLen.out] at s0
      have c0' := hE2.cell c0
      have hmo := hR2.he _ (List.getElem_mem hkm)
      rw [HMk.out.1, HMk.out.2] at hmo
      obtain ⟨ma, mcap, hma, -, -⟩ := hmo.1.bv.val
      obtain ⟨na, ncap, hna, -, -⟩ := hmo.2.bv.val
      rw [hma] at d0
      rw [hna] at d1
      have hxb := (OB.of_owns hx).bv
      obtain ⟨xa, xcap, rfl⟩ := owns_slice hx
      have q1 := fun n => r01same_c (Hob.out.bv.ext (hE2.trans (Ext.of_drewN W2 n))) (hmo.1.bv.ext (Ext.of_drewN W2 n))
      have q2 := fun n => r01same_c (hxb.ext (Ext.of_drewN W2 n)) (hmo.2.bv.ext (Ext.of_drewN W2 n))
      rw [hma] at q1
      rw [hna] at q2
      simp only [beq_self_eq_true] at q1 q2
      have Q1 := hid q1
      have Q2 := hid q2
      have HE2 := hid hE2
      unfold maxLen at hc2
      clear hx hE2 hEw2 hR2 hmo hma hna hxb q1 q2 hv2 HG c0
      go_wp2_with fail
      go_quiet ((go_at_call 32; first | with_reducible exact Calls.quiet_of (Q1.out _) | with_reducible exact Calls.quiet_of (Q2.out _)))
      go_wp2_with fail
      exact ⟨⟨k + 1, hlt, by go_num, (HEr.out.trans HE2.out).trans (Ext.of_drewN _ _)⟩, by simp [intOf]; omega⟩
    · obtain rfl : k = s.L.length := by omega
      go_wp2_with fail
      go_ret
      exact ⟨rfl, HE1.out.trans hEr⟩

end Go.Proofs.Ytaidgkdebocenaa
