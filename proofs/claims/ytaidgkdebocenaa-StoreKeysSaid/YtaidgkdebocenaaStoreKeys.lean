/- jointurelaw05.StoreKeys answers true, and turns nothing that was there.
   No conditions but that the arguments lie in memory as deeds and as bytes. -/
import Derived.Test.YtaidgkdebocenaaInv5
import Derived.Test.YtaidgkdebocenaaRolls
namespace Go.Proofs.Ytaidgkdebocenaa
open Go Go.RowKit

/-! ### The keys that begin so -/

theorem pre_nil (xs : BS) : pre [] xs = true := by simp [pre]
theorem pre_cons_nil (x : UInt8) (p : BS) : pre (x :: p) [] = false := by simp [pre]
theorem pre_cons (x y : UInt8) (p ys : BS) : pre (x :: p) (y :: ys) = ((y == x) && pre p ys) := by
  have h1 : (p.length + 1 ≤ ys.length + 1) ↔ (p.length ≤ ys.length) := by omega
  simp only [pre, List.length_cons, List.take_succ_cons, List.cons_beq_cons, decide_eq_decide.2 h1]
  cases decide (p.length ≤ ys.length) <;> simp

theorem pre_lt : ∀ (p k : BS), pre p k = true → lt k p = false
  | [], k, _ => lt_nil k
  | x :: p, [], h => by rw [pre_cons_nil] at h; cases h
  | x :: p, y :: k, h => by
    rw [pre_cons, Bool.and_eq_true, beq_iff_eq] at h
    rw [lt, if_pos h.1]
    exact pre_lt p k h.2

theorem pre_between : ∀ (p a b : BS), lt a p = false → lt a b = true → pre p b = true → pre p a = true
  | [], a, _, _, _, _ => pre_nil a
  | x :: p, a, [], _, _, h => by rw [pre_cons_nil] at h; cases h
  | x :: p, [], y :: b, h, _, _ => by simp [lt] at h
  | x :: p, z :: a, y :: b, h1, h2, h3 => by
    rw [pre_cons, Bool.and_eq_true, beq_iff_eq] at h3
    obtain ⟨rfl, h3⟩ := h3
    by_cases e : z = y
    · subst e
      simp only [lt, if_true] at h1 h2
      rw [pre_cons, pre_between p a b h1 h2 h3]
      simp
    · simp only [lt, if_neg e] at h1 h2
      rw [h1] at h2
      cases h2

theorem posM_zero {M : List KV} {p : BS} (h : ∀ e ∈ M, lt e.1 p = false) : posM M p = 0 := by
  cases M with
  | nil => rfl
  | cons e M => rw [posM_cons, h e List.mem_cons_self]; simp

theorem keysM_filter : ∀ (M : List KV) (p : BS), SortedM M → keysM M p = (M.map Prod.fst).filter fun k => pre p k
  | [], p, _ => rfl
  | e :: M, p, hs => by
    have hc := List.pairwise_cons.1 hs
    have ih := keysM_filter M p hc.2
    by_cases h1 : lt e.1 p = true
    · have hp : pre p e.1 = false := by
        cases hpe : pre p e.1 with
        | false => rfl
        | true => rw [pre_lt p e.1 hpe] at h1; cases h1
      have : keysM (e :: M) p = keysM M p := by unfold keysM; rw [posM_cons, if_pos h1, List.drop_succ_cons]
      rw [this, ih, List.map_cons, List.filter_cons, hp]
      rfl
    · have h1' : lt e.1 p = false := by simpa using h1
      have hall : ∀ f ∈ M, lt f.1 p = false := fun f hf => by
        cases hfp : lt f.1 p with
        | false => rfl
        | true => rw [lt_trans _ _ _ (hc.1 f hf) hfp] at h1'; cases h1'
      have hM : keysM M p = (M.map Prod.fst).takeWhile fun k => pre p k := by unfold keysM; rw [posM_zero hall, List.drop_zero]
      have hE : keysM (e :: M) p = ((e :: M).map Prod.fst).takeWhile fun k => pre p k := by unfold keysM; rw [posM_cons, if_neg h1, List.drop_zero]
      rw [hE, List.map_cons, List.takeWhile_cons, List.filter_cons]
      by_cases h2 : pre p e.1 = true
      · rw [if_pos h2, if_pos h2, ← hM, ih]
      · rw [if_neg h2, if_neg h2]
        symm
        rw [List.filter_eq_nil_iff]
        intro k hk hp
        obtain ⟨f, hf, rfl⟩ := List.mem_map.1 hk
        exact h2 (pre_between p e.1 f.1 h1' (hc.1 f hf) hp)

theorem keysM_sorted {M : List KV} (p : BS) (hs : SortedM M) : (keysM M p).Pairwise fun a b => lt a b = true := by
  rw [keysM_filter M p hs]
  have h : (M.map Prod.fst).Pairwise fun a b => lt a b = true := by
    rw [List.pairwise_map]; exact hs
  exact h.sublist List.filter_sublist

theorem BV.slice {w : World} {a : Option Addr} {n c : Nat} {xs : BS} (h : BV w (.slice a n c) xs) : n = xs.length := by
  obtain ⟨ao, cap, hv, -⟩ := h
  cases hv; rfl

set_option maxRecDepth 100000 in
set_option maxHeartbeats 2000000 in
theorem storeKeys_c {w : World} {v pv : Value} {l : List ActV} {p : BS} (h : ActsV w v l) (hp : BV w pv p) :
    Calls Try.prog 4 #[v, pv] w fun e w' => e = .returned (.bool true) ∧ Ext w w' := by
  obtain ⟨ao, cap, rfl, hlc, hcm⟩ := h.val
  obtain ⟨pa, pcap, rfl, hpn, hpc⟩ := hp.val
  unfold maxLen at hcm
  have HR := hid (rolls_c w)
  have H := hid h
  have HP := hid hp
  clear h hp
  by_cases hf : few l = true
  · by_cases hpl : p.length ≤ 30
    · have tp : ¬ (30 : Int) < (p.length : Int) := by omega
      obtain ⟨h40, hsm⟩ := few_at hf
      have HSm := hid hsm
      have Hf := hid hf
      clear hsm hf
      go_enter Try.func4, Try.ntmps4
      go_wp2_with fail
      refine HR.out.mono ?_
      rintro e w1 ⟨rfl, hE1⟩
      have hF := few5_c (H.out.ext hE1)
      rw [Hf.out] at hF
      have HF := hid hF
      have HN := hid (new_c w1)
      have HE1 := hid hE1
      clear hE1 hF HR
      go_wp2_with fail
      refine HF.out.mono ?_
      rintro e wx ⟨rfl, rfl⟩
      go_wp2_with fail
      refine HN.out.mono ?_
      rintro e w2 ⟨rfl, hn, hE2⟩
      have hI := Inv.new (HE1.out.trans hE2) hn HE1.out.size rfl
      have HI := hid hI
      clear hI hn hE2 HN HF
      go_wp2_with fail
      go_loopw [7] (fun j wr => ∃ (k : Nat) (s : SG) (m : RG), k ≤ l.length ∧ j = .int .i64 k ∧ Inv w wr w1.heap.size w2.heap.size k s m) (fun j _ => l.length - (intOf j).toNat)
      case atStart => exact ⟨0, _, _, Nat.zero_le _, rfl, HI.out⟩
      case round =>
        obtain ⟨k, s, m, hk, rfl, hI⟩ := hrel
        have HI := hid hI
        clear hI
        by_cases hlt : k < l.length
        · have hki : (k : Int) < (l.length : Int) := by omega
          obtain ⟨g, off, cap', ka, kcap, va, vcap, hv, -, -, -, hkv, hvv, c0, c1, c2⟩ := (H.out.ext HI.out.ext).at hlt
          obtain ⟨rfl, -, rfl⟩ : ao = some ⟨g, off, none⟩ ∧ True ∧ cap = cap' := by simpa using hv
          have hD := doesI (d := (l[k]).d) HI.out (by omega) (((H.out.ext HI.out.ext).bytes hlt).1) (((H.out.ext HI.out.ext).bytes hlt).2) (by have := (HSm.out _ (List.getElem_mem hlt)).1; omega) (by have := (HSm.out _ (List.getElem_mem hlt)).2; omega)
          rw [hkv, hvv] at hD
          have HD := hid hD
          obtain ⟨kl, hkl⟩ : ∃ kl, kl = (l[k]).key.length := ⟨_, rfl⟩
          obtain ⟨vl, hvl⟩ : ∃ vl, vl = (l[k]).val.length := ⟨_, rfl⟩
          obtain ⟨dd, hdd⟩ : ∃ dd, dd = (l[k]).d.toNat := ⟨_, rfl⟩
          rw [← hdd] at c0 HD
          rw [← hkl] at c1 HD
          rw [← hvl] at c2 HD
          clear hv hD hkl hvl hdd hkv hvv
          go_wp2_with fail
          refine HD.out.mono ?_
          rintro e w3 ⟨rfl, s', m', hI'⟩
          have HI' := hid hI'
          clear hI' HD
          go_wp2_with fail
          exact ⟨⟨k + 1, s', m', hlt, by go_num, HI'.out⟩, by simp [intOf]; omega⟩
        · obtain rfl : k = l.length := by omega
          have hKs := keys_c HI.out.rs (HP.out.ext HI.out.ext) (Nat.le_of_lt (HI.out.bnd.fit (by omega)).small.1) (fun e he => ((HI.out.bnd.fit (by omega)).vals e he).1)
          rw [HI.out.hbs, show keysM (absL s.L) p = keysM (abs s).M p from rfl, keysM_filter _ _ HI.out.rel.so] at hKs
          have HKs := hid hKs
          clear hKs
          go_wp2_with fail
          refine HKs.out.mono ?_
          rintro e w3 ⟨v3, rs, rfl, hrows, hxs, hE3⟩
          have hML : absL m.L = (abs s).M := HI.out.rel.M
          have hbig : m.L.length ≤ big := by
            have h3 := congrArg List.length hML
            simp only [absL, List.length_map] at h3
            rw [h3]
            exact Nat.le_of_lt (HI.out.bnd.fit (by omega)).1
          have hRk := r05keys_c (HI.out.rm.ext hE3) (HP.out.ext (HI.out.ext.trans hE3)) hbig
          rw [HI.out.hbm, hML] at hRk
          obtain ⟨ks, hks⟩ : ∃ ks, ks = ((abs s).M.map Prod.fst).filter fun k => pre p k := ⟨_, rfl⟩
          have hso : ks.Pairwise fun a b => lt a b = true := by
            rw [hks, ← keysM_filter _ _ HI.out.rel.so]; exact keysM_sorted p HI.out.rel.so
          have hxs' : rs.map KRow.xs = ks := by rw [hks]; exact hxs
          rw [← hks] at hRk
          have HRk := hid hRk
          have HRows := hid hrows.two
          have HXs := hid hxs'
          have HSo := hid hso
          have HE3 := hid hE3
          have hn3 : rs.length = ks.length := by have := congrArg List.length hxs'; simpa using this
          obtain ⟨xa, xcap, hv3⟩ := owns_slice hrows.1
          rw [hn3] at hv3
          subst hv3
          have Hn3 := hid hn3
          clear hRk hrows hxs hxs' hso hE3 hML hbig hks hn3 HKs
          go_wp2_with fail
          refine HRk.out.mono ?_
          rintro e W4 ⟨v4, rs2, rfl, hrows2, hxs2, hE4⟩
          have hn4 : rs2.length = ks.length := by have := congrArg List.length hxs2; simpa using this
          obtain ⟨ya, ycap, hv4⟩ := owns_slice hrows2.1
          rw [hn4] at hv4
          subst hv4
          have HRows2 := hid hrows2
          have HXs2 := hid hxs2
          have HE4 := hid hE4
          have Hn4 := hid hn4
          have HRA := hid (HRows.out.ext hE4)
          clear hrows2 hxs2 hE4 hn4 HRk HRows
          have HW := hid ((HI.out.ext.trans HE3.out).trans HE4.out)
          have HSR := hid ((HI.out.rs.ext HE3.out).ext HE4.out)
          go_wp2_with fail
          go_loopw [10] (fun j wr => ∃ i : Nat, i ≤ ks.length ∧ j = .int .i64 i ∧ Ext W4 wr) (fun j _ => ks.length - (intOf j).toNat)
          case atStart => exact ⟨0, Nat.zero_le _, rfl, Ext.refl _⟩
          case round =>
            obtain ⟨i, hi, rfl, hEr⟩ := hrel
            by_cases hilt : i < ks.length
            · have hii : (i : Int) < (ks.length : Int) := by omega
              have hra : i < rs.length := by rw [Hn3.out]; exact hilt
              have hrb : i < rs2.length := by rw [Hn4.out]; exact hilt
              obtain ⟨g1, d1, hv1, hle1, hm1, c0, o0⟩ := (HRA.out.ext hEr).cell hra
              obtain ⟨g2, d2, hv2, -, hm2, c1, o1⟩ := (HRows2.out.ext hEr).cell hrb
              have e0 : (rs[i]).xs = ks[i] := by have := HXs.out; subst this; simp
              have e1 : (rs2[i]).xs = ks[i] := by have := HXs2.out; subst this; simp
              rw [e0] at o0
              rw [e1] at o1
              obtain ⟨ka, kc, hka, -, -⟩ := o0.bv.val
              obtain ⟨ja, jc, hja, -, -⟩ := o1.bv.val
              rw [hka] at c0 o0
              rw [hja] at c1 o1
              have q1 := fun n => r01same_c (o0.bv.ext (Ext.of_drewN wr n)) (o1.bv.ext (Ext.of_drewN wr n))
              simp only [beq_self_eq_true] at q1
              have Q1 := hid q1
              have HEr := hid hEr
              unfold maxLen at hm1 hm2
              rw [Hn3.out] at hv1 hle1
              rw [Hn4.out] at hv2
              cases hv1
              cases hv2
              obtain ⟨kl, hkl⟩ : ∃ kl, kl = (ks[i]).length := ⟨_, rfl⟩
              rw [← hkl] at c0 c1 Q1
              by_cases hi0 : i = 0
              · subst hi0
                have t0 : ¬ (0 : Int) < ((0 : Nat) : Int) := by omega
                clear q1 hEr o0 o1 hka hja e0 e1 hkl
                go_wp2_with fail
                go_quiet ((go_at_call 32; with_reducible exact Calls.quiet_of (Q1.out _)))
                go_wp2_with fail
                exact ⟨⟨1, hilt, by go_num, HEr.out.trans (Ext.of_drewN _ _)⟩, by simp [intOf]; omega⟩
              · obtain ⟨j, hj⟩ : ∃ j, i = j + 1 := ⟨i - 1, by omega⟩
                have t0 : (0 : Int) < (i : Int) := by omega
                have t1 : 0 < i := by omega
                have hsub : (i : Int) - 1 = (j : Int) := by omega
                have hjk : (j : Int) < (ks.length : Int) := by omega
                have hraj : j < rs.length := by omega
                obtain ⟨g3, d3, hv3, -, -, c3, o3⟩ := (HRA.out.ext HEr.out).cell hraj
                have e3 : (rs[j]).xs = ks[j]'(by omega) := by have := HXs.out; subst this; simp
                rw [e3] at o3
                obtain ⟨la, lc, hla, -, -⟩ := o3.bv.val
                rw [hla] at c3 o3
                rw [Hn3.out] at hv3
                have q2 := fun n => r05less_c (o3.bv.ext (Ext.of_drewN wr n)) (o0.bv.ext (Ext.of_drewN wr n))
                have hlt2 : lt (ks[j]'(by omega)) ks[i] = true := List.pairwise_iff_getElem.1 HSo.out j i (by omega) hilt (by omega)
                rw [hlt2, ← hkl] at q2
                obtain ⟨ll, hll⟩ : ∃ ll, ll = (ks[j]'(by omega)).length := ⟨_, rfl⟩
                rw [← hll] at c3 q2
                have Q2 := hid q2
                cases hv3
                have Hj := hid hj
                clear q1 q2 hEr o0 o1 o3 hka hja hla e0 e1 e3 hkl hll hlt2 hj hi0
                go_wp2_with fail
                go_quiet ((first | (go_at_call 32; with_reducible exact Calls.quiet_of (Q1.out _)) | (go_at_call 33; with_reducible exact Calls.quiet_of (Q2.out _))))
                go_wp2_with fail
                exact ⟨⟨i + 1, hilt, by go_num, HEr.out.trans (Ext.of_drewN _ _)⟩, by simp [intOf]; omega⟩
            · obtain rfl : i = ks.length := by omega
              have hKn := keys_c (HSR.out.ext hEr) (BV.nil wr) (Nat.le_of_lt (HI.out.bnd.fit (by omega)).small.1) (fun e he => ((HI.out.bnd.fit (by omega)).vals e he).1)
              rw [HI.out.hbs, keysM_nil] at hKn
              have HKn := hid hKn
              have HEr := hid hEr
              clear hKn hEr
              go_wp2_with fail
              refine HKn.out.mono ?_
              rintro e w6 ⟨v6, rs6, rfl, hrows6, hxs6, hE6⟩
              have hn6 : rs6.length = s.L.length := by have := congrArg List.length hxs6; simpa [absL] using this
              have hLn := len_c ((HSR.out.ext HEr.out).ext hE6)
              rw [HI.out.hbs] at hLn
              have HLn := hid hLn
              obtain ⟨za, zcap, hv6⟩ := owns_slice hrows6.1
              rw [hn6] at hv6
              subst hv6
              have HE6 := hid hE6
              clear hLn hrows6 hxs6 hE6 hn6 HKn
              go_wp2_with fail
              refine HLn.out.mono ?_
              rintro e w7 ⟨rfl, rfl⟩
              go_wp2_with fail
              go_ret
              exact ⟨rfl, (HW.out.trans HEr.out).trans HE6.out⟩
    · have tp : (30 : Int) < (p.length : Int) := by omega
      have Hf := hid hf
      clear hf
      go_enter Try.func4, Try.ntmps4
      go_wp2_with fail
      refine HR.out.mono ?_
      rintro e w1 ⟨rfl, hE1⟩
      have hF := few5_c (H.out.ext hE1)
      rw [Hf.out] at hF
      have HF := hid hF
      have HR1 := hid (rolls_c w1)
      have HE1 := hid hE1
      clear hE1 hF HR
      go_wp2_with fail
      refine HF.out.mono ?_
      rintro e wx ⟨rfl, rfl⟩
      go_wp2_with fail
      refine HR1.out.mono ?_
      rintro e w2 ⟨rfl, hE2⟩
      have HE2 := hid hE2
      clear hE2 HR1
      go_wp2_with fail
      go_ret
      exact ⟨rfl, HE1.out.trans HE2.out⟩
  · have hf' : few l = false := by simpa using hf
    have Hf := hid hf'
    clear hf hf'
    go_enter Try.func4, Try.ntmps4
    go_wp2_with fail
    refine HR.out.mono ?_
    rintro e w1 ⟨rfl, hE1⟩
    have hF := few5_c (H.out.ext hE1)
    rw [Hf.out] at hF
    have HF := hid hF
    have HR1 := hid (rolls_c w1)
    have HE1 := hid hE1
    clear hE1 hF HR
    go_wp2_with fail
    refine HF.out.mono ?_
    rintro e wx ⟨rfl, rfl⟩
    go_wp2_with fail
    refine HR1.out.mono ?_
    rintro e w2 ⟨rfl, hE2⟩
    have HE2 := hid hE2
    clear hE2 HR1
    go_wp2_with fail
    go_ret
    exact ⟨rfl, HE1.out.trans HE2.out⟩

end Go.Proofs.Ytaidgkdebocenaa
