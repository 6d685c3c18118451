/- jointurelaw05.StoreRolls answers true, and turns nothing that was there.
   No conditions but that the arguments lie in memory as deeds. -/
import Derived.Test.YtaidgkdebocenaaRollsP
import Derived.Test.YtaidgkdebocenaaStays2
namespace Go.Proofs.Ytaidgkdebocenaa
open Go Go.RowKit

set_option maxRecDepth 100000 in
set_option maxHeartbeats 4000000 in
theorem storeRolls_c {w : World} {v v2 : Value} {l more : List ActV} (h : ActsV w v l) (h2 : ActsV w v2 more) :
    Calls Try.prog 7 #[v, v2] w fun e w' => e = .returned (.bool true) ∧ Ext w w' := by
  obtain ⟨ao, cap, rfl, hlc, hcm⟩ := h.val
  obtain ⟨mo, mcap, rfl, hlc2, hcm2⟩ := h2.val
  unfold maxLen at hcm hcm2
  have HR := hid (rolls_c w)
  have H := hid h
  have H2 := hid h2
  clear h h2
  by_cases hf : few l = true
  · by_cases hf2 : few more = true
    · obtain ⟨h40, hsm⟩ := few_at hf2
      have HSm := hid hsm
      have Hf := hid hf
      have Hf2 := hid hf2
      obtain ⟨h40l, -⟩ := few_at hf
      clear hsm hf hf2
      go_enter Try.func7, Try.ntmps7
      go_wp2_with fail
      refine HR.out.mono ?_
      rintro e w1 ⟨rfl, hE1⟩
      have hF := few5_c (H.out.ext hE1)
      rw [Hf.out] at hF
      have HF := hid hF
      have hF2 := few5_c (H2.out.ext hE1)
      rw [Hf2.out] at hF2
      have HF2 := hid hF2
      have HA := hid (after5_c (H.out.ext hE1) Hf.out)
      have HE1 := hid hE1
      clear hE1 hF hF2 HR
      go_wp2_with fail
      refine HF.out.mono ?_
      rintro e wx ⟨rfl, rfl⟩
      go_wp2_with fail
      refine HF2.out.mono ?_
      rintro e wx ⟨rfl, rfl⟩
      go_wp2_with fail
      refine HA.out.mono ?_
      rintro e wa ⟨ba, sa, ma, bma, rfl, hIa, hAa⟩
      have hEa : Ext wa (wa.alloc (.cells #[.slice none 0 0, .slice none 0 0] 31)) := (Ext.refl wa).alloc _
      have hCp := copy_c (hIa.rs.ext hEa) (Nat.le_of_lt (hIa.bnd.fit (by omega)).small.1)
      rw [hIa.hbs] at hCp
      have HCp := hid hCp
      have HIa := hid (And.intro hIa hEa)
      clear hIa hEa hAa HA HF HF2 hCp
      go_wp2_with fail
      refine HCp.out.mono ?_
      rintro e w3 ⟨bt, lvt, rfl, ht, hE3, htn⟩
      have hsa := HIa.out.1.rs.ext (HIa.out.2.trans hE3)
      have hDp := depth_c hsa
      have hBg := begin_c hsa (HIa.out.1.bnd.fit (by omega)).small
      rw [HIa.out.1.hbs] at hDp hBg
      have HDp := hid hDp
      have HBg := hid hBg
      have HT := hid (And.intro ht (And.intro hE3 htn))
      have Hsa := hid hsa
      clear ht hE3 htn hsa hDp hBg HCp
      go_wp2_with fail
      refine HDp.out.mono ?_
      rintro e wx ⟨rfl, rfl⟩
      go_wp2_with fail
      refine HBg.out.mono ?_
      rintro e w4 ⟨rfl, s0, hM⟩
      obtain ⟨bm, hbm⟩ : ∃ bm, bm = wa.heap.size := ⟨_, rfl⟩
      have hL : RolA w w4 ba bm 41 (abs sa) (copyG sa bt lvt) s0 (rnew bm) := by
        have hIa := HIa.out.1
        have hEw : Ext w wa := HE1.out.trans hIa.ext
        have hE13 : Ext w w3 := (hEw.trans HIa.out.2).trans HT.out.2.1
        have hnewA : ∀ k, Foot sa k → w.heap.size ≤ k := fun k hk => Nat.le_trans HE1.out.size (hIa.fs k hk)
        have hdis : ∀ k, Foot (copyG sa bt lvt) k → ¬ Foot sa k := fun k hk hk' => by
          have q1 := HT.out.2.2 k hk
          have q2 := hIa.rs.lt hk'
          have q3 := HIa.out.2.size
          omega
        obtain ⟨hT4, hdis4⟩ := hM.other Hsa.out HT.out.1 hdis
        have hm3 : RRep w3 (rnew bm) := by
          rw [hbm]; exact (rnew_rep (heap_alloc_new wa _)).ext HT.out.2.1
        refine ⟨⟨⟨hM.rep, hM.b.trans hIa.hbs, by rw [hM.abs]; exact (hIa.bnd.begin).mono (by omega), fun k hk => (hM.foot k hk).elim (hnewA k) (Nat.le_trans hE13.size)⟩, hT4, hdis4, by rw [hM.abs]; exact Part.begun hIa.rel.so, ?_⟩, hm3.keeps hM.keeps Hsa.out.far, rfl, RInv.new.mono (by omega), ?_⟩
        · exact hE13.trans' hM.keeps fun k hk c => absurd (hnewA k c) (by omega)
        · rintro k (c | c)
          · rw [c]; show w.heap.size ≤ bm; rw [hbm]; exact hEw.size
          · simp [rnew, Value.ownBlock] at c
      have HL := hid hL
      rw [← hbm]
      have Hbm := hid hbm
      obtain ⟨dp, hdp⟩ : ∃ dp, dp = sa.marks.length := ⟨_, rfl⟩
      rw [← hdp]
      have hdpb : dp ≤ 40 := by rw [hdp]; exact Nat.le_trans HIa.out.1.bnd.2.1 (by omega)
      have Hdp := hid hdp
      clear hM hL hbm hdp HBg HDp Hsa HT
      go_wp2_with fail
      go_loopw [9] (fun j wr => ∃ (k : Nat) (s : SG) (m : RG), k ≤ more.length ∧ j = .int .i64 k ∧ RolA w wr ba bm (41 + k) (abs sa) (copyG sa bt lvt) s m) (fun j _ => more.length - (intOf j).toNat)
      case atStart => exact ⟨0, _, _, Nat.zero_le _, rfl, HL.out⟩
      case round =>
        obtain ⟨k, s, m, hk, rfl, hR⟩ := hrel
        by_cases hlt : k < more.length
        · have hki : (k : Int) < (more.length : Int) := by omega
          obtain ⟨g, off, cap', ka, kcap, va, vcap, hv, -, -, hgl, hkv, hvv, c0, c1, c2⟩ := (H2.out.ext hR.ext).at hlt
          obtain ⟨rfl, -, rfl⟩ : mo = some ⟨g, off, none⟩ ∧ True ∧ mcap = cap' := by simpa using hv
          have hbk := ((H2.out.ext hR.ext).bytes hlt).1
          have hbv := ((H2.out.ext hR.ext).bytes hlt).2
          rw [hkv] at hbk
          rw [hvv] at hbv
          have hls := HSm.out _ (List.getElem_mem hlt)
          have hdsb : s.marks.length ≤ 41 + k := hR.hs.bnd.2.1
          have hdc := depth_c hR.hs.rs
          rw [hR.hs.hb] at hdc
          have hD := fun (hd : (more[k]).d.toNat % 8 < 5 ∨ 5 < (more[k]).d.toNat % 8 ∧ (abs sa).marks.length + 1 < s.marks.length) => hR.does (d := (more[k]).d) (by omega) hbk hbv (by omega) (by omega) hd
          obtain ⟨kl, hkl⟩ : ∃ kl, kl = (more[k]).key.length := ⟨_, rfl⟩
          obtain ⟨vl, hvl⟩ : ∃ vl, vl = (more[k]).val.length := ⟨_, rfl⟩
          obtain ⟨n, hn⟩ : ∃ n, n = (more[k]).d.toNat := ⟨_, rfl⟩
          obtain ⟨ds, hds⟩ : ∃ ds, ds = s.marks.length := ⟨_, rfl⟩
          rw [← hkl] at c1
          rw [← hvl] at c2
          rw [← hn] at c0
          rw [← hds] at hdsb hdc
          rw [← hn, ← hkl, ← hvl, ← hds, show (abs sa).marks.length = dp from Hdp.out.symm] at hD
          have HD := hid hD
          have HR := hid hR
          have HDc := hid hdc
          clear hv hkv hvv hbk hbv hls hD hR hkl hvl hn hds hdc
          by_cases h4 : n % 8 < 4
          · have t4 : (n : Int) % 8 < 4 := by omega
            have HD2 := hid (HD.out (.inl (by omega)))
            clear HD
            go_wp2_with fail
            refine HD2.out.mono ?_
            rintro e w5 ⟨⟨x, rfl⟩, s', m', hR'⟩
            have HR' := hid hR'
            clear hR' HD2
            go_wp2_with fail
            exact ⟨⟨k + 1, s', m', hlt, by go_num, HR'.out⟩, by simp [intOf]; omega⟩
          · have t4 : ¬ (n : Int) % 8 < 4 := by omega
            by_cases h5 : 5 < n % 8
            · have t5 : (5 : Int) < (n : Int) % 8 := by omega
              by_cases hdd : dp + 1 < ds
              · have td : (dp : Int) + 1 < (ds : Int) := by omega
                have HD2 := hid (HD.out (.inr ⟨h5, hdd⟩))
                clear HD
                go_wp2_with fail
                refine HDc.out.mono ?_
                rintro e wx ⟨rfl, rfl⟩
                go_wp2_with fail
                refine HD2.out.mono ?_
                rintro e w5 ⟨⟨x, rfl⟩, s', m', hR'⟩
                have HR' := hid hR'
                clear hR' HD2
                go_wp2_with fail
                exact ⟨⟨k + 1, s', m', hlt, by go_num, HR'.out⟩, by simp [intOf]; omega⟩
              · have td : ¬ (dp : Int) + 1 < (ds : Int) := by omega
                have te : ((n : Int) % 8 == 4) = false := by rw [beq_eq_false_iff_ne]; omega
                clear HD
                go_wp2_with fail
                refine HDc.out.mono ?_
                rintro e wx ⟨rfl, rfl⟩
                go_wp2_with fail
                exact ⟨⟨k + 1, s, m, hlt, by go_num, HR.out.mono (by omega)⟩, by simp [intOf]; omega⟩
            · have t5 : ¬ (5 : Int) < (n : Int) % 8 := by omega
              by_cases h44 : n % 8 = 4
              · have te : ((n : Int) % 8 == 4) = true := by rw [beq_iff_eq]; omega
                have HD2 := hid (HD.out (.inl (by omega)))
                clear HD
                go_wp2_with fail
                refine HD2.out.mono ?_
                rintro e w5 ⟨⟨x, rfl⟩, s', m', hR'⟩
                have HR' := hid hR'
                clear hR' HD2
                go_wp2_with fail
                exact ⟨⟨k + 1, s', m', hlt, by go_num, HR'.out⟩, by simp [intOf]; omega⟩
              · have te : ((n : Int) % 8 == 4) = false := by rw [beq_eq_false_iff_ne]; omega
                clear HD
                go_wp2_with fail
                exact ⟨⟨k + 1, s, m, hlt, by go_num, HR.out.mono (by omega)⟩, by simp [intOf]; omega⟩
        · obtain rfl : k = more.length := by omega
          have HR := hid hR.toRolB
          clear hR
          go_wp2_with fail
          go_loopw [] (fun wr => ∃ s : SG, RolB w wr ba (41 + more.length) (abs sa) (copyG sa bt lvt) s) (fun wr => marksLen ba wr)
          case atStart => exact ⟨_, HR.out⟩
          case round =>
            obtain ⟨s1, hB⟩ := hrel
            have hdsb : s1.marks.length ≤ 41 + more.length := hB.hs.bnd.2.1
            have hdc := depth_c hB.hs.rs
            rw [hB.hs.hb] at hdc
            obtain ⟨ds, hds⟩ : ∃ ds, ds = s1.marks.length := ⟨_, rfl⟩
            rw [← hds] at hdsb hdc
            have HDc := hid hdc
            have Hds := hid hds
            have HB := hid hB
            clear hdc hds hB
            by_cases hdd : dp + 1 < ds
            · have td : (dp : Int) + 1 < (ds : Int) := by omega
              have HCm := hid (HB.out.commits (by omega) (by show sa.marks.length + 1 < _; rw [← Hdp.out, ← Hds.out]; exact hdd))
              go_wp2_with fail
              refine HDc.out.mono ?_
              rintro e wx ⟨rfl, rfl⟩
              go_wp2_with fail
              refine HCm.out.mono ?_
              rintro e w6 ⟨⟨x, rfl⟩, s6, hB6, hlt6⟩
              have HB6 := hid (And.intro hB6 hlt6)
              clear hB6 hlt6 HCm
              go_wp2_with fail
              refine ⟨⟨s6, HB6.out.1⟩, ?_⟩
              have q1 := marksLen_eq HB6.out.1.hs.rs
              have q2 := marksLen_eq HB.out.hs.rs
              rw [HB6.out.1.hs.hb] at q1
              rw [HB.out.hs.hb] at q2
              rw [q1, q2]
              exact HB6.out.2
            · have td : ¬ (dp : Int) + 1 < (ds : Int) := by omega
              have hOv := HB.out.part.over (by show ¬ sa.marks.length + 1 < _; show ¬ sa.marks.length + 1 < s1.marks.length; rw [← Hdp.out, ← Hds.out]; exact hdd)
              have hRb := rollback_c HB.out.hs.rs (HB.out.hs.bnd.fit (by omega)).small (HB.out.hs.bnd.fit (by omega)).two
              rw [show (!decide (s1.marks = [])) = true by have := HB.out.part.ne; simpa [abs] using this, HB.out.hs.hb] at hRb
              have HRb := hid hRb
              have HOv := hid hOv
              clear hOv hRb
              go_wp2_with fail
              refine HDc.out.mono ?_
              rintro e wx ⟨rfl, rfl⟩
              go_wp2_with fail
              refine HRb.out.mono ?_
              rintro e w7 ⟨rfl, s7, hM⟩
              have hb := HB.out.hs
              obtain ⟨ht7, -⟩ := hM.other hb.rs HB.out.ht HB.out.dis
              have hE7 : Ext w w7 := HB.out.ext.trans' hM.keeps fun x hx c => by have := hb.new x c; omega
              have hsb : s7.b = ba := hM.b.trans hb.hb
              have hbn : Bnd (41 + more.length) (abs s7) := by rw [hM.abs]; exact hb.bnd.roll
              have hbt : Bnd (41 + more.length) (abs (copyG sa bt lvt)) := by
                have q := HIa.out.1.bnd
                exact ⟨by have := q.1; simp only [abs, copyG, absL, absU, List.length_map, List.length_nil] at *; omega, by simp [abs, copyG], q.2.2.1, (fun _ h => nomatch h)⟩
              have hMM : absL s7.L = absL (copyG sa bt lvt).L := by
                have := congrArg AS.M hM.abs
                exact this.trans HOv.out.1
              have hmk : s7.marks.length = dp := by
                have := congrArg AS.marks hM.abs
                rw [Hdp.out]; exact congrArg List.length (this.trans HOv.out.2)
              have hD7 := depth_c hM.rep
              rw [hsb, hmk] at hD7
              have HD7 := hid hD7
              have hS1 := same_c hM.rep ht7 hMM (Nat.le_of_lt (hbn.fit (by omega)).small.1) hbn.vals (fun e he => (hbt.vals e he).2)
              rw [hsb] at hS1
              have HS1 := hid hS1
              have HX := hid (And.intro hM.rep (And.intro ht7 (And.intro hMM (And.intro hbn (And.intro hbt (And.intro hE7 hsb))))))
              clear hb ht7 hE7 hsb hbn hbt hMM hmk hD7 hS1 hM HRb
              go_wp2_with fail
              refine HD7.out.mono ?_
              rintro e wx ⟨rfl, rfl⟩
              go_wp2_with fail
              refine HS1.out.mono ?_
              rintro e w8 ⟨rfl, hE8⟩
              obtain ⟨hr, ht7, hMM, hbn, hbt, hE7, hsb⟩ := HX.out
              have hS2 := same_c (ht7.ext hE8) (hr.ext hE8) hMM.symm (Nat.le_of_lt (hbt.fit (by omega)).small.1) hbt.vals (fun e he => (hbn.vals e he).2)
              rw [hsb] at hS2
              have HS2 := hid hS2
              have HE8 := hid (hE7.trans hE8)
              clear hr ht7 hMM hbn hbt hE7 hsb hE8 hS2 HS1
              go_wp2_with fail
              refine HS2.out.mono ?_
              rintro e w9 ⟨rfl, hE9⟩
              have HE9 := hid (HE8.out.trans hE9)
              clear hE9
              go_wp2_with fail
              go_ret
              exact ⟨rfl, HE9.out⟩
    · have hf2' : few more = false := by simpa using hf2
      have Hf := hid hf
      have Hf2 := hid hf2'
      clear hf hf2 hf2'
      go_enter Try.func7, Try.ntmps7
      go_wp2_with fail
      refine HR.out.mono ?_
      rintro e w1 ⟨rfl, hE1⟩
      have hF := few5_c (H.out.ext hE1)
      rw [Hf.out] at hF
      have HF := hid hF
      have hF2 := few5_c (H2.out.ext hE1)
      rw [Hf2.out] at hF2
      have HF2 := hid hF2
      have HR1 := hid (rolls_c w1)
      have HE1 := hid hE1
      clear hE1 hF hF2 HR
      go_wp2_with fail
      refine HF.out.mono ?_
      rintro e wx ⟨rfl, rfl⟩
      go_wp2_with fail
      refine HF2.out.mono ?_
      rintro e wx ⟨rfl, rfl⟩
      go_wp2_with fail
      refine HR1.out.mono ?_
      rintro e w2 ⟨rfl, hE2⟩
      have HE2 := hid hE2
      clear hE2 HR1
      go_wp2_with fail
      go_ret
      exact ⟨rfl, HE1.out.trans HE2.out⟩
  · have hf' : few l = false := by simpa using hf
    have Hf := hid hf'
    clear hf hf'
    go_enter Try.func7, Try.ntmps7
    go_wp2_with fail
    refine HR.out.mono ?_
    rintro e w1 ⟨rfl, hE1⟩
    have hF := few5_c (H.out.ext hE1)
    rw [Hf.out] at hF
    have HF := hid hF
    have HR1 := hid (rolls_c w1)
    have HE1 := hid hE1
    clear hE1 hF HR
    go_wp2_with fail
    refine HF.out.mono ?_
    rintro e wx ⟨rfl, rfl⟩
    go_wp2_with fail
    refine HR1.out.mono ?_
    rintro e w2 ⟨rfl, hE2⟩
    have HE2 := hid hE2
    clear hE2 HR1
    go_wp2_with fail
    go_ret
    exact ⟨rfl, HE1.out.trans HE2.out⟩

end Go.Proofs.Ytaidgkdebocenaa
