/- jointurelaw05.StoreStays answers true, and turns nothing that was there.
   No conditions but that the arguments lie in memory as deeds. -/
import Derived.Test.YtaidgkdebocenaaStays
namespace Go.Proofs.Ytaidgkdebocenaa
open Go Go.RowKit

/-- A store with a part begun, and one without, alike. -/
structure Twin (a b : AS) : Prop where
  M : a.M = b.M
  marks : ∃ x, a.marks = b.marks ++ [x]

theorem Twin.put {a b : AS} (h : Twin a b) (k v : BS) (is : Bool) : Twin (doM a k v is) (doM b k v is) := by
  refine ⟨?_, h.marks⟩
  show putM a.M k v is = putM b.M k v is
  rw [h.M]
theorem Twin.step {a b : AS} (h : Twin a b) {d : Nat} (hd : d % 8 < 4) (k v : BS) : Twin (stepA d k v a) (stepA d k v b) := by
  by_cases h3 : d % 8 < 3
  · rw [stepA_set h3, stepA_set h3]; exact h.put k v true
  · rw [stepA_del (by omega), stepA_del (by omega)]; exact h.put k [] false
theorem Twin.ne {a b : AS} (h : Twin a b) : ¬ a.marks = [] := by
  obtain ⟨x, hx⟩ := h.marks
  rw [hx]; simp
theorem Twin.commit {a b : AS} (h : Twin a b) : (commitM a).M = b.M ∧ (commitM a).marks = b.marks := by
  obtain ⟨x, hx⟩ := h.marks
  have h1 : (commitM a).M = a.M := by unfold commitM endM; dsimp only; split <;> rfl
  have h2 : (commitM a).marks = a.marks.dropLast := by unfold commitM endM; dsimp only; split <;> rfl
  exact ⟨h1.trans h.M, by rw [h2, hx]; simp⟩

theorem Bnd.vals {n : Nat} {s : SG} (h : Bnd n (abs s)) : ∀ e ∈ s.L, e.key.length ≤ big ∧ e.val.length ≤ big := by
  intro e he
  have := h.2.2.1 (e.key, e.val) (List.mem_map.2 ⟨e, he, rfl⟩)
  exact ⟨le_big (by have := this.1; dsimp only at this; omega), le_big (by have := this.2; dsimp only at this; omega)⟩

theorem Has.mono {w0 w : World} {b n n' : Nat} {s : SG} (h : Has w0 w b n s) (hn : n ≤ n') : Has w0 w b n' s := ⟨h.rs, h.hb, h.bnd.mono hn, h.new⟩

set_option maxRecDepth 100000 in
set_option maxHeartbeats 4000000 in
theorem storeStays_c {w : World} {v v2 : Value} {l more : List ActV} (h : ActsV w v l) (h2 : ActsV w v2 more) :
    Calls Try.prog 6 #[v, v2] w fun e w' => e = .returned (.bool true) ∧ Ext w w' := by
  obtain ⟨ao, cap, rfl, hlc, hcm⟩ := h.val
  obtain ⟨mo, mcap, rfl, hlc2, hcm2⟩ := h2.val
  unfold maxLen at hcm hcm2
  have HR := hid (rolls_c w)
  have H := hid h
  have H2 := hid h2
  clear h h2
  by_cases hf : few l = true
  · by_cases hf2 : few more = true
    · obtain ⟨h40, hsm⟩ := few_at hf2
      have HSm := hid hsm
      have Hf := hid hf
      have Hf2 := hid hf2
      obtain ⟨h40l, -⟩ := few_at hf
      clear hsm hf hf2
      go_enter Try.func6, Try.ntmps6
      go_wp2_with fail
      refine HR.out.mono ?_
      rintro e w1 ⟨rfl, hE1⟩
      have hF := few5_c (H.out.ext hE1)
      rw [Hf.out] at hF
      have HF := hid hF
      have hF2 := few5_c (H2.out.ext hE1)
      rw [Hf2.out] at hF2
      have HF2 := hid hF2
      have HA := hid (after5_c (H.out.ext hE1) Hf.out)
      have HE1 := hid hE1
      clear hE1 hF hF2 HR
      go_wp2_with fail
      refine HF.out.mono ?_
      rintro e wx ⟨rfl, rfl⟩
      go_wp2_with fail
      refine HF2.out.mono ?_
      rintro e wx ⟨rfl, rfl⟩
      go_wp2_with fail
      refine HA.out.mono ?_
      rintro e wa ⟨ba, sa, ma, bma, rfl, hIa, hAa⟩
      have HB := hid (after5_c (H.out.ext (HE1.out.trans hIa.ext)) Hf.out)
      have HIa := hid (And.intro hIa hAa)
      clear hIa hAa HA HF HF2
      go_wp2_with fail
      refine HB.out.mono ?_
      rintro e wb ⟨bb, sb, mb, bmb, rfl, hIb, hAb⟩
      have hSa := HIa.out.1.rs.ext hIb.ext
      have hBg := begin_c hSa (HIa.out.1.bnd.fit (by omega)).small
      rw [HIa.out.1.hbs] at hBg
      have HBg := hid hBg
      have HIb := hid (And.intro hIb hAb)
      have HSa := hid hSa
      clear hIb hAb hBg hSa HB
      go_wp2_with fail
      refine HBg.out.mono ?_
      rintro e wc ⟨rfl, sa', hM⟩
      have hEb : Ext w wb := (HE1.out.trans HIa.out.1.ext).trans HIb.out.1.ext
      have hnewA : ∀ k, Foot sa k → w.heap.size ≤ k := fun k hk => Nat.le_trans HE1.out.size (HIa.out.1.fs k hk)
      have hnewB : ∀ k, Foot sb k → w.heap.size ≤ k := fun k hk => Nat.le_trans (HE1.out.trans HIa.out.1.ext).size (HIb.out.1.fs k hk)
      have hdis : ∀ k, Foot sb k → ¬ Foot sa k := fun k hk hk' => by
        have q1 := HIb.out.1.fs k hk
        have q2 := HIa.out.1.rs.lt hk'
        omega
      obtain ⟨hSb, hdis2⟩ := hM.other HSa.out HIb.out.1.rs hdis
      have hEc : Ext w wc := hEb.trans' hM.keeps fun k hk c => by have := hnewA k c; omega
      have hTw : Twin (abs sa') (abs sb) := by
        rw [hM.abs, HIa.out.2, HIb.out.2]
        exact ⟨rfl, _, rfl⟩
      have hHA : Has w wc ba 41 sa' := ⟨hM.rep, hM.b.trans HIa.out.1.hbs, by rw [hM.abs]; exact (HIa.out.1.bnd.begin).mono (by omega), fun k hk => (hM.foot k hk).elim (hnewA k) (Nat.le_trans hEb.size)⟩
      have hHB : Has w wc bb 41 sb := ⟨hSb, HIb.out.1.hbs, HIb.out.1.bnd.mono (by omega), hnewB⟩
      have HL := hid (And.intro hHA (And.intro hHB (And.intro hdis2 (And.intro hTw hEc))))
      clear hEb hnewA hnewB hdis hSb hdis2 hEc hTw hHA hHB hM HBg
      go_wp2_with fail
      go_loopw [7] (fun j wr => ∃ (k : Nat) (s t : SG), k ≤ more.length ∧ j = .int .i64 k ∧ Has w wr ba (41 + k) s ∧ Has w wr bb (41 + k) t ∧ (∀ x, Foot t x → ¬ Foot s x) ∧ Twin (abs s) (abs t) ∧ Ext w wr) (fun j _ => more.length - (intOf j).toNat)
      case atStart => exact ⟨0, _, _, Nat.zero_le _, rfl, HL.out.1, HL.out.2.1, HL.out.2.2.1, HL.out.2.2.2.1, HL.out.2.2.2.2⟩
      case round =>
        obtain ⟨k, s, t, hk, rfl, hs, ht, hd, hT, hE⟩ := hrel
        by_cases hlt : k < more.length
        · have hki : (k : Int) < (more.length : Int) := by omega
          obtain ⟨g, off, cap', ka, kcap, va, vcap, hv, -, -, hgl, hkv, hvv, c0, c1, c2⟩ := (H2.out.ext hE).at hlt
          obtain ⟨rfl, -, rfl⟩ : mo = some ⟨g, off, none⟩ ∧ True ∧ mcap = cap' := by simpa using hv
          have hbk := ((H2.out.ext hE).bytes hlt).1
          have hbv := ((H2.out.ext hE).bytes hlt).2
          rw [hkv] at hbk
          rw [hvv] at hbv
          have hls := HSm.out _ (List.getElem_mem hlt)
          obtain ⟨dd, hdd⟩ : ∃ dd, dd = (more[k]).d := ⟨_, rfl⟩
          obtain ⟨key, hkey⟩ : ∃ key, key = (more[k]).key := ⟨_, rfl⟩
          obtain ⟨val, hval⟩ : ∃ val, val = (more[k]).val := ⟨_, rfl⟩
          rw [← hkey] at hbk hls c1
          rw [← hval] at hbv hls c2
          rw [← hdd] at c0
          have Hbk := hid hbk
          have Hbv := hid hbv
          have Hls := hid hls
          obtain ⟨n, hn⟩ : ∃ n, n = dd.toNat := ⟨_, rfl⟩
          have Hn := hid hn
          rw [← hn] at c0
          by_cases hd4 : n % 8 < 4
          · have t4 : (n : Int) % 8 < 4 := by omega
            obtain ⟨W2, hW2⟩ : ∃ W2, W2 = wr.alloc (.cells #[.slice none 0 0, .slice none 0 0] 31) := ⟨_, rfl⟩
            have hE2 : Ext wr W2 := by rw [hW2]; exact (Ext.refl wr).alloc _
            have hm2 : RRep W2 (rnew wr.heap.size) := rnew_rep (by rw [hW2]; exact heap_alloc_new wr _)
            have hD := doesN (d := dd) (hE.trans hE2) (hs.ext hE2) hm2 hE.size (by omega) (hbk.ext hE2) (hbv.ext hE2) (by omega) (by omega)
            rw [← hn, hW2] at hD
            have HD := hid hD
            have HS := hid (And.intro hs (And.intro ht (And.intro hd (And.intro hT hE))))
            have HE2 := hid hE2
            have HW2 := hid hW2
            have HMore := hid (And.intro (And.intro hkv hvv) (And.intro (And.intro hkey hval) hdd))
            obtain ⟨kl, hkl⟩ : ∃ kl, kl = key.length := ⟨_, rfl⟩
            obtain ⟨vl, hvl⟩ : ∃ vl, vl = val.length := ⟨_, rfl⟩
            rw [← hkl] at c1 HD
            rw [← hvl] at c2 HD
            have Hkl := hid (And.intro hkl hvl)
            clear hs ht hd hT hE hv hkv hvv hbk hbv hls hdd hkey hval hn hE2 hm2 hD hW2 hkl hvl
            go_wp2_with fail
            refine HD.out.mono ?_
            rintro e w3 ⟨⟨x, rfl⟩, s', hs', has, hE3, hoth⟩
            rw [← HW2.out] at hoth
            obtain ⟨ht3, hd3⟩ := hoth t (HS.out.2.1.rs.ext HE2.out) HS.out.2.2.1
            have hT3 : Has w w3 bb (41 + k) t := ⟨ht3, HS.out.2.1.hb, HS.out.2.1.bnd, HS.out.2.1.new⟩
            obtain ⟨W4, hW4⟩ : ∃ W4, W4 = w3.alloc (.cells #[.slice none 0 0, .slice none 0 0] 31) := ⟨_, rfl⟩
            have hE4 : Ext w3 W4 := by rw [hW4]; exact (Ext.refl w3).alloc _
            have hm4 : RRep W4 (rnew w3.heap.size) := rnew_rep (by rw [hW4]; exact heap_alloc_new w3 _)
            have hA4 := (H2.out.ext (hE3.trans hE4))
            have hbk4 := (hA4.bytes hlt).1
            have hbv4 := (hA4.bytes hlt).2
            have hD := doesN (d := (more[k]).d) (hE3.trans hE4) (hT3.ext hE4) hm4 hE3.size (by omega) hbk4 hbv4 (by have := (HSm.out _ (List.getElem_mem hlt)).1; omega) (by have := (HSm.out _ (List.getElem_mem hlt)).2; omega)
            rw [HMore.out.1.1, HMore.out.1.2, ← HMore.out.2.1.1, ← HMore.out.2.1.2, ← HMore.out.2.2, ← Hn.out, ← Hkl.out.1, ← Hkl.out.2, hW4] at hD
            have HD2 := hid hD
            have HS4 := hid (And.intro hs' (And.intro hT3 (And.intro hd3 (And.intro has (And.intro hE3 hE4)))))
            have HW4 := hid hW4
            obtain ⟨g', off', cap'', ka', kcap', va', vcap', hv', -, -, hgl', hkv', hvv', d0, d1, d2⟩ := (H2.out.ext hE3).at hlt
            obtain ⟨⟨rfl, rfl⟩, -, rfl⟩ : (g = g' ∧ off = off') ∧ True ∧ mcap = cap'' := by simpa using hv'
            rw [HMore.out.1.1] at hkv'
            rw [HMore.out.1.2] at hvv'
            obtain ⟨rfl, -, rfl⟩ : ka = ka' ∧ True ∧ kcap = kcap' := by simpa using hkv'
            obtain ⟨rfl, -, rfl⟩ : va = va' ∧ True ∧ vcap = vcap' := by simpa using hvv'
            rw [← HMore.out.2.2, ← Hn.out] at d0
            rw [← HMore.out.2.1.1, ← Hkl.out.1] at d1
            rw [← HMore.out.2.1.2, ← Hkl.out.2] at d2
            clear hs' hT3 hd3 has hE3 hE4 hm4 hA4 hbk4 hbv4 hD hW4 hoth ht3 hv' hkv' hvv' HD
            go_wp2_with fail
            refine HD2.out.mono ?_
            rintro e w5 ⟨⟨x2, rfl⟩, t', ht', hat, hE5, hoth⟩
            rw [← HW4.out] at hoth
            obtain ⟨hs', hT3, hd3, has, hE3, hE4⟩ := HS4.out
            obtain ⟨hs5, hd5⟩ := hoth s' (hs'.rs.ext hE4) (fun x hx hx' => hd3 x hx' hx)
            have hS5 : Has w w5 ba (41 + k + 1) s' := ⟨hs5, hs'.hb, hs'.bnd, hs'.new⟩
            have hTw : Twin (abs s') (abs t') := by
              rw [has, hat]
              exact HS.out.2.2.2.1.step hd4 key val
            have HS5 := hid (And.intro hS5 (And.intro ht' (And.intro hd5 (And.intro hTw hE5))))
            clear hs' hT3 hd3 has hE3 hE4 hs5 hS5 ht' hd5 hTw hE5 hoth hat HD2
            go_wp2_with fail
            exact ⟨⟨k + 1, s', t', hlt, by go_num, HS5.out.1, HS5.out.2.1, (fun x hx hx' => HS5.out.2.2.1 x hx' hx), HS5.out.2.2.2.1, HS5.out.2.2.2.2⟩, by simp [intOf]; omega⟩
          · have t4 : ¬ (n : Int) % 8 < 4 := by omega
            have HS := hid (And.intro hs (And.intro ht (And.intro hd (And.intro hT hE))))
            clear hs ht hd hT hE hv hkv hvv hbk hbv hls hdd hkey hval hn
            go_wp2_with fail
            exact ⟨⟨k + 1, s, t, hlt, by go_num, HS.out.1.mono (by omega), HS.out.2.1.mono (by omega), HS.out.2.2.1, HS.out.2.2.2.1, HS.out.2.2.2.2⟩, by simp [intOf]; omega⟩
        · obtain rfl : k = more.length := by omega
          have hne := hT.ne
          have hCm := commit_c hs.rs (hs.bnd.fit (by omega)).small
          rw [show (!decide (s.marks = [])) = true by simpa [abs] using hne, hs.hb] at hCm
          have HCm := hid hCm
          have HS := hid (And.intro hs (And.intro ht (And.intro hd (And.intro hT hE))))
          clear hs ht hd hT hE hne hCm
          go_wp2_with fail
          refine HCm.out.mono ?_
          rintro e w6 ⟨rfl, s6, hM⟩
          obtain ⟨hs, ht, hd, hT, hE⟩ := HS.out
          obtain ⟨ht6, -⟩ := hM.other hs.rs ht.rs hd
          have hE6 : Ext w w6 := hE.trans' hM.keeps fun x hx c => by have := hs.new x c; omega
          have hsb : s6.b = ba := hM.b.trans hs.hb
          have hTc := hT.commit
          rw [← hM.abs] at hTc
          have hbn : Bnd (41 + more.length) (abs s6) := by rw [hM.abs]; exact hs.bnd.commit
          have hSm := same_c hM.rep ht6 hTc.1 (Nat.le_of_lt (hbn.fit (by omega)).small.1) hbn.vals (fun e he => (ht.bnd.vals e he).2)
          rw [hsb, ht.hb] at hSm
          have HSm2 := hid hSm
          have HS6 := hid (And.intro hM.rep (And.intro ht6 (And.intro hTc.2 (And.intro hE6 (And.intro hsb ht.hb)))))
          clear hs ht hd hT hE hM ht6 hE6 hsb hTc hbn hSm HCm
          go_wp2_with fail
          refine HSm2.out.mono ?_
          rintro e w7 ⟨rfl, hE7⟩
          obtain ⟨hs, ht, hmk, hE6, hsb, htb⟩ := HS6.out
          have hD1 := depth_c (hs.ext hE7)
          have hD2 := depth_c (ht.ext hE7)
          rw [hsb] at hD1
          rw [htb] at hD2
          have hmk' : s6.marks.length = t.marks.length := congrArg List.length hmk
          rw [hmk'] at hD1
          have HD1 := hid hD1
          have HD2 := hid hD2
          have HE7 := hid (hE6.trans hE7)
          clear hs ht hmk hE6 hsb htb hD1 hD2 hmk' hE7 HSm2
          go_wp2_with fail
          refine HD1.out.mono ?_
          rintro e w8 ⟨rfl, rfl⟩
          go_wp2_with fail
          refine HD2.out.mono ?_
          rintro e w8 ⟨rfl, rfl⟩
          go_wp2_with fail
          go_ret
          exact ⟨rfl, HE7.out⟩
    · have hf2' : few more = false := by simpa using hf2
      have Hf := hid hf
      have Hf2 := hid hf2'
      clear hf hf2 hf2'
      go_enter Try.func6, Try.ntmps6
      go_wp2_with fail
      refine HR.out.mono ?_
      rintro e w1 ⟨rfl, hE1⟩
      have hF := few5_c (H.out.ext hE1)
      rw [Hf.out] at hF
      have HF := hid hF
      have hF2 := few5_c (H2.out.ext hE1)
      rw [Hf2.out] at hF2
      have HF2 := hid hF2
      have HR1 := hid (rolls_c w1)
      have HE1 := hid hE1
      clear hE1 hF hF2 HR
      go_wp2_with fail
      refine HF.out.mono ?_
      rintro e wx ⟨rfl, rfl⟩
      go_wp2_with fail
      refine HF2.out.mono ?_
      rintro e wx ⟨rfl, rfl⟩
      go_wp2_with fail
      refine HR1.out.mono ?_
      rintro e w2 ⟨rfl, hE2⟩
      have HE2 := hid hE2
      clear hE2 HR1
      go_wp2_with fail
      go_ret
      exact ⟨rfl, HE1.out.trans HE2.out⟩
  · have hf' : few l = false := by simpa using hf
    have Hf := hid hf'
    clear hf hf'
    go_enter Try.func6, Try.ntmps6
    go_wp2_with fail
    refine HR.out.mono ?_
    rintro e w1 ⟨rfl, hE1⟩
    have hF := few5_c (H.out.ext hE1)
    rw [Hf.out] at hF
    have HF := hid hF
    have HR1 := hid (rolls_c w1)
    have HE1 := hid hE1
    clear hE1 hF HR
    go_wp2_with fail
    refine HF.out.mono ?_
    rintro e wx ⟨rfl, rfl⟩
    go_wp2_with fail
    refine HR1.out.mono ?_
    rintro e w2 ⟨rfl, hE2⟩
    have HE2 := hid hE2
    clear hE2 HR1
    go_wp2_with fail
    go_ret
    exact ⟨rfl, HE1.out.trans HE2.out⟩

end Go.Proofs.Ytaidgkdebocenaa
