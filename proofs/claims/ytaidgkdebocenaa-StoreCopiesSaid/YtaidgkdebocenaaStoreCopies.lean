/- jointurelaw05.StoreCopies answers true, and turns nothing that was there.
   No conditions but that the arguments lie in memory as deeds. -/
import Derived.Test.YtaidgkdebocenaaPlain
import Derived.Test.YtaidgkdebocenaaStays2
namespace Go.Proofs.Ytaidgkdebocenaa
open Go Go.RowKit

/-- A store and the document's, and a copy that goes its own way. -/
structure Way (w0 w : World) (bs bm n bc nc : Nat) (s : SG) (m : RG) (c : SG) : Prop where
  inv : Inv w0 w bs bm n s m
  hc : Has w0 w bc nc c
  dis : ∀ k, Foot s k → ¬ Foot c k

theorem Way.next {w0 w w' : World} {bs bm n bc nc nc' : Nat} {s c c' : SG} {m : RG} (h : Way w0 w bs bm n bc nc s m c) (hc : Has w0 w' bc nc' c') (hE : Ext w0 w') (hk : Keeps (Foot c) w w') (hf : ∀ k, Foot c' k → Foot c k ∨ w.heap.size ≤ k) : Way w0 w' bs bm n bc nc' s m c' :=
  ⟨⟨h.inv.rs.keeps hk h.dis h.hc.rs.nb, h.inv.rm.keeps hk h.hc.rs.far, h.inv.hbs, h.inv.hbm, h.inv.rel, h.inv.bnd, hE, h.inv.fs, h.inv.fm⟩, hc, fun k hk' hk2 => (hf k hk2).elim (h.dis k hk') fun c => by have := h.inv.rs.lt hk'; omega⟩

theorem Way.ext {w0 w w' : World} {bs bm n bc nc : Nat} {s c : SG} {m : RG} (h : Way w0 w bs bm n bc nc s m c) (hE : Ext w w') : Way w0 w' bs bm n bc nc s m c :=
  ⟨h.inv.after hE, h.hc.ext hE, h.dis⟩

theorem Way.does {w0 w : World} {bs bm n bc nc : Nat} {s c : SG} {m : RG} {d : UInt8} {kv vv : Value} {key val : BS} (h : Way w0 w bs bm n bc nc s m c) (hn : nc ≤ 1000) (hk : BV w kv key) (hv : BV w vv val) (hkl : key.length ≤ 100) (hvl : val.length ≤ 100) :
    Calls Try.prog 28 #[.pointer (some ⟨bc, 0, none⟩), .pointer (some ⟨w.heap.size, 0, none⟩), .agg #[.int .u8 d.toNat, kv, vv]] (w.alloc (.cells #[.slice none 0 0, .slice none 0 0] 31)) fun e w' => (∃ x, e = .returned (.bool x)) ∧ (∃ c', Way w0 w' bs bm n bc (nc + 1) s m c') ∧ ∀ v i xs, w.ownsRow 0 35 3 v i xs → w'.ownsRow 0 35 3 v i xs := by
  refine (doesP h.inv.ext h.hc hn hk hv hkl hvl).mono ?_
  rintro e w' ⟨hx, c', h1, -, h3, h4, h5⟩
  refine ⟨hx, ⟨c', h.next h1 h3 h4 h5⟩, fun v i xs ho => h4.ownsRow ho fun g hg c => ?_⟩
  obtain ⟨c1, t1, e1, ht1⟩ := h.hc.rs.typed c
  obtain ⟨c2, e2⟩ := owns_typed ho hg
  refine typed_ne e1 e2 ?_
  rcases ht1 with rfl | rfl | rfl | rfl <;> decide

set_option maxRecDepth 100000 in
set_option maxHeartbeats 4000000 in
theorem storeCopies_c {w : World} {v v2 : Value} {l more : List ActV} (h : ActsV w v l) (h2 : ActsV w v2 more) :
    Calls Try.prog 8 #[v, v2] w fun e w' => e = .returned (.bool true) ∧ Ext w w' := by
  obtain ⟨ao, cap, rfl, hlc, hcm⟩ := h.val
  obtain ⟨mo, mcap, rfl, hlc2, hcm2⟩ := h2.val
  unfold maxLen at hcm hcm2
  have HR := hid (rolls_c w)
  have H := hid h
  have H2 := hid h2
  clear h h2
  by_cases hf : few l = true
  · by_cases hf2 : few more = true
    · obtain ⟨h40m, hsm2⟩ := few_at hf2
      have HSm2 := hid hsm2
      obtain ⟨h40, hsm⟩ := few_at hf
      have HSm := hid hsm
      have Hf := hid hf
      have Hf2 := hid hf2
      clear hsm hsm2 hf hf2
      go_enter Try.func8, Try.ntmps8
      go_wp2_with fail
      refine HR.out.mono ?_
      rintro e w1 ⟨rfl, hE1⟩
      have hF := few5_c (H.out.ext hE1)
      rw [Hf.out] at hF
      have HF := hid hF
      have hF2 := few5_c (H2.out.ext hE1)
      rw [Hf2.out] at hF2
      have HF2 := hid hF2
      have HN := hid (new_c w1)
      have HE1 := hid hE1
      clear hE1 hF hF2 HR
      go_wp2_with fail
      refine HF.out.mono ?_
      rintro e wx ⟨rfl, rfl⟩
      go_wp2_with fail
      refine HF2.out.mono ?_
      rintro e wx ⟨rfl, rfl⟩
      go_wp2_with fail
      refine HN.out.mono ?_
      rintro e w2 ⟨rfl, hn, hE2⟩
      have hI := Inv.new (HE1.out.trans hE2) hn HE1.out.size rfl
      have HI := hid hI
      clear hI hn hE2 HN HF HF2
      go_wp2_with fail
      go_loopw [7] (fun j wr => ∃ (k : Nat) (s : SG) (m : RG), k ≤ l.length ∧ j = .int .i64 k ∧ Inv w wr w1.heap.size w2.heap.size k s m) (fun j _ => l.length - (intOf j).toNat)
      case atStart => exact ⟨0, _, _, Nat.zero_le _, rfl, HI.out⟩
      case round =>
        obtain ⟨k, s, m, hk, rfl, hI⟩ := hrel
        have HI := hid hI
        clear hI
        by_cases hlt : k < l.length
        · have hki : (k : Int) < (l.length : Int) := by omega
          obtain ⟨g, off, cap', ka, kcap, va, vcap, hv, -, -, -, hkv, hvv, c0, c1, c2⟩ := (H.out.ext HI.out.ext).at hlt
          obtain ⟨rfl, -, rfl⟩ : ao = some ⟨g, off, none⟩ ∧ True ∧ cap = cap' := by simpa using hv
          have hD := doesI (d := (l[k]).d) HI.out (by omega) (((H.out.ext HI.out.ext).bytes hlt).1) (((H.out.ext HI.out.ext).bytes hlt).2) (by have := (HSm.out _ (List.getElem_mem hlt)).1; omega) (by have := (HSm.out _ (List.getElem_mem hlt)).2; omega)
          rw [hkv, hvv] at hD
          have HD := hid hD
          obtain ⟨kl, hkl⟩ : ∃ kl, kl = (l[k]).key.length := ⟨_, rfl⟩
          obtain ⟨vl, hvl⟩ : ∃ vl, vl = (l[k]).val.length := ⟨_, rfl⟩
          obtain ⟨dd, hdd⟩ : ∃ dd, dd = (l[k]).d.toNat := ⟨_, rfl⟩
          rw [← hdd] at c0 HD
          rw [← hkl] at c1 HD
          rw [← hvl] at c2 HD
          clear hv hD hkl hvl hdd hkv hvv
          go_wp2_with fail
          refine HD.out.mono ?_
          rintro e w3 ⟨rfl, s', m', hI'⟩
          have HI' := hid hI'
          clear hI' HD
          go_wp2_with fail
          exact ⟨⟨k + 1, s', m', hlt, by go_num, HI'.out⟩, by simp [intOf]; omega⟩
        · obtain rfl : k = l.length := by omega
          have hCp := copy_c HI.out.rs (Nat.le_of_lt (HI.out.bnd.fit (by omega)).small.1)
          rw [HI.out.hbs] at hCp
          have HCp := hid hCp
          clear hCp
          go_wp2_with fail
          refine HCp.out.mono ?_
          rintro e w3 ⟨bc, lvc, rfl, hc, hE3, hcn⟩
          have hI3 := HI.out.after hE3
          have hbc : Bnd l.length (abs (copyG s bc lvc)) := by
            have q := HI.out.bnd
            exact ⟨by have := q.1; simp only [abs, copyG, absL, absU, List.length_map, List.length_nil] at *; omega, by simp [abs, copyG], q.2.2.1, (fun _ h => nomatch h)⟩
          have hdis : ∀ k, Foot s k → ¬ Foot (copyG s bc lvc) k := fun k hk hk' => by
            have q1 := hcn k hk'
            have q2 := HI.out.rs.lt hk
            omega
          have hWay : Way w w3 w1.heap.size w2.heap.size l.length bc l.length s m (copyG s bc lvc) := ⟨hI3, ⟨hc, rfl, hbc, fun k hk => Nat.le_trans HI.out.ext.size (hcn k hk)⟩, hdis⟩
          have hSm := same_c hc hI3.rs rfl (Nat.le_of_lt (hbc.fit (by omega)).small.1) hbc.vals (fun e he => (hI3.bnd.vals e he).2)
          rw [hI3.hbs] at hSm
          have hSm2 : Calls Try.prog 41 #[.pointer (some ⟨bc, 0, none⟩), .pointer (some ⟨w1.heap.size, 0, none⟩)] w3 fun e w' => e = .returned (.bool true) ∧ Ext w3 w' := hSm
          have HSm3 := hid hSm2
          have HWay := hid hWay
          clear hI3 hbc hdis hWay hSm hSm2 hc hE3 hcn HCp
          go_wp2_with fail
          refine HSm3.out.mono ?_
          rintro e w4 ⟨rfl, hE4⟩
          have hW4 := HWay.out.ext hE4
          have hDp : Calls Try.prog 42 #[.pointer (some ⟨bc, 0, none⟩)] w4 fun e w' => e = .returned (.int .i64 0) ∧ w4 = w' := depth_c hW4.hc.rs
          have hRb : Calls Try.prog 44 #[.pointer (some ⟨bc, 0, none⟩)] w4 fun e w' => e = .returned (.bool false) ∧ ∃ s', Moved w4 (copyG s bc lvc) (rollM (abs (copyG s bc lvc))) w' s' := rollback_c hW4.hc.rs (hW4.hc.bnd.fit (by omega)).small (hW4.hc.bnd.fit (by omega)).two
          have HDp := hid hDp
          have HRb := hid hRb
          have HW4 := hid hW4
          clear hE4 hW4 hDp hRb HSm3 HWay
          go_wp2_with fail
          refine HDp.out.mono ?_
          rintro e wx ⟨rfl, rfl⟩
          go_wp2_with fail
          refine HRb.out.mono ?_
          rintro e w5 ⟨rfl, c5, hM⟩
          have hW5 : Way w w5 w1.heap.size w2.heap.size l.length bc 40 s m c5 := by
            have h4 := HW4.out
            have hE5 : Ext w w5 := h4.inv.ext.trans' hM.keeps fun k hk c => absurd (h4.hc.new k c) (by omega)
            refine h4.next ⟨hM.rep, hM.b.trans h4.hc.hb, ?_, fun k hk => (hM.foot k hk).elim (h4.hc.new k) (Nat.le_trans h4.inv.ext.size)⟩ hE5 hM.keeps hM.foot
            rw [hM.abs]
            exact (h4.hc.bnd.roll).mono (by omega)
          have HP := hid (plain5_c (H2.out.ext hW5.inv.ext) (by omega))
          have HW5 := hid hW5
          clear hW5 hM HRb HDp HW4
          go_wp2_with fail
          refine HP.out.mono ?_
          rintro e w6 ⟨xa, xc, rfl, hx, hE6⟩
          obtain ⟨xs, hxs⟩ : ∃ xs, xs = plainL more := ⟨_, rfl⟩
          have hxm : ∀ a ∈ xs, a.key.length ≤ 30 ∧ a.val.length ≤ 60 := fun a ha => HSm2.out a ((List.mem_filter.1 (by rw [hxs] at ha; exact ha)).1)
          have hxl : xs.length ≤ 40 := by rw [hxs]; exact Nat.le_trans (List.length_filter_le _ _) h40m
          rw [← hxs] at hx ⊢
          have hW6 := HW5.out.ext hE6
          have hxb : ∀ a ∈ xs, BV w a.kv a.key ∧ BV w a.vv a.val := fun a ha => by
            have hm : a ∈ more := (List.mem_filter.1 (by rw [hxs] at ha; exact ha)).1
            obtain ⟨i, hi, rfl⟩ := List.getElem_of_mem hm
            exact H2.out.bytes hi
          obtain ⟨xa', xc', hxv, hxn, hxc⟩ := owns_val hx
          cases hxv
          unfold maxLen at hxc
          have HX := hid hx
          have HXm := hid (And.intro hxm hxb)
          have HW6 := hid hW6
          clear hx hxm hxb hW6 hE6 hxs HP HW5
          go_wp2_with fail
          go_loopw [10] (fun j wr => ∃ (k : Nat) (c : SG), k ≤ xs.length ∧ j = .int .i64 k ∧ Way w wr w1.heap.size w2.heap.size l.length bc (40 + k) s m c ∧ wr.ownsRow 0 35 3 (.slice xa xs.length xc) xs.length (acells xs)) (fun j _ => xs.length - (intOf j).toNat)
          case atStart => exact ⟨0, _, Nat.zero_le _, rfl, HW6.out, HX.out⟩
          case round =>
            obtain ⟨k, c, hk, rfl, hW, hrow⟩ := hrel
            by_cases hlt : k < xs.length
            · have hki : (k : Int) < (xs.length : Int) := by omega
              have hA : ActsV wr (.slice xa xs.length xc) xs := ActsV.of_owns hrow fun a ha => ⟨((HXm.out.2 a ha).1).ext hW.inv.ext, ((HXm.out.2 a ha).2).ext hW.inv.ext⟩
              obtain ⟨g, off, cap', ka, kcap, va, vcap, hv, -, -, hgl, hkv, hvv, c0, c1, c2⟩ := hA.at hlt
              obtain ⟨rfl, -, rfl⟩ : xa = some ⟨g, off, none⟩ ∧ True ∧ xc = cap' := by simpa using hv
              have hls := HXm.out.1 _ (List.getElem_mem hlt)
              have hD := hW.does (d := (xs[k]).d) (by omega) (hA.bytes hlt).1 (hA.bytes hlt).2 (by omega) (by omega)
              rw [hkv, hvv] at hD
              have HD := hid hD
              have HRow := hid hrow
              obtain ⟨kl, hkl⟩ : ∃ kl, kl = (xs[k]).key.length := ⟨_, rfl⟩
              obtain ⟨vl, hvl⟩ : ∃ vl, vl = (xs[k]).val.length := ⟨_, rfl⟩
              obtain ⟨dd, hdd⟩ : ∃ dd, dd = (xs[k]).d.toNat := ⟨_, rfl⟩
              rw [← hdd] at c0 HD
              rw [← hkl] at c1 HD
              rw [← hvl] at c2 HD
              clear hv hD hkl hvl hdd hkv hvv hA hW hrow hls
              go_wp2_with fail
              refine HD.out.mono ?_
              rintro e w7 ⟨⟨x, rfl⟩, ⟨c', hW'⟩, hrow'⟩
              have HN := hid (And.intro hW' (hrow' _ _ _ HRow.out))
              clear hW' hrow' HD
              go_wp2_with fail
              exact ⟨⟨k + 1, c', hlt, by go_num, HN.out.1, HN.out.2⟩, by simp [intOf]; omega⟩
            · obtain rfl : k = xs.length := by omega
              have HS := hid (sameI hW.inv (by omega))
              have HE := hid hW.inv.ext
              clear hW hrow
              go_wp2_with fail
              refine HS.out.mono ?_
              rintro e w8 ⟨rfl, hE8⟩
              have HE8 := hid (HE.out.trans hE8)
              clear hE8
              go_wp2_with fail
              go_ret
              exact ⟨rfl, HE8.out⟩
    · have hf2' : few more = false := by simpa using hf2
      have Hf := hid hf
      have Hf2 := hid hf2'
      clear hf hf2 hf2'
      go_enter Try.func8, Try.ntmps8
      go_wp2_with fail
      refine HR.out.mono ?_
      rintro e w1 ⟨rfl, hE1⟩
      have hF := few5_c (H.out.ext hE1)
      rw [Hf.out] at hF
      have HF := hid hF
      have hF2 := few5_c (H2.out.ext hE1)
      rw [Hf2.out] at hF2
      have HF2 := hid hF2
      have HR1 := hid (rolls_c w1)
      have HE1 := hid hE1
      clear hE1 hF hF2 HR
      go_wp2_with fail
      refine HF.out.mono ?_
      rintro e wx ⟨rfl, rfl⟩
      go_wp2_with fail
      refine HF2.out.mono ?_
      rintro e wx ⟨rfl, rfl⟩
      go_wp2_with fail
      refine HR1.out.mono ?_
      rintro e w2 ⟨rfl, hE2⟩
      have HE2 := hid hE2
      clear hE2 HR1
      go_wp2_with fail
      go_ret
      exact ⟨rfl, HE1.out.trans HE2.out⟩
  · have hf' : few l = false := by simpa using hf
    have Hf := hid hf'
    clear hf hf'
    go_enter Try.func8, Try.ntmps8
    go_wp2_with fail
    refine HR.out.mono ?_
    rintro e w1 ⟨rfl, hE1⟩
    have hF := few5_c (H.out.ext hE1)
    rw [Hf.out] at hF
    have HF := hid hF
    have HR1 := hid (rolls_c w1)
    have HE1 := hid hE1
    clear hE1 hF HR
    go_wp2_with fail
    refine HF.out.mono ?_
    rintro e wx ⟨rfl, rfl⟩
    go_wp2_with fail
    refine HR1.out.mono ?_
    rintro e w2 ⟨rfl, hE2⟩
    have HE2 := hid hE2
    clear hE2 HR1
    go_wp2_with fail
    go_ret
    exact ⟨rfl, HE1.out.trans HE2.out⟩

end Go.Proofs.Ytaidgkdebocenaa
