/- jointurelaw13.LineRipes answers true, and turns nothing that was there.
   No conditions but that the arguments lie in memory. -/
import Derived.Test.YtaidgkdebocenaaLineActs
namespace Go.Proofs.Ytaidgkdebocenaa
open Go Go.RowKit

theorem ripe_count {L : List It} {now : Nat} (hs : SortedI L) : (L.countP fun x => decide (x.due ≤ now)) ≤ L.length ∧ ripe now L = L.take (L.countP fun x => decide (x.due ≤ now)) := by
  refine ⟨List.countP_le_length, ?_⟩
  induction L with
  | nil => rfl
  | cons x L ih =>
    have hc := List.pairwise_cons.1 hs
    have ih' := ih hc.2
    unfold ripe at *
    by_cases h : x.due ≤ now
    · rw [List.takeWhile_cons, if_pos (by simpa using h), List.countP_cons, if_pos (by simpa using h), List.take_succ_cons, ih']
    · have h0 : L.countP (fun x => decide (x.due ≤ now)) = 0 := by
        rw [List.countP_eq_zero]
        intro y hy
        have := hc.1 y hy
        unfold before at this
        simp; omega
      rw [List.takeWhile_cons, if_neg (by simpa using h), List.countP_cons, if_neg (by simpa using h), h0]
      rfl

set_option maxRecDepth 100000 in
set_option maxHeartbeats 8000000 in
theorem lineRipes_c {w : World} {v : Value} {l : List A13} {now : Nat} {small : Bool} (h : Acts13 w v l) (hnow : now < W64) :
    Calls Try.prog 13 #[v, .int .u64 (now : Int), .bool small] w fun e w' => e = .returned (.bool true) ∧ Ext w w' := by
  obtain ⟨ao, cap, rfl, hlc, hcm⟩ := ArgV.val h
  have HR := hid (adds13_c w)
  have H := hid h
  clear h
  by_cases hf : few13 l = true
  · have Hf := hid hf
    have h40 := (few13_at hf).1
    clear hf
    go_enter Try.func13, Try.ntmps13
    go_wp2_with fail
    refine HR.out.mono ?_
    rintro e w1 ⟨rfl, hE1⟩
    have hF := few13_c (H.out.ext hE1)
    rw [Hf.out] at hF
    have HF := hid hF
    have HE1 := hid hE1
    clear hE1 hF HR
    go_wp2_with fail
    refine HF.out.mono ?_
    rintro e wx ⟨rfl, rfl⟩
    go_upto_if 20 with fail
    go_cut [0, 1] from 21 to 24 (fun v nv wx => ∃ (l' : List A13) (nw : Nat), nv = .int .u64 (nw : Int) ∧ nw < W64 ∧ Stays13 w wx v l')
    case first =>
      cases small with
      | false =>
        go_wp2_with fail
        go_meet
        exact ⟨l, now, rfl, hnow, Stays13.of H.out Hf.out HE1.out⟩
      | true =>
        have HN := hid (near13_c (H.out.ext HE1.out) (by omega))
        go_wp2_with fail
        refine HN.out.mono ?_
        rintro e w2 ⟨a, c, rfl, ho, hE2⟩
        have HO := hid (And.intro ho hE2)
        clear ho hE2 HN
        go_wp2_with fail
        go_meet
        exact ⟨_, now % 6, by simp, Nat.lt_of_le_of_lt (Nat.mod_le _ _) hnow, Stays13.near H.out Hf.out HE1.out HO.out.1 HO.out.2⟩
    case rest =>
      obtain ⟨l', nw, rfl, hnw, hl'⟩ := hcut
      obtain ⟨⟨a, c, rfl, hlc', hcm'⟩, hst, hok, hl40, hEx⟩ := hl'
      have HSt := hid (And.intro hst hok)
      have HN := hid (St.new (w0 := w) hEx)
      clear hst hok hEx HF
      go_wp2_with fail
      refine HN.out.mono ?_
      rintro e w2 ⟨b, rfl, hS, hE2, -⟩
      have hB := Both13.new hS
      have HB := hid (And.intro hB hE2)
      obtain ⟨bm, hbm⟩ : ∃ bm, bm = w2.heap.size := ⟨_, rfl⟩
      rw [← hbm] at HB
      obtain ⟨W3, hW3⟩ : ∃ W3, W3 = w2.alloc (.cells #[.slice none 0 0, .int .u64 0, .slice none 0 0, .int .u64 0, .slice none 0 0, .int .u64 0] 67) := ⟨_, rfl⟩
      rw [← hW3] at HB
      have HE3 : Hid (Ext w2 W3) := hid (by rw [hW3]; exact (Ext.refl w2).alloc _)
      have HW3 := hid (And.intro hbm hW3)
      clear hS hE2 hB HN hbm hW3
      go_wp2_with fail
      rw [← HW3.out.1, ← HW3.out.2]
      go_loopw [9] (fun j wr => ∃ (k : Nat) (M : List KV) (ls : List RL), k ≤ l'.length ∧ j = .int .i64 k ∧ Both13 w wr b bm k M ls ∧ TK T2 wc wr) (fun j _ => l'.length - (intOf j).toNat)
      case atStart => exact ⟨0, _, _, Nat.zero_le _, rfl, HB.out.1, TK.of_ext (HB.out.2.trans HE3.out)⟩
      case round =>
        obtain ⟨k, M, ls, hk, rfl, hB, hT⟩ := hrel
        have HBr := hid (And.intro hB hT)
        clear hB hT
        by_cases hlt : k < l'.length
        · have hki : (k : Int) < (l'.length : Int) := by omega
          have hA := HSt.out.1 wr HBr.out.2 HBr.out.1.st.base
          obtain ⟨g, off, cap', pa, pc, hv, -, -, -, hpv, hok, c0, c1, c2, c3, c4⟩ := hA.at hlt
          cases hv
          have hw := HSt.out.2 _ (List.getElem_mem hlt)
          have hD := does13_c (d := (l'[k]).d) (κ := (l'[k]).κ) HBr.out.1 (by omega) hw.1.1 hw.1.2.1 hw.1.2.2 (by omega)
          rw [hpv] at hD
          have HD := hid hD
          obtain ⟨d0, hd0⟩ : ∃ d0, d0 = (l'[k]).d.toNat := ⟨_, rfl⟩
          obtain ⟨kk, hkk⟩ : ∃ kk, kk = (l'[k]).κ.toNat := ⟨_, rfl⟩
          obtain ⟨du, hdu⟩ : ∃ du, du = (l'[k]).due := ⟨_, rfl⟩
          obtain ⟨no, hno⟩ : ∃ no, no = (l'[k]).no := ⟨_, rfl⟩
          obtain ⟨pl, hpl⟩ : ∃ pl, pl = (l'[k]).p.length := ⟨_, rfl⟩
          rw [← hd0] at c0 HD
          rw [← hkk] at c1 HD
          rw [← hdu] at c2 HD
          rw [← hno] at c3 HD
          rw [← hpl] at c4 HD
          clear hA hpv hok hw hD hd0 hkk hdu hno hpl
          go_wp2_with fail
          refine HD.out.mono ?_
          rintro e w4 ⟨rfl, hT4, M', ls', hB4⟩
          have H4 := hid (And.intro hB4 (HBr.out.2.trans hT4))
          clear hT4 hB4 HD c0 c1 c2 c3 c4
          go_wp2_with fail
          exact ⟨⟨k + 1, M', ls', hlt, by go_num, H4.out.1, H4.out.2⟩, by simp [intOf]; omega⟩
        · obtain rfl : k = l'.length := by omega
          obtain ⟨wo, rfl⟩ : ∃ wo : World, wo = wr := ⟨_, rfl⟩
          go_wp2_with fail
          go_loopw [10] (fun q wr2 => ∃ z : Nat, z ≤ 3 ∧ q = .int .i64 z ∧ Ext wo wr2) (fun q _ => 3 - (intOf q).toNat)
          case atStart => exact ⟨0, Nat.zero_le _, rfl, Ext.refl _⟩
          case round =>
            obtain ⟨z, hz, rfl, hEr⟩ := hrel
            by_cases hz3 : z < 3
            · have hzi : (z : Int) < 3 := by omega
              have hz0 : (0 : Int) ≤ (z : Int) := by omega
              have hBz := HBr.out.1.ext hEr
              have hzl : z < ls.length := by rw [hBz.r.len]; exact hz3
              obtain ⟨s0, -, -, -⟩ := hBz.r.cells hzl
              have hrow := hBz.r.row _ (List.getElem_mem hzl)
              have hby := hBz.r.byt _ (List.getElem_mem hzl)
              have hln := hBz.ln z hzl
              have hcnt := (hBz.cnt z hzl).2
              have hRp := r13Ripe_c (now := nw) hBz.r hzl (by omega)
              obtain ⟨x, hx⟩ : ∃ x, x = ls[z] := ⟨_, rfl⟩
              rw [← hx] at s0 hrow hby hln hcnt hRp
              obtain ⟨la, lc, hlv, hlc1, hlc2⟩ := row_len hrow
              rw [hlv] at s0 hrow
              obtain ⟨q, hq⟩ : ∃ q, q = x.L.countP (fun x => decide (x.due ≤ nw)) := ⟨_, rfl⟩
              obtain ⟨hql, hqr⟩ := ripe_count (now := nw) hln.so
              rw [← hq] at hRp hql hqr
              have hLx : x.L.length = x.rs.length := List.length_map _
              rw [hLx] at hql
              have hRI : RI wr (.slice la q lc) (x.rs.take q) := by
                refine ⟨?_, fun r hr => BV.of_owns (hby r (List.mem_of_mem_take hr))⟩
                have h0 := rowTake (i := q) IV.cells_len hrow rfl hql
                have hl : (x.rs.take q).length = q := by rw [List.length_take]; omega
                rw [hl]; exact owns_base h0 (Nat.zero_le _)
              have hmq : (x.rs.take q).map IV.it = ripe nw x.L := by rw [hqr, List.map_take]; rfl
              have hm := hBz.len
              have hxL : x.L.length ≤ 1000 := by omega
              have hAll := lineRipe_c (hBz.st.ext (Ext.drewOne wr)) (by omega) hln.sub hln.ok hnw
              rw [ofNat_i hz3, ← u8_in z (by omega)] at hAll
              have HAll := hid hAll
              have hrl : (ripe nw x.L).length ≤ 1000 := by rw [← hmq, List.length_map, List.length_take]; omega
              have HI := hid (fun (w' : World) (base : Nat) (v : Value) (rs : List IV) (h : Items w' base v rs) (he : rs.map IV.it = ripe nw x.L) => items_c h (by have := congrArg List.length he; rw [List.length_map] at this; omega))
              have HS := hid (fun (w' : World) (v : Value) (rs : List IV) (h : RI w' v rs) (hb : RI w' (.slice la q lc) (x.rs.take q)) (he : rs.map IV.it = ripe nw x.L) => r13Same_c h hb (he.trans hmq.symm))
              have HRI := hid hRI
              obtain ⟨xl, hxl⟩ : ∃ xl, xl = x.rs.length := ⟨_, rfl⟩
              rw [← hxl] at s0 hlc1 hql
              have hq0 : (0 : Int) ≤ (q : Int) := by omega
              have hqx : (q : Int) ≤ (xl : Int) := by omega
              have hqc : (q : Int) ≤ (lc : Int) := by omega
              have HRp := hid hRp
              have HEr := hid hEr
              clear hBz hrow hby hln hx hlv hRI hm hxL hAll hxl hEr hzl hcnt hRp hq hqr hLx hmq hrl
              go_wp2_with fail
              refine HRp.out.mono ?_
              rintro e wy ⟨rfl, rfl⟩
              go_wp2_with fail
              go_region_held3 (fun w' => w'.cell? ⟨bm, z * 2, none⟩ = some (.slice la xl lc)) (go_keep)
                (first
                  | (go_at_call 57; (with_reducible refine HAll.out.mono ?_); rintro e wA ⟨v1, rs1, rfl, hI1, hm1, hEA⟩; have p0 := hEA.cell s0; have HA1 := hid (And.intro hI1 (And.intro hm1 hEA)); clear hI1 hm1 hEA)
                  | (go_at_call 55; (with_reducible refine (HI.out _ _ _ _ HA1.out.1 HA1.out.2.1).mono ?_); rintro e wB ⟨v2, rfl, hR2, hEB⟩; have p1 := hEB.cell p0; have HB1 := hid (And.intro hR2 hEB); clear hR2 hEB)
                  | (go_at_call 54; (with_reducible refine (HS.out _ _ _ HB1.out.1 (HRI.out.ext (((Ext.drewOne wr).trans HA1.out.2.2).trans HB1.out.2)) HA1.out.2.1).mono ?_); rintro e wC ⟨rfl, hEC⟩; have p2 := hEC.cell p1; have HC1 := hid hEC; clear hEC))
              go_wp2_with fail
              exact ⟨⟨z + 1, by omega, by go_num, HEr.out.trans ((((Ext.drewOne wr).trans HA1.out.2.2).trans HB1.out.2).trans HC1.out)⟩, by simp [intOf]; omega⟩
            · have hzi : ¬ (z : Int) < 3 := by omega
              have HE := hid (HBr.out.1.st.base.trans hEr)
              clear hEr
              go_wp2_with fail
              go_ret
              exact ⟨rfl, HE.out⟩
  · have hf' : few13 l = false := by simpa using hf
    have Hf := hid hf'
    clear hf hf'
    go_enter Try.func13, Try.ntmps13
    go_wp2_with fail
    refine HR.out.mono ?_
    rintro e w1 ⟨rfl, hE1⟩
    have hF := few13_c (H.out.ext hE1)
    rw [Hf.out] at hF
    have HF := hid hF
    have HR1 := hid (adds13_c w1)
    have HE1 := hid hE1
    clear hE1 hF HR
    go_wp2_with fail
    refine HF.out.mono ?_
    rintro e wx ⟨rfl, rfl⟩
    go_wp2_with fail
    refine HR1.out.mono ?_
    rintro e w2 ⟨rfl, hE2⟩
    have HE2 := hid hE2
    clear hE2 HR1
    go_wp2_with fail
    go_ret
    exact ⟨rfl, HE1.out.trans HE2.out⟩

theorem lineRipes_w {w : World} {v : Value} {l : List A13} {a : Int} {small : Bool} (h : Acts13 w v l) (hw : (Lit.int .u64 a).wf = true) :
    Calls Try.prog 13 #[v, .int .u64 a, .bool small] w fun e w' => e = .returned (.bool true) ∧ Ext w w' := by
  have := u64_of_wf hw
  rw [← this.1]
  exact lineRipes_c h this.2

end Go.Proofs.Ytaidgkdebocenaa
