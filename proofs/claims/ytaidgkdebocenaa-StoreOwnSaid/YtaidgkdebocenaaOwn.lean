/- jointurelaw05.StoreOwn answers true, and turns nothing that was there.
   No conditions but that the arguments lie in memory as bytes. -/
import Derived.Test.YtaidgkdebocenaaRolls
namespace Go.Proofs.Ytaidgkdebocenaa
open Go Go.RowKit

/-- A row of bytes of the program's own, whatever it holds. -/
def Own (w : World) (v : Value) (n : Nat) : Prop := ∃ xs, w.ownsRow 0 5 1 v n xs

theorem Own.keeps {S : Nat → Prop} {w w' : World} {v : Value} {n : Nat} (h : Own w v n) (hk : Keeps S w w') (hS : ∀ g, v.ownBlock = some g → ¬ S g) : Own w' v n := by
  obtain ⟨xs, h⟩ := h
  exact ⟨xs, hk.ownsRow h hS⟩

theorem Own.at {w : World} {v : Value} {n i : Nat} (h : Own w v n) (hi : i < n) : ∃ g cap ys, v = .slice (some ⟨g, 0, none⟩) n cap ∧ n ≤ cap ∧ cap ≤ maxLen ∧ g < w.heap.size ∧ w.heap[g]? = some (.cells ys 5 (0, 0)) ∧ ys.size = cap := by
  obtain ⟨xs, h⟩ := h
  rcases h.2 with ⟨-, h0⟩ | ⟨g, cap, cur, hv, -, hg, hn, hc, hsz, ht⟩
  · omega
  · exact ⟨g, cap, cur, hv, hn, hc, lt_of_heap hg, hg, by omega⟩

theorem Own.set {w : World} {g n cap i : Nat} {u : Value} (h : Own w (.slice (some ⟨g, 0, none⟩) n cap) n) (hi : i < n) : Own (w.setCell ⟨g, i, none⟩ u) (.slice (some ⟨g, 0, none⟩) n cap) n := by
  obtain ⟨g', cap', ys, hv, hn, hc, -, hg, hsz⟩ := h.at hi
  cases hv
  obtain ⟨yl, rfl⟩ : ∃ yl : List Value, ys = yl.toArray := ⟨ys.toList, by simp⟩
  have := ownsRow_of_whole (base := 0) (size := 1) (n := n) (cap := cap) (heap_set (j := i) (u := u) hg) (by simpa using hsz) hn hc (Nat.zero_le _)
  exact ⟨_, this⟩

theorem Own.of {w : World} {base : Nat} {v : Value} {n : Nat} {xs : List Value} (h : w.ownsRow base 5 1 v n xs) : Own w v n := ⟨xs, owns_base h (Nat.zero_le _)⟩

theorem Own.val {w : World} {v : Value} {n : Nat} (h : Own w v n) : ∃ a cap, v = .slice a n cap ∧ n ≤ cap ∧ cap ≤ maxLen := by
  obtain ⟨xs, h⟩ := h
  rcases h.2 with ⟨hv, h0⟩ | ⟨g, cap, cur, hv, -, hg, hn, hc, hsz, ht⟩
  · exact ⟨none, 0, by rw [hv, h0], by omega, by simp [maxLen]⟩
  · exact ⟨_, cap, hv, hn, hc⟩

theorem putM_nil' (k v : BS) : putM [] k v true = [(k, v)] := by simp [putM, hasM, posM]

def ownA (key val : BS) : AS := ⟨[(key, val)], [], []⟩
theorem ownA_eq (key val : BS) : doM ⟨[], [], []⟩ key val true = ownA key val := by
  simp [doM, ownA, putM_nil']
theorem ownA_fit {key val : BS} (hk : key.length ≤ 100) (hv : val.length ≤ 100) : Fit (ownA key val) := by
  refine Fit.of (by simp [ownA]) (by simp [ownA]) (by simp [ownA]) fun p hp => ?_
  obtain rfl := List.mem_singleton.1 hp
  exact ⟨by dsimp only; omega, by dsimp only; omega⟩
theorem ownA_has (key val : BS) : hasM (ownA key val).M key = true := by simp [ownA, hasM, posM, lt_irrefl]
theorem ownA_get (key val : BS) : getM (ownA key val).M key = val := by simp [ownA, getM, hasM, posM, lt_irrefl]
theorem ownA_keys (key val : BS) : keysM (ownA key val).M [] = [key] := by rw [keysM_nil]; rfl

/-- What one loop that writes over a row leaves. -/
def Over (v : Value) (n : Nat) (W wr : World) : Prop := Keeps (fun x => v.ownBlock = some x) W wr ∧ Own wr v n

set_option maxRecDepth 100000 in
set_option maxHeartbeats 4000000 in
theorem storeOwn_c {w : World} {kv vv : Value} {key val : BS} {bb : Int} (hk : BV w kv key) (hv : BV w vv val) :
    Calls Try.prog 5 #[kv, vv, .int .u8 bb] w fun e w' => e = .returned (.bool true) ∧ Ext w w' := by
  obtain ⟨ka, kcap, hka, hkn, hkc⟩ := hk.val
  obtain ⟨va, vcap, hva, hvn, hvc⟩ := hv.val
  subst hka hva
  have HK := hid hk
  have HV := hid hv
  have HR := hid (rolls_c w)
  clear hk hv
  by_cases h1 : key.length ≤ 100
  · by_cases h2 : val.length ≤ 100
    · have t1 : ¬ (100 : Int) < key.length := by omega
      have t2 : ¬ (100 : Int) < val.length := by omega
      have hkb : key.length ≤ big := le_big (by omega)
      have hvb : val.length ≤ big := le_big (by omega)
      have HB := hid (And.intro (And.intro h1 h2) (And.intro hkb hvb))
      clear hkb hvb
      go_enter Try.func5, Try.ntmps5
      go_wp2_with fail
      refine HR.out.mono ?_
      rintro e w1 ⟨rfl, hE1⟩
      have HE1 := hid hE1
      have HN := hid (new_c w1)
      clear hE1 HR
      go_wp2_with fail
      refine HN.out.mono ?_
      rintro e w2 ⟨rfl, hS2, hE2⟩
      have hJ := r01join_c (HK.out.ext (HE1.out.trans hE2)) HB.out.2.1
      have HJ := hid hJ
      have HS2 := hid hS2
      have HE2 := hid hE2
      clear hS2 hE2 hJ HN
      go_wp2_with fail
      refine HJ.out.mono ?_
      rintro e w3 ⟨k', rfl, hk', hE3⟩
      have hJ := r01join_c (HV.out.ext ((HE1.out.trans HE2.out).trans hE3)) HB.out.2.2
      have HJ2 := hid hJ
      obtain ⟨ja, jc, rfl⟩ := owns_slice hk'
      have HK' := hid hk'
      have HE3 := hid hE3
      clear hk' hE3 hJ HJ
      go_wp2_with fail
      refine HJ2.out.mono ?_
      rintro e w4 ⟨v', rfl, hv', hE4⟩
      obtain ⟨ua, uc, rfl⟩ := owns_slice hv'
      have hks := (OB.of_owns HK'.out).ext hE4
      have hSet := set_c ((HS2.out.ext HE3.out).ext hE4) hks.bv (OB.of_owns hv').bv ⟨by simp [newG, big_eq], by simp [newG, big_eq], by simp [newG, big_eq]⟩ HB.out.2.1 HB.out.2.2
      rw [show abs (newG w1.heap.size) = ⟨[], [], []⟩ from rfl, ownA_eq] at hSet
      have HSet := hid hSet
      have HV' := hid hv'
      have HE4 := hid hE4
      dsimp only [newG] at HSet
      clear hv' hks hE4 hSet HJ2
      go_wp2_with fail
      refine HSet.out.mono ?_
      rintro e w5 ⟨rfl, s1, hM⟩
      have hoK : ∀ g, (Value.slice ja key.length jc).ownBlock = some g → w2.heap.size ≤ g ∧ g < w3.heap.size := HK'.out.lt
      have hoV : ∀ g, (Value.slice ua val.length uc).ownBlock = some g → w3.heap.size ≤ g ∧ g < w4.heap.size := HV'.out.lt
      have hb2 : w1.heap.size < w2.heap.size := lt_of_heap HS2.out.hs
      have hft : ∀ x, Foot s1 x → x = w1.heap.size ∨ w4.heap.size ≤ x := fun x hx => (hM.foot x hx).imp (fun c => by rcases c with c | c | c | c <;> first | exact c | (simp [Value.ownBlock] at c)) id
      have hbt : ∀ x, Byt s1 x → w4.heap.size ≤ x := fun x hx => (hM.byt x hx).elim (fun c => by rcases c with ⟨e, he, -⟩ | ⟨e, he, -⟩ <;> exact nomatch he) id
      have hE34 := HE3.out.size
      have hE44 := HE4.out.size
      have hnb : ∀ g, w2.heap.size ≤ g → ¬ Foot (newG w1.heap.size) g := fun g hg c => by rcases c with c | c | c | c <;> first | (simp only [newG] at c; omega) | (simp [newG, Value.ownBlock] at c)
      have hOK : Own w5 (.slice ja key.length jc) key.length := (Own.of (Keeps.ownsRow HE4.out HK'.out fun _ _ c => c)).keeps hM.keeps fun g hg => hnb g (hoK g hg).1
      have hOV : Own w5 (.slice ua val.length uc) val.length := (Own.of HV'.out).keeps hM.keeps fun g hg => hnb g (by have := (hoV g hg).1; omega)
      have hE5 : Ext w w5 := ((((HE1.out.trans HE2.out).trans HE3.out).trans HE4.out).trans' hM.keeps fun x hx c => by
        have := HE1.out.size
        rcases c with c | c | c | c <;> first | (simp only [newG] at c; omega) | (simp [newG, Value.ownBlock] at c))
      have HF := hid (And.intro (And.intro hft hbt) (And.intro hM (And.intro hOV hOK)))
      have HG := hid (And.intro (And.intro hoK hoV) (And.intro hb2 (And.intro hE34 (And.intro hE44 hE5))))
      clear hoK hoV hb2 hft hbt hE34 hE44 hnb hOK hOV hE5 hM HSet
      go_wp2_with fail
      go_loopw [10] (fun j wr => ∃ i : Nat, i ≤ key.length ∧ j = .int .i64 i ∧ Over (.slice ja key.length jc) key.length w5 wr) (fun j _ => key.length - (intOf j).toNat)
      case atStart => exact ⟨0, Nat.zero_le _, rfl, Keeps.refl _ _, HF.out.2.2.2⟩
      case round =>
        obtain ⟨i, hi, rfl, hOv⟩ := hrel
        by_cases hlt : i < key.length
        · have hii : (i : Int) < (key.length : Int) := by omega
          obtain ⟨g, cap, ys, hv, hnc, hcm, hgl, hg, hsz⟩ := hOv.2.at hlt
          have hfr := frozen_of_row _ g i _ _ hg
          have hcl := cell_of_row _ g i _ _ _ hg
          rw [Array.getElem?_eq_getElem (by omega)] at hcl
          unfold maxLen at hcm
          cases hv
          have HOv := hid hOv
          clear hOv hg
          go_wp2_with fail
          refine ⟨⟨i + 1, hlt, by go_num, HOv.out.1.setCell (a := ⟨g, i, none⟩) (fun _ => rfl) _, HOv.out.2.set hlt⟩, by simp [intOf]; omega⟩
        · obtain rfl : i = key.length := by omega
          have HOv := hid hOv
          clear hOv
          obtain ⟨w6, rfl⟩ : ∃ x, x = wr := ⟨_, rfl⟩
          go_wp2_with fail
          go_loopw [11] (fun j wr => ∃ i : Nat, i ≤ val.length ∧ j = .int .i64 i ∧ Over (.slice ua val.length uc) val.length w6 wr) (fun j _ => val.length - (intOf j).toNat)
          case atStart => exact ⟨0, Nat.zero_le _, rfl, Keeps.refl _ _, HF.out.2.2.1.keeps HOv.out.1 (fun g hg c => by have := (HG.out.1.1 g c).2; have := (HG.out.1.2 g hg).1; omega)⟩
          case round =>
            obtain ⟨i, hi, rfl, hOv⟩ := hrel
            by_cases hlt : i < val.length
            · have hii : (i : Int) < (val.length : Int) := by omega
              obtain ⟨g, cap, ys, hv, hnc, hcm, hgl, hg, hsz⟩ := hOv.2.at hlt
              have hfr := frozen_of_row _ g i _ _ hg
              have hcl := cell_of_row _ g i _ _ _ hg
              rw [Array.getElem?_eq_getElem (by omega)] at hcl
              unfold maxLen at hcm
              cases hv
              have HOw := hid hOv
              clear hOv hg
              go_wp2_with fail
              refine ⟨⟨i + 1, hlt, by go_num, HOw.out.1.setCell (a := ⟨g, i, none⟩) (fun _ => rfl) _, HOw.out.2.set hlt⟩, by simp [intOf]; omega⟩
            · obtain rfl : i = val.length := by omega
              have HOw := hid hOv
              clear hOv
              obtain ⟨w7, rfl⟩ : ∃ x, x = wr := ⟨_, rfl⟩
              have hE7 : Ext w w7 := (HG.out.2.2.2.2.trans' HOv.out.1 fun x hx c => by
                have := (HG.out.1.1 x c).1; have := HE1.out.size; have := HG.out.2.1; omega).trans' HOw.out.1 fun x hx c => by
                have := (HG.out.1.2 x c).1; have := HE1.out.size; have := HG.out.2.1; have := HG.out.2.2.1; omega
              have hS6 := HF.out.2.1.rep.keeps' HOv.out.1 (fun x hf c => by have h1 := HG.out.1.1 x c; have := HG.out.2.1; have := HG.out.2.2.2.1; rcases HF.out.1.1 x hf with h2 | h2 <;> omega) (fun x hf c => by have h1 := HG.out.1.1 x c; have := HF.out.1.2 x hf; have := HG.out.2.2.2.1; omega)
              have hS7 := hS6.keeps' HOw.out.1 (fun x hf c => by have h1 := HG.out.1.2 x c; have := HG.out.2.1; have := HG.out.2.2.1; rcases HF.out.1.1 x hf with h2 | h2 <;> omega) (fun x hf c => by have h1 := HG.out.1.2 x c; have := HF.out.1.2 x hf; omega)
              have hab := HF.out.2.1.abs
              have hsb : s1.b = w1.heap.size := HF.out.2.1.b
              have hfit : Fit (abs s1) := by rw [hab]; exact ownA_fit HB.out.1.1 HB.out.1.2
              have hLM : absL s1.L = (ownA key val).M := congrArg AS.M hab
              have hGet := fun (w' : World) (hE : Ext w w') (hS : SRep w' s1) => get_c hS (HK.out.ext hE) (Nat.le_of_lt hfit.small.1) (fun e he => (hfit.vals e he).2)
              have hKey := fun (w' : World) (hS : SRep w' s1) => keys_c hS (BV.nil w') (Nat.le_of_lt hfit.small.1) (fun e he => (hfit.vals e he).1)
              unfold GetPost at hGet
              rw [hLM] at hGet hKey
              rw [ownA_has, ownA_get] at hGet
              rw [ownA_keys] at hKey
              rw [hsb] at hGet hKey
              have HGet := hid hGet
              have HKey := hid hKey
              have HE7 := hid hE7
              have HS7 := hid hS7
              clear hE7 hS6 hS7 hab hsb hfit hLM hGet hKey
              have HG7 := hid (HGet.out _ HE7.out HS7.out)
              go_wp2_with fail
              refine HG7.out.mono ?_
              rintro e w8 ⟨pv, rfl, hp, hE8⟩
              have HK8 := hid (HKey.out w8 (HS7.out.ext hE8))
              obtain ⟨pa, pc, rfl⟩ := owns_slice hp
              have HPv := hid hp
              have HE8 := hid hE8
              clear hp hE8 HG7
              go_wp2_with fail
              refine HK8.out.mono ?_
              rintro e w9 ⟨lv, rs, rfl, hrows, hxs, hE9⟩
              obtain ⟨r, rfl⟩ : ∃ r, rs = [r] := by
                match rs, hxs with
                | [r], _ => exact ⟨r, rfl⟩
              have hrx : r.xs = key := by simpa using hxs
              obtain ⟨gl, lc, hlv, hlc, hlm, hlcell, hlob⟩ := hrows.cell (i := 0) (by simp)
              simp only [List.getElem_cons_zero, List.length_cons, List.length_nil, Nat.zero_add] at hlv hlc hlcell hlob
              rw [hrx] at hlob
              have hrow := hrows.2 r (by simp)
              obtain ⟨rv, rx⟩ := r
              dsimp only at hrx hlcell hlob hrow
              subst hrx
              obtain ⟨ra, rc, rfl⟩ := owns_slice hrow
              subst hlv
              unfold maxLen at hlm
              have hq := r01same_c ((OB.of_owns HPv.out).bv.ext hE9) (HV.out.ext ((HE7.out.trans HE8.out).trans hE9))
              rw [beq_self_eq_true] at hq
              have HQ := hid hq
              have HE9 := hid hE9
              have HRow := hid hrow
              have HLt := hid hrows.1
              clear hq hE9 hrows hrow hxs HK8
              go_wp2_with fail
              refine HQ.out.mono ?_
              rintro e w10 ⟨rfl, n10, hw10⟩
              have hE10 : Ext w9 w10 := by rw [hw10]; exact Ext.of_drewN _ _
              have hlcell10 := hE10.cell hlcell
              have hq2 := r01same_c (hlob.ext hE10).bv (HK.out.ext (((HE7.out.trans HE8.out).trans HE9.out).trans hE10))
              rw [beq_self_eq_true] at hq2
              have HQ2 := hid hq2
              have HE10 := hid hE10
              have Hlob := hid hlob
              clear hq2 hE10 hw10 hlob HQ
              go_wp2_with fail
              refine HQ2.out.mono ?_
              rintro e w11 ⟨rfl, n11, hw11⟩
              have hE11 : Ext w10 w11 := by rw [hw11]; exact Ext.of_drewN _ _
              have hlcell11 := hE11.cell hlcell10
              have HE911 := hid (HE10.out.trans hE11)
              have hPo : Own w11 (.slice pa val.length pc) val.length := (Own.of (Keeps.ownsRow (HE9.out.trans HE911.out) HPv.out fun _ _ c => c))
              have hRo : Own w11 (.slice ra rx.length rc) rx.length := (Own.of (Keeps.ownsRow HE911.out HRow.out fun _ _ c => c))
              have HPo := hid hPo
              have HRo := hid hRo
              have hLt := Keeps.ownsRow HE911.out HLt.out fun _ _ c => c
              have hgl := (hLt.lt gl rfl)
              have HLt11 := hid hLt
              clear hE11 hw11 hPo hRo hLt HQ2 hlcell hlcell10
              go_wp2_with fail
              go_loopw [15] (fun j wr => ∃ i : Nat, i ≤ val.length ∧ j = .int .i64 i ∧ Over (.slice pa val.length pc) val.length w11 wr) (fun j _ => val.length - (intOf j).toNat)
              case atStart => exact ⟨0, Nat.zero_le _, rfl, Keeps.refl _ _, HPo.out⟩
              case round =>
                obtain ⟨i, hi, rfl, hOv⟩ := hrel
                by_cases hlt : i < val.length
                · have hii : (i : Int) < (val.length : Int) := by omega
                  obtain ⟨g, cap, ys, hv, hnc, hcm, hgl, hg, hsz⟩ := hOv.2.at hlt
                  have hfr := frozen_of_row _ g i _ _ hg
                  have hcl := cell_of_row _ g i _ _ _ hg
                  rw [Array.getElem?_eq_getElem (by omega)] at hcl
                  unfold maxLen at hcm
                  cases hv
                  have HOp := hid hOv
                  clear hOv hg
                  go_wp2_with fail
                  refine ⟨⟨i + 1, hlt, by go_num, HOp.out.1.setCell (a := ⟨g, i, none⟩) (fun _ => rfl) _, HOp.out.2.set hlt⟩, by simp [intOf]; omega⟩
                · obtain rfl : i = val.length := by omega
                  have HOp := hid hOv
                  clear hOv
                  obtain ⟨w12, rfl⟩ : ∃ x, x = wr := ⟨_, rfl⟩
                  have hLt12 := HOp.out.1.ownsRow HLt11.out fun g hg c => by
                    obtain ⟨c1, q1⟩ := owns_typed HLt11.out hg
                    obtain ⟨c2, q2⟩ := owns_typed (Keeps.ownsRow (HE9.out.trans HE911.out) HPv.out fun _ _ c => c) c
                    exact typed_ne q1 q2 (by decide)
                  have hRo12 := HRo.out.keeps HOp.out.1 fun g hg c => by
                    have q1 := (HRow.out.lt g hg).1
                    have q2 := (HPv.out.lt g c).2
                    omega
                  have HLt12 := hid hLt12
                  have HRo12 := hid hRo12
                  clear hLt12 hlcell11 hRo12
                  go_wp2_with fail
                  go_loopw [16] (fun j wr => ∃ i : Nat, i ≤ rx.length ∧ j = .int .i64 i ∧ Over (.slice ra rx.length rc) rx.length w12 wr) (fun j _ => rx.length - (intOf j).toNat)
                  case atStart => exact ⟨0, Nat.zero_le _, rfl, Keeps.refl _ _, HRo12.out⟩
                  case round =>
                    obtain ⟨i, hi, rfl, hOv⟩ := hrel
                    have hcl0 : wr.cell? ⟨gl, 0, none⟩ = some (.slice ra rx.length rc) := by
                      have hLr := hOv.1.ownsRow HLt12.out fun g hg c => by
                        obtain ⟨c1, q1⟩ := owns_typed HLt12.out hg
                        obtain ⟨xs, hx⟩ := HRo12.out
                        obtain ⟨c2, q2⟩ := owns_typed hx c
                        exact typed_ne q1 q2 (by decide)
                      have := hLr.cells (g := gl) rfl 0 _ rfl
                      simpa [Addr.add] using this
                    by_cases hlt : i < rx.length
                    · have hii : (i : Int) < (rx.length : Int) := by omega
                      obtain ⟨g, cap, ys, hv, hnc, hcm, hgl, hg, hsz⟩ := hOv.2.at hlt
                      have hfr := frozen_of_row _ g i _ _ hg
                      have hcl := cell_of_row _ g i _ _ _ hg
                      rw [Array.getElem?_eq_getElem (by omega)] at hcl
                      unfold maxLen at hcm
                      cases hv
                      have HOr := hid hOv
                      clear hOv hg
                      go_wp2_with fail
                      refine ⟨⟨i + 1, hlt, by go_num, HOr.out.1.setCell (a := ⟨g, i, none⟩) (fun _ => rfl) _, HOr.out.2.set hlt⟩, by simp [intOf]; omega⟩
                    · obtain rfl : i = rx.length := by omega
                      have HOr := hid hOv
                      clear hOv
                      obtain ⟨w13, rfl⟩ : ∃ x, x = wr := ⟨_, rfl⟩
                      have hE711 := ((HE8.out.trans HE9.out).trans HE911.out)
                      have hS11 := HS7.out.ext hE711
                      have hpo : ∀ g, (Value.slice pa val.length pc).ownBlock = some g → w7.heap.size ≤ g := fun g hg => (HPv.out.lt g hg).1
                      have hro : ∀ g, (Value.slice ra rx.length rc).ownBlock = some g → w7.heap.size ≤ g := fun g hg => Nat.le_trans HE8.out.size (HRow.out.lt g hg).1
                      have hfl : ∀ g, Foot s1 g → g < w7.heap.size := fun g hg => HS7.out.lt hg
                      have hbl : ∀ g, Byt s1 g → g < w7.heap.size := fun g hg => by obtain ⟨cur, hc⟩ := HS7.out.byt_lt hg; exact lt_of_heap hc
                      have hS12 := hS11.keeps' HOp.out.1 (fun g hf c => by have := hfl g hf; have := hpo g c; omega) (fun g hf c => by have := hbl g hf; have := hpo g c; omega)
                      have hS13 := hS12.keeps' HOr.out.1 (fun g hf c => by have := hfl g hf; have := hro g c; omega) (fun g hf c => by have := hbl g hf; have := hro g c; omega)
                      have hsz7 := HE7.out.size
                      have hE13 : Ext w w13 := ((HE7.out.trans hE711).trans' HOp.out.1 fun g hg c => by have := hpo g c; omega).trans' HOr.out.1 fun g hg c => by have := hro g c; omega
                      have HG13 := hid (HGet.out _ hE13 hS13)
                      have HE13 := hid hE13
                      clear hE711 hS11 hpo hro hfl hbl hS12 hS13 hsz7 hE13
                      go_wp2_with fail
                      refine HG13.out.mono ?_
                      rintro e w14 ⟨qv, rfl, hqv, hE14⟩
                      have hq3 := r01same_c (OB.of_owns hqv).bv (HV.out.ext (HE13.out.trans hE14))
                      rw [beq_self_eq_true] at hq3
                      have HQ3 := hid hq3
                      obtain ⟨qa, qc, rfl⟩ := owns_slice hqv
                      have HE14 := hid hE14
                      clear hqv hE14 hq3 HG13
                      go_wp2_with fail
                      refine HQ3.out.mono ?_
                      rintro e w15 ⟨rfl, n15, hw15⟩
                      have HE15 : Hid (Ext w14 w15) := hid (by rw [hw15]; exact Ext.of_drewN _ _)
                      clear hw15
                      go_wp2_with fail
                      go_ret
                      exact ⟨rfl, (HE13.out.trans HE14.out).trans HE15.out⟩
    · have t1 : ¬ (100 : Int) < key.length := by omega
      have t2 : (100 : Int) < val.length := by omega
      clear h1 h2
      go_enter Try.func5, Try.ntmps5
      go_wp2_with fail
      refine HR.out.mono ?_
      rintro e w1 ⟨rfl, hE1⟩
      have HR1 := hid (rolls_c w1)
      have HE1 := hid hE1
      clear hE1 HR
      go_wp2_with fail
      refine HR1.out.mono ?_
      rintro e w2 ⟨rfl, hE2⟩
      have HE2 := hid hE2
      clear hE2 HR1
      go_wp2_with fail
      go_ret
      exact ⟨rfl, HE1.out.trans HE2.out⟩
  · have t1 : (100 : Int) < key.length := by omega
    clear h1
    go_enter Try.func5, Try.ntmps5
    go_wp2_with fail
    refine HR.out.mono ?_
    rintro e w1 ⟨rfl, hE1⟩
    have HR1 := hid (rolls_c w1)
    have HE1 := hid hE1
    clear hE1 HR
    go_wp2_with fail
    refine HR1.out.mono ?_
    rintro e w2 ⟨rfl, hE2⟩
    have HE2 := hid hE2
    clear hE2 HR1
    go_wp2_with fail
    go_ret
    exact ⟨rfl, HE1.out.trans HE2.out⟩

end Go.Proofs.Ytaidgkdebocenaa
