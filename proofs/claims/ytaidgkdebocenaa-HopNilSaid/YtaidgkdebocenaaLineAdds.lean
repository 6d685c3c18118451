/- jointurelaw13.adds: it answers true.
   No conditions. -/
import Derived.Test.YtaidgkdebocenaaLineRipe
namespace Go.Proofs.Ytaidgkdebocenaa
open Go Go.RowKit

theorem lit1o (w : World) (x : UInt8) : OB (w.alloc (.cells #[bval x] 5)) (.slice (some ⟨w.heap.size, 0, none⟩) 1 1) [x] :=
  ownsRow_of_whole (w := w.alloc (.cells #[bval x] 5)) (base := 0) (size := 1) (g := w.heap.size) (n := 1) (cap := 1) (ys := [bval x]) (e := 5) (heap_alloc_new w _) rfl (Nat.le_refl _) (by simp [maxLen]) (Nat.zero_le _)

/-- What is known of a store with some lines. -/
structure LineSt (w0 w : World) (b : Nat) (M : List KV) (κ : UInt8) (L : List It) (c : Nat) : Prop where
  st : St w0 w b M
  ln : LineOk M κ L c

theorem adds_add {w0 w : World} {b : Nat} {M : List KV} {κ : UInt8} {L : List It} {c due : Nat} {pv : Value} {p : BS} (h : St w0 w b M) (hl : LineOk M κ L c) (hm : M.length ≤ 8000) (hd : due < W64) (hc : c < 4611686018427387904) (hp : SB w0 w pv p) (hpl : p.length ≤ 1000) :
    Calls Try.prog 49 #[.pointer (some ⟨b, 0, none⟩), .int .u8 (κ.toNat : Int), .int .u64 (due : Int), pv] w fun e w' => e = .returned (.int .u64 ((c + 1 : Nat) : Int)) ∧ St w0 w' b (addM M κ c due p) ∧ LineOk (addM M κ c due p) κ (insIt L ⟨due, c + 1, p⟩) (c + 1) ∧
      (addM M κ c due p).length ≤ M.length + 2 ∧ TK StT w w' ∧ SortedM M := by
  refine (lineAdd_c h (by omega) hl.cnt hd hc hp hpl).mono ?_
  rintro e w' ⟨rfl, h1, h2⟩
  exact ⟨rfl, h1, hl.add h.so hd (by unfold W64; omega), addM_length _ _ _ _ _, h2, h.so⟩

set_option maxRecDepth 100000 in
set_option maxHeartbeats 2000000 in
theorem adds13_c (w : World) : Calls Try.prog 47 #[] w fun e w' => e = .returned (.bool true) ∧ Ext w w' := by
  have HN := hid (St.new (Ext.refl w))
  go_enter Try.func47, Try.ntmps47
  go_wp2_with fail
  refine HN.out.mono ?_
  rintro e w1 ⟨b, rfl, hS, -, -⟩
  have HA1 := hid (adds_add (κ := 1) (due := 9) hS (LineOk.new 1) (by simp) (by decide) (by decide) (SB.old (BV.nil w)) (by simp))
  clear hS HN
  go_wp2_with fail
  refine HA1.out.mono ?_
  rintro e w2 ⟨rfl, hS, hL, hlen, -, hs0⟩
  have hO2 := (LineOk.new 2).addO (κ := 1) (c := 0) (due := 9) (p := []) hs0 (by decide)
  have HO2 := hid hO2
  obtain ⟨M2, hM2⟩ : ∃ M2, M2 = addM [] 1 0 9 [] := ⟨_, rfl⟩
  rw [← hM2] at hS hL hlen HO2
  have hsb : SB w (w2.alloc (.cells #[.int .u8 7] 5)) (.slice (some ⟨w2.heap.size, 0, none⟩) 1 1) [7] := SB.own (lit1o w2 7)
  have HA2 := hid (adds_add (κ := 1) (due := 5) (hS.ext ((Ext.refl w2).alloc (.cells #[.int .u8 7] 5))) hL (by simp at hlen; omega) (by decide) (by decide) hsb (by simp))
  have Hlen := hid hlen
  clear hS hL hlen hs0 hO2 hM2 hsb HA1
  go_wp2_with fail
  refine HA2.out.mono ?_
  rintro e w3 ⟨rfl, hS, hL, hlen, -, hs0⟩
  have HO3 := hid (HO2.out.addO (κ := 1) (c := 1) (due := 5) (p := [7]) hs0 (by decide))
  have hlen2 := Nat.le_trans hlen (Nat.add_le_add_right Hlen.out 2)
  obtain ⟨M3, hM3⟩ : ∃ M3, M3 = addM M2 1 1 5 [7] := ⟨_, rfl⟩
  rw [← hM3] at hS hL hlen2 HO3
  have HA3 := hid (adds_add (κ := 1) (due := 5) hS hL (by simp at hlen2; omega) (by decide) (by decide) (SB.old (BV.nil w)) (by simp))
  have Hlen2 := hid hlen2
  clear hS hL hlen hlen2 hs0 hM3 HA2 Hlen HO2
  go_wp2_with fail
  refine HA3.out.mono ?_
  rintro e w4 ⟨rfl, hS, hL, hlen, -, hs0⟩
  have hO := HO3.out.addO (κ := 1) (c := 2) (due := 5) (p := []) hs0 (by decide)
  have hlen3 := Nat.le_trans hlen (Nat.add_le_add_right Hlen2.out 2)
  obtain ⟨M4, hM4⟩ : ∃ M4, M4 = addM M3 1 2 5 [] := ⟨_, rfl⟩
  rw [← hM4] at hS hL hlen3 hO
  have hLL : insIt (insIt (insIt [] ⟨9, 0 + 1, []⟩) ⟨5, 0 + 1 + 1, [7]⟩) ⟨5, 2 + 1, []⟩ = [⟨5, 2, [7]⟩, ⟨5, 3, []⟩, ⟨9, 1, []⟩] := by rfl
  rw [hLL] at hL
  have hm4 : M4.length ≤ 9000 := by simp at hlen3; omega
  have HAll := hid (lineAll_c hS hm4 hL.sub hL.ok)
  have H4 := hid (And.intro hS (And.intro hL hO))
  clear hS hL hlen hlen3 hs0 hM4 hLL hO HA3 Hlen2 HO3
  go_wp2_with fail
  refine HAll.out.mono ?_
  rintro e w5 ⟨v, rs, rfl, hI, hrm, hE5⟩
  have hrl : rs.length = 3 := by have := congrArg List.length hrm; simpa using this
  have h0 : (rs[0]'(by omega)).it.no = 2 := by
    have : (rs.map IV.it)[0]? = some ⟨5, 2, [7]⟩ := by rw [hrm]; rfl
    rw [List.getElem?_map, List.getElem?_eq_getElem (by omega)] at this
    simp at this; rw [this]
  have h1 : (rs[1]'(by omega)).it.no = 3 := by
    have : (rs.map IV.it)[1]? = some ⟨5, 3, []⟩ := by rw [hrm]; rfl
    rw [List.getElem?_map, List.getElem?_eq_getElem (by omega)] at this
    simp at this; rw [this]
  have h2 : (rs[2]'(by omega)).it.no = 1 := by
    have : (rs.map IV.it)[2]? = some ⟨9, 1, []⟩ := by rw [hrm]; rfl
    rw [List.getElem?_map, List.getElem?_eq_getElem (by omega)] at this
    simp at this; rw [this]
  obtain ⟨g, cap, hv, hcap, hcm, -, hgl, hc0⟩ := rowCell IV.cells_len hI.1 (i := 0) (by omega)
  obtain ⟨g1, cap1, hv1, -, -, -, -, hc1⟩ := rowCell IV.cells_len hI.1 (i := 1) (by omega)
  obtain ⟨g2, cap2, hv2, -, -, -, -, hc2⟩ := rowCell IV.cells_len hI.1 (i := 2) (by omega)
  rw [hrl] at hv hv1 hv2
  rw [hv] at hv1 hv2
  cases hv1
  cases hv2
  have k0 := (hc0 1 (by decide)).1
  have k1 := (hc1 1 (by decide)).1
  have k2 := (hc2 1 (by decide)).1
  simp only [IV.cells, List.getElem?_cons_zero, List.getElem?_cons_succ, h0, h1, h2] at k0 k1 k2
  subst hv
  have HRp := hid (lineRipe_c (now := 8) (H4.out.1.ext hE5) hm4 H4.out.2.1.sub H4.out.2.1.ok (by decide))
  have HE5 := hid hE5
  clear hI hrm hrl h0 h1 h2 hc0 hc1 hc2 hE5 HAll
  unfold maxLen at hcm
  go_wp2_with fail
  refine HRp.out.mono ?_
  rintro e w6 ⟨v2, rs2, rfl, hI2, hrm2, hE6⟩
  have hr2 : rs2.length = 2 := by have := congrArg List.length hrm2; rw [show ripe 8 [(⟨5, 2, [7]⟩ : It), ⟨5, 3, []⟩, ⟨9, 1, []⟩] = [⟨5, 2, [7]⟩, ⟨5, 3, []⟩] from rfl] at this; simpa using this
  obtain ⟨a2, c2, hv2, -, -⟩ := row_len hI2.1
  rw [hr2] at hv2
  subst hv2
  have HA2 := hid (lineAll_c (κ := 2) (L := []) ((H4.out.1.ext HE5.out).ext hE6) hm4 H4.out.2.2.sub (fun _ h => nomatch h))
  have HE6 := hid (HE5.out.trans hE6)
  clear hI2 hrm2 hr2 hE6 HRp
  go_wp2_with fail
  refine HA2.out.mono ?_
  rintro e w7 ⟨v3, rs3, rfl, hI3, hrm3, hE7⟩
  have hr3 : rs3.length = 0 := by have := congrArg List.length hrm3; simpa using this
  obtain ⟨a3, c3, hv3, -, -⟩ := row_len hI3.1
  rw [hr3] at hv3
  subst hv3
  have HE7 := hid (H4.out.1.base.trans (HE6.out.trans hE7))
  clear hI3 hrm3 hr3 hE7 HA2
  go_wp2_with fail
  go_ret
  exact ⟨rfl, HE7.out⟩

end Go.Proofs.Ytaidgkdebocenaa
