/- line.key, Add, Set, Remove over a store of plain pairs.
   Conditions: at most 9000 pairs; a record of at most 1000 bytes. -/
import Derived.Test.YtaidgkdebocenaaLineP
namespace Go.Proofs.Ytaidgkdebocenaa
open Go Go.RowKit

def KeyPost (w : World) (k : BS) (e : Ending) (w' : World) : Prop :=
  ∃ a c, e = .returned (.slice a k.length c) ∧ w'.ownsRow w.heap.size 5 1 (.slice a k.length c) k.length (bcells k) ∧ Ext w w'

set_option maxRecDepth 100000 in
set_option maxHeartbeats 1000000 in
theorem lineKey_c {w : World} {κ : UInt8} {d n : Nat} (hd : d < W64) (hn : n < W64) :
    Calls Try.prog 112 #[.int .u8 (κ.toNat : Int), .int .u64 (d : Int), .int .u64 (n : Int)] w (KeyPost w (wkey κ d n)) := by
  obtain ⟨W, hW⟩ : ∃ W, W = w.alloc (.cells #[.slice none 0 0] 174) := ⟨_, rfl⟩
  have h0 := Wr.new (Ext.refl w)
  rw [← hW] at h0
  have HC := hid (cwByte_c (119 : UInt8) rfl h0 (by simp))
  obtain ⟨kn, hkn⟩ : ∃ kn, kn = κ.toNat := ⟨_, rfl⟩
  rw [← hkn]
  have Hkn := hid hkn
  have HW := hid hW
  clear h0 hW hkn
  go_enter Try.func112, Try.ntmps112
  go_wp2_with fail
  rw [← HW.out]
  refine HC.out.mono ?_
  rintro e w1 ⟨rfl, h1⟩
  have HC2 := hid (cwByte_c κ (m := (kn : Int)) (by rw [Hkn.out]) h1 (by simp))
  clear h1 HC
  go_wp2_with fail
  refine HC2.out.mono ?_
  rintro e w2 ⟨rfl, h2⟩
  have HC3 := hid (cwLong_c h2 hd (by simp))
  clear h2 HC2
  go_wp2_with fail
  refine HC3.out.mono ?_
  rintro e w3 ⟨rfl, h3⟩
  have HC4 := hid (cwLong_c h3 hn (by simp [be_length]))
  clear h3 HC3
  go_wp2_with fail
  refine HC4.out.mono ?_
  rintro e w4 ⟨rfl, h4⟩
  have hx : ([] ++ [(119 : UInt8)] ++ [κ] ++ be 8 d ++ be 8 n) = wkey κ d n := by simp [wkey]
  rw [hx] at h4
  have HE := hid h4.base
  have HC5 := hid (cwDone_c h4 (by rw [wkey_length]; omega))
  clear h4 HC4 hx
  go_wp2_with fail
  refine HC5.out.mono ?_
  rintro e w5 ⟨a, c, rfl, h5, hE5⟩
  have H5 := hid (And.intro h5 hE5)
  clear h5 hE5 HC5
  go_wp2_with fail
  go_ret
  exact ⟨a, c, rfl, owns_base H5.out.1 HE.out.size, HE.out.trans H5.out.2⟩

/-- A row of two bytes written in the text of the program. -/
theorem lit2 (w : World) (x y : UInt8) : OB (w.alloc (.cells #[bval x, bval y] 5)) (.slice (some ⟨w.heap.size, 0, none⟩) 2 2) [x, y] := by
  have := ownsRow_of_whole (w := w.alloc (.cells #[bval x, bval y] 5)) (base := 0) (size := 1) (g := w.heap.size) (n := 2) (cap := 2) (ys := [bval x, bval y]) (e := 5) (heap_alloc_new w _) rfl (Nat.le_refl _) (by simp [maxLen]) (Nat.zero_le _)
  exact this

set_option maxRecDepth 100000 in
set_option maxHeartbeats 1000000 in
theorem lineRemove_c {w0 w : World} {b : Nat} {M : List KV} {κ : UInt8} {d n : Nat} (h : St w0 w b M) (hm : M.length ≤ 9000) (hd : d < W64) (hn : n < W64) :
    Calls Try.prog 51 #[.pointer (some ⟨b, 0, none⟩), .int .u8 (κ.toNat : Int), .int .u64 (d : Int), .int .u64 (n : Int)] w fun e w' =>
      e = .returned (.bool (look M (wkey κ d n)).isSome) ∧ St w0 w' b (delLM M κ d n) ∧ TK StT w w' := by
  have HK := hid (lineKey_c (w := w) (κ := κ) hd hn)
  have H := hid h
  have hkl := wkey_length κ d n
  unfold delLM
  obtain ⟨k, hk⟩ : ∃ k, k = wkey κ d n := ⟨_, rfl⟩
  rw [← hk] at HK hkl ⊢
  have Hkl := hid hkl
  obtain ⟨x, hx⟩ : ∃ x, x = look M k := ⟨_, rfl⟩
  rw [← hx]
  have Hx := hid hx
  clear h hk hkl hx
  go_enter Try.func51, Try.ntmps51
  go_wp2_with fail
  refine HK.out.mono ?_
  rintro e w1 ⟨a, c, rfl, h1, hE1⟩
  have hS1 := H.out.ext hE1
  have hb1 := BV.of_owns h1
  have hg := hS1.get (by omega) hb1
  unfold GotPost at hg
  rw [← Hx.out] at hg
  have HG := hid hg
  have HS1 := hid (And.intro hS1 (And.intro (OB.of_owns h1) hE1))
  clear hS1 hb1 hg h1 hE1 HK
  go_wp2_with fail
  refine HG.out.mono ?_
  rintro e w2 ⟨a2, c2, rfl, -, hE2⟩
  have HD := hid ((HS1.out.1.ext hE2).delete (by omega) (HS1.out.2.1.ext hE2).bv (by have := Hkl.out; omega))
  have HE2 := hid (HS1.out.2.2.trans hE2)
  clear hE2 HG
  go_wp2_with fail
  refine HD.out.mono ?_
  rintro e w3 ⟨rfl, hS3, hT3⟩
  have H3 := hid (And.intro hS3 hT3)
  clear hS3 hT3 HD
  go_wp2_with fail
  go_ret
  exact ⟨rfl, H3.out.1, (TK.of_ext HE2.out).trans H3.out.2⟩

set_option maxRecDepth 100000 in
set_option maxHeartbeats 1000000 in
theorem lineSet_c {w0 w : World} {b : Nat} {M : List KV} {κ : UInt8} {d n : Nat} {pv : Value} {p : BS} (h : St w0 w b M) (hm : M.length ≤ 9000) (hd : d < W64) (hn : n < W64) (hp : SB w0 w pv p) (hpl : p.length ≤ 1000) :
    Calls Try.prog 58 #[.pointer (some ⟨b, 0, none⟩), .int .u8 (κ.toNat : Int), .agg #[.int .u64 (d : Int), .int .u64 (n : Int), pv]] w fun e w' =>
      e = .returned (.bool (look M (wkey κ d n)).isSome) ∧ St w0 w' b (setLM M κ d n p) ∧ TK StT w w' := by
  obtain ⟨pa, pc, rfl, -, -⟩ := (hp.bv h.base).val
  obtain ⟨W, hW⟩ : ∃ W, W = w.alloc (.cells #[.int .u64 (d : Int), .int .u64 (n : Int), .slice pa p.length pc] 61) := ⟨_, rfl⟩
  have hE : Ext w W := by rw [hW]; exact (Ext.refl w).alloc _
  have HK := hid (lineKey_c (w := W) (κ := κ) hd hn)
  have H := hid (h.ext hE)
  have hkl := wkey_length κ d n
  have c2 : W.cell? ⟨w.heap.size, 2, none⟩ = some (.slice pa p.length pc) := by rw [hW]; simp
  have HP := hid (hp.next (TK.of_ext hE))
  have HE := hid hE
  have HW := hid hW
  unfold setLM
  obtain ⟨k, hk⟩ : ∃ k, k = wkey κ d n := ⟨_, rfl⟩
  rw [← hk] at HK hkl ⊢
  have Hkl := hid hkl
  obtain ⟨x, hx⟩ : ∃ x, x = look M k := ⟨_, rfl⟩
  rw [← hx]
  have Hx := hid hx
  clear h hk hkl hE hW hp hx
  go_enter Try.func58, Try.ntmps58
  go_wp2_with fail
  rw [← HW.out]
  refine HK.out.mono ?_
  rintro e w1 ⟨a, c, rfl, h1, hE1⟩
  have hS1 := H.out.ext hE1
  have hb1 := BV.of_owns h1
  have hg := hS1.get (by omega) hb1
  unfold GotPost at hg
  have c21 := hE1.cell c2
  have HS1 := hid (And.intro hS1 (And.intro (OB.of_owns h1) hE1))
  rw [← Hx.out] at hg
  have HG := hid hg
  clear hS1 hb1 hg h1 hE1 HK c2
  cases x with
  | none =>
    have hg := HG.out
    simp only [Option.isSome_none] at hg
    have HG2 := hid hg
    clear hg HG
    go_wp2_with fail
    refine HG2.out.mono ?_
    rintro e w2 ⟨a2, c2, rfl, -, hE2⟩
    have HE2 := hid hE2
    clear hE2 HG2
    go_wp2_with fail
    go_ret
    exact ⟨rfl, HS1.out.1.ext HE2.out, TK.of_ext ((HE.out.trans HS1.out.2.2).trans HE2.out)⟩
  | some y =>
    have hg := HG.out
    simp only [Option.isSome_some, Option.getD_some] at hg
    have HG2 := hid hg
    clear hg HG
    go_wp2_with fail
    refine HG2.out.mono ?_
    rintro e w2 ⟨a2, c2, rfl, -, hE2⟩
    have c22 := hE2.cell c21
    have hE02 : Ext w w2 := (HE.out.trans HS1.out.2.2).trans hE2
    have hS2 := HS1.out.1.ext hE2
    have HD := hid (hS2.set (by omega) (HS1.out.2.1.ext hE2).bv ((HP.out.next (TK.of_ext (HS1.out.2.2.trans hE2))).bv hS2.base) (by have := Hkl.out; omega) hpl)
    have HE2 := hid hE02
    clear hE2 HG2 c21 hE02 hS2
    go_wp2_with fail
    refine HD.out.mono ?_
    rintro e w3 ⟨rfl, hS3, hT3⟩
    have H3 := hid (And.intro hS3 hT3)
    clear hS3 hT3 HD
    go_wp2_with fail
    go_ret
    exact ⟨rfl, H3.out.1, (TK.of_ext HE2.out).trans H3.out.2⟩

end Go.Proofs.Ytaidgkdebocenaa
