/- line.Add over a store of plain pairs.
   Conditions: at most 9000 pairs; a record of at most 1000 bytes; fewer than 2^62 were added. -/
import Derived.Test.YtaidgkdebocenaaLine
namespace Go.Proofs.Ytaidgkdebocenaa
open Go Go.RowKit

theorem cwLong_i {w0 w : World} {b : Nat} {xs : BS} {n : Nat} {m : Int} (hm : m = (n : Int)) (h : Wr w0 w b xs) (hn : n < 18446744073709551616) (hl : xs.length ≤ 500000) :
    Calls Try.prog 110 #[.pointer (some ⟨b, 0, none⟩), .int .u64 m] w fun e w' => e = .returned (.pointer (some ⟨b, 0, none⟩)) ∧ Wr w0 w' b (xs ++ be 8 n) := by
  rw [hm]; exact cwLong_c h hn hl
theorem lineKey_i {w : World} {κ : UInt8} {d n : Nat} {m : Int} (hm : m = (n : Int)) (hd : d < W64) (hn : n < W64) :
    Calls Try.prog 112 #[.int .u8 (κ.toNat : Int), .int .u64 (d : Int), .int .u64 m] w (KeyPost w (wkey κ d n)) := by
  rw [hm]; exact lineKey_c hd hn

def AddPost (w0 w : World) (b : Nat) (M : List KV) (κ : UInt8) (c due : Nat) (p : BS) (e : Ending) (w' : World) : Prop :=
  e = .returned (.int .u64 ((c + 1 : Nat) : Int)) ∧ St w0 w' b (addM M κ c due p) ∧ TK StT w w'

set_option maxRecDepth 100000 in
set_option maxHeartbeats 2000000 in
theorem lineAdd_c {w0 w : World} {b : Nat} {M : List KV} {κ : UInt8} {c due : Nat} {pv : Value} {p : BS} (h : St w0 w b M) (hm : M.length ≤ 9000) (hcn : look M (nkey κ) = cntB c) (hd : due < W64) (hc62 : c < 4611686018427387904) (hp : SB w0 w pv p) (hpl : p.length ≤ 1000) :
    Calls Try.prog 49 #[.pointer (some ⟨b, 0, none⟩), .int .u8 (κ.toNat : Int), .int .u64 (due : Int), pv] w (AddPost w0 w b M κ c due p) := by
  obtain ⟨pa, pc, rfl, -, -⟩ := (hp.bv h.base).val
  obtain ⟨W, hW⟩ : ∃ W, W = w.alloc (.cells #[.int .u8 110, .int .u8 (κ.toNat : Int)] 5) := ⟨_, rfl⟩
  have hE : Ext w W := by rw [hW]; exact (Ext.refl w).alloc _
  have hO : OB W (.slice (some ⟨w.heap.size, 0, none⟩) 2 2) (nkey κ) := by rw [hW]; exact lit2 w 110 κ
  have hS := h.ext hE
  have hg := hS.get (by omega) hO.bv
  rw [hcn] at hg
  unfold GotPost at hg
  have HG := hid hg
  have HS := hid (And.intro hS hO)
  have HP := hid (hp.next (TK.of_ext hE))
  have HE := hid hE
  have HW := hid hW
  obtain ⟨kn, hkn⟩ : ∃ kn, kn = κ.toNat := ⟨_, rfl⟩
  rw [← hkn] at HW ⊢
  have Hkn := hid hkn
  clear h hE hW hp hO hS hg hkn hcn
  by_cases hc0 : c = 0
  · subst hc0
    have hg := HG.out
    simp only [cntB, if_true, Option.isSome_none] at hg
    have HG2 := hid hg
    clear hg HG
    go_enter Try.func49, Try.ntmps49
    go_wp2_with fail
    rw [← HW.out]
    refine HG2.out.mono ?_
    rintro e w2 ⟨a2, c2, rfl, -, hE2⟩
    have HE2 := hid hE2
    clear hE2 HG2

    have hE2w : Ext w w2 := HE.out.trans HE2.out
    have hS3 := HS.out.1.ext HE2.out
    have hO3 := HS.out.2.ext HE2.out
    have hSB3 := HP.out.next (TK.of_ext HE2.out)
    have hwr := Wr.new (Ext.refl w2)
    have HC1 := hid (cwLong_i (n := 0 + 1) (m := 1) (by rfl) hwr (by omega) (by simp))
    have H3 := hid (And.intro hE2w (And.intro hS3 (And.intro hO3 hSB3)))
    clear hE2w hS3 hO3 hSB3 hwr 
    go_wp2_with fail
    refine HC1.out.mono ?_
    rintro e w4 ⟨rfl, h4⟩
    rw [List.nil_append] at h4
    have hE4 := h4.base
    have HC2 := hid (cwDone_c h4 (by simp [be_length]))
    have HE4 := hid hE4
    clear h4 hE4 HC1
    go_wp2_with fail
    refine HC2.out.mono ?_
    rintro e w5 ⟨a5, c5, rfl, h5, hE5⟩
    have hE35 := HE4.out.trans hE5
    have hset := (H3.out.2.1.ext hE35).set (by omega) (H3.out.2.2.1.ext hE35).bv (BV.of_owns h5) (by simp [nkey]) (by simp [be_length])
    have HSet := hid hset
    have H5 := hid hE35
    clear h5 hE5 hE35 hset HC2 HE4
    go_wp2_with fail
    refine HSet.out.mono ?_
    rintro e w6 ⟨rfl, hS6, hT6⟩
    have hT36 : TK StT w2 w6 := (TK.of_ext H5.out).trans hT6
    have hkey := lineKey_i (w := w6) (κ := κ) (d := due) (n := 0 + 1) (m := 1) (by rfl) hd (by unfold W64; omega)
    rw [← Hkn.out] at hkey
    have HKey := hid hkey
    have H6 := hid (And.intro hS6 hT36)
    clear hS6 hT6 hT36 hkey HSet
    go_wp2_with fail
    refine HKey.out.mono ?_
    rintro e w7 ⟨a7, c7, rfl, h7, hE7⟩
    have hS7 := H6.out.1.ext hE7
    have hl1 := putM_length M (nkey κ) (be 8 (0 + 1)) true
    have hset2 := hS7.set (by omega) (BV.of_owns h7) ((H3.out.2.2.2.next (H6.out.2.ext hE7)).bv hS7.base) (by rw [wkey_length]; omega) hpl
    have HSet2 := hid hset2
    have HT7 := hid (TK.trans (TK.of_ext H3.out.1) (H6.out.2.ext hE7))
    clear hS7 hl1 hset2 h7 hE7 HKey
    go_wp2_with fail
    refine HSet2.out.mono ?_
    rintro e w8 ⟨rfl, hS8, hT8⟩
    have H8 := hid (And.intro hS8 (TK.trans HT7.out hT8))
    clear hS8 hT8 HSet2
    go_wp2_with fail
    go_ret
    exact ⟨ret_int (by rfl), H8.out.1, H8.out.2⟩
  · have hg := HG.out
    simp only [cntB, if_neg hc0, Option.isSome_some, Option.getD_some] at hg
    have HG2 := hid hg
    clear hg HG
    have hci : (c : Int) + 1 ≤ 4611686018427387904 := by omega
    go_enter Try.func49, Try.ntmps49
    go_wp2_with fail
    rw [← HW.out]
    refine HG2.out.mono ?_
    rintro e w2 ⟨a2, c2, rfl, ho2, hE2⟩
    have hr := cRead_c (BV.of_owns ho2) (le_big (by rw [be_length]; omega))
    have HR := hid hr
    have HE2 := hid hE2
    clear hE2 ho2 hr HG2
    go_wp2_with fail
    refine HR.out.mono ?_
    rintro e wr ⟨rb, rfl, hrd, hEr, hrb⟩
    have hl := crLong_c hrd (by rw [be_length]; omega)
    rw [List.take_of_length_le (by rw [be_length]; omega), bev_be' (by omega)] at hl
    have HL := hid hl
    have HEr := hid (And.intro hEr hrb)
    clear hrd hEr hrb hl HR
    go_wp2_with fail
    refine HL.out.mono ?_
    rintro e w3 ⟨rfl, -, hK3⟩
    have hE3 : Ext w2 w3 := HEr.out.1.trans' hK3 fun k hk e => by have := HEr.out.2; omega
    have HE3 := hid (HE2.out.trans hE3)
    clear hK3 hE3 HL

    have hE2w : Ext w w3 := HE.out.trans HE3.out
    have hS3 := HS.out.1.ext HE3.out
    have hO3 := HS.out.2.ext HE3.out
    have hSB3 := HP.out.next (TK.of_ext HE3.out)
    have hwr := Wr.new (Ext.refl w3)
    have HC1 := hid (cwLong_i (n := c + 1) (m := (c : Int) + 1) (by omega) hwr (by omega) (by simp))
    have H3 := hid (And.intro hE2w (And.intro hS3 (And.intro hO3 hSB3)))
    clear hE2w hS3 hO3 hSB3 hwr 
    go_wp2_with fail
    refine HC1.out.mono ?_
    rintro e w4 ⟨rfl, h4⟩
    rw [List.nil_append] at h4
    have hE4 := h4.base
    have HC2 := hid (cwDone_c h4 (by simp [be_length]))
    have HE4 := hid hE4
    clear h4 hE4 HC1
    go_wp2_with fail
    refine HC2.out.mono ?_
    rintro e w5 ⟨a5, c5, rfl, h5, hE5⟩
    have hE35 := HE4.out.trans hE5
    have hset := (H3.out.2.1.ext hE35).set (by omega) (H3.out.2.2.1.ext hE35).bv (BV.of_owns h5) (by simp [nkey]) (by simp [be_length])
    have HSet := hid hset
    have H5 := hid hE35
    clear h5 hE5 hE35 hset HC2 HE4
    go_wp2_with fail
    refine HSet.out.mono ?_
    rintro e w6 ⟨rfl, hS6, hT6⟩
    have hT36 : TK StT w3 w6 := (TK.of_ext H5.out).trans hT6
    have hkey := lineKey_i (w := w6) (κ := κ) (d := due) (n := c + 1) (m := (c : Int) + 1) (by omega) hd (by unfold W64; omega)
    rw [← Hkn.out] at hkey
    have HKey := hid hkey
    have H6 := hid (And.intro hS6 hT36)
    clear hS6 hT6 hT36 hkey HSet
    go_wp2_with fail
    refine HKey.out.mono ?_
    rintro e w7 ⟨a7, c7, rfl, h7, hE7⟩
    have hS7 := H6.out.1.ext hE7
    have hl1 := putM_length M (nkey κ) (be 8 (c + 1)) true
    have hset2 := hS7.set (by omega) (BV.of_owns h7) ((H3.out.2.2.2.next (H6.out.2.ext hE7)).bv hS7.base) (by rw [wkey_length]; omega) hpl
    have HSet2 := hid hset2
    have HT7 := hid (TK.trans (TK.of_ext H3.out.1) (H6.out.2.ext hE7))
    clear hS7 hl1 hset2 h7 hE7 HKey
    go_wp2_with fail
    refine HSet2.out.mono ?_
    rintro e w8 ⟨rfl, hS8, hT8⟩
    have H8 := hid (And.intro hS8 (TK.trans HT7.out hT8))
    clear hS8 hT8 HSet2
    go_wp2_with fail
    go_ret
    exact ⟨ret_int (by omega), H8.out.1, H8.out.2⟩

end Go.Proofs.Ytaidgkdebocenaa
