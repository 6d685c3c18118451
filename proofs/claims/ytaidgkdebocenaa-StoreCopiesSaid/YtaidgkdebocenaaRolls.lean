/- jointurelaw05.rolls: it answers true.
   No conditions. -/
import Derived.Test.YtaidgkdebocenaaLive
import Derived.Lib.SmallJoins
namespace Go.Proofs.Ytaidgkdebocenaa
open Go Go.RowKit

def bA : BS := [97]
def b1 : BS := [49]
def b2 : BS := [50]
def ra1 : AS := ⟨[(bA, b1)], [], []⟩
def ra2 : AS := ⟨[(bA, b1)], [], [0]⟩
def ra3 : AS := ⟨[(bA, b2)], [⟨bA, b1, true⟩], [0]⟩
def ra4 : AS := ⟨[(bA, b2)], [⟨bA, b1, true⟩], [0, 1]⟩
def ra5 : AS := ⟨[], [⟨bA, b1, true⟩, ⟨bA, b2, true⟩], [0, 1]⟩
def ra6 : AS := ⟨[], [⟨bA, b1, true⟩, ⟨bA, b2, true⟩], [0]⟩
theorem rs1 : doM ⟨[], [], []⟩ bA b1 true = ra1 := by rfl
theorem rs2 : beginM ra1 = ra2 := by rfl
theorem rs3 : doM ra2 bA b2 true = ra3 := by rfl
theorem rs4 : beginM ra3 = ra4 := by rfl
theorem rs5 : doM ra4 bA [] false = ra5 := by rfl
theorem rs6 : commitM ra5 = ra6 := by simp [commitM, endM, ra5, ra6]
theorem rs7 : rollM ra6 = ra1 := by rfl
theorem rs8 : rollM ra1 = ra1 := by rfl
theorem rfit {M : List KV} {log : List LU} {marks : List Nat} (h1 : M.length ≤ 1000000) (h2 : log.length ≤ 1000000) (h3 : marks.length ≤ 1000000) (h4 : ∀ p ∈ M, p.1.length ≤ 1000000 ∧ p.2.length ≤ 1000000) : Fit ⟨M, log, marks⟩ := Fit.of h1 h2 h3 h4
theorem rf0 : Fit ⟨[], [], []⟩ := Fit.of (by decide) (by decide) (by decide) (by decide)
theorem rf1 : Fit ra1 := Fit.of (by decide) (by decide) (by decide) (by decide)
theorem rf2 : Fit ra2 := Fit.of (by decide) (by decide) (by decide) (by decide)
theorem rf3 : Fit ra3 := Fit.of (by decide) (by decide) (by decide) (by decide)
theorem rf4 : Fit ra4 := Fit.of (by decide) (by decide) (by decide) (by decide)
theorem rf5 : Fit ra5 := Fit.of (by decide) (by decide) (by decide) (by decide)
theorem rf6 : Fit ra6 := Fit.of (by decide) (by decide) (by decide) (by decide)
theorem one_big (x : UInt8) : [x].length ≤ big := le_big (by simp)

theorem bvLit {w : World} {fr : Nat × Nat} {g : Nat} {i : Int} {x : UInt8} (hg : g = w.heap.size) (h : (x.toNat : Int) = i) : BV (w.alloc (.cells #[.int .u8 i] 5 fr)) (.slice (some ⟨g, 0, none⟩) 1 1) [x] := by
  subst h hg
  refine ⟨_, 1, rfl, fun h => by simp at h, Nat.le_refl _, by simp [maxLen], .inr ⟨w.heap.size, 0, rfl, fun i hi => ?_⟩⟩
  obtain rfl : i = 0 := by simp at hi; omega
  rw [cell_of_row _ _ _ _ _ _ (heap_alloc_new w _)]
  rfl
theorem convLit (w : World) (g : Nat) (hg : g = w.heap.size) (i : Int) : (Go.convert 33 33 (.slice (some ⟨g, 0, none⟩) 1 1)).run Try.prog (w.alloc (.cells #[.int .u8 i] 5)) = .ok (.slice (some ⟨g, 0, none⟩) 1 1) (w.alloc (.cells #[.int .u8 i] 5 (1, 2))) :=
  Go.Joins.run_convert_bytes_const_at w 33 5 #[.int .u8 i] 1 1 g hg Try.underlying33 Try.underlying5

theorem convStr {w : World} {a : Option Addr} {n c : Nat} {xs : BS} (h : BV w (.slice a n c) xs) (h0 : xs ≠ []) : (Go.convert 33 9 (.slice a n c)).run Try.prog w = .ok (.string ⟨xs.toArray⟩) w := by
  have hh := h
  obtain ⟨ao, cap, hv, h1, h2, h3, h4⟩ := h
  obtain ⟨rfl, rfl, rfl⟩ : a = ao ∧ n = xs.length ∧ c = cap := by simpa using hv
  rcases h4 with h4 | ⟨g, off, rfl, hc⟩
  · exact absurd h4 h0
  · refine run_convert_bytes_back w 33 9 5 ⟨g, off, none⟩ c xs Try.underlying33 Try.underlying5 Try.underlying9 fun j hj => ?_
    rw [Addr.add_plain, hc j hj]
    rfl

set_option maxRecDepth 100000 in
set_option maxHeartbeats 1000000 in
theorem rolls_c (w : World) : Calls Try.prog 25 #[] w fun e w' => e = .returned (.bool true) ∧ Ext w w' := by
  have HN := hid (lnew (Ext.refl w))
  go_enter Try.func25, Try.ntmps25
  go_wp2_with fail
  refine HN.out.mono ?_
  rintro e w1 ⟨b, rfl, h1⟩
  have H1 := hid h1
  have c1 := convLit w1 w1.heap.size rfl 97
  have c2 := convLit (w1.alloc (.cells #[.int .u8 97] 5 (1, 2))) (w1.heap.size + 1) (by simp) 49
  obtain ⟨W1, hW1⟩ : ∃ W1, W1 = (w1.alloc (.cells #[.int .u8 97] 5 (1, 2))).alloc (.cells #[.int .u8 49] 5 (1, 2)) := ⟨_, rfl⟩
  have hE1 : Ext w1 W1 := by rw [hW1]; exact ((Ext.refl w1).alloc _).alloc _
  have hkA : BV W1 (.slice (some ⟨w1.heap.size, 0, none⟩) 1 1) bA := by rw [hW1]; exact (bvLit rfl rfl).ext ((Ext.refl _).alloc _)
  have hv1 : BV W1 (.slice (some ⟨w1.heap.size + 1, 0, none⟩) 1 1) b1 := by rw [hW1]; exact bvLit (by simp) rfl
  have hs := lset (h1.ext hE1) hkA hv1 rf0 (one_big _) (one_big _)
  rw [rs1, hW1] at hs
  have HS := hid hs
  clear h1 HN hW1 hE1 hkA hv1 hs H1
  go_wp2_with fail
  refine HS.out.mono ?_
  rintro e w2 ⟨rfl, h2⟩
  have hs := lbegin h2 rf1
  rw [rs2] at hs
  have HS2 := hid hs
  clear h2 hs HS c1 c2
  go_wp2_with fail
  refine HS2.out.mono ?_
  rintro e w3 ⟨rfl, h3⟩
  have c1 := convLit w3 w3.heap.size rfl 97
  have c2 := convLit (w3.alloc (.cells #[.int .u8 97] 5 (1, 2))) (w3.heap.size + 1) (by simp) 50
  obtain ⟨W1, hW1⟩ : ∃ W1, W1 = (w3.alloc (.cells #[.int .u8 97] 5 (1, 2))).alloc (.cells #[.int .u8 50] 5 (1, 2)) := ⟨_, rfl⟩
  have hE1 : Ext w3 W1 := by rw [hW1]; exact ((Ext.refl w3).alloc _).alloc _
  have hkA : BV W1 (.slice (some ⟨w3.heap.size, 0, none⟩) 1 1) bA := by rw [hW1]; exact (bvLit rfl rfl).ext ((Ext.refl _).alloc _)
  have hv1 : BV W1 (.slice (some ⟨w3.heap.size + 1, 0, none⟩) 1 1) b2 := by rw [hW1]; exact bvLit (by simp) rfl
  have hs := lset (h3.ext hE1) hkA hv1 rf2 (one_big _) (one_big _)
  rw [rs3, hW1] at hs
  have HS := hid hs
  clear h3 hW1 hE1 hkA hv1 hs
  clear HS2
  go_wp2_with fail
  refine HS.out.mono ?_
  rintro e w4 ⟨rfl, h4⟩
  have hs := lbegin h4 rf3
  rw [rs4] at hs
  have HS4 := hid hs
  clear h4 hs HS c1 c2
  go_wp2_with fail
  refine HS4.out.mono ?_
  rintro e w5 ⟨rfl, h5⟩
  have c1 := convLit w5 w5.heap.size rfl 97
  have hs := ldelete (h5.ext ((Ext.refl w5).alloc (.cells #[.int .u8 97] 5 (1, 2)))) (bvLit (x := 97) rfl rfl) rf4 (one_big _)
  rw [show doM ra4 [97] [] false = ra5 from rs5] at hs
  have HS5 := hid hs
  clear h5 hs HS4
  go_wp2_with fail
  refine HS5.out.mono ?_
  rintro e w6 ⟨rfl, h6⟩
  have hs := lcommit h6 rf5
  rw [rs6] at hs
  have HS6 := hid hs
  clear h6 hs HS5 c1
  go_wp2_with fail
  refine HS6.out.mono ?_
  rintro e w7 ⟨rfl, h7⟩
  have hs := lrollback h7 rf6
  rw [rs7] at hs
  have HS7 := hid hs
  clear h7 hs HS6
  have hd1 : decide (ra5.marks = []) = false := by decide
  have hd2 : decide (ra6.marks = []) = false := by decide
  have hd3 : decide (ra1.marks = []) = true := by decide
  go_wp2_with fail
  refine HS7.out.mono ?_
  rintro e w8 ⟨rfl, h8⟩
  have hs := lrollback h8 rf1
  rw [rs8] at hs
  have HS8 := hid hs
  clear h8 hs HS7
  go_wp2_with fail
  refine HS8.out.mono ?_
  rintro e w9 ⟨rfl, h9⟩
  have c1 := convLit w9 w9.heap.size rfl 97
  have hE9 : Ext w9 (w9.alloc (.cells #[.int .u8 97] 5 (1, 2))) := (Ext.refl w9).alloc _
  have hs := lget (h9.ext hE9) (bvLit (x := 97) rfl rfl) rf1
  unfold GetPost at hs
  rw [show hasM ra1.M [97] = true from rfl, show getM ra1.M [97] = b1 from rfl] at hs
  have HS9 := hid hs
  have H9 := hid h9
  have HE9 := hid hE9
  clear h9 hs HS8 hE9
  go_wp2_with fail
  refine HS9.out.mono ?_
  rintro e w10 ⟨v, rfl, hv, hE10⟩
  have hE := HE9.out.trans hE10
  have hl := llen (H9.out.ext hE)
  rw [show (ra1.M.length : Int) = 1 from rfl] at hl
  have HL := hid hl
  have HEE := hid (H9.out.base.trans hE)
  obtain ⟨va, vcap, rfl⟩ := owns_slice hv
  have cs := convStr (OB.of_owns hv).bv (by decide)
  rw [show b1.length = 1 from rfl] at cs ⊢
  clear c1 hE10 hE hl hv HS9
  go_wp2_with fail
  refine HL.out.mono ?_
  rintro e w11 ⟨rfl, rfl⟩
  go_wp2_with fail
  go_ret
  exact ⟨rfl, HEE.out⟩

end Go.Proofs.Ytaidgkdebocenaa
