/- codec.Reader: number, Byte, Long, Short, where there are as many bytes.
   Conditions: the reader is at no fault; as many bytes are left as are asked for, at most eight. -/
import Derived.Test.YtaidgkdebocenaaReader
namespace Go.Proofs.Ytaidgkdebocenaa
open Go Go.RowKit

theorem bits_or (k x y : Nat) (hy : y < 2 ^ k) (hx : 2 ^ k * x + y < 18446744073709551616) : bits BinOp.or IntKind.u64 ((2 ^ k * x : Nat) : Int) (y : Int) = ((2 ^ k * x + y : Nat) : Int) := by
  have h1 : IntKind.u64.bits = 64 := rfl
  unfold bits IntKind.wrap
  simp only [h1, BitVec.ofInt_natCast, BitVec.toNat_or, BitVec.toNat_ofNat]
  rw [Nat.mod_eq_of_lt (by omega : 2 ^ k * x < 2 ^ 64), Nat.mod_eq_of_lt (by omega : y < 2 ^ 64), ← Nat.two_pow_add_eq_or_of_lt hy]
  have h2 : IntKind.u64.signed = false := rfl
  rw [h2]
  simp only [Bool.false_and, Bool.false_eq_true, if_false]
  omega

theorem or_byte (x y : Nat) (hy : y < 256) (hx : x < 256 ^ 7) : bits BinOp.or IntKind.u64 (IntKind.u64.wrap ((x : Int) * 256)) (y : Int) = ((x * 256 + y : Nat) : Int) := by
  have h := bits_or 8 x y (by omega) (by omega)
  have h1 : IntKind.u64.wrap ((x : Int) * 256) = ((2 ^ 8 * x : Nat) : Int) := by
    unfold IntKind.wrap
    have e1 : IntKind.u64.bits = 64 := rfl
    have e2 : IntKind.u64.signed = false := rfl
    rw [e1, e2]
    simp only [Bool.false_and, Bool.false_eq_true, if_false]
    omega
  rw [h1, h]
  congr 1; omega

def RNumPost (w : World) (b n : Nat) (xs : BS) (e : Ending) (w' : World) : Prop :=
  e = .returned (.int .u64 (bev (xs.take n) : Nat)) ∧ Rd w' b (xs.drop n) ∧ Keeps (fun k => k = b) w w'

set_option maxRecDepth 100000 in
set_option maxHeartbeats 1000000 in
theorem crnumber_c {w : World} {b n : Nat} {xs : BS} (h : Rd w b xs) (hn : n ≤ xs.length) (h8 : n ≤ 8) :
    Calls Try.prog 155 #[.pointer (some ⟨b, 0, none⟩), .int .i64 (n : Int)] w (RNumPost w b n xs) := by
  have HT := hid (crtake_c h hn)
  clear h
  go_enter Try.func155, Try.ntmps155
  go_wp2_with fail
  refine HT.out.mono ?_
  rintro e w1 ⟨a, c, rfl, hbv, hR, hK, -⟩
  obtain ⟨ys, hys⟩ : ∃ ys, ys = xs.take n := ⟨_, rfl⟩
  have hyl : ys.length = n := by rw [hys, List.length_take]; omega
  rw [← hys] at hbv
  have HB := hid hbv
  have HR := hid (And.intro hR (And.intro hK (And.intro hys hyl)))
  clear hbv hR hK hys hyl HT
  go_wp2_with fail
  go_loopw [5, 12] (fun x i wr => ∃ k : Nat, k ≤ n ∧ i = .int .i64 k ∧ x = .int .u64 (bev (ys.take k) : Nat) ∧ w1 = wr) (fun _ i _ => n - (intOf i).toNat)
  case atStart => exact ⟨0, Nat.zero_le _, rfl, rfl, rfl⟩
  case round =>
    obtain ⟨k, hk, rfl, rfl, rfl⟩ := hrel
    by_cases hlt : k < n
    · have hki : (k : Int) < (n : Int) := by omega
      have hky : k < ys.length := by rw [HR.out.2.2.2]; exact hlt
      obtain ⟨ao, cap, hv, -, hnc, hcm, h4⟩ := HB.out
      cases hv
      rcases h4 with h4 | ⟨g, off, rfl, hc⟩
      · rw [h4] at hky; simp at hky
      · have c0 := hc k hky
        unfold bval at c0
        unfold maxLen at hcm
        have hlt2 := bev_lt (ys.take k)
        obtain ⟨x, hx⟩ : ∃ x, x = bev (ys.take k) := ⟨_, rfl⟩
        obtain ⟨y, hy⟩ : ∃ y, y = (ys[k]).toNat := ⟨_, rfl⟩
        have hyb : y < 256 := by rw [hy]; exact (ys[k]).toNat_lt
        rw [← hy] at c0
        rw [← hx] at hlt2 ⊢
        have hx7 : x < 256 ^ 7 := Nat.lt_of_lt_of_le hlt2 (Nat.pow_le_pow_right (by decide) (by rw [List.length_take]; omega))
        have hor := hid (or_byte x y hyb hx7)
        have Hxy := hid (And.intro hx hy)
        clear hc hx hy hlt2 hx7
        go_wp2_with fail
        refine ⟨⟨k + 1, hlt, by go_num, ?_, trivial⟩, by simp [intOf]; omega⟩
        rw [hor.out, List.take_succ_eq_append_getElem hky, bev_snoc, ← Hxy.out.1, ← Hxy.out.2]
    · obtain rfl : k = n := by omega
      go_wp2_with fail
      go_ret
      refine ⟨?_, HR.out.1, HR.out.2.1⟩
      have := HR.out.2.2.2
      rw [List.take_of_length_le (by omega), HR.out.2.2.1]
      rfl

set_option maxRecDepth 100000 in
theorem crByte_c {w : World} {b : Nat} {x : UInt8} {xs : BS} (h : Rd w b (x :: xs)) :
    Calls Try.prog 160 #[.pointer (some ⟨b, 0, none⟩)] w fun e w' => e = .returned (.int .u8 (x.toNat : Int)) ∧ Rd w' b xs ∧ Keeps (fun k => k = b) w w' := by
  have hC := crnumber_c (n := 1) h (by simp) (by decide)
  have HC := hid hC
  have hx := x.toNat_lt
  clear h hC
  go_enter Try.func160, Try.ntmps160
  go_wp2_with fail
  refine HC.out.mono ?_
  rintro e w1 ⟨rfl, hR, hK⟩
  have e1 : bev (List.take 1 (x :: xs)) = x.toNat := by simp [bev]
  have HR := hid (And.intro hR hK)
  rw [e1]
  obtain ⟨y, hy⟩ : ∃ y, y = x.toNat := ⟨_, rfl⟩
  rw [← hy] at hx ⊢
  have Hy := hid hy
  clear hR hK e1 HC hy
  go_wp2_with fail
  go_ret
  exact ⟨by rw [← Hy.out]; first | rfl | (simp; omega), HR.out.1, HR.out.2⟩

set_option maxRecDepth 100000 in
theorem crLong_c {w : World} {b : Nat} {xs : BS} (h : Rd w b xs) (hl : 8 ≤ xs.length) :
    Calls Try.prog 109 #[.pointer (some ⟨b, 0, none⟩)] w fun e w' => e = .returned (.int .u64 (bev (xs.take 8) : Nat)) ∧ Rd w' b (xs.drop 8) ∧ Keeps (fun k => k = b) w w' := by
  have HC := hid (crnumber_c (n := 8) h hl (by decide))
  clear h
  go_enter Try.func109, Try.ntmps109
  go_wp2_with fail
  refine HC.out.mono ?_
  rintro e w1 ⟨rfl, hR, hK⟩
  have HR := hid (And.intro hR hK)
  clear hR hK HC
  go_wp2_with fail
  go_ret
  exact ⟨rfl, HR.out.1, HR.out.2⟩

end Go.Proofs.Ytaidgkdebocenaa
