/- codec.Writer: number, Byte, Long, Short, Done.
   Conditions: at most half a million bytes. -/
import Derived.Test.YtaidgkdebocenaaWriter
namespace Go.Proofs.Ytaidgkdebocenaa
open Go Go.RowKit

theorem u8_ofNat (n : Nat) : ((UInt8.ofNat n).toNat : Int) = (n : Int) % 256 := by simp

/-- A byte in a row of its own. -/
theorem litB (w : World) (n : Nat) : BV (w.alloc (.cells #[.int .u8 ((n : Int) % 256)] 5)) (.slice (some ⟨w.heap.size, 0, none⟩) 1 1) [UInt8.ofNat n] := by
  have := lit1 w (UInt8.ofNat n)
  rwa [bval, u8_ofNat] at this

theorem sh_eq (n j : Nat) : ((n / 256 ^ j : Nat) : Int) = (n : Int) / 2 ^ (8 * j) := by
  rw [Nat.pow_mul 2 8 j |>.symm ▸ rfl |> fun (h : (256 : Nat) ^ j = 2 ^ (8 * j)) => h]
  simp

def NumAt (w0 w : World) (b : Nat) (xs : BS) (n size : Nat) (i : Value) : Prop :=
  ∃ pre k, pre ++ be k n = be size n ∧ Wr w0 w b (xs ++ pre) ∧ k ≤ size ∧ i = .int .i64 ((k : Int) - 1)

set_option maxRecDepth 100000 in
set_option maxHeartbeats 400000 in
theorem cwnumber_c {w0 w : World} {b : Nat} {xs : BS} {n size : Nat} (h : Wr w0 w b xs) (hn : n < 18446744073709551616) (hs : size ≤ 8) (hs0 : 0 < size) (hl : xs.length ≤ 500000) :
    Calls Try.prog 156 #[.pointer (some ⟨b, 0, none⟩), .int .u64 (n : Int), .int .i64 (size : Int)] w fun e w' => e = .returned (.pointer (some ⟨b, 0, none⟩)) ∧ Wr w0 w' b (xs ++ be size n) := by
  have H := hid h
  clear h
  go_enter Try.func156, Try.ntmps156
  go_wp2_with fail
  go_loopw [0, 7] (fun p i wr => p = .pointer (some ⟨b, 0, none⟩) ∧ NumAt w0 wr b xs n size i) (fun _ i _ => (intOf i + 1).toNat)
  case atStart => exact ⟨rfl, [], size, rfl, by simpa using H.out, Nat.le_refl _, rfl⟩
  case round =>
    obtain ⟨rfl, pre, k, hpre, hW, hk, rfl⟩ := hrel
    have hpl : pre.length + k = size := by
      have := congrArg List.length hpre
      simpa [be_length] using this
    cases k with
    | zero =>
      rw [show (((0 : Nat) : Int) - 1) = -1 from rfl]
      have HW := hid hW
      have HP := hid hpre
      clear hW hpre
      go_wp2_with fail
      go_ret
      refine ⟨rfl, ?_⟩
      have := HP.out
      rw [be, List.append_nil] at this
      rw [← this]; exact HW.out
    | succ j =>
      rw [show (((j + 1 : Nat) : Int) - 1) = (j : Int) from by omega]
      have hC := cwlay_c (hW.ext ((Ext.refl wr).alloc (.cells #[.int .u8 (((n / 256 ^ j : Nat) : Int) % 256)] 5))) (litB wr (n / 256 ^ j)) (by simp; omega)
      rw [sh_eq] at hC
      have HC := hid hC
      have HP := hid hpre
      clear hW hpre hC
      go_wp2_with fail
      refine HC.out.mono ?_
      rintro e w1 ⟨rfl, hW1⟩
      have HW1 := hid hW1
      clear hW1 HC
      go_wp2_with fail
      refine ⟨⟨rfl, pre ++ [UInt8.ofNat (n / 256 ^ j)], j, by rw [← HP.out, be]; simp, by rw [← List.append_assoc]; exact HW1.out, by omega, rfl⟩, by simp [intOf]⟩

set_option maxRecDepth 100000 in
theorem cwByte_c {w0 w : World} {b : Nat} {xs : BS} {m : Int} (x : UInt8) (hx : m = (x.toNat : Int)) (h : Wr w0 w b xs) (hl : xs.length ≤ 500000) :
    Calls Try.prog 157 #[.pointer (some ⟨b, 0, none⟩), .int .u8 m] w fun e w' => e = .returned (.pointer (some ⟨b, 0, none⟩)) ∧ Wr w0 w' b (xs ++ [x]) := by
  have hC := cwlay_c (h.ext ((Ext.refl w).alloc (.cells #[.int .u8 m] 5))) (by rw [hx]; exact lit1 w x) (by simp; omega)
  have HC := hid hC
  clear hC hx h
  go_enter Try.func157, Try.ntmps157
  go_wp2_with fail
  refine HC.out.mono ?_
  rintro e w1 ⟨rfl, hW1⟩
  have HW1 := hid hW1
  clear hW1 HC
  go_wp2_with fail
  go_ret
  exact ⟨rfl, HW1.out⟩

set_option maxRecDepth 100000 in
theorem cwLong_c {w0 w : World} {b : Nat} {xs : BS} {n : Nat} (h : Wr w0 w b xs) (hn : n < 18446744073709551616) (hl : xs.length ≤ 500000) :
    Calls Try.prog 110 #[.pointer (some ⟨b, 0, none⟩), .int .u64 (n : Int)] w fun e w' => e = .returned (.pointer (some ⟨b, 0, none⟩)) ∧ Wr w0 w' b (xs ++ be 8 n) := by
  have HC := hid (cwnumber_c (size := 8) h hn (by omega) (by omega) hl)
  clear h hn
  go_enter Try.func110, Try.ntmps110
  go_wp2_with fail
  refine HC.out.mono ?_
  rintro e w1 ⟨rfl, hW1⟩
  have HW1 := hid hW1
  clear hW1 HC
  go_wp2_with fail
  go_ret
  exact ⟨rfl, HW1.out⟩

set_option maxRecDepth 100000 in
theorem cwDone_c {w0 w : World} {b : Nat} {xs : BS} (h : Wr w0 w b xs) (hl : xs.length ≤ 1000000) :
    Calls Try.prog 111 #[.pointer (some ⟨b, 0, none⟩)] w fun e w' => ∃ a c, e = .returned (.slice a xs.length c) ∧ w'.ownsRow w.heap.size 5 1 (.slice a xs.length c) xs.length (bcells xs) ∧ Ext w w' := by
  obtain ⟨a, c, h1, h2, h3, h4⟩ := h
  have c0 : w.cell? ⟨b, 0, none⟩ = some (.slice a xs.length c) := by rw [cell_of_row w b 0 _ _ _ h1]; rfl
  have HC := hid (cloneB_c (BV.of_owns h2) (le_big hl))
  clear h1 h2 h3 h4
  go_enter Try.func111, Try.ntmps111
  go_wp2_with fail
  refine HC.out.mono ?_
  rintro e w1 ⟨v', rfl, ho, hE⟩
  obtain ⟨a', c', rfl⟩ := owns_slice ho
  have HO := hid (And.intro ho hE)
  clear ho hE HC
  go_wp2_with fail
  go_ret
  exact ⟨a', c', rfl, HO.out.1, HO.out.2⟩

end Go.Proofs.Ytaidgkdebocenaa
