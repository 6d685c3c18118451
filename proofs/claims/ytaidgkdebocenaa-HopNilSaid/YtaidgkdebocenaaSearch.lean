/- The contract of sort.Search at a closure that only reads.
   Conditions: the closure answers false below r and true from r on; n is below 2^40. -/
import Derived.Test.YtaidgkdebocenaaR01
namespace Go.Proofs.Ytaidgkdebocenaa
open Go Go.RowKit

set_option maxRecDepth 100000 in
set_option maxHeartbeats 400000 in
theorem search_c {w : World} {n r : Nat} (c : Array Value) (hn : n ≤ big) (hr : r ≤ n)
    (hcall : ∀ i m : Nat, i < n → Calls Try.prog 151 (#[.int .i64 i] ++ c) (w.drewN m) (Quiet1 (.bool (decide (r ≤ i))) (w.drewN m))) :
    Calls Try.prog 150 #[.int .i64 n, .func (.func 151) #[] c] w (Quiet1 (.int .i64 r) w) := by
  have Hc := hid hcall
  clear hcall
  simp only [big_eq] at hn
  go_enter Try.func150, Try.ntmps150
  go_wp2
  go_loopw [5, 6] (fun i j wr => ∃ a b : Nat, a ≤ r ∧ r ≤ b ∧ b ≤ n ∧ i = .int .i64 a ∧ j = .int .i64 b ∧ ∃ m, wr = w.drewN m) (fun i j _ => (intOf j).toNat - (intOf i).toNat)
  case atStart => exact ⟨0, n, Nat.zero_le _, hr, Nat.le_refl _, rfl, rfl, 0, rfl⟩
  case round =>
    obtain ⟨i, j, h1, h2, h3, rfl, rfl, m, rfl⟩ := hrel
    by_cases hlt : i < j
    · have eh : ((i : Int) + (j : Int)) / 2 = (((i + j) / 2 : Nat) : Int) := by omega
      obtain ⟨h, hh⟩ : ∃ h, h = (i + j) / 2 := ⟨_, rfl⟩
      rw [← hh] at eh
      have EH := hid eh
      clear eh
      have b1 : i ≤ h := by omega
      have b2 : h < j := by omega
      clear hh
      go_wp2_with fail
      rw [EH.out]
      by_cases hd : r ≤ h
      · refine (Hc.out h m (by omega)).mono ?_
        rintro e w' ⟨rfl, m', rfl⟩
        have e1 : decide (r ≤ h) = true := by simpa using hd
        rw [e1]
        clear e1
        go_wp2
        go_roundw
        case rel => exact ⟨i, h, by omega, by omega, by omega, rfl, rfl, by first | exact ⟨_, rfl⟩ | (simp only [World.drewN_drewN]; exact ⟨_, rfl⟩)⟩
        case measure => simp [intOf]; omega
      · refine (Hc.out h m (by omega)).mono ?_
        rintro e w' ⟨rfl, m', rfl⟩
        have e1 : decide (r ≤ h) = false := by simpa using hd
        rw [e1]
        clear e1
        go_wp2
        go_roundw
        case rel => exact ⟨h + 1, j, by omega, by omega, by omega, by go_num, rfl, by first | exact ⟨_, rfl⟩ | (simp only [World.drewN_drewN]; exact ⟨_, rfl⟩)⟩
        case measure => simp [intOf]; omega
    · obtain rfl : i = r := by omega
      obtain rfl : j = i := by omega
      go_wp2
      go_ret
      exact ⟨rfl, _, rfl⟩

end Go.Proofs.Ytaidgkdebocenaa
