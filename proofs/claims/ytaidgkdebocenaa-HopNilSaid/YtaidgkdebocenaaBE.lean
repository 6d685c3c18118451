/- Numbers as bytes, the highest first: their order, and back.
   No conditions but sizes. -/
import Derived.Test.YtaidgkdebocenaaMap
namespace Go.Proofs.Ytaidgkdebocenaa
open Go Go.RowKit

def be : Nat → Nat → BS
  | 0, _ => []
  | k + 1, n => UInt8.ofNat (n / 256 ^ k) :: be k n

def bev (xs : BS) : Nat := xs.foldl (fun x b => x * 256 + b.toNat) 0

theorem be_length (k n : Nat) : (be k n).length = k := by
  induction k with
  | zero => rfl
  | succ k ih => simp [be, ih]

theorem bev_acc (xs : BS) (a : Nat) : xs.foldl (fun x b => x * 256 + b.toNat) a = a * 256 ^ xs.length + bev xs := by
  unfold bev
  induction xs generalizing a with
  | nil => simp
  | cons x xs ih =>
    rw [List.foldl_cons, List.foldl_cons, ih, ih (0 * 256 + x.toNat), List.length_cons, Nat.pow_succ]
    rw [Nat.add_mul, Nat.zero_mul, Nat.zero_add, Nat.mul_assoc, Nat.mul_comm 256, Nat.add_assoc]
theorem bev_cons (x : UInt8) (xs : BS) : bev (x :: xs) = x.toNat * 256 ^ xs.length + bev xs := by
  have := bev_acc xs x.toNat
  rw [← this]
  simp [bev]
theorem bev_nil : bev [] = 0 := rfl
theorem bev_snoc (xs : BS) (x : UInt8) : bev (xs ++ [x]) = bev xs * 256 + x.toNat := by simp [bev]
theorem bev_lt (xs : BS) : bev xs < 256 ^ xs.length := by
  induction xs with
  | nil => simp [bev]
  | cons x xs ih =>
    rw [bev_cons, List.length_cons, Nat.pow_succ]
    have hx := x.toNat_lt
    have h1 : x.toNat * 256 ^ xs.length ≤ 255 * 256 ^ xs.length := Nat.mul_le_mul_right _ (by omega)
    omega
theorem bev_be (k n : Nat) : bev (be k n) = n % 256 ^ k := by
  induction k with
  | zero => simp [be, bev, Nat.mod_one]
  | succ k ih =>
    rw [be, bev_cons, be_length, ih, Nat.pow_succ, Nat.mod_mul]
    simp
    rw [Nat.mul_comm, Nat.add_comm]
theorem bev_be' {k n : Nat} (h : n < 256 ^ k) : bev (be k n) = n := by rw [bev_be, Nat.mod_eq_of_lt h]
theorem be_inj {k a b : Nat} (ha : a < 256 ^ k) (hb : b < 256 ^ k) (h : be k a = be k b) : a = b := by
  rw [← bev_be' ha, ← bev_be' hb, h]

theorem lt_be_mod (k a b : Nat) : lt (be k a) (be k b) = decide (a % 256 ^ k < b % 256 ^ k) := by
  induction k with
  | zero => simp [be, lt, Nat.mod_one]
  | succ k ih =>
    rw [be, be, lt, ih, Nat.pow_succ, Nat.mod_mul, Nat.mod_mul]
    have hk : 0 < 256 ^ k := Nat.pow_pos (by decide)
    have ha := Nat.mod_lt a hk
    have hb := Nat.mod_lt b hk
    have e1 : (UInt8.ofNat (a / 256 ^ k) = UInt8.ofNat (b / 256 ^ k)) ↔ a / 256 ^ k % 256 = b / 256 ^ k % 256 := by
      rw [← UInt8.toNat_inj]; simp
    have e2 : (UInt8.ofNat (a / 256 ^ k) < UInt8.ofNat (b / 256 ^ k)) ↔ a / 256 ^ k % 256 < b / 256 ^ k % 256 := by
      rw [UInt8.lt_iff_toNat_lt]; simp
    generalize a / 256 ^ k % 256 = x at *
    generalize b / 256 ^ k % 256 = y at *
    generalize a % 256 ^ k = u at *
    generalize b % 256 ^ k = v at *
    generalize 256 ^ k = p at *
    by_cases h : x = y
    · rw [if_pos (e1.2 h)]
      subst h
      simp
    · rw [if_neg fun c => h (e1.1 c)]
      rw [decide_eq_decide, e2]
      constructor
      · intro hxy
        have : p * (x + 1) ≤ p * y := Nat.mul_le_mul_left _ hxy
        rw [Nat.mul_add] at this
        omega
      · intro hh
        rcases Nat.lt_or_ge x y with c | c
        · exact c
        · have hlt : y < x := by omega
          have : p * (y + 1) ≤ p * x := Nat.mul_le_mul_left _ hlt
          rw [Nat.mul_add] at this
          omega
theorem lt_be {k a b : Nat} (ha : a < 256 ^ k) (hb : b < 256 ^ k) : lt (be k a) (be k b) = decide (a < b) := by
  rw [lt_be_mod, Nat.mod_eq_of_lt ha, Nat.mod_eq_of_lt hb]

theorem lt_append : ∀ (a b c d : BS), a.length = b.length → lt (a ++ c) (b ++ d) = if a = b then lt c d else lt a b
  | [], [], c, d, _ => by simp
  | x :: a, y :: b, c, d, h => by
    have ih := lt_append a b c d (by simpa using h)
    simp only [List.cons_append, lt]
    by_cases e : x = y
    · subst e
      simp only [if_true, ih, List.cons.injEq, true_and]
    · simp [e]

theorem pre_append (p x : BS) : pre p (p ++ x) = true := by simp [pre]
theorem pre_iff (p k : BS) : pre p k = true ↔ ∃ x, k = p ++ x := by
  constructor
  · intro h
    simp only [pre, Bool.and_eq_true, decide_eq_true_eq, beq_iff_eq] at h
    exact ⟨k.drop p.length, by conv => lhs; rw [← List.take_append_drop p.length k, h.2]⟩
  · rintro ⟨x, rfl⟩; exact pre_append p x

end Go.Proofs.Ytaidgkdebocenaa
