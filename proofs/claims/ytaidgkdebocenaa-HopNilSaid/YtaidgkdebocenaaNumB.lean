/- A number and its bytes: plain.
   Conditions: numbers of 256 bits. · num.Read of no bytes, and of any number's bytes.
   Conditions: at most 32 bytes, the first one not 0. · num.Bytes: a number's bytes, the highest first, no 0 ahead.
   Conditions: 256 bits. · A number's record: its length, its bytes.
   Conditions: 256 bits. · codec.Reader.Long of a number laid.
   Conditions: 64 bits. · == of two numbers, which are arrays.
   No conditions. -/
import Derived.Test.YtaidgkdebocenaaNumA
import Derived.Test.YtaidgkdebocenaaSlots
import Derived.Test.YtaidgkdebocenaaWriter2
import Derived.Deep.RegionHeld3

namespace Go.Proofs.Ytaidgkdebocenaa
open Go Go.RowKit

theorem two64 (m : Nat) : 256 ^ m = 18446744073709551616 ^ (m / 8) * 256 ^ (m % 8) := by
  have h : (18446744073709551616 : Nat) = 256 ^ 8 := by decide
  rw [h, ← Nat.pow_mul, ← Nat.pow_add, Nat.div_add_mod]

theorem limb_lt (n j : Nat) : limb n j < 18446744073709551616 := Nat.mod_lt _ (by decide)

theorem limb_same (v b m j : Nat) (h : j < m / 8) : limb (b * 256 ^ m + v) j = limb v j := by
  unfold limb
  obtain ⟨c, hc⟩ : ∃ c, m / 8 = j + 1 + c := ⟨m / 8 - (j + 1), by omega⟩
  rw [two64 m, hc, Nat.pow_add, Nat.pow_succ]
  have hp : 0 < 18446744073709551616 ^ j := Nat.pow_pos (by decide)
  generalize 18446744073709551616 ^ j = p at *
  generalize 18446744073709551616 ^ c = y
  generalize 256 ^ (m % 8) = z
  have e : b * (p * 18446744073709551616 * y * z) + v = v + p * (18446744073709551616 * (b * y * z)) := by
    rw [Nat.add_comm]
    congr 1
    simp only [Nat.mul_assoc, Nat.mul_left_comm, Nat.mul_comm]
  rw [e, Nat.add_mul_div_left _ _ hp, Nat.add_mul_mod_self_left]

theorem limb_zero (v m j : Nat) (hv : v < 256 ^ m) (h : m ≤ 8 * j) : limb v j = 0 := by
  unfold limb
  have h1 : 256 ^ m ≤ 18446744073709551616 ^ j := by
    have h2 : (18446744073709551616 : Nat) = 256 ^ 8 := by decide
    rw [h2, ← Nat.pow_mul]
    exact Nat.pow_le_pow_right (by decide) h
  rw [Nat.div_eq_of_lt (by omega)]

theorem limb_here (v b m : Nat) (hv : v < 256 ^ m) (hb : b < 256) : limb (b * 256 ^ m + v) (m / 8) = 2 ^ (8 * (m % 8)) * b + limb v (m / 8) ∧ limb v (m / 8) < 2 ^ (8 * (m % 8)) ∧ 2 ^ (8 * (m % 8)) * b + limb v (m / 8) < 18446744073709551616 := by
  have h256 : 2 ^ (8 * (m % 8)) = 256 ^ (m % 8) := by rw [Nat.pow_mul]
  have hr : m % 8 ≤ 7 := by omega
  have hmax : 256 ^ (m % 8) * 256 ≤ 18446744073709551616 := by
    have h1 : 256 ^ (m % 8) ≤ 256 ^ 7 := Nat.pow_le_pow_right (by decide) hr
    omega
  rw [h256]
  unfold limb
  rw [two64 m] at hv ⊢
  have hp : 0 < 18446744073709551616 ^ (m / 8) := Nat.pow_pos (by decide)
  generalize 18446744073709551616 ^ (m / 8) = p at *
  generalize 256 ^ (m % 8) = z at *
  have h1 : v / p < z := Nat.div_lt_of_lt_mul hv
  have e : b * (p * z) + v = v + p * (b * z) := by
    rw [Nat.add_comm]; congr 1; simp only [Nat.mul_left_comm]
  have h2 : z * b ≤ z * 255 := Nat.mul_le_mul_left _ (by omega)
  rw [e, Nat.add_mul_div_left _ _ hp, Nat.mod_eq_of_lt (by omega : v / p < 18446744073709551616), Nat.mod_eq_of_lt (by rw [Nat.mul_comm b z]; omega)]
  exact ⟨by rw [Nat.mul_comm b z, Nat.add_comm], h1, by omega⟩

theorem bits_or_comm (a b : Int) : bits BinOp.or IntKind.u64 a b = bits BinOp.or IntKind.u64 b a := by
  unfold bits
  simp only [BitVec.or_comm]

theorem stR_bev (xs : BS) : ∀ m, m ≤ xs.length → ∀ j, stR xs.length (backL xs m) j = (limb (bev (xs.drop (xs.length - m))) j : Nat)
  | 0, _, j => by simp [stR, backL, bev, limb]
  | m + 1, hm, j => by
    have ih := stR_bev xs m (by omega)
    have hk : xs.length - 1 - m < xs.length := by omega
    have hd : xs.drop (xs.length - (m + 1)) = xs[xs.length - 1 - m] :: xs.drop (xs.length - m) := by
      rw [show xs.length - (m + 1) = xs.length - 1 - m by omega, List.drop_eq_getElem_cons hk, show xs.length - 1 - m + 1 = xs.length - m by omega]
    rw [hd, bev_cons, List.length_drop, show xs.length - (xs.length - m) = m by omega, backL_succ]
    have hv : bev (xs.drop (xs.length - m)) < 256 ^ m := by
      have := bev_lt (xs.drop (xs.length - m))
      rwa [List.length_drop, show xs.length - (xs.length - m) = m by omega] at this
    have hgd : xs.getD (xs.length - 1 - m) 0 = xs[xs.length - 1 - m] := by simp [List.getD, hk]
    rw [hgd]
    generalize xs[xs.length - 1 - m] = x
    generalize bev (xs.drop (xs.length - m)) = v at *
    have hs : stR xs.length (backL xs m ++ [(xs.length - 1 - m, x)]) j = upR xs.length (stR xs.length (backL xs m)) (xs.length - 1 - m, x) j := by simp [stR, List.foldl_append]
    rw [hs]
    unfold upR
    dsimp only
    rw [show xs.length - 1 - (xs.length - 1 - m) = m by omega, ih]
    by_cases hj : j = m / 8
    · rw [if_pos hj, hj]
      obtain ⟨h1, h2, h3⟩ := limb_here v x.toNat m hv x.toNat_lt
      rw [h1]
      have hw : IntKind.u64.wrap ((x.toNat : Int) * 2 ^ (8 * (m % 8))) = ((2 ^ (8 * (m % 8)) * x.toNat : Nat) : Int) := by
        have e : ((x.toNat : Int) * 2 ^ (8 * (m % 8))) = ((2 ^ (8 * (m % 8)) * x.toNat : Nat) : Int) := by
          push_cast
          rw [Int.mul_comm]
        rw [e, u64_in _ (by omega)]
      rw [hw, bits_or_comm, bits_or _ _ _ h2 h3]
    · rw [if_neg hj]
      by_cases hlt : j < m / 8
      · rw [limb_same _ _ _ _ hlt]
      · rw [limb_zero v m j hv (by omega), limb_zero (x.toNat * 256 ^ m + v) (m + 1) j ?_ (by omega)]
        have hx := x.toNat_lt
        have : x.toNat * 256 ^ m ≤ 255 * 256 ^ m := Nat.mul_le_mul_right _ (by omega)
        rw [Nat.pow_succ]; omega

theorem stR_all (xs : BS) (j : Nat) : stR xs.length (backL xs xs.length) j = (limb (bev xs) j : Nat) := by
  have := stR_bev xs xs.length (Nat.le_refl _) j
  simpa using this

/-- A number's bytes: no 0 ahead. -/
def nbe (n : Nat) : BS := (be 32 n).dropWhile (· == 0)

theorem nbe_length (n : Nat) : (nbe n).length ≤ 32 := by
  have h1 := List.IsSuffix.length_le (List.dropWhile_suffix (fun x : UInt8 => x == 0) (l := be 32 n))
  rw [be_length] at h1
  exact h1
theorem bev_drop0 : ∀ xs : BS, bev (xs.dropWhile (· == 0)) = bev xs
  | [] => rfl
  | x :: xs => by
    rw [List.dropWhile_cons]
    by_cases h : x = 0
    · subst h
      simp only [BEq.rfl, if_true]
      rw [bev_drop0 xs, bev_cons]
      simp
    · have : (x == 0) = false := by simpa using h
      rw [this]
      rfl
theorem bev_nbe {n : Nat} (h : n < 256 ^ 32) : bev (nbe n) = n := by rw [nbe, bev_drop0, bev_be' h]
theorem nbe_head (n : Nat) (h : nbe n ≠ []) : (nbe n).getD 0 0 ≠ 0 := by
  have := List.head?_dropWhile_not (fun x : UInt8 => x == 0) (be 32 n)
  unfold nbe at h ⊢
  generalize (be 32 n).dropWhile (fun x => x == 0) = l at *
  cases l with
  | nil => exact absurd rfl h
  | cons x l => simpa using this
theorem nbe_zero : nbe 0 = [] := by decide

end Go.Proofs.Ytaidgkdebocenaa

namespace Go.Proofs.Ytaidgkdebocenaa
open Go Go.RowKit Go.Shelf

attribute [local go_sem] Oper.semAt_some

set_option maxRecDepth 100000 in
set_option maxHeartbeats 4000000 in
theorem numRead_nil {w : World} {a : Option Addr} {pc : Nat} (hbv : BV w (.slice a 0 pc) []) :
    Calls Try.prog 167 #[.slice a 0 pc] w fun e w' => e = .returned (.tuple #[.agg #[.int .u64 0, .int .u64 0, .int .u64 0, .int .u64 0], .int .i64 0]) ∧ Below w.heap.size w w' := by
  refine (callsIn_wide (n := 3)).1 ?_
  refine callsIn_of_wp_marks Try.func167 rfl trivial ?_ rfl
  simp only [Try.ntmps167, List.size_toArray, List.length_cons, List.length_nil, Nat.reduceAdd, Nat.reduceSub, Array.replicate_succ, Array.replicate_zero, List.push_toArray, List.append_toArray, List.nil_append, List.cons_append]
  have HBV := hid hbv
  clear hbv
  gi_wp2_with (refine ⟨trivial, ?_⟩; gi_at_call 194; refine (backward_in 2 _ _ _ _).mono ?_; rintro e w' ⟨rfl, rfl⟩)
  obtain ⟨w1, hw1⟩ : ∃ w1, w1 = w.alloc (.cells #[.slice a 0 pc] 33) := ⟨_, rfl⟩
  obtain ⟨w2, hw2⟩ : ∃ w2, w2 = w1.alloc (.cells #[.int .u64 0, .int .u64 0, .int .u64 0, .int .u64 0] 79) := ⟨_, rfl⟩
  obtain ⟨w3, hw3⟩ : ∃ w3, w3 = w2.alloc (.cells #[.int .u64 0, .int .u64 0, .int .u64 0, .int .u64 0] 79) := ⟨_, rfl⟩
  obtain ⟨W0, hW0⟩ : ∃ W0, W0 = w3.alloc (.cells #[.slice a 0 pc] 33) := ⟨_, rfl⟩
  rw [← hw1, ← hw2, ← hw3, ← hW0]
  have s1 : w1.heap.size = w.heap.size + 1 := by rw [hw1, World.size_alloc]
  have s2 : w2.heap.size = w.heap.size + 1 + 1 := by rw [hw2, World.size_alloc, s1]
  have s3 : w3.heap.size = w.heap.size + 1 + 1 + 1 := by rw [hw3, World.size_alloc, s2]
  have hsz : W0.heap.size = w.heap.size + 1 + 1 + 1 + 1 := by rw [hW0, World.size_alloc, s3]
  have e1 : Ext w w1 := by rw [hw1]; exact (Ext.refl w).alloc _
  have e2 : Ext w1 w2 := by rw [hw2]; exact (Ext.refl w1).alloc _
  have e3 : Ext w2 w3 := by rw [hw3]; exact (Ext.refl w2).alloc _
  have e4 : Ext w3 W0 := by rw [hW0]; exact (Ext.refl w3).alloc _
  have hE : Ext w W0 := ((e1.trans e2).trans e3).trans e4
  have hB0 : Below w.heap.size w W0 := Ext.below hE
  have b1 : W0.heap[w.heap.size]? = some (.cells #[.slice a 0 pc] 33 (0, 0)) := ((e2.trans e3).trans e4).heap (by rw [hw1]; exact heap_alloc_new w _)
  have b2 : W0.heap[w.heap.size + 1]? = some (.cells #[.int .u64 0, .int .u64 0, .int .u64 0, .int .u64 0] 79 (0, 0)) := (e3.trans e4).heap (by rw [hw2, ← s1]; exact heap_alloc_new w1 _)
  have b3 : W0.heap[w.heap.size + 1 + 1]? = some (.cells #[.int .u64 0, .int .u64 0, .int .u64 0, .int .u64 0] 79 (0, 0)) := e4.heap (by rw [hw3, ← s2]; exact heap_alloc_new w2 _)
  have b4 : W0.heap[w.heap.size + 1 + 1 + 1]? = some (.cells #[.slice a 0 pc] 33 (0, 0)) := by rw [hW0, ← s3]; exact heap_alloc_new w3 _
  have kP : W0.cell? ⟨w.heap.size, 0, none⟩ = some (.slice a 0 pc) := by rw [cell_of_row W0 _ 0 _ _ _ b1]; rfl
  have kR : ∀ j, j < 4 → W0.cell? ⟨w.heap.size + 1, j, none⟩ = some (.int .u64 0) ∧ W0.frozen? ⟨w.heap.size + 1, j, none⟩ = false := by
    intro j hj
    rw [cell_of_row W0 _ j _ _ _ b2, frozen_of_row W0 _ j _ _ b2]
    have : j = 0 ∨ j = 1 ∨ j = 2 ∨ j = 3 := by omega
    rcases this with rfl | rfl | rfl | rfl <;> exact ⟨rfl, rfl⟩
  have kA : ∀ j, j < 4 → W0.cell? ⟨w.heap.size + 1 + 1, j, none⟩ = some (.int .u64 (stR ([] : BS).length (proj ([] : List (Pr ([] : BS).length))) j)) ∧ W0.frozen? ⟨w.heap.size + 1 + 1, j, none⟩ = false := by
    intro j hj
    rw [cell_of_row W0 _ j _ _ _ b3, frozen_of_row W0 _ j _ _ b3]
    have : j = 0 ∨ j = 1 ∨ j = 2 ∨ j = 3 := by omega
    rcases this with rfl | rfl | rfl | rfl <;> exact ⟨rfl, rfl⟩
  have kB : W0.cell? ⟨w.heap.size + 1 + 1 + 1, 0, none⟩ = some (.slice a 0 pc) := by rw [cell_of_row W0 _ 0 _ _ _ b4]; rfl
  clear hW0 hw1 hw2 hw3 b1 b2 b3 b4 e1 e2 e3 e4
  have hgg : ∀ g', (Value.slice a 0 pc).ownBlock = some g' → ([] : BS) ≠ [] → g' ≠ w.heap.size + 1 + 1 ∧ g' < W0.heap.size := fun _ _ h => absurd rfl h
  refine wpIn_rangeFunc_ownG rfl (show 1 ≤ 3 by decide) (gf := 203) (lb := #[.pointer (some ⟨w.heap.size + 1 + 1 + 1, 0, none⟩)]) rfl trivial (enters_of Try.func203 (by kernel_rfl) rfl)
    (backward_stops 2 (by decide) (w.heap.size + 1 + 1 + 1) (w.heap.size + 1 + 1) _ pc [] (by decide) W0 (by omega) (by omega) kB (HBV.out.ext hE) hgg) KC.trans (KC.putObj _) (Below.refl _ _) (fun _ => rfl)
    (fun pre W => (W.cell? ⟨w.heap.size, 0, none⟩ = some (.slice a 0 pc) ∧ (∀ j, j < 4 → W.cell? ⟨w.heap.size + 1, j, none⟩ = some (.int .u64 0) ∧ W.frozen? ⟨w.heap.size + 1, j, none⟩ = false) ∧
      (∀ j, j < 4 → W.cell? ⟨w.heap.size + 1 + 1, j, none⟩ = some (.int .u64 (stR ([] : BS).length (proj pre) j)) ∧ W.frozen? ⟨w.heap.size + 1 + 1, j, none⟩ = false)) ∧ Below w.heap.size w W)
    (fun _ _ _ => False)
    (OwnFrom.and (Own.from (fun s A B row hs hg hr => ⟨cell_kept hs.1 hg hr, fun j hj => ⟨cell_kept (hs.2.1 j hj).1 hg hr, (frozen_kept (hs.2.1 j hj).1 hg hr).trans (hs.2.1 j hj).2⟩, fun j hj => ⟨cell_kept (hs.2.2 j hj).1 hg hr, (frozen_kept (hs.2.2 j hj).1 hg hr).trans (hs.2.2 j hj).2⟩⟩) _) (ownFrom_below (Nat.le_refl _) (by omega)))
    (fun _ _ _ _ _ hs _ _ => hs)
    ⟨⟨kP, kR, kA⟩, hB0⟩
    (fun _ => { tmps := #[], defers := [] }) ?assign ?body ?done ?stop
  case assign =>
    intro l x
    exact absurd x.1.isLt (by simp)
  case body =>
    intro l pre x
    exact absurd x.1.isLt (by simp)
  case done =>
    rintro D ys W hD hys ⟨⟨hp, hr, ha⟩, hB⟩ hK
    obtain ⟨m, hm⟩ : ∃ m, m = stR ([] : BS).length (proj ys) := ⟨_, rfl⟩
    rw [← hm] at ha
    obtain ⟨a0, -⟩ := ha 0 (by decide)
    obtain ⟨a1, -⟩ := ha 1 (by decide)
    obtain ⟨a2, -⟩ := ha 2 (by decide)
    obtain ⟨a3, -⟩ := ha 3 (by decide)
    obtain ⟨r0, f0⟩ := hr 0 (by decide)
    obtain ⟨r1, f1⟩ := hr 1 (by decide)
    obtain ⟨r2, f2⟩ := hr 2 (by decide)
    obtain ⟨r3, f3⟩ := hr 3 (by decide)
    have hlt := World.block_lt_of_cell? _ _ a0
    have hlt' := World.block_lt_of_cell? _ _ r0
    have Hy := hid (And.intro hys (And.intro hm (And.intro hB hK)))
    clear hys hm hB ha hr
    gi_wp2
    obtain ⟨hys, hm, hB, hK⟩ := Hy.out
    obtain ⟨W4, hW4⟩ : ∃ W4, W4 = ((((W.setCell ⟨w.heap.size + 1, 0, none⟩ (.int .u64 (m 0))).setCell ⟨w.heap.size + 1, 1, none⟩ (.int .u64 (m 1))).setCell ⟨w.heap.size + 1, 2, none⟩ (.int .u64 (m 2))).setCell ⟨w.heap.size + 1, 3, none⟩ (.int .u64 (m 3))) := ⟨_, rfl⟩
    have hk4 : KeepsOthers W W4 := by
      rw [hW4]
      exact (((KeepsOthers.setCell _ _ _).trans (KeepsOthers.setCell _ _ _)).trans (KeepsOthers.setCell _ _ _)).trans (KeepsOthers.setCell _ _ _)
    have hb4 : Below w.heap.size w W4 := by
      rw [hW4]
      refine (((hB.setCell (p := ⟨w.heap.size + 1, 0, none⟩) ?_ _).setCell (p := ⟨w.heap.size + 1, 1, none⟩) ?_ _).setCell (p := ⟨w.heap.size + 1, 2, none⟩) ?_ _).setCell (p := ⟨w.heap.size + 1, 3, none⟩) ?_ _
      all_goals exact Nat.le_succ _
    have q0 : W4.cell? ⟨w.heap.size + 1, 0, none⟩ = some (.int .u64 (m 0)) := by rw [hW4]; simp [go_sem, r0, r1, r2, r3]
    have q1 : W4.cell? ⟨w.heap.size + 1, 1, none⟩ = some (.int .u64 (m 1)) := by rw [hW4]; simp [go_sem, r0, r1, r2, r3]
    have q2 : W4.cell? ⟨w.heap.size + 1, 2, none⟩ = some (.int .u64 (m 2)) := by rw [hW4]; simp [go_sem, r0, r1, r2, r3]
    have q3 : W4.cell? ⟨w.heap.size + 1, 3, none⟩ = some (.int .u64 (m 3)) := by rw [hW4]; simp [go_sem, r0, r1, r2, r3]
    have hK' := hk4.same D _ hK rfl
    have hsz4 : w.heap.size < W4.heap.size := Nat.lt_of_lt_of_le (by omega) hk4.size
    rw [← hW4]
    refine ⟨by simp, .inl ⟨_, _, rfl, run_takeDeferred hK', ?_⟩⟩
    have hg := grownBy_putObj' W4 D (.deferred none)
    have z0 := cell_kept q0 hg (fun r e => by cases e; exact ⟨_, hK', rfl⟩)
    have z1 := cell_kept q1 hg (fun r e => by cases e; exact ⟨_, hK', rfl⟩)
    have z2 := cell_kept q2 hg (fun r e => by cases e; exact ⟨_, hK', rfl⟩)
    have z3 := cell_kept q3 hg (fun r e => by cases e; exact ⟨_, hK', rfl⟩)
    refine ⟨.tuple #[.agg #[.int .u64 (m 0), .int .u64 (m 1), .int .u64 (m 2), .int .u64 (m 3)], .int .i64 0], ?_, ?_, hb4.trans (belowK_b (w := w) (Nat.le_refl _) W4 D _ _ (by omega) hK' rfl rfl)⟩
    · simp [results, Try.f167, go_sem, z0, z1, z2, z3]
    · have e : ∀ j, m j = 0 := fun j => by rw [hm, hys, stR_all]; simp [bev, limb]
      rw [e 0, e 1, e 2, e 3]
  case stop =>
    rintro D c pre W _ _ h _
    exact h.elim

theorem numC_zero : numC 0 = [.int .u64 0, .int .u64 0, .int .u64 0, .int .u64 0] := by simp [numC, limb]

theorem Below.toExt {w w' : World} (h : Below w.heap.size w w') : Ext w w' := ⟨h.os, h.tape, h.output, h.size, fun k hk _ => h.block k hk⟩

/-- num.Read of a number's bytes. -/
theorem numRead_c {w : World} {v : Value} {xs : BS} (hbv : BV w v xs) (h32 : xs.length ≤ 32) (h0 : xs ≠ [] → xs.getD 0 0 ≠ 0) :
    Calls Try.prog 167 #[v] w fun e w' => e = .returned (.tuple #[numV (bev xs), .int .i64 0]) ∧ Ext w w' := by
  obtain ⟨ao, cap, hv, h1, h2, h3, h4⟩ := id hbv
  by_cases hx : xs = []
  · subst hx
    cases hv
    refine (numRead_nil hbv).mono ?_
    rintro e w' ⟨he, hb⟩
    refine ⟨?_, Below.toExt hb⟩
    rw [he, numV, bev_nil, numC_zero]
  · have hl : 0 < xs.length := List.length_pos_iff.2 hx
    rcases h4 with rfl | ⟨g, off, rfl, hcell⟩
    · exact absurd rfl hx
    · cases hv
      have c0 := hcell 0 hl
      have e0 := h0 hx
      refine (numRead_some (x0 := (xs.getD 0 0).toNat) h32 (by omega) h2 h3 hbv (World.block_lt_of_cell? _ _ c0) ?_ ?_).mono ?_
      · simpa [List.getD, hl, bval] using c0
      · have : (xs.getD 0 0).toNat ≠ 0 := fun c => e0 (by rw [← UInt8.toNat_inj]; exact c)
        simpa using this
      · rintro e w' ⟨⟨m, hm, he⟩, hb⟩
        refine ⟨?_, Below.toExt hb⟩
        rw [he, hm]
        simp only [stR_all]
        rfl

end Go.Proofs.Ytaidgkdebocenaa

namespace Go.Proofs.Ytaidgkdebocenaa
open Go Go.RowKit

def bc1 (x : UInt8) : List Value := [bval x]
theorem bc1_flat (xs : BS) : xs.flatMap bc1 = bcells xs := by
  induction xs with
  | nil => rfl
  | cons x xs ih => rw [List.flatMap_cons, ih]; rfl
theorem bc1_len (x : UInt8) : (bc1 x).length = 1 := rfl

theorem limb_byte (n j : Nat) (hn : n < 256 ^ 32) : limb n (j / 8) / 2 ^ (8 * (j % 8)) % 256 = n / 256 ^ j % 256 := by
  have h256 : 2 ^ (8 * (j % 8)) = 256 ^ (j % 8) := by rw [Nat.pow_mul]
  rw [h256, two64 j]
  unfold limb
  have hr : j % 8 < 8 := by omega
  obtain ⟨c, hc⟩ : ∃ c, 8 = j % 8 + 1 + c := ⟨8 - (j % 8 + 1), by omega⟩
  have h64 : (18446744073709551616 : Nat) = 256 ^ (j % 8) * (256 * 256 ^ c) := by
    rw [← Nat.mul_assoc, ← Nat.pow_succ, ← Nat.pow_add, ← hc]
  rw [← Nat.div_div_eq_div_mul]
  generalize n / 18446744073709551616 ^ (j / 8) = x
  rw [h64, Nat.mod_mul_right_div_self]
  generalize x / 256 ^ (j % 8) = y
  exact Nat.mod_mul_right_mod _ _ _

theorem owns_low {w : World} {b b' : Nat} {e : TypeId} {s n : Nat} {v : Value} {xs : List Value} (h : w.ownsRow b e s v n xs) (hb : b' ≤ b) : w.ownsRow b' e s v n xs := by
  refine ⟨h.1, ?_⟩
  rcases h.2 with h2 | ⟨g, cap, cur, h1, h3, h4⟩
  · exact .inl h2
  · exact .inr ⟨g, cap, cur, h1, Nat.le_trans hb h3, h4⟩

def BytesAt (w1 wr : World) (B n : Nat) (pv iv : Value) : Prop :=
  ∃ pre k oa oc len, pre ++ be k n = be 32 n ∧ k ≤ 32 ∧ iv = .int .i64 ((k : Int) - 1) ∧ pv = .slice oa len oc ∧ (pre.dropWhile (· == 0)).length = len ∧ wr.ownsRow B 5 1 (.slice oa len oc) len ((pre.dropWhile (· == 0)).flatMap bc1) ∧ Ext w1 wr

theorem drop0_snoc (pre : BS) (x : UInt8) : (pre ++ [x]).dropWhile (· == 0) = if pre.dropWhile (· == 0) = [] ∧ x = 0 then [] else pre.dropWhile (· == 0) ++ [x] := by
  rw [List.dropWhile_append]
  by_cases h : pre.dropWhile (· == 0) = []
  · rw [h]
    by_cases hx : x = 0
    · simp [hx]
    · simp [hx]
  · simp [h]

set_option maxRecDepth 100000 in
set_option maxHeartbeats 1000000 in
theorem numBytes_c {w : World} {n : Nat} (hn : n < 256 ^ 32) :
    Calls Try.prog 188 #[numV n] w fun e w' => ∃ oa oc, e = .returned (.slice oa (nbe n).length oc) ∧ w'.ownsRow w.heap.size 5 1 (.slice oa (nbe n).length oc) (nbe n).length (bcells (nbe n)) ∧ Ext w w' := by
  obtain ⟨w1, hw1⟩ : ∃ w1, w1 = w.alloc (.cells (numC n).toArray 79) := ⟨_, rfl⟩
  have hE1 : Ext w w1 := by rw [hw1]; exact (Ext.refl w).alloc _
  have hs1 : w.heap.size < w1.heap.size := by rw [hw1, World.size_alloc]; omega
  have hb1 : w1.heap[w.heap.size]? = some (.cells (numC n).toArray 79 (0, 0)) := by rw [hw1]; exact heap_alloc_new w _
  have kA : ∀ wr, Ext w1 wr → ∀ j, j < 4 → wr.cell? ⟨w.heap.size, j, none⟩ = some (.int .u64 (limb n j : Nat)) := by
    intro wr hE j hj
    rw [cell_of_row wr _ j _ _ _ (hE.heap hb1)]
    have : j = 0 ∨ j = 1 ∨ j = 2 ∨ j = 3 := by omega
    rcases this with rfl | rfl | rfl | rfl <;> rfl
  have HB := hid (And.intro hE1 (And.intro hs1 kA))
  have Hw1 := hid hw1
  clear hE1 hs1 kA hb1 hw1
  unfold numV numC
  go_enter Try.func188, Try.ntmps188
  go_wp2_with fail
  go_loopw [3, 4] (fun p i wr => BytesAt w1 wr w1.heap.size n p i) (fun _ i _ => (intOf i + 1).toNat)
  case atStart =>
    refine ⟨[], 32, none, 0, 0, rfl, Nat.le_refl _, rfl, rfl, rfl, World.ownsRow_nil _ _ _ _, ?_⟩
    rw [Hw1.out]
    exact Ext.refl _
  case round =>
    obtain ⟨pre, k, oa, oc, len, hpre, hk, rfl, rfl, hlen, hown, hE⟩ := hrel
    have hpl : pre.length + k = 32 := by
      have := congrArg List.length hpre
      simpa [be_length] using this
    have hll : len ≤ pre.length := by
      rw [← hlen]
      exact List.IsSuffix.length_le (List.dropWhile_suffix _)
    cases k with
    | zero =>
      rw [show (((0 : Nat) : Int) - 1) = -1 from rfl]
      have HO := hid (And.intro hpre (And.intro hlen (And.intro hown hE)))
      clear hpre hlen hown hE
      go_wp2_with fail
      go_ret
      obtain ⟨hpre, hlen, hown, hE⟩ := HO.out
      rw [be, List.append_nil] at hpre
      rw [hpre] at hlen hown
      have hnb : (nbe n).length = len := hlen
      refine ⟨oa, oc, by rw [hnb]; rfl, ?_, HB.out.1.trans hE⟩
      rw [hnb, ← bc1_flat]
      exact owns_low hown (Nat.le_of_lt HB.out.2.1)
    | succ j =>
      rw [show (((j + 1 : Nat) : Int) - 1) = (j : Int) from by omega]
      obtain ⟨q, hq⟩ : ∃ q, q = j / 8 := ⟨_, rfl⟩
      obtain ⟨r, hr⟩ : ∃ r, r = j % 8 := ⟨_, rfl⟩
      have hq4 : q < 4 := by omega
      have hr8 : r < 8 := by omega
      have a0 := HB.out.2.2 wr hE q hq4
      have hlt := World.block_lt_of_cell? _ _ a0
      have hbyte := limb_byte n j hn
      rw [← hq, ← hr] at hbyte
      have h8w : IntKind.i64.wrap (8 * (r : Int)) = 8 * (r : Int) := IntWalk.i64_in _ (by omega)
      have hqw : IntKind.i64.wrap (q : Int) = (q : Int) := IntWalk.i64_in _ (by omega)
      have hrw : IntKind.i64.wrap (r : Int) = (r : Int) := IntWalk.i64_in _ (by omega)
      have hdq : Int.tdiv (j : Int) 8 = (q : Int) := by rw [hq]; rfl
      have hmr : Int.tmod (j : Int) 8 = (r : Int) := by rw [hr]; rfl
      have hq0 : (0 : Int) ≤ (q : Int) := by omega
      have hq4' : (q : Int) < 4 := by omega
      have hqn : ((q : Int)).toNat = q := rfl
      have hj0 : (0 : Int) ≤ (j : Int) := by omega
      obtain ⟨x, hx⟩ : ∃ x, x = UInt8.ofNat (n / 256 ^ j) := ⟨_, rfl⟩
      have hxy : ((limb n q : Nat) : Int) / 2 ^ (8 * r) % 256 = (x.toNat : Int) := by
        rw [hx, u8_ofNat]
        have := congrArg (fun z : Nat => (z : Int)) hbyte
        simpa using this
      have hnext : (pre ++ [x]) ++ be j n = be 32 n := by rw [← hpre, be, hx]; simp
      have hd0 := drop0_snoc pre x
      have HH := hid (And.intro hq (And.intro hr hx))
      clear hq hr hx hbyte hpre
      by_cases hx0 : x = 0
      · by_cases hl0 : len = 0
        · subst hl0
          have hnil : pre.dropWhile (· == 0) = [] := List.eq_nil_of_length_eq_zero hlen
          rw [if_pos ⟨hnil, hx0⟩] at hd0
          rw [hnil] at hown
          rw [hx0] at hxy
          rw [show (((0 : UInt8).toNat : Nat) : Int) = 0 from rfl] at hxy
          have HO := hid (And.intro hnext (And.intro hd0 (And.intro hown hE)))
          clear hnext hd0 hown hE hlen hnil hx0
          go_wp2_with fail
          obtain ⟨hnext, hd0, hown, hE⟩ := HO.out
          refine ⟨⟨pre ++ [x], j, oa, oc, 0, hnext, by omega, rfl, rfl, by rw [hd0]; rfl, by rw [hd0]; exact hown, hE⟩, by simp [intOf]⟩
        · have hne : pre.dropWhile (· == 0) ≠ [] := fun c => hl0 (by rw [← hlen, c]; rfl)
          rw [if_neg (fun c => hne c.1)] at hd0
          rw [hx0] at hxy
          rw [show (((0 : UInt8).toNat : Nat) : Int) = 0 from rfl] at hxy
          have hl1 : (0 : Int) < (len : Int) := by omega
          obtain ⟨oa', oc', w6, hrun, hlen6, hown6, hE6, hK6⟩ := rowApp (f := bc1) (x := x) (cs := [.int .u8 0]) Try.underlying33 infoU8 rfl (by decide) (by decide) hE hlen hown (by rw [hx0]; rfl) rfl (by simp [Value.oneCell']) (by omega)
          have HO := hid (And.intro hnext (And.intro hd0 (And.intro hlen6 (And.intro hown6 hE6))))
          clear hnext hd0 hown hE hlen hne hx0 hlen6 hown6 hE6 hK6
          go_wp2_with fail
          obtain ⟨hnext, hd0, hlen6, hown6, hE6⟩ := HO.out
          refine ⟨⟨pre ++ [x], j, oa', oc', len + 1, hnext, by omega, rfl, rfl, by rw [hd0]; exact hlen6, by rw [hd0]; exact hown6, hE6⟩, by simp [intOf]⟩
      · rw [if_neg (fun c => hx0 c.2)] at hd0
        have hxn : x.toNat ≠ 0 := fun c => hx0 (by rw [← UInt8.toNat_inj]; exact c)
        obtain ⟨y, hy⟩ : ∃ y, y = x.toNat := ⟨_, rfl⟩
        have hcs : bc1 x = [.int .u8 (y : Int)] := by rw [hy]; rfl
        rw [← hy] at hxy hxn
        obtain ⟨oa', oc', w6, hrun, hlen6, hown6, hE6, hK6⟩ := rowApp (f := bc1) (x := x) (cs := [.int .u8 (y : Int)]) Try.underlying33 infoU8 rfl (by decide) (by decide) hE hlen hown hcs rfl (by simp [Value.oneCell']) (by omega)
        have HO := hid (And.intro hnext (And.intro hd0 (And.intro hlen6 (And.intro hown6 hE6))))
        clear hnext hd0 hown hE hlen hx0 hlen6 hown6 hE6 hK6 hcs hy
        go_wp2_with fail
        obtain ⟨hnext, hd0, hlen6, hown6, hE6⟩ := HO.out
        refine ⟨⟨pre ++ [x], j, oa', oc', len + 1, hnext, by omega, rfl, rfl, by rw [hd0]; exact hlen6, by rw [hd0]; exact hown6, hE6⟩, by simp [intOf]⟩

end Go.Proofs.Ytaidgkdebocenaa

namespace Go.Proofs.Ytaidgkdebocenaa
open Go Go.RowKit

def recN (n : Nat) : BS := UInt8.ofNat (nbe n).length :: nbe n
theorem recN_length (n : Nat) : (recN n).length = (nbe n).length + 1 := rfl
theorem recN_le (n : Nat) : (recN n).length ≤ 33 := by rw [recN_length]; have := nbe_length n; omega

/-- The blocks of a writer. -/
def WF (w : World) (b k : Nat) : Prop := k = b ∨ ∃ a n c, w.cell? ⟨b, 0, none⟩ = some (.slice a n c) ∧ (Value.slice a n c).ownBlock = some k

theorem Wr.wf_lt {w0 w : World} {b k : Nat} {xs : BS} (h : Wr w0 w b xs) (hk : WF w b k) : k < w.heap.size := by
  obtain ⟨a, c, h1, h2, h3, h4⟩ := h
  rcases hk with rfl | ⟨a', n', c', hc, ho⟩
  · exact lt_of_heap h1
  · rw [cell_of_row w b 0 _ _ _ h1] at hc
    cases hc
    exact (h2.lt k ho).2
theorem Wr.wf_ext {w0 w w' : World} {b k : Nat} {xs : BS} (h : Wr w0 w b xs) (hE : Ext w w') (hk : WF w' b k) : WF w b k := by
  obtain ⟨a, c, h1, h2, h3, h4⟩ := h
  rcases hk with rfl | ⟨a', n', c', hc, ho⟩
  · exact .inl rfl
  · refine .inr ⟨a', n', c', ?_, ho⟩
    rw [cell_of_row w' b 0 _ _ _ (hE.heap h1)] at hc
    rw [cell_of_row w b 0 _ _ _ h1]
    exact hc

/-- What append does to a writer's row. -/
theorem Wr.appF {w0 w : World} {b : Nat} {xs ys : BS} {pa : Option Addr} {pn pc : Nat} (h : Wr w0 w b xs) (hp : BV w (.slice pa pn pc) ys) (hl : xs.length + ys.length ≤ 1000000) :
    ∃ a c a' c' w1, w.cell? ⟨b, 0, none⟩ = some (.slice a xs.length c) ∧ (App #[33, 33] 33 #[.slice a xs.length c, .slice pa pn pc]).run Try.prog w = .ok (.slice a' (xs.length + ys.length) c') w1 ∧
      w1.frozen? ⟨b, 0, none⟩ = false ∧ (∃ v, w1.cell? ⟨b, 0, none⟩ = some v) ∧ Wr w0 (w1.setCell ⟨b, 0, none⟩ (.slice a' (xs.length + ys.length) c')) b (xs ++ ys) ∧ Keeps (WF w b) w (w1.setCell ⟨b, 0, none⟩ (.slice a' (xs.length + ys.length) c')) := by
  obtain ⟨a, c, h1, h2, h3, h4⟩ := h
  have hn : pn = ys.length := by obtain ⟨ao, cap, hv, -⟩ := hp; cases hv; rfl
  subst hn
  obtain ⟨v', w1, hr, ho, hg, -⟩ := run_App (P := Try.prog) 33 33 5 1 1 (.int .u8 0) Try.underlying33 infoU8 rfl (by decide) h2 (m := ys.length) (c := pc) (news := bcells ys) (by rw [bcells_length]; omega) (Src.bytes hp) (bcells_one ys) (by unfold maxLen; omega) (by omega) h3.size
  obtain ⟨a', c', rfl⟩ := owns_slice ho
  have hK : Keeps (fun k => (Value.slice a xs.length c).ownBlock = some k) w w1 := (Keeps.refl _ w).grown hg (fun k c _ => c)
  have hb1 : w1.heap[b]? = some (.cells #[.slice a xs.length c] 174 (0, 0)) := hK.heap h1 fun e => by
    obtain ⟨c2, h2'⟩ := owns_typed h2 e
    exact typed_ne h1 h2' (by decide)
  refine ⟨a, c, a', c', w1, ?_, hr, frozen_of_row w1 _ _ _ _ hb1, ⟨_, cell_of_row w1 b 0 _ _ _ hb1⟩, ⟨a', c', ?_, ?_, ?_, h4⟩, ?_⟩
  · rw [cell_of_row w b 0 _ _ _ h1]; rfl
  · rw [List.length_append]; exact heap_set (ys := [_]) hb1
  · rw [List.length_append, bcells_append]
    refine Keeps.ownsRow (S := fun k => k = b) (Keeps.one (a := ⟨b, 0, none⟩) (fun k => k = b) (fun _ => rfl) _) ho fun k hk e => ?_
    obtain ⟨c2, h2'⟩ := owns_typed ho hk
    subst e
    exact typed_ne hb1 h2' (by decide)
  · refine (h3.grown hg fun k hk hlt => ?_).trans' (Keeps.one (a := ⟨b, 0, none⟩) (fun k => k = b) (fun _ => rfl) _) fun k hk e => ?_
    · have := (h2.lt k hk).1; omega
    · omega
  · have hc0 : w.cell? ⟨b, 0, none⟩ = some (.slice a xs.length c) := by rw [cell_of_row w b 0 _ _ _ h1]; rfl
    refine (hK.mono fun k hk => .inr ⟨a, xs.length, c, hc0, hk⟩).trans' (Keeps.one (a := ⟨b, 0, none⟩) (fun k => k = b) (fun _ => rfl) _) fun k _ e => .inl e

set_option maxRecDepth 100000 in
set_option maxHeartbeats 400000 in
theorem cwlayF_c {w0 w : World} {b : Nat} {xs ys : BS} {pa : Option Addr} {pn pc : Nat} (h : Wr w0 w b xs) (hp : BV w (.slice pa pn pc) ys) (hl : xs.length + ys.length ≤ 1000000) :
    Calls Try.prog 187 #[.pointer (some ⟨b, 0, none⟩), .slice pa pn pc] w fun e w' => e = .returned (.pointer (some ⟨b, 0, none⟩)) ∧ Wr w0 w' b (xs ++ ys) ∧ Keeps (WF w b) w w' := by
  obtain ⟨a, c, a', c', w1, hc, hr, hf, ⟨v, hv⟩, hW⟩ := h.appF hp hl
  have HW := hid hW
  have hlt : b < w1.heap.size := World.block_lt_of_cell? _ _ hv
  clear h hp hW
  go_enter Try.func187, Try.ntmps187
  go_wp2_with fail
  go_ret
  exact ⟨rfl, HW.out⟩

set_option maxRecDepth 100000 in
set_option maxHeartbeats 1000000 in
theorem cwNum_c {w0 w : World} {b n : Nat} {xs : BS} (h : Wr w0 w b xs) (hn : n < 256 ^ 32) (hl : xs.length ≤ 400000) :
    Calls Try.prog 159 #[.pointer (some ⟨b, 0, none⟩), numV n] w fun e w' => e = .returned (.pointer (some ⟨b, 0, none⟩)) ∧ Wr w0 w' b (xs ++ recN n) := by
  have hN := numBytes_c (w := w.alloc (.cells (numC n).toArray 79)) hn
  unfold numV numC at hN
  have HN := hid hN
  have H := hid h
  have hlen := nbe_length n
  unfold numV numC
  clear h hN
  go_enter Try.func159, Try.ntmps159
  go_wp2_with fail
  refine HN.out.mono ?_
  rintro e w1 ⟨oa, oc, rfl, hown, hE⟩
  obtain ⟨L, hL⟩ : ∃ L, L = (nbe n).length := ⟨_, rfl⟩
  rw [← hL] at hown
  rw [← hL]
  have hW1 : Wr w0 w1 b xs := H.out.ext (((Ext.refl w).alloc _).trans hE)
  have hC1 := cwlayF_c (hW1.ext ((Ext.refl w1).alloc (.cells #[.int .u8 ((L : Int) % 256)] 5))) (litB w1 L) (by simp; omega)
  have HC1 := hid hC1
  have HO := hid (And.intro hL (And.intro hown (And.intro hE hW1)))
  have hLn : (0 : Int) ≤ (L : Int) := by omega
  have Hlen := hid hlen
  clear hC1 hown hE hW1 HN hL hlen
  go_wp2_with fail
  refine HC1.out.mono ?_
  rintro e w2 ⟨rfl, hW2, hK2⟩
  obtain ⟨hL, hown, hE, hW1⟩ := HO.out
  have hE1 := (Ext.refl w1).alloc (.cells #[.int .u8 ((L : Int) % 256)] 5)
  have hown2 : w2.ownsRow (w.alloc (.cells (numC n).toArray 79)).heap.size 5 1 (.slice oa L oc) L (bcells (nbe n)) :=
    hK2.ownsRow (Keeps.ownsRow hE1 hown fun _ _ c => c) fun k hk hf => by
      have h1 := (hown.lt k hk).1
      have h2 := H.out.wf_lt (H.out.wf_ext ((((Ext.refl w).alloc _).trans hE).trans hE1) hf)
      rw [World.size_alloc] at h1
      omega
  have hbv2 : BV w2 (.slice oa L oc) (nbe n) := by rw [hL] at hown2 ⊢; exact BV.of_owns hown2
  have hC2 := cwlay_c hW2 hbv2 (by simp [Hlen.out]; have := Hlen.out; omega)
  have HC2 := hid hC2
  have HE := hid (And.intro hL (And.intro hW2 hK2))
  clear hC2 hW2 hK2 hown2 hbv2 hown hE hW1 hE1 hL HC1
  go_wp2_with fail
  refine HC2.out.mono ?_
  rintro e w3 ⟨rfl, hW3⟩
  have HW3 := hid hW3
  clear hW3 HC2
  go_wp2_with fail
  go_ret
  refine ⟨rfl, ?_⟩
  have := HW3.out
  rw [HE.out.1, List.append_assoc] at this
  exact this

theorem BV.keep_block {w w' : World} {v : Value} {xs : BS} {g0 : Nat} (h : BV w v xs) (hk : Keeps (fun k => k = g0) w w') (hb : ∀ off x, w.cell? ⟨g0, off, none⟩ ≠ some (bval x)) : BV w' v xs := by
  obtain ⟨ao, cap, hv, h1, h2, h3, h4⟩ := h
  refine ⟨ao, cap, hv, h1, h2, h3, ?_⟩
  rcases h4 with h4 | ⟨g, off, ha, hc⟩
  · exact .inl h4
  · refine .inr ⟨g, off, ha, fun i hi => ?_⟩
    have hg : g ≠ g0 := fun e => by subst e; exact hb _ _ (hc i hi)
    rw [← hc i hi]
    exact World.cell?_of_block (hk.block g (World.block_lt_of_cell? _ _ (hc i hi)) hg)
theorem Rd.keep_block {w w' : World} {b g0 : Nat} {xs : BS} (h : Rd w b xs) (hk : Keeps (fun k => k = g0) w w') (hn : b ≠ g0) (hb : ∀ off x, w.cell? ⟨g0, off, none⟩ ≠ some (bval x)) : Rd w' b xs := by
  obtain ⟨a, c, h1, h2, h3⟩ := h
  exact ⟨a, c, hk.heap h1 hn, h2.keep_block hk hb, h3⟩

set_option maxRecDepth 100000 in
set_option maxHeartbeats 1000000 in
theorem crNum_c {w : World} {b n : Nat} {ys : BS} (h : Rd w b (recN n ++ ys)) (hn : n < 256 ^ 32) :
    Calls Try.prog 161 #[.pointer (some ⟨b, 0, none⟩)] w fun e w' => e = .returned (numV n) ∧ Rd w' b ys ∧ Keeps (fun k => k = b) w w' := by
  obtain ⟨L, hL⟩ : ∃ L, L = (nbe n).length := ⟨_, rfl⟩
  have hlen := nbe_length n
  have hx : (UInt8.ofNat (nbe n).length).toNat = L := by rw [hL]; simp; omega
  have hC := crByte_c (h.ext ((Ext.refl w).alloc (.cells #[.int .u64 0, .int .u64 0, .int .u64 0, .int .u64 0] 79)))
  rw [hx] at hC
  have HC := hid hC
  have H := hid h
  have HL := hid (And.intro hL (And.intro hlen hx))
  have hL32 : L ≤ 32 := by omega
  clear h hC hL hlen hx
  go_enter Try.func161, Try.ntmps161
  go_wp2_with fail
  refine HC.out.mono ?_
  rintro e w1 ⟨rfl, hR, hK⟩
  have hR' : Rd w1 b (nbe n ++ ys) := hR
  have hT := crtake_c (n := L) hR' (by rw [List.length_append, ← HL.out.1]; omega)
  have HT := hid hT
  have HR := hid (And.intro hR' hK)
  clear hR hR' hT hK HC
  go_wp2_with fail
  refine HT.out.mono ?_
  rintro e w2 ⟨a, c, rfl, hbv, hR2, hK2, hown⟩
  have e1 : (nbe n ++ ys).take L = nbe n := by rw [HL.out.1]; simp
  have e2 : (nbe n ++ ys).drop L = ys := by rw [HL.out.1]; simp
  rw [e1] at hbv
  rw [e2] at hR2
  have hC3 := numRead_c hbv (nbe_length n) (nbe_head n)
  rw [bev_nbe hn] at hC3
  unfold numV numC at hC3
  have HC3 := hid hC3
  have HR2 := hid (And.intro hR2 hK2)
  clear hC3 hbv hR2 hK2 hown HT e1 e2
  go_wp2_with fail
  refine HC3.out.mono ?_
  rintro e w3 ⟨rfl, hE3⟩
  have hbl := H.out.lt
  have hK01 := HR.out.2.trans (HR2.out.2)
  have hK03 : Keeps (fun k => k = b) (w.alloc (.cells #[.int .u64 0, .int .u64 0, .int .u64 0, .int .u64 0] 79)) w3 := hK01.ext hE3
  have hbox : w3.heap[w.heap.size]? = some (.cells #[.int .u64 0, .int .u64 0, .int .u64 0, .int .u64 0] 79 (0, 0)) := hK03.heap (heap_alloc_new w _) (by omega)
  have r0 : w3.cell? ⟨w.heap.size, 0, none⟩ = some (.int .u64 0) := by rw [cell_of_row w3 _ 0 _ _ _ hbox]; rfl
  have r1 : w3.cell? ⟨w.heap.size, 1, none⟩ = some (.int .u64 0) := by rw [cell_of_row w3 _ 1 _ _ _ hbox]; rfl
  have r2 : w3.cell? ⟨w.heap.size, 2, none⟩ = some (.int .u64 0) := by rw [cell_of_row w3 _ 2 _ _ _ hbox]; rfl
  have r3 : w3.cell? ⟨w.heap.size, 3, none⟩ = some (.int .u64 0) := by rw [cell_of_row w3 _ 3 _ _ _ hbox]; rfl
  have f0 := frozen_of_row w3 _ 0 _ _ hbox
  have f1 := frozen_of_row w3 _ 1 _ _ hbox
  have f2 := frozen_of_row w3 _ 2 _ _ hbox
  have f3 := frozen_of_row w3 _ 3 _ _ hbox
  have hlt := lt_of_heap hbox
  have HE := hid (And.intro hbl (And.intro hK03 (And.intro hE3 hbox)))
  clear hbl hK01 hK03 hE3 hbox HC3
  go_wp2_with fail
  obtain ⟨W4, hW4⟩ : ∃ W4, W4 = (((((w3.setCell ⟨w.heap.size, 0, none⟩ (.int .u64 (limb n 0 : Nat))).setCell ⟨w.heap.size, 1, none⟩ (.int .u64 (limb n 1 : Nat))).setCell ⟨w.heap.size, 2, none⟩ (.int .u64 (limb n 2 : Nat))).setCell ⟨w.heap.size, 3, none⟩ (.int .u64 (limb n 3 : Nat))).alloc
      (.cells #[.int .u64 (limb n 0 : Nat), .int .u64 (limb n 1 : Nat), .int .u64 (limb n 2 : Nat), .int .u64 (limb n 3 : Nat)] 79)) := ⟨_, rfl⟩
  rw [← hW4]
  obtain ⟨hbl, hK03, hE3, hbox⟩ := HE.out
  have hK4 : Keeps (fun k => k = w.heap.size) w3 W4 := by
    rw [hW4]
    exact ((((Keeps.one (a := ⟨w.heap.size, 0, none⟩) (fun k => k = w.heap.size) (fun _ => rfl) _).trans (Keeps.one (a := ⟨w.heap.size, 1, none⟩) (fun k => k = w.heap.size) (fun _ => rfl) _)).trans
      (Keeps.one (a := ⟨w.heap.size, 2, none⟩) (fun k => k = w.heap.size) (fun _ => rfl) _)).trans (Keeps.one (a := ⟨w.heap.size, 3, none⟩) (fun k => k = w.heap.size) (fun _ => rfl) _)).ext ((Ext.refl _).alloc _)
  obtain ⟨W5, hW5⟩ : ∃ W5, W5 = ((((w3.setCell ⟨w.heap.size, 0, none⟩ (.int .u64 (limb n 0 : Nat))).setCell ⟨w.heap.size, 1, none⟩ (.int .u64 (limb n 1 : Nat))).setCell ⟨w.heap.size, 2, none⟩ (.int .u64 (limb n 2 : Nat))).setCell ⟨w.heap.size, 3, none⟩ (.int .u64 (limb n 3 : Nat))) := ⟨_, rfl⟩
  rw [← hW5] at hW4
  have hE5 : Ext W5 W4 := by rw [hW4]; exact (Ext.refl _).alloc _
  have q0 : W4.cell? ⟨w.heap.size, 0, none⟩ = some (.int .u64 (limb n 0 : Nat)) := by
    refine Ext.cell hE5 ?_
    rw [hW5]
    simp [go_sem, r0, r1, r2, r3]
  have q1 : W4.cell? ⟨w.heap.size, 1, none⟩ = some (.int .u64 (limb n 1 : Nat)) := by
    refine Ext.cell hE5 ?_
    rw [hW5]
    simp [go_sem, r0, r1, r2, r3]
  have q2 : W4.cell? ⟨w.heap.size, 2, none⟩ = some (.int .u64 (limb n 2 : Nat)) := by
    refine Ext.cell hE5 ?_
    rw [hW5]
    simp [go_sem, r0, r1, r2, r3]
  have q3 : W4.cell? ⟨w.heap.size, 3, none⟩ = some (.int .u64 (limb n 3 : Nat)) := by
    refine Ext.cell hE5 ?_
    rw [hW5]
    simp [go_sem, r0, r1, r2, r3]
  clear hW4 r0 r1 r2 r3
  refine bodyPost_ret (v := numV n) (by simp [results, Try.f161, go_sem, q0, q1, q2, q3, numV, numC]) rfl ⟨rfl, ?_, ?_⟩
  · have hR3 := HR2.out.1.ext hE3
    refine hR3.keep_block hK4 (by omega) fun off x hc => ?_
    rw [cell_of_row w3 _ off _ _ _ hbox] at hc
    have : off = 0 ∨ off = 1 ∨ off = 2 ∨ off = 3 ∨ 4 ≤ off := by omega
    rcases this with rfl | rfl | rfl | rfl | h4
    · simp [bval] at hc
    · simp [bval] at hc
    · simp [bval] at hc
    · simp [bval] at hc
    · rw [Array.getElem?_eq_none (by simpa using h4)] at hc
      cases hc
  · exact ((Keeps.of_ext ((Ext.refl w).alloc _)).trans hK03).trans' hK4 fun k hk e => by omega

end Go.Proofs.Ytaidgkdebocenaa

namespace Go.Proofs.Ytaidgkdebocenaa
open Go Go.RowKit

theorem long_c {w : World} {b n : Nat} {ys : BS} (h : Rd w b (be 8 n ++ ys)) (hn : n < 18446744073709551616) :
    Calls Try.prog 109 #[.pointer (some ⟨b, 0, none⟩)] w fun e w' => e = .returned (.int .u64 (n : Int)) ∧ Rd w' b ys ∧ Keeps (fun k => k = b) w w' := by
  refine (crLong_c h (by simp [be_length])).mono ?_
  rintro e w' ⟨he, hR, hK⟩
  have e1 : (be 8 n ++ ys).take 8 = be 8 n := by rw [List.take_append_of_le_length (by simp [be_length]), List.take_of_length_le (by simp [be_length])]
  have e2 : (be 8 n ++ ys).drop 8 = ys := by rw [List.drop_append_of_le_length (by simp [be_length]), List.drop_of_length_le (by simp [be_length]), List.nil_append]
  rw [e1, bev_be' (by omega)] at he
  rw [e2] at hR
  exact ⟨he, hR, hK⟩

end Go.Proofs.Ytaidgkdebocenaa

namespace Go.Proofs.Ytaidgkdebocenaa
open Go Go.RowKit

theorem eqNum_parts (d : Nat) (w : World) (a0 a1 a2 a3 b0 b1 b2 b3 : Int) :
    (Op.equalIn (d + 2) 79 (.agg #[.int .u64 a0, .int .u64 a1, .int .u64 a2, .int .u64 a3]) (.agg #[.int .u64 b0, .int .u64 b1, .int .u64 b2, .int .u64 b3])).run Try.prog w = .ok (a0 == b0 && (a1 == b1 && (a2 == b2 && a3 == b3))) w := by
  have hu : Try.prog.underlying 79 = some (.array 4 54) := by kernel_rfl
  have hu1 : Try.prog.underlying 54 = some (.int .u64) := by kernel_rfl
  have hs : ∀ w : World, (sizeOf 54).run Try.prog w = .ok 1 w := fun w => by kernel_rfl
  have hp : ∀ (w : World) (x y z t : Int) (i : Nat), i < 4 → (part 54 #[.int .u64 x, .int .u64 y, .int .u64 z, .int .u64 t] i).run Try.prog w = .ok (.int .u64 (if i = 0 then x else if i = 1 then y else if i = 2 then z else t)) w := by
    intro w x y z t i hi
    have : i = 0 ∨ i = 1 ∨ i = 2 ∨ i = 3 := by omega
    rcases this with rfl | rfl | rfl | rfl <;> simp [part, go_sem]
  have he : ∀ (w : World) (a b : Int), (Op.equalIn (d + 1) 54 (.int .u64 a) (.int .u64 b)).run Try.prog w = .ok (a == b) w := fun w a b => run_equalIn_int w d _ _ _ a b hu1
  have p0 := fun w x y z t => hp w x y z t 0 (by decide)
  have p1 := fun w x y z t => hp w x y z t 1 (by decide)
  have p2 := fun w x y z t => hp w x y z t 2 (by decide)
  have p3 := fun w x y z t => hp w x y z t 3 (by decide)
  simp only [if_true, Nat.one_ne_zero, if_false, Nat.reduceEqDiff] at p0 p1 p2 p3
  show (Op.equalIn ((d + 1) + 1) _ _ _).run _ _ = _
  generalize d + 1 = D at he ⊢
  simp only [Op.equalIn, Sem.run_bind, run_underlying hu, Result.andThen_ok, hs]
  have hr : List.range' 0 4 = [0, 1, 2, 3] := rfl
  first | rw [Std.Legacy.Range.forIn_eq_forIn_range'] | rw [Std.Range.forIn_eq_forIn_range']
  have hsz : [:4].size = 4 := rfl
  simp only [hsz, hr, List.forIn_cons, List.forIn_nil, Sem.run_bind, Nat.mul_one, p0, p1, p2, p3, Result.andThen_ok, he]
  cases h0 : a0 == b0 <;> cases h1 : a1 == b1 <;> cases h2 : a2 == b2 <;> cases h3 : a3 == b3 <;> simp [Sem.run_bind, p0, p1, p2, p3, he, h0, h1, h2, h3]

end Go.Proofs.Ytaidgkdebocenaa
