/- Contracts of the library's functions on bytes that the store calls: bytes.Compare, bytes.Equal, bytes.HasPrefix, slices.Clone.
   Conditions: each slice reads as bytes (BV); what is cloned is shorter than 2^40. -/
import Derived.Test.YtaidgkdebocenaaBase
namespace Go.Proofs.Ytaidgkdebocenaa
open Go Go.RowKit

theorem info5 : (Try.prog.info? 5).map (fun i => (i.zero, i.size, i.bytes)) = some (some (.int .u8 0), 1, 1) := by kernel_rfl

/-! ### bytealg.Compare -/

theorem byteArray_get (xs : BS) (i : Nat) : (⟨xs.toArray⟩ : ByteArray)[i]! = xs.getD i 0 := by
  by_cases h : i < xs.length
  · have : i < (⟨xs.toArray⟩ : ByteArray).size := by simpa [ByteArray.size] using h
    rw [getElem!_pos (⟨xs.toArray⟩ : ByteArray) i this]
    simp [List.getD, h]
    rfl
  · have : ¬ i < (⟨xs.toArray⟩ : ByteArray).size := by simpa [ByteArray.size] using h
    rw [getElem!_neg (⟨xs.toArray⟩ : ByteArray) i this]
    simp [List.getD, List.getElem?_eq_none (by omega : xs.length ≤ i)]
    rfl

/-- The first place where two lists part. -/
theorem find_range_succ (f : Nat → Bool) (n : Nat) : (List.range (n + 1)).find? f = if f 0 then some 0 else ((List.range n).find? fun i => f (i + 1)).map (· + 1) := by
  rw [List.range_succ_eq_map, List.find?_cons]
  split
  · rename_i h; simp [h]
  · rename_i h; simp [h, List.find?_map, Function.comp_def]

theorem cmp_aux : ∀ (xs ys : BS),
    (match (List.range (min xs.length ys.length)).find? fun i => xs.getD i 0 != ys.getD i 0 with
      | some i => if xs.getD i 0 < ys.getD i 0 then (-1 : Int) else 1
      | none => if xs.length < ys.length then -1 else if xs.length > ys.length then 1 else 0) = cmpI xs ys
  | [], [] => rfl
  | [], y :: ys => by simp [cmpI, lt]
  | x :: xs, [] => by simp [cmpI, lt]
  | x :: xs, y :: ys => by
    have ih := cmp_aux xs ys
    have hm : min (x :: xs).length (y :: ys).length = min xs.length ys.length + 1 := by simp
    rw [hm, find_range_succ]
    simp only [List.getD_cons_zero, List.getD_cons_succ, List.length_cons]
    by_cases e : x = y
    · subst e
      simp only [bne_self_eq_false, Bool.false_eq_true, if_false]
      have e2 : cmpI (x :: xs) (x :: ys) = cmpI xs ys := by simp [cmpI, lt]
      rw [e2, ← ih]
      cases h : (List.range (min xs.length ys.length)).find? fun i => xs.getD i 0 != ys.getD i 0 with
      | some i => simp
      | none => simp
    · have hb : (x != y) = true := by simpa using e
      rw [hb]
      simp only [if_true, List.getD_cons_zero]
      unfold cmpI lt
      rw [if_neg e, if_neg (Ne.symm e)]
      by_cases hl : x < y
      · simp [hl]
      · have hne : x.toNat ≠ y.toNat := fun c => e (u8_eq_of c)
        have : y < x := by rw [u8_lt_iff] at *; omega
        simp [hl, this]

theorem cmp_eq (xs ys : BS) : Extern.BytealgCompare.cmp ⟨xs.toArray⟩ ⟨ys.toArray⟩ = cmpI xs ys := by
  rw [← cmp_aux xs ys]
  unfold Extern.BytealgCompare.cmp
  simp only [byteArray_get]
  rfl

theorem run_compare {w : World} {a b : Value} {xs ys : BS} (ha : BV w a xs) (hb : BV w b ys) :
    (callFunc 183 #[a, b]).run Try.prog w = .ok (.value (.int .i64 (cmpI xs ys))) w := by
  rw [run_callFunc_extern (fn := Try.f183) (e := Extern.BytealgCompare.compare) (by kernel_rfl) (by kernel_rfl) rfl (by kernel_rfl) (by kernel_rfl)]
  have : (Extern.BytealgCompare.compare #[a, b]).run Try.prog w = .ok (goInt (cmpI xs ys)) w := by
    change Sem.run Try.prog (α := Value) (do pure (goInt (Extern.BytealgCompare.cmp (← Extern.Bytes.bytesOf a) (← Extern.Bytes.bytesOf b)))) w = _
    simp [run_bytesOf ha, run_bytesOf hb, cmp_eq]
  simp [this, Result.andThen, goInt]
/-! ### bytes.Compare -/

theorem bcompare_c {w : World} {a b : Value} {xs ys : BS} (ha : BV w a xs) (hb : BV w b ys) :
    Calls Try.prog 152 #[a, b] w fun e w' => e = .returned (.int .i64 (cmpI xs ys)) ∧ w = w' := by
  have hr := run_compare ha hb
  clear ha hb
  go_enter Try.func152, Try.ntmps152
  go_wp2
  go_ret
  exact ⟨rfl, rfl⟩

/-! ### bytes.Equal -/

theorem run_bstring {w : World} {v : Value} {xs : BS} (h : BV w v xs) : (convert 33 9 v).run Try.prog w = .ok (.string ⟨xs.toArray⟩) w := by
  have hh := h
  obtain ⟨ao, cap, rfl, h1, h2, h3, h4⟩ := h
  cases ao with
  | none =>
    obtain ⟨rfl, rfl⟩ := h1 rfl
    exact run_convert_bytes_nil w 33 5 Try.underlying33 Try.underlying5 _ _ 9 Try.underlying9
  | some a =>
    have hl : (loadCells a xs.length).run Try.prog w = .ok ((xs.map fun b => (b.toNat : Int)).map (Value.int .u8)).toArray w := by
      have := run_loadCells_list (P := Try.prog) w a (bcells xs) (hh.cells a rfl)
      rw [List.map_map]
      rw [bcells_length] at this
      exact this
    rw [run_convert_bytes_string w 33 9 5 _ _ cap Try.underlying33 Try.underlying5 Try.underlying9, run_bytesToString w _ _ cap _ hl, foldl_push_bytes]
    simp [ByteArray.empty, ByteArray.emptyWithCapacity, Function.comp_def]
    rfl

theorem bequal_c {w : World} {a b : Value} {xs ys : BS} (ha : BV w a xs) (hb : BV w b ys) :
    Calls Try.prog 105 #[a, b] w fun e w' => e = .returned (.bool (xs == ys)) ∧ w = w' := by
  have hr := run_bstring ha
  have hr' := run_bstring hb
  clear ha hb
  go_enter Try.func105, Try.ntmps105
  go_wp2
  go_ret
  exact ⟨rfl, rfl⟩

/-! ### slices.Clone -/

theorem run_bnil (w : World) : (binOp .eql 33 (.slice none 0 0) (.slice none 0 0)).run Try.prog w = .ok (.bool true) w :=
  Lib.run_eql_slice_nil (P := Try.prog) w 33 5 none 0 0 0 0 Try.underlying33
theorem run_bnot (w : World) (a : Addr) (n c : Nat) : (binOp .eql 33 (.slice (some a) n c) (.slice none 0 0)).run Try.prog w = .ok (.bool false) w :=
  Lib.run_eql_slice_nil (P := Try.prog) w 33 5 (some a) n c 0 0 Try.underlying33

set_option maxRecDepth 100000 in
theorem cloneB_c {w : World} {v : Value} {xs : BS} (h : BV w v xs) (hl : xs.length ≤ big) :
    Calls Try.prog 102 #[v] w fun e w' => ∃ v', e = .returned v' ∧ w'.ownsRow w.heap.size 5 1 v' xs.length (bcells xs) ∧ Ext w w' := by
  have hh := h
  obtain ⟨ao, cap, rfl, h1, h2, h3, h4⟩ := h
  cases ao with
  | none =>
    obtain ⟨rfl, rfl⟩ := h1 rfl
    have hn := run_bnil
    clear hh h1 h2 h3 h4 hl
    go_enter Try.func102, Try.ntmps102
    go_wp2
    go_ret
    exact ⟨_, rfl, World.ownsRow_nil _ _ _ _, Ext.refl _⟩
  | some a =>
    obtain ⟨i0, hi, hz0, hz1, hz2⟩ := info_parts info5
    have hn := run_bnot
    have hc := hid (hh.cells a rfl)
    clear hh h1 h2 h3 h4
    have H := hid hl
    clear hl
    have ho := World.ownsRow_made (base := w.heap.size) (e := 5) (size := 1) w #[] 0 (Nat.le_refl _) (by simp [maxLen]) (by simp)
    go_enter Try.func102, Try.ntmps102
    go_wp2_with (at_builtin; refine wpList_append_own _ rfl _ _ 33 rfl w.heap.size 5 i0 (.int .u8 0) 1 1 Try.underlying33 hi hz0 hz1 hz2 rfl (by decide) _ 0 [] rfl ho a xs.length cap (bcells xs) rfl (by simp [bcells]) ?c1 (bcells_one xs) ?c3 ?c4 ?c5 ?_)
    case c1 => exact fun j u hj => World.cell?_alloc_lt _ _ _ (World.block_lt_of_cell? _ _ (hc.out j u hj)) ▸ hc.out j u hj
    case c3 => have := H.out; simp only [big_eq] at this; unfold maxLen; omega
    case c4 => have := H.out; simp only [big_eq] at this; omega
    case c5 => simp
    intro v' w1 ho1 hg1 _
    go_wp2
    go_ret
    refine ⟨_, rfl, ?_, ?_⟩
    · simpa using ho1
    · exact ((Ext.refl _).alloc _).grown hg1 (fun k hk hlt => by simp [Value.ownBlock] at hk; omega)

/-! ### bytes.HasPrefix -/

/-- Does xs begin with p? -/
def pre (p xs : BS) : Bool := decide (p.length ≤ xs.length) && (xs.take p.length == p)

theorem BV.take {w : World} {ao : Option Addr} {n cap m : Nat} {xs : BS} (h : BV w (.slice ao n cap) xs) (hm : m ≤ xs.length) : BV w (.slice ao m cap) (xs.take m) := by
  obtain ⟨ao', cap', hv, h1, h2, h3, h4⟩ := h
  obtain ⟨rfl, -, rfl⟩ : ao = ao' ∧ n = xs.length ∧ cap = cap' := by simpa using hv
  refine ⟨ao, cap, by simp [Nat.min_eq_left hm], fun e => ?_, by simp; omega, h3, ?_⟩
  · obtain ⟨rfl, rfl⟩ := h1 e; simp
  · rcases h4 with rfl | ⟨g, off, rfl, hc⟩
    · left; simp
    · exact .inr ⟨g, off, rfl, fun i hi => by rw [hc i (by simp at hi; omega)]; simp⟩

set_option maxRecDepth 100000 in
theorem bprefix_c {w : World} {a b : Value} {xs ys : BS} (ha : BV w a xs) (hb : BV w b ys) :
    Calls Try.prog 101 #[a, b] w fun e w' => e = .returned (.bool (pre ys xs)) ∧ w = w' := by
  have ha' := ha
  have hb' := hb
  obtain ⟨ao, ca, rfl, a1, a2, a3, a4⟩ := ha
  obtain ⟨bo, cb, rfl, b1, b2, b3, b4⟩ := hb
  by_cases hle : ys.length ≤ xs.length
  · have ht := hid (bequal_c (ha'.take hle) hb')
    have hfin : Hid (pre ys xs = (xs.take ys.length == ys)) := hid (by simp [pre, hle])
    have hd : (0 : Int) ≤ (ys.length : Int) := by omega
    have hm : ys.length ≤ ca := by omega
    clear a1 a4 b1 b4 ha' hb'
    go_enter Try.func101, Try.ntmps101
    go_wp2_with (go_at_call 105; refine ht.out.mono ?_; rintro e w' ⟨rfl, rfl⟩)
    go_ret
    rw [hfin.out]
    exact ⟨rfl, rfl⟩
  · have hfin : Hid (pre ys xs = false) := hid (by simp [pre]; omega)
    have hd : decide (ys.length ≤ xs.length) = false := by simpa using hle
    clear a1 a4 b1 b4 ha' hb'
    go_enter Try.func101, Try.ntmps101
    go_wp2_with fail
    go_ret
    rw [hfin.out]
    exact ⟨rfl, rfl⟩

end Go.Proofs.Ytaidgkdebocenaa
