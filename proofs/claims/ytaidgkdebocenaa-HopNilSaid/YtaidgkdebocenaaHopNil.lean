/- hop's functions over no store; HopNil. (Printed by gennil.py.)
   Conditions: those of numbers of 64 and of 256 bits. -/
import Derived.Test.YtaidgkdebocenaaHopM
import Derived.Test.YtaidgkdebocenaaLineNil
namespace Go.Proofs.Ytaidgkdebocenaa
open Go Go.RowKit

set_option maxRecDepth 100000 in
set_option maxHeartbeats 2000000 in
theorem hopLeave_nil {w : World} (e : En) (he : e.Ok) : Calls Try.prog 59 #[.pointer none, e.V] w fun x w' => x = .returned (.int .u64 0) ∧ Ext w w' := by
  obtain ⟨W1, hW1⟩ : ∃ W1, W1 = w.alloc (.cells #[.int .u64 (e.no : Int), .int .u8 (e.ow.toNat : Int), .int .u8 (e.va.toNat : Int), .int .u64 (e.made : Int), .int .u64 (e.due : Int), .int .u64 (limb e.fi 0 : Nat), .int .u64 (limb e.fi 1 : Nat), .int .u64 (limb e.fi 2 : Nat), .int .u64 (limb e.fi 3 : Nat), .int .u64 (limb e.nw 0 : Nat), .int .u64 (limb e.nw 1 : Nat), .int .u64 (limb e.nw 2 : Nat), .int .u64 (limb e.nw 3 : Nat)] 81) := ⟨_, rfl⟩
  have hE1 : Ext w W1 := by rw [hW1]; exact (Ext.refl w).alloc _
  have hb : W1.heap[w.heap.size]? = some (.cells #[.int .u64 (e.no : Int), .int .u8 (e.ow.toNat : Int), .int .u8 (e.va.toNat : Int), .int .u64 (e.made : Int), .int .u64 (e.due : Int), .int .u64 (limb e.fi 0 : Nat), .int .u64 (limb e.fi 1 : Nat), .int .u64 (limb e.fi 2 : Nat), .int .u64 (limb e.fi 3 : Nat), .int .u64 (limb e.nw 0 : Nat), .int .u64 (limb e.nw 1 : Nat), .int .u64 (limb e.nw 2 : Nat), .int .u64 (limb e.nw 3 : Nat)] 81 (0, 0)) := by rw [hW1]; exact heap_alloc_new w _
  have hbD : W1.drew.heap[w.heap.size]? = _ := hb
  have HB := hid (fun (w' : World) (hx : w'.heap[w.heap.size]? = some (.cells #[.int .u64 (e.no : Int), .int .u8 (e.ow.toNat : Int), .int .u8 (e.va.toNat : Int), .int .u64 (e.made : Int), .int .u64 (e.due : Int), .int .u64 (limb e.fi 0 : Nat), .int .u64 (limb e.fi 1 : Nat), .int .u64 (limb e.fi 2 : Nat), .int .u64 (limb e.fi 3 : Nat), .int .u64 (limb e.nw 0 : Nat), .int .u64 (limb e.nw 1 : Nat), .int .u64 (limb e.nw 2 : Nat), .int .u64 (limb e.nw 3 : Nat)] 81 (0, 0))) => (⟨by rw [cell_of_row w' _ 0 _ _ _ hx]; rfl, by rw [cell_of_row w' _ 1 _ _ _ hx]; rfl, by rw [cell_of_row w' _ 2 _ _ _ hx]; rfl, by rw [cell_of_row w' _ 3 _ _ _ hx]; rfl, by rw [cell_of_row w' _ 4 _ _ _ hx]; rfl, by rw [cell_of_row w' _ 5 _ _ _ hx]; rfl, by rw [cell_of_row w' _ 6 _ _ _ hx]; rfl, by rw [cell_of_row w' _ 7 _ _ _ hx]; rfl, by rw [cell_of_row w' _ 8 _ _ _ hx]; rfl, by rw [cell_of_row w' _ 9 _ _ _ hx]; rfl, by rw [cell_of_row w' _ 10 _ _ _ hx]; rfl, by rw [cell_of_row w' _ 11 _ _ _ hx]; rfl, by rw [cell_of_row w' _ 12 _ _ _ hx]; rfl⟩ : w'.cell? ⟨w.heap.size, 0, none⟩ = some (.int .u64 (e.no : Int)) ∧ w'.cell? ⟨w.heap.size, 1, none⟩ = some (.int .u8 (e.ow.toNat : Int)) ∧ w'.cell? ⟨w.heap.size, 2, none⟩ = some (.int .u8 (e.va.toNat : Int)) ∧ w'.cell? ⟨w.heap.size, 3, none⟩ = some (.int .u64 (e.made : Int)) ∧ w'.cell? ⟨w.heap.size, 4, none⟩ = some (.int .u64 (e.due : Int)) ∧ w'.cell? ⟨w.heap.size, 5, none⟩ = some (.int .u64 (limb e.fi 0 : Nat)) ∧ w'.cell? ⟨w.heap.size, 6, none⟩ = some (.int .u64 (limb e.fi 1 : Nat)) ∧ w'.cell? ⟨w.heap.size, 7, none⟩ = some (.int .u64 (limb e.fi 2 : Nat)) ∧ w'.cell? ⟨w.heap.size, 8, none⟩ = some (.int .u64 (limb e.fi 3 : Nat)) ∧ w'.cell? ⟨w.heap.size, 9, none⟩ = some (.int .u64 (limb e.nw 0 : Nat)) ∧ w'.cell? ⟨w.heap.size, 10, none⟩ = some (.int .u64 (limb e.nw 1 : Nat)) ∧ w'.cell? ⟨w.heap.size, 11, none⟩ = some (.int .u64 (limb e.nw 2 : Nat)) ∧ w'.cell? ⟨w.heap.size, 12, none⟩ = some (.int .u64 (limb e.nw 3 : Nat))))
  obtain ⟨d1_0, d1_1, d1_2, d1_3, d1_4, d1_5, d1_6, d1_7, d1_8, d1_9, d1_10, d1_11, d1_12⟩ := HB.out _ hbD
  have hL := layEntry_c (w := W1.drew) e he
  unfold En.V En.cells at hL
  have HL := hid hL
  have hd : e.due < W64 := by unfold W64; exact he.2.2.1
  have hn : e.no < W64 := by unfold W64; exact he.1
  have HA := hid (fun (w2 : World) (pv : Value) (hp : BV w2 pv e.bs) => ((lineAdd_nil (κ := ((101 : UInt8).toNat : Int)) (due := (e.due : Int)) hp).mono (fun x w' h => (⟨h.1, h.2 ▸ Ext.refl _⟩ : x = .returned (.int .u64 0) ∧ Ext w2 w'))))
  rw [show (((101 : UInt8).toNat : Nat) : Int) = 101 from rfl] at HA
  have HE := hid (And.intro hE1 hb)
  have HW1 := hid hW1
  unfold En.V En.cells
  clear hE1 hb hbD hL he hW1 hd hn
  go_enter Try.func59, Try.ntmps59
  go_wp2_with fail
  rw [← HW1.out]
  go_region_held3 (fun w' => w'.cell? ⟨w.heap.size, 0, none⟩ = some (.int .u64 (e.no : Int)) ∧ w'.cell? ⟨w.heap.size, 1, none⟩ = some (.int .u8 (e.ow.toNat : Int)) ∧ w'.cell? ⟨w.heap.size, 2, none⟩ = some (.int .u8 (e.va.toNat : Int)) ∧ w'.cell? ⟨w.heap.size, 3, none⟩ = some (.int .u64 (e.made : Int)) ∧ w'.cell? ⟨w.heap.size, 4, none⟩ = some (.int .u64 (e.due : Int)) ∧ w'.cell? ⟨w.heap.size, 5, none⟩ = some (.int .u64 (limb e.fi 0 : Nat)) ∧ w'.cell? ⟨w.heap.size, 6, none⟩ = some (.int .u64 (limb e.fi 1 : Nat)) ∧ w'.cell? ⟨w.heap.size, 7, none⟩ = some (.int .u64 (limb e.fi 2 : Nat)) ∧ w'.cell? ⟨w.heap.size, 8, none⟩ = some (.int .u64 (limb e.fi 3 : Nat)) ∧ w'.cell? ⟨w.heap.size, 9, none⟩ = some (.int .u64 (limb e.nw 0 : Nat)) ∧ w'.cell? ⟨w.heap.size, 10, none⟩ = some (.int .u64 (limb e.nw 1 : Nat)) ∧ w'.cell? ⟨w.heap.size, 11, none⟩ = some (.int .u64 (limb e.nw 2 : Nat)) ∧ w'.cell? ⟨w.heap.size, 12, none⟩ = some (.int .u64 (limb e.nw 3 : Nat))) (go_keep)
    (first
      | (go_at_call 116; (with_reducible refine HL.out.mono ?_); rintro x w2 ⟨a, cc, rfl, ho, hE2⟩; obtain ⟨d2_0, d2_1, d2_2, d2_3, d2_4, d2_5, d2_6, d2_7, d2_8, d2_9, d2_10, d2_11, d2_12⟩ := HB.out _ (hE2.heap (show W1.drew.heap[w.heap.size]? = _ from HE.out.2)); have H2 := hid (And.intro (BV.of_owns ho) hE2); clear ho hE2)
      | (go_at_call 49; (with_reducible refine (HA.out w2 _ H2.out.1).mono ?_); rintro x w3 ⟨rfl, hE3⟩; obtain ⟨d3_0, d3_1, d3_2, d3_3, d3_4, d3_5, d3_6, d3_7, d3_8, d3_9, d3_10, d3_11, d3_12⟩ := HB.out _ ((H2.out.2.trans hE3).heap (show W1.drew.heap[w.heap.size]? = _ from HE.out.2)); have H3 := hid hE3; clear hE3))
  go_wp2_with fail
  go_ret
  exact ⟨rfl, (HE.out.1.drew.trans H2.out.2).trans H3.out⟩

set_option maxRecDepth 100000 in
set_option maxHeartbeats 2000000 in
theorem hopSetEntry_nil {w : World} (e : En) (he : e.Ok) : Calls Try.prog 74 #[.pointer none, e.V] w fun x w' => x = .returned (.bool false) ∧ Ext w w' := by
  obtain ⟨W1, hW1⟩ : ∃ W1, W1 = w.alloc (.cells #[.int .u64 (e.no : Int), .int .u8 (e.ow.toNat : Int), .int .u8 (e.va.toNat : Int), .int .u64 (e.made : Int), .int .u64 (e.due : Int), .int .u64 (limb e.fi 0 : Nat), .int .u64 (limb e.fi 1 : Nat), .int .u64 (limb e.fi 2 : Nat), .int .u64 (limb e.fi 3 : Nat), .int .u64 (limb e.nw 0 : Nat), .int .u64 (limb e.nw 1 : Nat), .int .u64 (limb e.nw 2 : Nat), .int .u64 (limb e.nw 3 : Nat)] 81) := ⟨_, rfl⟩
  have hE1 : Ext w W1 := by rw [hW1]; exact (Ext.refl w).alloc _
  have hb : W1.heap[w.heap.size]? = some (.cells #[.int .u64 (e.no : Int), .int .u8 (e.ow.toNat : Int), .int .u8 (e.va.toNat : Int), .int .u64 (e.made : Int), .int .u64 (e.due : Int), .int .u64 (limb e.fi 0 : Nat), .int .u64 (limb e.fi 1 : Nat), .int .u64 (limb e.fi 2 : Nat), .int .u64 (limb e.fi 3 : Nat), .int .u64 (limb e.nw 0 : Nat), .int .u64 (limb e.nw 1 : Nat), .int .u64 (limb e.nw 2 : Nat), .int .u64 (limb e.nw 3 : Nat)] 81 (0, 0)) := by rw [hW1]; exact heap_alloc_new w _
  have hbD : W1.drew.heap[w.heap.size]? = _ := hb
  have HB := hid (fun (w' : World) (hx : w'.heap[w.heap.size]? = some (.cells #[.int .u64 (e.no : Int), .int .u8 (e.ow.toNat : Int), .int .u8 (e.va.toNat : Int), .int .u64 (e.made : Int), .int .u64 (e.due : Int), .int .u64 (limb e.fi 0 : Nat), .int .u64 (limb e.fi 1 : Nat), .int .u64 (limb e.fi 2 : Nat), .int .u64 (limb e.fi 3 : Nat), .int .u64 (limb e.nw 0 : Nat), .int .u64 (limb e.nw 1 : Nat), .int .u64 (limb e.nw 2 : Nat), .int .u64 (limb e.nw 3 : Nat)] 81 (0, 0))) => (⟨by rw [cell_of_row w' _ 0 _ _ _ hx]; rfl, by rw [cell_of_row w' _ 1 _ _ _ hx]; rfl, by rw [cell_of_row w' _ 2 _ _ _ hx]; rfl, by rw [cell_of_row w' _ 3 _ _ _ hx]; rfl, by rw [cell_of_row w' _ 4 _ _ _ hx]; rfl, by rw [cell_of_row w' _ 5 _ _ _ hx]; rfl, by rw [cell_of_row w' _ 6 _ _ _ hx]; rfl, by rw [cell_of_row w' _ 7 _ _ _ hx]; rfl, by rw [cell_of_row w' _ 8 _ _ _ hx]; rfl, by rw [cell_of_row w' _ 9 _ _ _ hx]; rfl, by rw [cell_of_row w' _ 10 _ _ _ hx]; rfl, by rw [cell_of_row w' _ 11 _ _ _ hx]; rfl, by rw [cell_of_row w' _ 12 _ _ _ hx]; rfl⟩ : w'.cell? ⟨w.heap.size, 0, none⟩ = some (.int .u64 (e.no : Int)) ∧ w'.cell? ⟨w.heap.size, 1, none⟩ = some (.int .u8 (e.ow.toNat : Int)) ∧ w'.cell? ⟨w.heap.size, 2, none⟩ = some (.int .u8 (e.va.toNat : Int)) ∧ w'.cell? ⟨w.heap.size, 3, none⟩ = some (.int .u64 (e.made : Int)) ∧ w'.cell? ⟨w.heap.size, 4, none⟩ = some (.int .u64 (e.due : Int)) ∧ w'.cell? ⟨w.heap.size, 5, none⟩ = some (.int .u64 (limb e.fi 0 : Nat)) ∧ w'.cell? ⟨w.heap.size, 6, none⟩ = some (.int .u64 (limb e.fi 1 : Nat)) ∧ w'.cell? ⟨w.heap.size, 7, none⟩ = some (.int .u64 (limb e.fi 2 : Nat)) ∧ w'.cell? ⟨w.heap.size, 8, none⟩ = some (.int .u64 (limb e.fi 3 : Nat)) ∧ w'.cell? ⟨w.heap.size, 9, none⟩ = some (.int .u64 (limb e.nw 0 : Nat)) ∧ w'.cell? ⟨w.heap.size, 10, none⟩ = some (.int .u64 (limb e.nw 1 : Nat)) ∧ w'.cell? ⟨w.heap.size, 11, none⟩ = some (.int .u64 (limb e.nw 2 : Nat)) ∧ w'.cell? ⟨w.heap.size, 12, none⟩ = some (.int .u64 (limb e.nw 3 : Nat))))
  obtain ⟨d1_0, d1_1, d1_2, d1_3, d1_4, d1_5, d1_6, d1_7, d1_8, d1_9, d1_10, d1_11, d1_12⟩ := HB.out _ hbD
  have hL := layEntry_c (w := W1.drew) e he
  unfold En.V En.cells at hL
  have HL := hid hL
  have hd : e.due < W64 := by unfold W64; exact he.2.2.1
  have hn : e.no < W64 := by unfold W64; exact he.1
  have HA := hid (fun (w2 : World) (pv : Value) (hp : BV w2 pv e.bs) => lineSet_nil (κ := 101) hp hd hn)
  rw [show (((101 : UInt8).toNat : Nat) : Int) = 101 from rfl] at HA
  have HE := hid (And.intro hE1 hb)
  have HW1 := hid hW1
  unfold En.V En.cells
  clear hE1 hb hbD hL he hW1 hd hn
  go_enter Try.func74, Try.ntmps74
  go_wp2_with fail
  rw [← HW1.out]
  go_region_held3 (fun w' => w'.cell? ⟨w.heap.size, 0, none⟩ = some (.int .u64 (e.no : Int)) ∧ w'.cell? ⟨w.heap.size, 1, none⟩ = some (.int .u8 (e.ow.toNat : Int)) ∧ w'.cell? ⟨w.heap.size, 2, none⟩ = some (.int .u8 (e.va.toNat : Int)) ∧ w'.cell? ⟨w.heap.size, 3, none⟩ = some (.int .u64 (e.made : Int)) ∧ w'.cell? ⟨w.heap.size, 4, none⟩ = some (.int .u64 (e.due : Int)) ∧ w'.cell? ⟨w.heap.size, 5, none⟩ = some (.int .u64 (limb e.fi 0 : Nat)) ∧ w'.cell? ⟨w.heap.size, 6, none⟩ = some (.int .u64 (limb e.fi 1 : Nat)) ∧ w'.cell? ⟨w.heap.size, 7, none⟩ = some (.int .u64 (limb e.fi 2 : Nat)) ∧ w'.cell? ⟨w.heap.size, 8, none⟩ = some (.int .u64 (limb e.fi 3 : Nat)) ∧ w'.cell? ⟨w.heap.size, 9, none⟩ = some (.int .u64 (limb e.nw 0 : Nat)) ∧ w'.cell? ⟨w.heap.size, 10, none⟩ = some (.int .u64 (limb e.nw 1 : Nat)) ∧ w'.cell? ⟨w.heap.size, 11, none⟩ = some (.int .u64 (limb e.nw 2 : Nat)) ∧ w'.cell? ⟨w.heap.size, 12, none⟩ = some (.int .u64 (limb e.nw 3 : Nat))) (go_keep)
    (first
      | (go_at_call 116; (with_reducible refine HL.out.mono ?_); rintro x w2 ⟨a, cc, rfl, ho, hE2⟩; obtain ⟨d2_0, d2_1, d2_2, d2_3, d2_4, d2_5, d2_6, d2_7, d2_8, d2_9, d2_10, d2_11, d2_12⟩ := HB.out _ (hE2.heap (show W1.drew.heap[w.heap.size]? = _ from HE.out.2)); have H2 := hid (And.intro (BV.of_owns ho) hE2); clear ho hE2)
      | (go_at_call 58; (with_reducible refine (HA.out w2 _ H2.out.1).mono ?_); rintro x w3 ⟨rfl, hE3⟩; obtain ⟨d3_0, d3_1, d3_2, d3_3, d3_4, d3_5, d3_6, d3_7, d3_8, d3_9, d3_10, d3_11, d3_12⟩ := HB.out _ ((H2.out.2.trans hE3).heap (show W1.drew.heap[w.heap.size]? = _ from HE.out.2)); have H3 := hid hE3; clear hE3))
  go_wp2_with fail
  go_ret
  exact ⟨rfl, (HE.out.1.drew.trans H2.out.2).trans H3.out⟩

set_option maxRecDepth 100000 in
theorem hopDropEntry_nil {w : World} (e : En) (he : e.Ok) : Calls Try.prog 75 #[.pointer none, e.V] w fun x w' => x = .returned (.bool false) ∧ Ext w w' := by
  obtain ⟨W1, hW1⟩ : ∃ W1, W1 = w.alloc (.cells #[.int .u64 (e.no : Int), .int .u8 (e.ow.toNat : Int), .int .u8 (e.va.toNat : Int), .int .u64 (e.made : Int), .int .u64 (e.due : Int), .int .u64 (limb e.fi 0 : Nat), .int .u64 (limb e.fi 1 : Nat), .int .u64 (limb e.fi 2 : Nat), .int .u64 (limb e.fi 3 : Nat), .int .u64 (limb e.nw 0 : Nat), .int .u64 (limb e.nw 1 : Nat), .int .u64 (limb e.nw 2 : Nat), .int .u64 (limb e.nw 3 : Nat)] 81) := ⟨_, rfl⟩
  have hE1 : Ext w W1 := by rw [hW1]; exact (Ext.refl w).alloc _
  have hb : W1.heap[w.heap.size]? = some (.cells #[.int .u64 (e.no : Int), .int .u8 (e.ow.toNat : Int), .int .u8 (e.va.toNat : Int), .int .u64 (e.made : Int), .int .u64 (e.due : Int), .int .u64 (limb e.fi 0 : Nat), .int .u64 (limb e.fi 1 : Nat), .int .u64 (limb e.fi 2 : Nat), .int .u64 (limb e.fi 3 : Nat), .int .u64 (limb e.nw 0 : Nat), .int .u64 (limb e.nw 1 : Nat), .int .u64 (limb e.nw 2 : Nat), .int .u64 (limb e.nw 3 : Nat)] 81 (0, 0)) := by rw [hW1]; exact heap_alloc_new w _
  have c0 : W1.cell? ⟨w.heap.size, 0, none⟩ = some (.int .u64 (e.no : Int)) := by rw [cell_of_row W1 _ 0 _ _ _ hb]; rfl
  have c4 : W1.cell? ⟨w.heap.size, 4, none⟩ = some (.int .u64 (e.due : Int)) := by rw [cell_of_row W1 _ 4 _ _ _ hb]; rfl
  have hd : e.due < W64 := by unfold W64; exact he.2.2.1
  have hn : e.no < W64 := by unfold W64; exact he.1
  have HA := hid (lineRemove_nil (w := W1) (κ := 101) hd hn)
  rw [show (((101 : UInt8).toNat : Nat) : Int) = 101 from rfl] at HA
  have HE := hid hE1
  have HW1 := hid hW1
  unfold En.V En.cells
  clear hE1 hb he hW1 hd hn
  go_enter Try.func75, Try.ntmps75
  go_wp2_with fail
  rw [← HW1.out]
  go_wp2_with fail
  refine HA.out.mono ?_
  rintro x w2 ⟨rfl, hE2⟩
  have H2 := hid hE2
  clear hE2 HA
  go_wp2_with fail
  go_ret
  exact ⟨rfl, HE.out.trans H2.out⟩

set_option maxRecDepth 100000 in
theorem eachE_nil {w : World} : Calls Try.prog 118 #[.pointer none, .int .u8 101, .func (.func 119) #[] #[]] w fun x w' => x = .returned (.slice none 0 0) ∧ Ext w w' := by
  have HA := hid (lineAll_nil (w := w) (κ := 101))
  rw [show (((101 : UInt8).toNat : Nat) : Int) = 101 from rfl] at HA
  go_enter Try.func118, Try.ntmps118
  go_wp2_with fail
  refine HA.out.mono ?_
  rintro x w1 ⟨rfl, hE⟩
  have H1 := hid hE
  clear hE HA
  go_wp2_with fail
  go_loopw [7, 14] (fun l i wr => l = .slice none 0 0 ∧ i = .int .i64 0 ∧ Ext w wr) (fun _ _ _ => 0)
  case atStart => exact ⟨rfl, rfl, H1.out⟩
  case round =>
    obtain ⟨rfl, rfl, hE⟩ := hrel
    have H2 := hid hE
    clear hE
    go_wp2_with fail
    go_ret
    exact ⟨rfl, H2.out⟩

set_option maxRecDepth 100000 in
theorem hopEntries_nil {w : World} : Calls Try.prog 61 #[.pointer none] w (EnsPost w []) := by
  have HC := hid (eachE_nil (w := w))
  go_enter Try.func61, Try.ntmps61
  go_wp2_with fail
  refine HC.out.mono ?_
  rintro x w1 ⟨rfl, hE⟩
  have H1 := hid hE
  clear hE HC
  go_wp2_with fail
  go_ret
  exact ⟨none, 0, rfl, World.ownsRow_nil _ _ _ _, H1.out⟩

set_option maxRecDepth 100000 in
set_option maxHeartbeats 2000000 in
theorem hopJump_nil {w : World} (e : Hp) (he : e.Ok) : Calls Try.prog 60 #[.pointer none, e.V] w fun x w' => x = .returned (.int .u64 0) ∧ Ext w w' := by
  obtain ⟨W1, hW1⟩ : ∃ W1, W1 = w.alloc (.cells #[.int .u64 (e.no : Int), .int .u8 (e.ow.toNat : Int), .int .u8 (e.fr.toNat : Int), .int .u8 (e.to.toNat : Int), .int .u64 (e.made : Int), .int .u64 (e.due : Int), .int .u64 (limb e.fi 0 : Nat), .int .u64 (limb e.fi 1 : Nat), .int .u64 (limb e.fi 2 : Nat), .int .u64 (limb e.fi 3 : Nat), .int .u64 (limb e.sh 0 : Nat), .int .u64 (limb e.sh 1 : Nat), .int .u64 (limb e.sh 2 : Nat), .int .u64 (limb e.sh 3 : Nat)] 83) := ⟨_, rfl⟩
  have hE1 : Ext w W1 := by rw [hW1]; exact (Ext.refl w).alloc _
  have hb : W1.heap[w.heap.size]? = some (.cells #[.int .u64 (e.no : Int), .int .u8 (e.ow.toNat : Int), .int .u8 (e.fr.toNat : Int), .int .u8 (e.to.toNat : Int), .int .u64 (e.made : Int), .int .u64 (e.due : Int), .int .u64 (limb e.fi 0 : Nat), .int .u64 (limb e.fi 1 : Nat), .int .u64 (limb e.fi 2 : Nat), .int .u64 (limb e.fi 3 : Nat), .int .u64 (limb e.sh 0 : Nat), .int .u64 (limb e.sh 1 : Nat), .int .u64 (limb e.sh 2 : Nat), .int .u64 (limb e.sh 3 : Nat)] 83 (0, 0)) := by rw [hW1]; exact heap_alloc_new w _
  have hbD : W1.drew.heap[w.heap.size]? = _ := hb
  have HB := hid (fun (w' : World) (hx : w'.heap[w.heap.size]? = some (.cells #[.int .u64 (e.no : Int), .int .u8 (e.ow.toNat : Int), .int .u8 (e.fr.toNat : Int), .int .u8 (e.to.toNat : Int), .int .u64 (e.made : Int), .int .u64 (e.due : Int), .int .u64 (limb e.fi 0 : Nat), .int .u64 (limb e.fi 1 : Nat), .int .u64 (limb e.fi 2 : Nat), .int .u64 (limb e.fi 3 : Nat), .int .u64 (limb e.sh 0 : Nat), .int .u64 (limb e.sh 1 : Nat), .int .u64 (limb e.sh 2 : Nat), .int .u64 (limb e.sh 3 : Nat)] 83 (0, 0))) => (⟨by rw [cell_of_row w' _ 0 _ _ _ hx]; rfl, by rw [cell_of_row w' _ 1 _ _ _ hx]; rfl, by rw [cell_of_row w' _ 2 _ _ _ hx]; rfl, by rw [cell_of_row w' _ 3 _ _ _ hx]; rfl, by rw [cell_of_row w' _ 4 _ _ _ hx]; rfl, by rw [cell_of_row w' _ 5 _ _ _ hx]; rfl, by rw [cell_of_row w' _ 6 _ _ _ hx]; rfl, by rw [cell_of_row w' _ 7 _ _ _ hx]; rfl, by rw [cell_of_row w' _ 8 _ _ _ hx]; rfl, by rw [cell_of_row w' _ 9 _ _ _ hx]; rfl, by rw [cell_of_row w' _ 10 _ _ _ hx]; rfl, by rw [cell_of_row w' _ 11 _ _ _ hx]; rfl, by rw [cell_of_row w' _ 12 _ _ _ hx]; rfl, by rw [cell_of_row w' _ 13 _ _ _ hx]; rfl⟩ : w'.cell? ⟨w.heap.size, 0, none⟩ = some (.int .u64 (e.no : Int)) ∧ w'.cell? ⟨w.heap.size, 1, none⟩ = some (.int .u8 (e.ow.toNat : Int)) ∧ w'.cell? ⟨w.heap.size, 2, none⟩ = some (.int .u8 (e.fr.toNat : Int)) ∧ w'.cell? ⟨w.heap.size, 3, none⟩ = some (.int .u8 (e.to.toNat : Int)) ∧ w'.cell? ⟨w.heap.size, 4, none⟩ = some (.int .u64 (e.made : Int)) ∧ w'.cell? ⟨w.heap.size, 5, none⟩ = some (.int .u64 (e.due : Int)) ∧ w'.cell? ⟨w.heap.size, 6, none⟩ = some (.int .u64 (limb e.fi 0 : Nat)) ∧ w'.cell? ⟨w.heap.size, 7, none⟩ = some (.int .u64 (limb e.fi 1 : Nat)) ∧ w'.cell? ⟨w.heap.size, 8, none⟩ = some (.int .u64 (limb e.fi 2 : Nat)) ∧ w'.cell? ⟨w.heap.size, 9, none⟩ = some (.int .u64 (limb e.fi 3 : Nat)) ∧ w'.cell? ⟨w.heap.size, 10, none⟩ = some (.int .u64 (limb e.sh 0 : Nat)) ∧ w'.cell? ⟨w.heap.size, 11, none⟩ = some (.int .u64 (limb e.sh 1 : Nat)) ∧ w'.cell? ⟨w.heap.size, 12, none⟩ = some (.int .u64 (limb e.sh 2 : Nat)) ∧ w'.cell? ⟨w.heap.size, 13, none⟩ = some (.int .u64 (limb e.sh 3 : Nat))))
  obtain ⟨d1_0, d1_1, d1_2, d1_3, d1_4, d1_5, d1_6, d1_7, d1_8, d1_9, d1_10, d1_11, d1_12, d1_13⟩ := HB.out _ hbD
  have hL := layHop_c (w := W1.drew) e he
  unfold Hp.V Hp.cells at hL
  have HL := hid hL
  have hd : e.due < W64 := by unfold W64; exact he.2.2.1
  have hn : e.no < W64 := by unfold W64; exact he.1
  have HA := hid (fun (w2 : World) (pv : Value) (hp : BV w2 pv e.bs) => ((lineAdd_nil (κ := ((104 : UInt8).toNat : Int)) (due := (e.due : Int)) hp).mono (fun x w' h => (⟨h.1, h.2 ▸ Ext.refl _⟩ : x = .returned (.int .u64 0) ∧ Ext w2 w'))))
  rw [show (((104 : UInt8).toNat : Nat) : Int) = 104 from rfl] at HA
  have HE := hid (And.intro hE1 hb)
  have HW1 := hid hW1
  unfold Hp.V Hp.cells
  clear hE1 hb hbD hL he hW1 hd hn
  go_enter Try.func60, Try.ntmps60
  go_wp2_with fail
  rw [← HW1.out]
  go_region_held3 (fun w' => w'.cell? ⟨w.heap.size, 0, none⟩ = some (.int .u64 (e.no : Int)) ∧ w'.cell? ⟨w.heap.size, 1, none⟩ = some (.int .u8 (e.ow.toNat : Int)) ∧ w'.cell? ⟨w.heap.size, 2, none⟩ = some (.int .u8 (e.fr.toNat : Int)) ∧ w'.cell? ⟨w.heap.size, 3, none⟩ = some (.int .u8 (e.to.toNat : Int)) ∧ w'.cell? ⟨w.heap.size, 4, none⟩ = some (.int .u64 (e.made : Int)) ∧ w'.cell? ⟨w.heap.size, 5, none⟩ = some (.int .u64 (e.due : Int)) ∧ w'.cell? ⟨w.heap.size, 6, none⟩ = some (.int .u64 (limb e.fi 0 : Nat)) ∧ w'.cell? ⟨w.heap.size, 7, none⟩ = some (.int .u64 (limb e.fi 1 : Nat)) ∧ w'.cell? ⟨w.heap.size, 8, none⟩ = some (.int .u64 (limb e.fi 2 : Nat)) ∧ w'.cell? ⟨w.heap.size, 9, none⟩ = some (.int .u64 (limb e.fi 3 : Nat)) ∧ w'.cell? ⟨w.heap.size, 10, none⟩ = some (.int .u64 (limb e.sh 0 : Nat)) ∧ w'.cell? ⟨w.heap.size, 11, none⟩ = some (.int .u64 (limb e.sh 1 : Nat)) ∧ w'.cell? ⟨w.heap.size, 12, none⟩ = some (.int .u64 (limb e.sh 2 : Nat)) ∧ w'.cell? ⟨w.heap.size, 13, none⟩ = some (.int .u64 (limb e.sh 3 : Nat))) (go_keep)
    (first
      | (go_at_call 117; (with_reducible refine HL.out.mono ?_); rintro x w2 ⟨a, cc, rfl, ho, hE2⟩; obtain ⟨d2_0, d2_1, d2_2, d2_3, d2_4, d2_5, d2_6, d2_7, d2_8, d2_9, d2_10, d2_11, d2_12, d2_13⟩ := HB.out _ (hE2.heap (show W1.drew.heap[w.heap.size]? = _ from HE.out.2)); have H2 := hid (And.intro (BV.of_owns ho) hE2); clear ho hE2)
      | (go_at_call 49; (with_reducible refine (HA.out w2 _ H2.out.1).mono ?_); rintro x w3 ⟨rfl, hE3⟩; obtain ⟨d3_0, d3_1, d3_2, d3_3, d3_4, d3_5, d3_6, d3_7, d3_8, d3_9, d3_10, d3_11, d3_12, d3_13⟩ := HB.out _ ((H2.out.2.trans hE3).heap (show W1.drew.heap[w.heap.size]? = _ from HE.out.2)); have H3 := hid hE3; clear hE3))
  go_wp2_with fail
  go_ret
  exact ⟨rfl, (HE.out.1.drew.trans H2.out.2).trans H3.out⟩

set_option maxRecDepth 100000 in
theorem hopDropHop_nil {w : World} (e : Hp) (he : e.Ok) : Calls Try.prog 76 #[.pointer none, e.V] w fun x w' => x = .returned (.bool false) ∧ Ext w w' := by
  obtain ⟨W1, hW1⟩ : ∃ W1, W1 = w.alloc (.cells #[.int .u64 (e.no : Int), .int .u8 (e.ow.toNat : Int), .int .u8 (e.fr.toNat : Int), .int .u8 (e.to.toNat : Int), .int .u64 (e.made : Int), .int .u64 (e.due : Int), .int .u64 (limb e.fi 0 : Nat), .int .u64 (limb e.fi 1 : Nat), .int .u64 (limb e.fi 2 : Nat), .int .u64 (limb e.fi 3 : Nat), .int .u64 (limb e.sh 0 : Nat), .int .u64 (limb e.sh 1 : Nat), .int .u64 (limb e.sh 2 : Nat), .int .u64 (limb e.sh 3 : Nat)] 83) := ⟨_, rfl⟩
  have hE1 : Ext w W1 := by rw [hW1]; exact (Ext.refl w).alloc _
  have hb : W1.heap[w.heap.size]? = some (.cells #[.int .u64 (e.no : Int), .int .u8 (e.ow.toNat : Int), .int .u8 (e.fr.toNat : Int), .int .u8 (e.to.toNat : Int), .int .u64 (e.made : Int), .int .u64 (e.due : Int), .int .u64 (limb e.fi 0 : Nat), .int .u64 (limb e.fi 1 : Nat), .int .u64 (limb e.fi 2 : Nat), .int .u64 (limb e.fi 3 : Nat), .int .u64 (limb e.sh 0 : Nat), .int .u64 (limb e.sh 1 : Nat), .int .u64 (limb e.sh 2 : Nat), .int .u64 (limb e.sh 3 : Nat)] 83 (0, 0)) := by rw [hW1]; exact heap_alloc_new w _
  have c0 : W1.cell? ⟨w.heap.size, 0, none⟩ = some (.int .u64 (e.no : Int)) := by rw [cell_of_row W1 _ 0 _ _ _ hb]; rfl
  have c5 : W1.cell? ⟨w.heap.size, 5, none⟩ = some (.int .u64 (e.due : Int)) := by rw [cell_of_row W1 _ 5 _ _ _ hb]; rfl
  have hd : e.due < W64 := by unfold W64; exact he.2.2.1
  have hn : e.no < W64 := by unfold W64; exact he.1
  have HA := hid (lineRemove_nil (w := W1) (κ := 104) hd hn)
  rw [show (((104 : UInt8).toNat : Nat) : Int) = 104 from rfl] at HA
  have HE := hid hE1
  have HW1 := hid hW1
  unfold Hp.V Hp.cells
  clear hE1 hb he hW1 hd hn
  go_enter Try.func76, Try.ntmps76
  go_wp2_with fail
  rw [← HW1.out]
  go_wp2_with fail
  refine HA.out.mono ?_
  rintro x w2 ⟨rfl, hE2⟩
  have H2 := hid hE2
  clear hE2 HA
  go_wp2_with fail
  go_ret
  exact ⟨rfl, HE.out.trans H2.out⟩

set_option maxRecDepth 100000 in
theorem eachH_nil {w : World} : Calls Try.prog 120 #[.pointer none, .int .u8 104, .func (.func 121) #[] #[]] w fun x w' => x = .returned (.slice none 0 0) ∧ Ext w w' := by
  have HA := hid (lineAll_nil (w := w) (κ := 104))
  rw [show (((104 : UInt8).toNat : Nat) : Int) = 104 from rfl] at HA
  go_enter Try.func120, Try.ntmps120
  go_wp2_with fail
  refine HA.out.mono ?_
  rintro x w1 ⟨rfl, hE⟩
  have H1 := hid hE
  clear hE HA
  go_wp2_with fail
  go_loopw [7, 14] (fun l i wr => l = .slice none 0 0 ∧ i = .int .i64 0 ∧ Ext w wr) (fun _ _ _ => 0)
  case atStart => exact ⟨rfl, rfl, H1.out⟩
  case round =>
    obtain ⟨rfl, rfl, hE⟩ := hrel
    have H2 := hid hE
    clear hE
    go_wp2_with fail
    go_ret
    exact ⟨rfl, H2.out⟩

set_option maxRecDepth 100000 in
theorem hopHops_nil {w : World} : Calls Try.prog 62 #[.pointer none] w (HpsPost w []) := by
  have HC := hid (eachH_nil (w := w))
  go_enter Try.func62, Try.ntmps62
  go_wp2_with fail
  refine HC.out.mono ?_
  rintro x w1 ⟨rfl, hE⟩
  have H1 := hid hE
  clear hE HC
  go_wp2_with fail
  go_ret
  exact ⟨none, 0, rfl, World.ownsRow_nil _ _ _ _, H1.out⟩

set_option maxRecDepth 100000 in
set_option maxHeartbeats 8000000 in
theorem hopNil_n {w : World} (e : En) (h : Hp) (now : Nat) (he : e.Ok) (hh : h.Ok) : Calls Try.prog 18 #[e.V, h.V, .int .u64 (now : Int)] w fun x w' => x = .returned (.bool true) ∧ Ext w w' := by
  obtain ⟨W0, hW0⟩ : ∃ W0, W0 = w.alloc (.cells #[.int .u64 (e.no : Int), .int .u8 (e.ow.toNat : Int), .int .u8 (e.va.toNat : Int), .int .u64 (e.made : Int), .int .u64 (e.due : Int), .int .u64 (limb e.fi 0 : Nat), .int .u64 (limb e.fi 1 : Nat), .int .u64 (limb e.fi 2 : Nat), .int .u64 (limb e.fi 3 : Nat), .int .u64 (limb e.nw 0 : Nat), .int .u64 (limb e.nw 1 : Nat), .int .u64 (limb e.nw 2 : Nat), .int .u64 (limb e.nw 3 : Nat)] 81) := ⟨_, rfl⟩
  obtain ⟨W1, hW1⟩ : ∃ W1, W1 = W0.alloc (.cells #[.int .u64 (h.no : Int), .int .u8 (h.ow.toNat : Int), .int .u8 (h.fr.toNat : Int), .int .u8 (h.to.toNat : Int), .int .u64 (h.made : Int), .int .u64 (h.due : Int), .int .u64 (limb h.fi 0 : Nat), .int .u64 (limb h.fi 1 : Nat), .int .u64 (limb h.fi 2 : Nat), .int .u64 (limb h.fi 3 : Nat), .int .u64 (limb h.sh 0 : Nat), .int .u64 (limb h.sh 1 : Nat), .int .u64 (limb h.sh 2 : Nat), .int .u64 (limb h.sh 3 : Nat)] 83) := ⟨_, rfl⟩
  have s0 : W0.heap.size = w.heap.size + 1 := by rw [hW0, World.size_alloc]
  have hbe : W1.heap[w.heap.size]? = some (.cells #[.int .u64 (e.no : Int), .int .u8 (e.ow.toNat : Int), .int .u8 (e.va.toNat : Int), .int .u64 (e.made : Int), .int .u64 (e.due : Int), .int .u64 (limb e.fi 0 : Nat), .int .u64 (limb e.fi 1 : Nat), .int .u64 (limb e.fi 2 : Nat), .int .u64 (limb e.fi 3 : Nat), .int .u64 (limb e.nw 0 : Nat), .int .u64 (limb e.nw 1 : Nat), .int .u64 (limb e.nw 2 : Nat), .int .u64 (limb e.nw 3 : Nat)] 81 (0, 0)) := by rw [hW1, hW0]; exact Keeps.heap ((Ext.refl _).alloc _) (heap_alloc_new w _) fun c => c
  have hbh : W1.heap[w.heap.size + 1]? = some (.cells #[.int .u64 (h.no : Int), .int .u8 (h.ow.toNat : Int), .int .u8 (h.fr.toNat : Int), .int .u8 (h.to.toNat : Int), .int .u64 (h.made : Int), .int .u64 (h.due : Int), .int .u64 (limb h.fi 0 : Nat), .int .u64 (limb h.fi 1 : Nat), .int .u64 (limb h.fi 2 : Nat), .int .u64 (limb h.fi 3 : Nat), .int .u64 (limb h.sh 0 : Nat), .int .u64 (limb h.sh 1 : Nat), .int .u64 (limb h.sh 2 : Nat), .int .u64 (limb h.sh 3 : Nat)] 83 (0, 0)) := by rw [hW1, ← s0]; exact heap_alloc_new W0 _
  have hEw : Ext w W1 := by rw [hW1, hW0]; exact ((Ext.refl w).alloc _).alloc _
  have HB := hid (fun (w' : World) (hE : Ext W1 w') => (⟨by rw [cell_of_row w' _ 0 _ _ _ (hE.heap hbe)]; rfl, by rw [cell_of_row w' _ 1 _ _ _ (hE.heap hbe)]; rfl, by rw [cell_of_row w' _ 2 _ _ _ (hE.heap hbe)]; rfl, by rw [cell_of_row w' _ 3 _ _ _ (hE.heap hbe)]; rfl, by rw [cell_of_row w' _ 4 _ _ _ (hE.heap hbe)]; rfl, by rw [cell_of_row w' _ 5 _ _ _ (hE.heap hbe)]; rfl, by rw [cell_of_row w' _ 6 _ _ _ (hE.heap hbe)]; rfl, by rw [cell_of_row w' _ 7 _ _ _ (hE.heap hbe)]; rfl, by rw [cell_of_row w' _ 8 _ _ _ (hE.heap hbe)]; rfl, by rw [cell_of_row w' _ 9 _ _ _ (hE.heap hbe)]; rfl, by rw [cell_of_row w' _ 10 _ _ _ (hE.heap hbe)]; rfl, by rw [cell_of_row w' _ 11 _ _ _ (hE.heap hbe)]; rfl, by rw [cell_of_row w' _ 12 _ _ _ (hE.heap hbe)]; rfl, by rw [cell_of_row w' _ 0 _ _ _ (hE.heap hbh)]; rfl, by rw [cell_of_row w' _ 1 _ _ _ (hE.heap hbh)]; rfl, by rw [cell_of_row w' _ 2 _ _ _ (hE.heap hbh)]; rfl, by rw [cell_of_row w' _ 3 _ _ _ (hE.heap hbh)]; rfl, by rw [cell_of_row w' _ 4 _ _ _ (hE.heap hbh)]; rfl, by rw [cell_of_row w' _ 5 _ _ _ (hE.heap hbh)]; rfl, by rw [cell_of_row w' _ 6 _ _ _ (hE.heap hbh)]; rfl, by rw [cell_of_row w' _ 7 _ _ _ (hE.heap hbh)]; rfl, by rw [cell_of_row w' _ 8 _ _ _ (hE.heap hbh)]; rfl, by rw [cell_of_row w' _ 9 _ _ _ (hE.heap hbh)]; rfl, by rw [cell_of_row w' _ 10 _ _ _ (hE.heap hbh)]; rfl, by rw [cell_of_row w' _ 11 _ _ _ (hE.heap hbh)]; rfl, by rw [cell_of_row w' _ 12 _ _ _ (hE.heap hbh)]; rfl, by rw [cell_of_row w' _ 13 _ _ _ (hE.heap hbh)]; rfl⟩ : w'.cell? ⟨w.heap.size, 0, none⟩ = some (.int .u64 (e.no : Int)) ∧ w'.cell? ⟨w.heap.size, 1, none⟩ = some (.int .u8 (e.ow.toNat : Int)) ∧ w'.cell? ⟨w.heap.size, 2, none⟩ = some (.int .u8 (e.va.toNat : Int)) ∧ w'.cell? ⟨w.heap.size, 3, none⟩ = some (.int .u64 (e.made : Int)) ∧ w'.cell? ⟨w.heap.size, 4, none⟩ = some (.int .u64 (e.due : Int)) ∧ w'.cell? ⟨w.heap.size, 5, none⟩ = some (.int .u64 (limb e.fi 0 : Nat)) ∧ w'.cell? ⟨w.heap.size, 6, none⟩ = some (.int .u64 (limb e.fi 1 : Nat)) ∧ w'.cell? ⟨w.heap.size, 7, none⟩ = some (.int .u64 (limb e.fi 2 : Nat)) ∧ w'.cell? ⟨w.heap.size, 8, none⟩ = some (.int .u64 (limb e.fi 3 : Nat)) ∧ w'.cell? ⟨w.heap.size, 9, none⟩ = some (.int .u64 (limb e.nw 0 : Nat)) ∧ w'.cell? ⟨w.heap.size, 10, none⟩ = some (.int .u64 (limb e.nw 1 : Nat)) ∧ w'.cell? ⟨w.heap.size, 11, none⟩ = some (.int .u64 (limb e.nw 2 : Nat)) ∧ w'.cell? ⟨w.heap.size, 12, none⟩ = some (.int .u64 (limb e.nw 3 : Nat)) ∧ w'.cell? ⟨w.heap.size + 1, 0, none⟩ = some (.int .u64 (h.no : Int)) ∧ w'.cell? ⟨w.heap.size + 1, 1, none⟩ = some (.int .u8 (h.ow.toNat : Int)) ∧ w'.cell? ⟨w.heap.size + 1, 2, none⟩ = some (.int .u8 (h.fr.toNat : Int)) ∧ w'.cell? ⟨w.heap.size + 1, 3, none⟩ = some (.int .u8 (h.to.toNat : Int)) ∧ w'.cell? ⟨w.heap.size + 1, 4, none⟩ = some (.int .u64 (h.made : Int)) ∧ w'.cell? ⟨w.heap.size + 1, 5, none⟩ = some (.int .u64 (h.due : Int)) ∧ w'.cell? ⟨w.heap.size + 1, 6, none⟩ = some (.int .u64 (limb h.fi 0 : Nat)) ∧ w'.cell? ⟨w.heap.size + 1, 7, none⟩ = some (.int .u64 (limb h.fi 1 : Nat)) ∧ w'.cell? ⟨w.heap.size + 1, 8, none⟩ = some (.int .u64 (limb h.fi 2 : Nat)) ∧ w'.cell? ⟨w.heap.size + 1, 9, none⟩ = some (.int .u64 (limb h.fi 3 : Nat)) ∧ w'.cell? ⟨w.heap.size + 1, 10, none⟩ = some (.int .u64 (limb h.sh 0 : Nat)) ∧ w'.cell? ⟨w.heap.size + 1, 11, none⟩ = some (.int .u64 (limb h.sh 1 : Nat)) ∧ w'.cell? ⟨w.heap.size + 1, 12, none⟩ = some (.int .u64 (limb h.sh 2 : Nat)) ∧ w'.cell? ⟨w.heap.size + 1, 13, none⟩ = some (.int .u64 (limb h.sh 3 : Nat))))
  have HW := hid (And.intro hW0 hW1)
  have HEw := hid hEw
  have HS0 := hid (fun (w0 : World) => leaves_c w0)
  have HS1 := hid (fun (w0 : World) => hopLeave_nil (w := w0) e he)
  unfold En.V En.cells at HS1
  have HS2 := hid (fun (w0 : World) => hopJump_nil (w := w0) h hh)
  unfold Hp.V Hp.cells at HS2
  have HS3 := hid (fun (w0 : World) => hopSetEntry_nil (w := w0) e he)
  unfold En.V En.cells at HS3
  have HS4 := hid (fun (w0 : World) => hopDropEntry_nil (w := w0) e he)
  unfold En.V En.cells at HS4
  have HS5 := hid (fun (w0 : World) => hopDropHop_nil (w := w0) h hh)
  unfold Hp.V Hp.cells at HS5
  have HS6 := hid (fun (w0 : World) => hopEntries_nil (w := w0))
  have HS7 := hid (fun (w0 : World) => hopHops_nil (w := w0))
  have HS8 := hid (fun (w0 : World) => hopLeaving_of (w := w0) (es := []) e.ow e.va (fun w' _ => hopEntries_nil) (by simp))
  have HS9 := hid (fun (w0 : World) => hopJumping_of (w := w0) (es := []) h.ow h.fr h.to (fun w' _ => hopHops_nil) (by simp))
  have HS10 := hid (fun (w0 : World) => hopCame_of (w := w0) (es := []) h.ow h.to now (fun w' _ => hopHops_nil) (by simp))
  clear hW0 hW1 s0 hbe hbh hEw he hh
  unfold En.V En.cells Hp.V Hp.cells
  go_enter Try.func18, Try.ntmps18
  go_wp2_with fail
  rw [← HW.out.1, ← HW.out.2]
  go_wp2_with fail
  refine (HS0.out _).mono ?_
  rintro x w0 ⟨rfl, hE⟩
  have hF0 := (Ext.refl W1).trans hE
  obtain ⟨d0_0, d0_1, d0_2, d0_3, d0_4, d0_5, d0_6, d0_7, d0_8, d0_9, d0_10, d0_11, d0_12, b0_0, b0_1, b0_2, b0_3, b0_4, b0_5, b0_6, b0_7, b0_8, b0_9, b0_10, b0_11, b0_12, b0_13⟩ := HB.out _ hF0
  have HF0 := hid hF0
  clear hE hF0
  go_wp2_with fail
  refine (HS1.out _).mono ?_
  rintro x w1 ⟨rfl, hE⟩
  have hF1 := HF0.out.trans hE
  obtain ⟨d1_0, d1_1, d1_2, d1_3, d1_4, d1_5, d1_6, d1_7, d1_8, d1_9, d1_10, d1_11, d1_12, b1_0, b1_1, b1_2, b1_3, b1_4, b1_5, b1_6, b1_7, b1_8, b1_9, b1_10, b1_11, b1_12, b1_13⟩ := HB.out _ hF1
  have HF1 := hid hF1
  clear hE hF1
  go_wp2_with fail
  refine (HS2.out _).mono ?_
  rintro x w2 ⟨rfl, hE⟩
  have hF2 := HF1.out.trans hE
  obtain ⟨d2_0, d2_1, d2_2, d2_3, d2_4, d2_5, d2_6, d2_7, d2_8, d2_9, d2_10, d2_11, d2_12, b2_0, b2_1, b2_2, b2_3, b2_4, b2_5, b2_6, b2_7, b2_8, b2_9, b2_10, b2_11, b2_12, b2_13⟩ := HB.out _ hF2
  have HF2 := hid hF2
  clear hE hF2
  go_wp2_with fail
  refine (HS3.out _).mono ?_
  rintro x w3 ⟨rfl, hE⟩
  have hF3 := HF2.out.trans hE
  obtain ⟨d3_0, d3_1, d3_2, d3_3, d3_4, d3_5, d3_6, d3_7, d3_8, d3_9, d3_10, d3_11, d3_12, b3_0, b3_1, b3_2, b3_3, b3_4, b3_5, b3_6, b3_7, b3_8, b3_9, b3_10, b3_11, b3_12, b3_13⟩ := HB.out _ hF3
  have HF3 := hid hF3
  clear hE hF3
  go_wp2_with fail
  refine (HS4.out _).mono ?_
  rintro x w4 ⟨rfl, hE⟩
  have hF4 := HF3.out.trans hE
  obtain ⟨d4_0, d4_1, d4_2, d4_3, d4_4, d4_5, d4_6, d4_7, d4_8, d4_9, d4_10, d4_11, d4_12, b4_0, b4_1, b4_2, b4_3, b4_4, b4_5, b4_6, b4_7, b4_8, b4_9, b4_10, b4_11, b4_12, b4_13⟩ := HB.out _ hF4
  have HF4 := hid hF4
  clear hE hF4
  go_wp2_with fail
  refine (HS5.out _).mono ?_
  rintro x w5 ⟨rfl, hE⟩
  have hF5 := HF4.out.trans hE
  obtain ⟨d5_0, d5_1, d5_2, d5_3, d5_4, d5_5, d5_6, d5_7, d5_8, d5_9, d5_10, d5_11, d5_12, b5_0, b5_1, b5_2, b5_3, b5_4, b5_5, b5_6, b5_7, b5_8, b5_9, b5_10, b5_11, b5_12, b5_13⟩ := HB.out _ hF5
  have HF5 := hid hF5
  clear hE hF5
  go_wp2_with fail
  refine (HS6.out _).mono ?_
  rintro x w6 ⟨a6, c6, rfl, -, hE⟩
  have hF6 := HF5.out.trans hE
  obtain ⟨d6_0, d6_1, d6_2, d6_3, d6_4, d6_5, d6_6, d6_7, d6_8, d6_9, d6_10, d6_11, d6_12, b6_0, b6_1, b6_2, b6_3, b6_4, b6_5, b6_6, b6_7, b6_8, b6_9, b6_10, b6_11, b6_12, b6_13⟩ := HB.out _ hF6
  have HF6 := hid hF6
  clear hE hF6
  go_wp2_with fail
  refine (HS7.out _).mono ?_
  rintro x w7 ⟨a7, c7, rfl, -, hE⟩
  have hF7 := HF6.out.trans hE
  obtain ⟨d7_0, d7_1, d7_2, d7_3, d7_4, d7_5, d7_6, d7_7, d7_8, d7_9, d7_10, d7_11, d7_12, b7_0, b7_1, b7_2, b7_3, b7_4, b7_5, b7_6, b7_7, b7_8, b7_9, b7_10, b7_11, b7_12, b7_13⟩ := HB.out _ hF7
  have HF7 := hid hF7
  clear hE hF7
  go_wp2_with fail
  refine (HS8.out _).mono ?_
  rintro x w8 ⟨rfl, hE⟩
  have hF8 := HF7.out.trans hE
  obtain ⟨d8_0, d8_1, d8_2, d8_3, d8_4, d8_5, d8_6, d8_7, d8_8, d8_9, d8_10, d8_11, d8_12, b8_0, b8_1, b8_2, b8_3, b8_4, b8_5, b8_6, b8_7, b8_8, b8_9, b8_10, b8_11, b8_12, b8_13⟩ := HB.out _ hF8
  have HF8 := hid hF8
  clear hE hF8
  go_wp2_with fail
  refine (HS9.out _).mono ?_
  rintro x w9 ⟨rfl, hE⟩
  have hF9 := HF8.out.trans hE
  obtain ⟨d9_0, d9_1, d9_2, d9_3, d9_4, d9_5, d9_6, d9_7, d9_8, d9_9, d9_10, d9_11, d9_12, b9_0, b9_1, b9_2, b9_3, b9_4, b9_5, b9_6, b9_7, b9_8, b9_9, b9_10, b9_11, b9_12, b9_13⟩ := HB.out _ hF9
  have HF9 := hid hF9
  clear hE hF9
  go_wp2_with fail
  refine (HS10.out _).mono ?_
  rintro x w10 ⟨rfl, hE⟩
  have hF10 := HF9.out.trans hE
  obtain ⟨d10_0, d10_1, d10_2, d10_3, d10_4, d10_5, d10_6, d10_7, d10_8, d10_9, d10_10, d10_11, d10_12, b10_0, b10_1, b10_2, b10_3, b10_4, b10_5, b10_6, b10_7, b10_8, b10_9, b10_10, b10_11, b10_12, b10_13⟩ := HB.out _ hF10
  have HF10 := hid hF10
  clear hE hF10
  go_wp2_with fail
  go_ret
  exact ⟨rfl, HEw.out.trans HF10.out⟩

theorem hopNil_c {w : World} {e : En} {h : Hp} {n : Int} (he : e.Ok) (hh : h.Ok) (hn : (Lit.int .u64 n).wf = true) : Calls Try.prog 18 #[e.V, h.V, .int .u64 n] w fun x w' => x = .returned (.bool true) ∧ Ext w w' := by
  have h3 := u64_of_wf hn
  have := hopNil_n (w := w) e h n.toNat he hh
  rwa [h3.1] at this

end Go.Proofs.Ytaidgkdebocenaa
