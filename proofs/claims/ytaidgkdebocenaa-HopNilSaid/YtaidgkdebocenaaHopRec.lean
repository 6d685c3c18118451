/- hop: an entry's record is laid. (Printed by gen14.py.)
   Conditions: numbers of 64 and of 256 bits. · hop: a hop's record is laid. (Printed by gen14.py.)
   Conditions: numbers of 64 and of 256 bits. · hop: an entry's record is taken. (Printed by gen14.py.)
   Conditions: numbers of 64 and of 256 bits. · hop: a hop's record is taken. (Printed by gen14.py.)
   Conditions: numbers of 64 and of 256 bits. -/
import Derived.Test.YtaidgkdebocenaaNumB
import Derived.Deep.RegionHeld3

namespace Go.Proofs.Ytaidgkdebocenaa
open Go Go.RowKit

structure En where
  no : Nat
  ow : UInt8
  va : UInt8
  made : Nat
  due : Nat
  fi : Nat
  nw : Nat

def En.Ok (e : En) : Prop := e.no < 18446744073709551616 ∧ e.made < 18446744073709551616 ∧ e.due < 18446744073709551616 ∧ e.fi < 256 ^ 32 ∧ e.nw < 256 ^ 32
def En.cells (e : En) : List Value := [.int .u64 (e.no : Int), .int .u8 (e.ow.toNat : Int), .int .u8 (e.va.toNat : Int), .int .u64 (e.made : Int), .int .u64 (e.due : Int), .int .u64 (limb e.fi 0 : Nat), .int .u64 (limb e.fi 1 : Nat), .int .u64 (limb e.fi 2 : Nat), .int .u64 (limb e.fi 3 : Nat), .int .u64 (limb e.nw 0 : Nat), .int .u64 (limb e.nw 1 : Nat), .int .u64 (limb e.nw 2 : Nat), .int .u64 (limb e.nw 3 : Nat)]
def En.V (e : En) : Value := .agg e.cells.toArray
theorem En.cells_len (e : En) : e.cells.length = 13 := rfl
def En.bs (e : En) : BS := [e.ow] ++ [e.va] ++ be 8 e.made ++ recN e.fi ++ recN e.nw
theorem En.bs_le (e : En) : e.bs.length ≤ 100 := by
  unfold En.bs
  simp only [List.length_append, be_length, List.length_cons, List.length_nil]
  have := recN_le e.fi; have := recN_le e.nw; omega

set_option maxRecDepth 100000 in
set_option maxHeartbeats 4000000 in
theorem layEntry_c {w : World} (e : En) (he : e.Ok) :
    Calls Try.prog 116 #[e.V] w fun x w' => ∃ a c, x = .returned (.slice a e.bs.length c) ∧ w'.ownsRow w.heap.size 5 1 (.slice a e.bs.length c) e.bs.length (bcells e.bs) ∧ Ext w w' := by
  obtain ⟨h1, h2, h3, h4, h5⟩ := he
  obtain ⟨W0, hW0⟩ : ∃ W0, W0 = w.alloc (.cells #[.int .u64 (e.no : Int), .int .u8 (e.ow.toNat : Int), .int .u8 (e.va.toNat : Int), .int .u64 (e.made : Int), .int .u64 (e.due : Int), .int .u64 (limb e.fi 0 : Nat), .int .u64 (limb e.fi 1 : Nat), .int .u64 (limb e.fi 2 : Nat), .int .u64 (limb e.fi 3 : Nat), .int .u64 (limb e.nw 0 : Nat), .int .u64 (limb e.nw 1 : Nat), .int .u64 (limb e.nw 2 : Nat), .int .u64 (limb e.nw 3 : Nat)] 81) := ⟨_, rfl⟩
  have hb : W0.heap[w.heap.size]? = some (.cells #[.int .u64 (e.no : Int), .int .u8 (e.ow.toNat : Int), .int .u8 (e.va.toNat : Int), .int .u64 (e.made : Int), .int .u64 (e.due : Int), .int .u64 (limb e.fi 0 : Nat), .int .u64 (limb e.fi 1 : Nat), .int .u64 (limb e.fi 2 : Nat), .int .u64 (limb e.fi 3 : Nat), .int .u64 (limb e.nw 0 : Nat), .int .u64 (limb e.nw 1 : Nat), .int .u64 (limb e.nw 2 : Nat), .int .u64 (limb e.nw 3 : Nat)] 81 (0, 0)) := by rw [hW0]; exact heap_alloc_new w _
  have hs : W0.heap.size = w.heap.size + 1 := by rw [hW0, World.size_alloc]
  have hE0 : Ext w W0 := by rw [hW0]; exact (Ext.refl w).alloc _
  obtain ⟨Wn, hWn⟩ : ∃ Wn, Wn = W0.alloc (.cells #[.slice none 0 0] 174) := ⟨_, rfl⟩
  have hWr : Wr W0 Wn.drew (w.heap.size + 1) [] := by rw [hWn, ← hs]; exact (Wr.new (Ext.refl W0)).ext ((Ext.refl _).drew)
  have HB := hid (fun (w' : World) (hE : Ext W0 w') => (⟨by rw [cell_of_row w' _ 1 _ _ _ (hE.heap hb)]; rfl, by rw [cell_of_row w' _ 2 _ _ _ (hE.heap hb)]; rfl, by rw [cell_of_row w' _ 3 _ _ _ (hE.heap hb)]; rfl, by rw [cell_of_row w' _ 5 _ _ _ (hE.heap hb)]; rfl, by rw [cell_of_row w' _ 6 _ _ _ (hE.heap hb)]; rfl, by rw [cell_of_row w' _ 7 _ _ _ (hE.heap hb)]; rfl, by rw [cell_of_row w' _ 8 _ _ _ (hE.heap hb)]; rfl, by rw [cell_of_row w' _ 9 _ _ _ (hE.heap hb)]; rfl, by rw [cell_of_row w' _ 10 _ _ _ (hE.heap hb)]; rfl, by rw [cell_of_row w' _ 11 _ _ _ (hE.heap hb)]; rfl, by rw [cell_of_row w' _ 12 _ _ _ (hE.heap hb)]; rfl⟩ : w'.cell? ⟨w.heap.size, 1, none⟩ = some (.int .u8 (e.ow.toNat : Int)) ∧ w'.cell? ⟨w.heap.size, 2, none⟩ = some (.int .u8 (e.va.toNat : Int)) ∧ w'.cell? ⟨w.heap.size, 3, none⟩ = some (.int .u64 (e.made : Int)) ∧ w'.cell? ⟨w.heap.size, 5, none⟩ = some (.int .u64 (limb e.fi 0 : Nat)) ∧ w'.cell? ⟨w.heap.size, 6, none⟩ = some (.int .u64 (limb e.fi 1 : Nat)) ∧ w'.cell? ⟨w.heap.size, 7, none⟩ = some (.int .u64 (limb e.fi 2 : Nat)) ∧ w'.cell? ⟨w.heap.size, 8, none⟩ = some (.int .u64 (limb e.fi 3 : Nat)) ∧ w'.cell? ⟨w.heap.size, 9, none⟩ = some (.int .u64 (limb e.nw 0 : Nat)) ∧ w'.cell? ⟨w.heap.size, 10, none⟩ = some (.int .u64 (limb e.nw 1 : Nat)) ∧ w'.cell? ⟨w.heap.size, 11, none⟩ = some (.int .u64 (limb e.nw 2 : Nat)) ∧ w'.cell? ⟨w.heap.size, 12, none⟩ = some (.int .u64 (limb e.nw 3 : Nat))))
  obtain ⟨c0_1, c0_2, c0_3, c0_5, c0_6, c0_7, c0_8, c0_9, c0_10, c0_11, c0_12⟩ := HB.out _ hWr.base
  have HW0 := hid hWr
  have HE0 := hid (And.intro hE0 hs)
  have HC1 := hid (fun (w' : World) (h : Wr W0 w' (w.heap.size + 1) ([])) => cwByte_c e.ow rfl h (by simp))
  have HC2 := hid (fun (w' : World) (h : Wr W0 w' (w.heap.size + 1) ([] ++ [e.ow])) => cwByte_c e.va rfl h (by simp))
  have HC3 := hid (fun (w' : World) (h : Wr W0 w' (w.heap.size + 1) ([] ++ [e.ow] ++ [e.va])) => cwLong_c h h2 (by simp))
  have HC4 := hid (fun (w' : World) (h : Wr W0 w' (w.heap.size + 1) ([] ++ [e.ow] ++ [e.va] ++ be 8 e.made)) => cwNum_c h h4 (by simp [be_length]))
  have HC5 := hid (fun (w' : World) (h : Wr W0 w' (w.heap.size + 1) ([] ++ [e.ow] ++ [e.va] ++ be 8 e.made ++ recN e.fi)) => cwNum_c h h5 (by have := recN_le e.fi; simp [be_length]; omega))
  have HC6 := hid (fun (w' : World) (h : Wr W0 w' (w.heap.size + 1) e.bs) => cwDone_c h (by have := e.bs_le; omega))
  unfold numV numC at HC4 HC5
  clear hE0 hs hWr hb h1 h2 h3 h4 h5
  unfold En.V En.cells
  go_enter Try.func116, Try.ntmps116
  go_wp2_with fail
  rw [← hW0, ← hWn]
  have Hn := hid (And.intro hW0 hWn)
  clear hW0 hWn
  go_region_held3 (fun w' => w'.cell? ⟨w.heap.size, 1, none⟩ = some (.int .u8 (e.ow.toNat : Int)) ∧ w'.cell? ⟨w.heap.size, 2, none⟩ = some (.int .u8 (e.va.toNat : Int)) ∧ w'.cell? ⟨w.heap.size, 3, none⟩ = some (.int .u64 (e.made : Int)) ∧ w'.cell? ⟨w.heap.size, 5, none⟩ = some (.int .u64 (limb e.fi 0 : Nat)) ∧ w'.cell? ⟨w.heap.size, 6, none⟩ = some (.int .u64 (limb e.fi 1 : Nat)) ∧ w'.cell? ⟨w.heap.size, 7, none⟩ = some (.int .u64 (limb e.fi 2 : Nat)) ∧ w'.cell? ⟨w.heap.size, 8, none⟩ = some (.int .u64 (limb e.fi 3 : Nat)) ∧ w'.cell? ⟨w.heap.size, 9, none⟩ = some (.int .u64 (limb e.nw 0 : Nat)) ∧ w'.cell? ⟨w.heap.size, 10, none⟩ = some (.int .u64 (limb e.nw 1 : Nat)) ∧ w'.cell? ⟨w.heap.size, 11, none⟩ = some (.int .u64 (limb e.nw 2 : Nat)) ∧ w'.cell? ⟨w.heap.size, 12, none⟩ = some (.int .u64 (limb e.nw 3 : Nat))) (go_keep)
    (first
      | (go_at_call 157; (with_reducible refine (HC1.out _ HW0.out).mono ?_); rintro x w1 ⟨rfl, hW⟩; have HW1 := hid hW; obtain ⟨c1_1, c1_2, c1_3, c1_5, c1_6, c1_7, c1_8, c1_9, c1_10, c1_11, c1_12⟩ := HB.out _ hW.base; clear hW)
      | (go_at_call 157; (with_reducible refine (HC2.out _ HW1.out).mono ?_); rintro x w2 ⟨rfl, hW⟩; have HW2 := hid hW; obtain ⟨c2_1, c2_2, c2_3, c2_5, c2_6, c2_7, c2_8, c2_9, c2_10, c2_11, c2_12⟩ := HB.out _ hW.base; clear hW)
      | (go_at_call 110; (with_reducible refine (HC3.out _ HW2.out).mono ?_); rintro x w3 ⟨rfl, hW⟩; have HW3 := hid hW; obtain ⟨c3_1, c3_2, c3_3, c3_5, c3_6, c3_7, c3_8, c3_9, c3_10, c3_11, c3_12⟩ := HB.out _ hW.base; clear hW)
      | (go_at_call 159; (with_reducible refine (HC4.out _ HW3.out).mono ?_); rintro x w4 ⟨rfl, hW⟩; have HW4 := hid hW; obtain ⟨c4_1, c4_2, c4_3, c4_5, c4_6, c4_7, c4_8, c4_9, c4_10, c4_11, c4_12⟩ := HB.out _ hW.base; clear hW)
      | (go_at_call 159; (with_reducible refine (HC5.out _ HW4.out).mono ?_); rintro x w5 ⟨rfl, hW⟩; have HW5 := hid hW; obtain ⟨c5_1, c5_2, c5_3, c5_5, c5_6, c5_7, c5_8, c5_9, c5_10, c5_11, c5_12⟩ := HB.out _ hW.base; clear hW)
      | (go_at_call 111; have hWl : Wr W0 w5 (w.heap.size + 1) e.bs := HW5.out; (with_reducible refine (HC6.out _ hWl).mono ?_); clear hWl; rintro x w6 ⟨a, c, rfl, ho, hE6⟩; obtain ⟨c6_1, c6_2, c6_3, c6_5, c6_6, c6_7, c6_8, c6_9, c6_10, c6_11, c6_12⟩ := HB.out _ (HW5.out.base.trans hE6); have HO := hid (And.intro ho hE6); clear ho hE6))
  go_wp2_with fail
  go_ret
  have hE := HE0.out.1.trans HW5.out.base
  exact ⟨a, c, rfl, owns_low HO.out.1 hE.size, hE.trans HO.out.2⟩

end Go.Proofs.Ytaidgkdebocenaa

namespace Go.Proofs.Ytaidgkdebocenaa
open Go Go.RowKit

structure Hp where
  no : Nat
  ow : UInt8
  fr : UInt8
  to : UInt8
  made : Nat
  due : Nat
  fi : Nat
  sh : Nat

def Hp.Ok (e : Hp) : Prop := e.no < 18446744073709551616 ∧ e.made < 18446744073709551616 ∧ e.due < 18446744073709551616 ∧ e.fi < 256 ^ 32 ∧ e.sh < 256 ^ 32
def Hp.cells (e : Hp) : List Value := [.int .u64 (e.no : Int), .int .u8 (e.ow.toNat : Int), .int .u8 (e.fr.toNat : Int), .int .u8 (e.to.toNat : Int), .int .u64 (e.made : Int), .int .u64 (e.due : Int), .int .u64 (limb e.fi 0 : Nat), .int .u64 (limb e.fi 1 : Nat), .int .u64 (limb e.fi 2 : Nat), .int .u64 (limb e.fi 3 : Nat), .int .u64 (limb e.sh 0 : Nat), .int .u64 (limb e.sh 1 : Nat), .int .u64 (limb e.sh 2 : Nat), .int .u64 (limb e.sh 3 : Nat)]
def Hp.V (e : Hp) : Value := .agg e.cells.toArray
theorem Hp.cells_len (e : Hp) : e.cells.length = 14 := rfl
def Hp.bs (e : Hp) : BS := [e.ow] ++ [e.fr] ++ [e.to] ++ be 8 e.made ++ recN e.fi ++ recN e.sh
theorem Hp.bs_le (e : Hp) : e.bs.length ≤ 100 := by
  unfold Hp.bs
  simp only [List.length_append, be_length, List.length_cons, List.length_nil]
  have := recN_le e.fi; have := recN_le e.sh; omega

set_option maxRecDepth 100000 in
set_option maxHeartbeats 4000000 in
theorem layHop_c {w : World} (e : Hp) (he : e.Ok) :
    Calls Try.prog 117 #[e.V] w fun x w' => ∃ a c, x = .returned (.slice a e.bs.length c) ∧ w'.ownsRow w.heap.size 5 1 (.slice a e.bs.length c) e.bs.length (bcells e.bs) ∧ Ext w w' := by
  obtain ⟨h1, h2, h3, h4, h5⟩ := he
  obtain ⟨W0, hW0⟩ : ∃ W0, W0 = w.alloc (.cells #[.int .u64 (e.no : Int), .int .u8 (e.ow.toNat : Int), .int .u8 (e.fr.toNat : Int), .int .u8 (e.to.toNat : Int), .int .u64 (e.made : Int), .int .u64 (e.due : Int), .int .u64 (limb e.fi 0 : Nat), .int .u64 (limb e.fi 1 : Nat), .int .u64 (limb e.fi 2 : Nat), .int .u64 (limb e.fi 3 : Nat), .int .u64 (limb e.sh 0 : Nat), .int .u64 (limb e.sh 1 : Nat), .int .u64 (limb e.sh 2 : Nat), .int .u64 (limb e.sh 3 : Nat)] 83) := ⟨_, rfl⟩
  have hb : W0.heap[w.heap.size]? = some (.cells #[.int .u64 (e.no : Int), .int .u8 (e.ow.toNat : Int), .int .u8 (e.fr.toNat : Int), .int .u8 (e.to.toNat : Int), .int .u64 (e.made : Int), .int .u64 (e.due : Int), .int .u64 (limb e.fi 0 : Nat), .int .u64 (limb e.fi 1 : Nat), .int .u64 (limb e.fi 2 : Nat), .int .u64 (limb e.fi 3 : Nat), .int .u64 (limb e.sh 0 : Nat), .int .u64 (limb e.sh 1 : Nat), .int .u64 (limb e.sh 2 : Nat), .int .u64 (limb e.sh 3 : Nat)] 83 (0, 0)) := by rw [hW0]; exact heap_alloc_new w _
  have hs : W0.heap.size = w.heap.size + 1 := by rw [hW0, World.size_alloc]
  have hE0 : Ext w W0 := by rw [hW0]; exact (Ext.refl w).alloc _
  obtain ⟨Wn, hWn⟩ : ∃ Wn, Wn = W0.alloc (.cells #[.slice none 0 0] 174) := ⟨_, rfl⟩
  have hWr : Wr W0 Wn.drew (w.heap.size + 1) [] := by rw [hWn, ← hs]; exact (Wr.new (Ext.refl W0)).ext ((Ext.refl _).drew)
  have HB := hid (fun (w' : World) (hE : Ext W0 w') => (⟨by rw [cell_of_row w' _ 1 _ _ _ (hE.heap hb)]; rfl, by rw [cell_of_row w' _ 2 _ _ _ (hE.heap hb)]; rfl, by rw [cell_of_row w' _ 3 _ _ _ (hE.heap hb)]; rfl, by rw [cell_of_row w' _ 4 _ _ _ (hE.heap hb)]; rfl, by rw [cell_of_row w' _ 6 _ _ _ (hE.heap hb)]; rfl, by rw [cell_of_row w' _ 7 _ _ _ (hE.heap hb)]; rfl, by rw [cell_of_row w' _ 8 _ _ _ (hE.heap hb)]; rfl, by rw [cell_of_row w' _ 9 _ _ _ (hE.heap hb)]; rfl, by rw [cell_of_row w' _ 10 _ _ _ (hE.heap hb)]; rfl, by rw [cell_of_row w' _ 11 _ _ _ (hE.heap hb)]; rfl, by rw [cell_of_row w' _ 12 _ _ _ (hE.heap hb)]; rfl, by rw [cell_of_row w' _ 13 _ _ _ (hE.heap hb)]; rfl⟩ : w'.cell? ⟨w.heap.size, 1, none⟩ = some (.int .u8 (e.ow.toNat : Int)) ∧ w'.cell? ⟨w.heap.size, 2, none⟩ = some (.int .u8 (e.fr.toNat : Int)) ∧ w'.cell? ⟨w.heap.size, 3, none⟩ = some (.int .u8 (e.to.toNat : Int)) ∧ w'.cell? ⟨w.heap.size, 4, none⟩ = some (.int .u64 (e.made : Int)) ∧ w'.cell? ⟨w.heap.size, 6, none⟩ = some (.int .u64 (limb e.fi 0 : Nat)) ∧ w'.cell? ⟨w.heap.size, 7, none⟩ = some (.int .u64 (limb e.fi 1 : Nat)) ∧ w'.cell? ⟨w.heap.size, 8, none⟩ = some (.int .u64 (limb e.fi 2 : Nat)) ∧ w'.cell? ⟨w.heap.size, 9, none⟩ = some (.int .u64 (limb e.fi 3 : Nat)) ∧ w'.cell? ⟨w.heap.size, 10, none⟩ = some (.int .u64 (limb e.sh 0 : Nat)) ∧ w'.cell? ⟨w.heap.size, 11, none⟩ = some (.int .u64 (limb e.sh 1 : Nat)) ∧ w'.cell? ⟨w.heap.size, 12, none⟩ = some (.int .u64 (limb e.sh 2 : Nat)) ∧ w'.cell? ⟨w.heap.size, 13, none⟩ = some (.int .u64 (limb e.sh 3 : Nat))))
  obtain ⟨c0_1, c0_2, c0_3, c0_4, c0_6, c0_7, c0_8, c0_9, c0_10, c0_11, c0_12, c0_13⟩ := HB.out _ hWr.base
  have HW0 := hid hWr
  have HE0 := hid (And.intro hE0 hs)
  have HC1 := hid (fun (w' : World) (h : Wr W0 w' (w.heap.size + 1) ([])) => cwByte_c e.ow rfl h (by simp))
  have HC2 := hid (fun (w' : World) (h : Wr W0 w' (w.heap.size + 1) ([] ++ [e.ow])) => cwByte_c e.fr rfl h (by simp))
  have HC3 := hid (fun (w' : World) (h : Wr W0 w' (w.heap.size + 1) ([] ++ [e.ow] ++ [e.fr])) => cwByte_c e.to rfl h (by simp))
  have HC4 := hid (fun (w' : World) (h : Wr W0 w' (w.heap.size + 1) ([] ++ [e.ow] ++ [e.fr] ++ [e.to])) => cwLong_c h h2 (by simp))
  have HC5 := hid (fun (w' : World) (h : Wr W0 w' (w.heap.size + 1) ([] ++ [e.ow] ++ [e.fr] ++ [e.to] ++ be 8 e.made)) => cwNum_c h h4 (by simp [be_length]))
  have HC6 := hid (fun (w' : World) (h : Wr W0 w' (w.heap.size + 1) ([] ++ [e.ow] ++ [e.fr] ++ [e.to] ++ be 8 e.made ++ recN e.fi)) => cwNum_c h h5 (by have := recN_le e.fi; simp [be_length]; omega))
  have HC7 := hid (fun (w' : World) (h : Wr W0 w' (w.heap.size + 1) e.bs) => cwDone_c h (by have := e.bs_le; omega))
  unfold numV numC at HC5 HC6
  clear hE0 hs hWr hb h1 h2 h3 h4 h5
  unfold Hp.V Hp.cells
  go_enter Try.func117, Try.ntmps117
  go_wp2_with fail
  rw [← hW0, ← hWn]
  have Hn := hid (And.intro hW0 hWn)
  clear hW0 hWn
  go_region_held3 (fun w' => w'.cell? ⟨w.heap.size, 1, none⟩ = some (.int .u8 (e.ow.toNat : Int)) ∧ w'.cell? ⟨w.heap.size, 2, none⟩ = some (.int .u8 (e.fr.toNat : Int)) ∧ w'.cell? ⟨w.heap.size, 3, none⟩ = some (.int .u8 (e.to.toNat : Int)) ∧ w'.cell? ⟨w.heap.size, 4, none⟩ = some (.int .u64 (e.made : Int)) ∧ w'.cell? ⟨w.heap.size, 6, none⟩ = some (.int .u64 (limb e.fi 0 : Nat)) ∧ w'.cell? ⟨w.heap.size, 7, none⟩ = some (.int .u64 (limb e.fi 1 : Nat)) ∧ w'.cell? ⟨w.heap.size, 8, none⟩ = some (.int .u64 (limb e.fi 2 : Nat)) ∧ w'.cell? ⟨w.heap.size, 9, none⟩ = some (.int .u64 (limb e.fi 3 : Nat)) ∧ w'.cell? ⟨w.heap.size, 10, none⟩ = some (.int .u64 (limb e.sh 0 : Nat)) ∧ w'.cell? ⟨w.heap.size, 11, none⟩ = some (.int .u64 (limb e.sh 1 : Nat)) ∧ w'.cell? ⟨w.heap.size, 12, none⟩ = some (.int .u64 (limb e.sh 2 : Nat)) ∧ w'.cell? ⟨w.heap.size, 13, none⟩ = some (.int .u64 (limb e.sh 3 : Nat))) (go_keep)
    (first
      | (go_at_call 157; (with_reducible refine (HC1.out _ HW0.out).mono ?_); rintro x w1 ⟨rfl, hW⟩; have HW1 := hid hW; obtain ⟨c1_1, c1_2, c1_3, c1_4, c1_6, c1_7, c1_8, c1_9, c1_10, c1_11, c1_12, c1_13⟩ := HB.out _ hW.base; clear hW)
      | (go_at_call 157; (with_reducible refine (HC2.out _ HW1.out).mono ?_); rintro x w2 ⟨rfl, hW⟩; have HW2 := hid hW; obtain ⟨c2_1, c2_2, c2_3, c2_4, c2_6, c2_7, c2_8, c2_9, c2_10, c2_11, c2_12, c2_13⟩ := HB.out _ hW.base; clear hW)
      | (go_at_call 157; (with_reducible refine (HC3.out _ HW2.out).mono ?_); rintro x w3 ⟨rfl, hW⟩; have HW3 := hid hW; obtain ⟨c3_1, c3_2, c3_3, c3_4, c3_6, c3_7, c3_8, c3_9, c3_10, c3_11, c3_12, c3_13⟩ := HB.out _ hW.base; clear hW)
      | (go_at_call 110; (with_reducible refine (HC4.out _ HW3.out).mono ?_); rintro x w4 ⟨rfl, hW⟩; have HW4 := hid hW; obtain ⟨c4_1, c4_2, c4_3, c4_4, c4_6, c4_7, c4_8, c4_9, c4_10, c4_11, c4_12, c4_13⟩ := HB.out _ hW.base; clear hW)
      | (go_at_call 159; (with_reducible refine (HC5.out _ HW4.out).mono ?_); rintro x w5 ⟨rfl, hW⟩; have HW5 := hid hW; obtain ⟨c5_1, c5_2, c5_3, c5_4, c5_6, c5_7, c5_8, c5_9, c5_10, c5_11, c5_12, c5_13⟩ := HB.out _ hW.base; clear hW)
      | (go_at_call 159; (with_reducible refine (HC6.out _ HW5.out).mono ?_); rintro x w6 ⟨rfl, hW⟩; have HW6 := hid hW; obtain ⟨c6_1, c6_2, c6_3, c6_4, c6_6, c6_7, c6_8, c6_9, c6_10, c6_11, c6_12, c6_13⟩ := HB.out _ hW.base; clear hW)
      | (go_at_call 111; have hWl : Wr W0 w6 (w.heap.size + 1) e.bs := HW6.out; (with_reducible refine (HC7.out _ hWl).mono ?_); clear hWl; rintro x w7 ⟨a, c, rfl, ho, hE6⟩; obtain ⟨c7_1, c7_2, c7_3, c7_4, c7_6, c7_7, c7_8, c7_9, c7_10, c7_11, c7_12, c7_13⟩ := HB.out _ (HW6.out.base.trans hE6); have HO := hid (And.intro ho hE6); clear ho hE6))
  go_wp2_with fail
  go_ret
  have hE := HE0.out.1.trans HW6.out.base
  exact ⟨a, c, rfl, owns_low HO.out.1 hE.size, hE.trans HO.out.2⟩

end Go.Proofs.Ytaidgkdebocenaa

namespace Go.Proofs.Ytaidgkdebocenaa
open Go Go.RowKit

theorem En.bs_eq (e : En) : e.bs = e.ow :: e.va :: (be 8 e.made ++ (recN e.fi ++ (recN e.nw ++ []))) := by simp [En.bs]

set_option maxRecDepth 100000 in
set_option maxHeartbeats 4000000 in
theorem takeEntry_c {w : World} (e : En) (he : e.Ok) {pa : Option Addr} {pl pc : Nat} (hp : BV w (.slice pa pl pc) e.bs) :
    Calls Try.prog 119 #[.agg #[.int .u64 (e.due : Int), .int .u64 (e.no : Int), .slice pa pl pc]] w fun x w' => x = .returned e.V ∧ Ext w w' := by
  obtain ⟨h1, h2, h3, h4, h5⟩ := he
  obtain ⟨W0, hW0⟩ : ∃ W0, W0 = (w.alloc (.cells #[.int .u64 (e.due : Int), .int .u64 (e.no : Int), .slice pa pl pc] 61)).alloc (.cells #[.int .u64 0, .int .u8 0, .int .u8 0, .int .u64 0, .int .u64 0, .int .u64 0, .int .u64 0, .int .u64 0, .int .u64 0, .int .u64 0, .int .u64 0, .int .u64 0, .int .u64 0] 81) := ⟨_, rfl⟩
  have hE0 : Ext w W0 := by rw [hW0]; exact ((Ext.refl w).alloc _).alloc _
  have hs : W0.heap.size = w.heap.size + 1 + 1 := by rw [hW0, World.size_alloc, World.size_alloc]
  have hb0 : W0.heap[w.heap.size]? = some (.cells #[.int .u64 (e.due : Int), .int .u64 (e.no : Int), .slice pa pl pc] 61 (0, 0)) := by rw [hW0]; exact Keeps.heap ((Ext.refl _).alloc _) (heap_alloc_new w _) fun c => c
  have hz0 : W0.heap[w.heap.size + 1]? = some (.cells #[.int .u64 0, .int .u8 0, .int .u8 0, .int .u64 0, .int .u64 0, .int .u64 0, .int .u64 0, .int .u64 0, .int .u64 0, .int .u64 0, .int .u64 0, .int .u64 0, .int .u64 0] 81 (0, 0)) := by rw [hW0, ← World.size_alloc w (.cells #[.int .u64 (e.due : Int), .int .u64 (e.no : Int), .slice pa pl pc] 61)]; exact heap_alloc_new _ _
  have hc2 : W0.cell? ⟨w.heap.size, 2, none⟩ = some (.slice pa pl pc) := by rw [cell_of_row W0 _ 2 _ _ _ hb0]; rfl
  have hC := cRead_c (hp.ext hE0) (le_big (by have := e.bs_le; omega))
  have HC := hid hC
  have Hb := hid (And.intro hb0 (And.intro hz0 (And.intro hE0 hs)))
  have Hh := hid (And.intro h2 (And.intro h4 h5))
  have HW := hid hW0
  clear hC hp h1 h2 h3 h4 h5 hb0 hz0 hE0 hs hW0
  go_enter Try.func119, Try.ntmps119
  go_wp2_with fail
  rw [← HW.out]
  go_wp2_with fail
  refine HC.out.mono ?_
  rintro x w1 ⟨b, rfl, hR, hE1, hbs⟩
  go_wp2_with fail
  rw [En.bs_eq] at hR
  obtain ⟨hb0, hz0, hE0, hs⟩ := Hb.out
  obtain ⟨h2, h4, h5⟩ := Hh.out
  have hbb : ¬ w.heap.size = b := by omega
  have hzb : ¬ w.heap.size + 1 = b := by omega
  have hb : w1.drew.heap[w.heap.size]? = some (.cells #[.int .u64 (e.due : Int), .int .u64 (e.no : Int), .slice pa pl pc] 61 (0, 0)) := hE1.drew.heap hb0 fun c => c
  have hz : w1.drew.heap[w.heap.size + 1]? = some (.cells #[.int .u64 0, .int .u8 0, .int .u8 0, .int .u64 0, .int .u64 0, .int .u64 0, .int .u64 0, .int .u64 0, .int .u64 0, .int .u64 0, .int .u64 0, .int .u64 0, .int .u64 0] 81 (0, 0)) := hE1.drew.heap hz0 fun c => c
  have HB := hid (fun (w' : World) (hK : Keeps (fun k => k = b) w1.drew w') => (⟨by rw [cell_of_row w' _ 0 _ _ _ (hK.heap hb hbb)]; rfl, by rw [cell_of_row w' _ 1 _ _ _ (hK.heap hb hbb)]; rfl⟩ : w'.cell? ⟨w.heap.size, 0, none⟩ = some (.int .u64 (e.due : Int)) ∧ w'.cell? ⟨w.heap.size, 1, none⟩ = some (.int .u64 (e.no : Int))))
  have HZ := hid (fun (w' : World) (hK : Keeps (fun k => k = b) w1.drew w') => (⟨by rw [cell_of_row w' _ 0 _ _ _ (hK.heap hz hzb)]; rfl, by rw [cell_of_row w' _ 1 _ _ _ (hK.heap hz hzb)]; rfl, by rw [cell_of_row w' _ 2 _ _ _ (hK.heap hz hzb)]; rfl, by rw [cell_of_row w' _ 3 _ _ _ (hK.heap hz hzb)]; rfl, by rw [cell_of_row w' _ 4 _ _ _ (hK.heap hz hzb)]; rfl, by rw [cell_of_row w' _ 5 _ _ _ (hK.heap hz hzb)]; rfl, by rw [cell_of_row w' _ 6 _ _ _ (hK.heap hz hzb)]; rfl, by rw [cell_of_row w' _ 7 _ _ _ (hK.heap hz hzb)]; rfl, by rw [cell_of_row w' _ 8 _ _ _ (hK.heap hz hzb)]; rfl, by rw [cell_of_row w' _ 9 _ _ _ (hK.heap hz hzb)]; rfl, by rw [cell_of_row w' _ 10 _ _ _ (hK.heap hz hzb)]; rfl, by rw [cell_of_row w' _ 11 _ _ _ (hK.heap hz hzb)]; rfl, by rw [cell_of_row w' _ 12 _ _ _ (hK.heap hz hzb)]; rfl, frozen_of_row w' _ 0 _ _ (hK.heap hz hzb), frozen_of_row w' _ 1 _ _ (hK.heap hz hzb), frozen_of_row w' _ 2 _ _ (hK.heap hz hzb), frozen_of_row w' _ 3 _ _ (hK.heap hz hzb), frozen_of_row w' _ 4 _ _ (hK.heap hz hzb), frozen_of_row w' _ 5 _ _ (hK.heap hz hzb), frozen_of_row w' _ 6 _ _ (hK.heap hz hzb), frozen_of_row w' _ 7 _ _ (hK.heap hz hzb), frozen_of_row w' _ 8 _ _ (hK.heap hz hzb), frozen_of_row w' _ 9 _ _ (hK.heap hz hzb), frozen_of_row w' _ 10 _ _ (hK.heap hz hzb), frozen_of_row w' _ 11 _ _ (hK.heap hz hzb), frozen_of_row w' _ 12 _ _ (hK.heap hz hzb), lt_of_heap (hK.heap hz hzb)⟩ : w'.cell? ⟨w.heap.size + 1, 0, none⟩ = some (.int .u64 0) ∧ w'.cell? ⟨w.heap.size + 1, 1, none⟩ = some (.int .u8 0) ∧ w'.cell? ⟨w.heap.size + 1, 2, none⟩ = some (.int .u8 0) ∧ w'.cell? ⟨w.heap.size + 1, 3, none⟩ = some (.int .u64 0) ∧ w'.cell? ⟨w.heap.size + 1, 4, none⟩ = some (.int .u64 0) ∧ w'.cell? ⟨w.heap.size + 1, 5, none⟩ = some (.int .u64 0) ∧ w'.cell? ⟨w.heap.size + 1, 6, none⟩ = some (.int .u64 0) ∧ w'.cell? ⟨w.heap.size + 1, 7, none⟩ = some (.int .u64 0) ∧ w'.cell? ⟨w.heap.size + 1, 8, none⟩ = some (.int .u64 0) ∧ w'.cell? ⟨w.heap.size + 1, 9, none⟩ = some (.int .u64 0) ∧ w'.cell? ⟨w.heap.size + 1, 10, none⟩ = some (.int .u64 0) ∧ w'.cell? ⟨w.heap.size + 1, 11, none⟩ = some (.int .u64 0) ∧ w'.cell? ⟨w.heap.size + 1, 12, none⟩ = some (.int .u64 0) ∧ w'.frozen? ⟨w.heap.size + 1, 0, none⟩ = false ∧ w'.frozen? ⟨w.heap.size + 1, 1, none⟩ = false ∧ w'.frozen? ⟨w.heap.size + 1, 2, none⟩ = false ∧ w'.frozen? ⟨w.heap.size + 1, 3, none⟩ = false ∧ w'.frozen? ⟨w.heap.size + 1, 4, none⟩ = false ∧ w'.frozen? ⟨w.heap.size + 1, 5, none⟩ = false ∧ w'.frozen? ⟨w.heap.size + 1, 6, none⟩ = false ∧ w'.frozen? ⟨w.heap.size + 1, 7, none⟩ = false ∧ w'.frozen? ⟨w.heap.size + 1, 8, none⟩ = false ∧ w'.frozen? ⟨w.heap.size + 1, 9, none⟩ = false ∧ w'.frozen? ⟨w.heap.size + 1, 10, none⟩ = false ∧ w'.frozen? ⟨w.heap.size + 1, 11, none⟩ = false ∧ w'.frozen? ⟨w.heap.size + 1, 12, none⟩ = false ∧ w.heap.size + 1 < w'.heap.size))
  obtain ⟨p0, q0⟩ := HB.out _ (Keeps.refl _ _)
  have HW0 := hid (And.intro (hR.ext (Ext.refl _).drew) (Keeps.refl (fun k => k = b) w1.drew))
  have HC1 := hid (fun (w' : World) (h : Rd w' b (e.ow :: e.va :: (be 8 e.made ++ (recN e.fi ++ (recN e.nw ++ []))))) => (crByte_c h : Calls Try.prog 160 #[.pointer (some ⟨b, 0, none⟩)] w' fun x w'' => x = .returned (.int .u8 (e.ow.toNat : Int)) ∧ Rd w'' b (e.va :: (be 8 e.made ++ (recN e.fi ++ (recN e.nw ++ [])))) ∧ Keeps (fun k => k = b) w' w''))
  have HC2 := hid (fun (w' : World) (h : Rd w' b (e.va :: (be 8 e.made ++ (recN e.fi ++ (recN e.nw ++ []))))) => (crByte_c h : Calls Try.prog 160 #[.pointer (some ⟨b, 0, none⟩)] w' fun x w'' => x = .returned (.int .u8 (e.va.toNat : Int)) ∧ Rd w'' b ((be 8 e.made ++ (recN e.fi ++ (recN e.nw ++ [])))) ∧ Keeps (fun k => k = b) w' w''))
  have HC3 := hid (fun (w' : World) (h : Rd w' b ((be 8 e.made ++ (recN e.fi ++ (recN e.nw ++ []))))) => (long_c h h2 : Calls Try.prog 109 #[.pointer (some ⟨b, 0, none⟩)] w' fun x w'' => x = .returned (.int .u64 (e.made : Int)) ∧ Rd w'' b (recN e.fi ++ (recN e.nw ++ [])) ∧ Keeps (fun k => k = b) w' w''))
  have HC4 := hid (fun (w' : World) (h : Rd w' b (recN e.fi ++ (recN e.nw ++ []))) => (crNum_c h h4 : Calls Try.prog 161 #[.pointer (some ⟨b, 0, none⟩)] w' fun x w'' => x = .returned (.agg #[.int .u64 (limb e.fi 0 : Nat), .int .u64 (limb e.fi 1 : Nat), .int .u64 (limb e.fi 2 : Nat), .int .u64 (limb e.fi 3 : Nat)]) ∧ Rd w'' b (recN e.nw ++ []) ∧ Keeps (fun k => k = b) w' w''))
  have HC5 := hid (fun (w' : World) (h : Rd w' b (recN e.nw ++ [])) => (crNum_c h h5 : Calls Try.prog 161 #[.pointer (some ⟨b, 0, none⟩)] w' fun x w'' => x = .returned (.agg #[.int .u64 (limb e.nw 0 : Nat), .int .u64 (limb e.nw 1 : Nat), .int .u64 (limb e.nw 2 : Nat), .int .u64 (limb e.nw 3 : Nat)]) ∧ Rd w'' b ([]) ∧ Keeps (fun k => k = b) w' w''))
  unfold numV numC at HC4 HC5
  have HE := hid (And.intro hE0 (And.intro hE1 (And.intro hbs hs)))
  clear hb hz hb0 hz0 hE0 hs hR hE1 hbs h2 h4 h5 hbb hzb HC
  go_region_held3 (fun w' => w'.cell? ⟨w.heap.size, 0, none⟩ = some (.int .u64 (e.due : Int)) ∧ w'.cell? ⟨w.heap.size, 1, none⟩ = some (.int .u64 (e.no : Int))) (go_keep)
    (first
      | (go_at_call 160; (with_reducible refine (HC1.out _ HW0.out.1).mono ?_); rintro x w1 ⟨rfl, hR, hK0⟩; have hK := HW0.out.2.trans hK0; have HW1 := hid (And.intro hR hK); obtain ⟨p1, q1⟩ := HB.out _ hK; clear hR hK0 hK)
      | (go_at_call 160; (with_reducible refine (HC2.out _ HW1.out.1).mono ?_); rintro x w2 ⟨rfl, hR, hK0⟩; have hK := HW1.out.2.trans hK0; have HW2 := hid (And.intro hR hK); obtain ⟨p2, q2⟩ := HB.out _ hK; clear hR hK0 hK)
      | (go_at_call 109; (with_reducible refine (HC3.out _ HW2.out.1).mono ?_); rintro x w3 ⟨rfl, hR, hK0⟩; have hK := HW2.out.2.trans hK0; have HW3 := hid (And.intro hR hK); obtain ⟨p3, q3⟩ := HB.out _ hK; clear hR hK0 hK)
      | (go_at_call 161; (with_reducible refine (HC4.out _ HW3.out.1).mono ?_); rintro x w4 ⟨rfl, hR, hK0⟩; have hK := HW3.out.2.trans hK0; have HW4 := hid (And.intro hR hK); obtain ⟨p4, q4⟩ := HB.out _ hK; clear hR hK0 hK)
      | (go_at_call 161; (with_reducible refine (HC5.out _ HW4.out.1).mono ?_); rintro x w5 ⟨rfl, hR, hK0⟩; have hK := HW4.out.2.trans hK0; have HW5 := hid (And.intro hR hK); obtain ⟨p5, q5⟩ := HB.out _ hK; obtain ⟨z0, z1, z2, z3, z4, z5, z6, z7, z8, z9, z10, z11, z12, f0, f1, f2, f3, f4, f5, f6, f7, f8, f9, f10, f11, f12, hlt⟩ := HZ.out _ hK; clear hR hK0 hK))
  go_wp2_with fail
  obtain ⟨wl, hwl⟩ : ∃ wl, wl = w5 := ⟨_, rfl⟩
  have hKl := HW5.out.2
  rw [← hwl] at hKl z0 z1 z2 z3 z4 z5 z6 z7 z8 z9 z10 z11 z12 ⊢
  obtain ⟨W4, hW4⟩ : ∃ W4, W4 = (((((((((((((wl.setCell ⟨w.heap.size + 1, 0, none⟩ (.int .u64 (e.no : Int))).setCell ⟨w.heap.size + 1, 1, none⟩ (.int .u8 (e.ow.toNat : Int))).setCell ⟨w.heap.size + 1, 2, none⟩ (.int .u8 (e.va.toNat : Int))).setCell ⟨w.heap.size + 1, 3, none⟩ (.int .u64 (e.made : Int))).setCell ⟨w.heap.size + 1, 4, none⟩ (.int .u64 (e.due : Int))).setCell ⟨w.heap.size + 1, 5, none⟩ (.int .u64 (limb e.fi 0 : Nat))).setCell ⟨w.heap.size + 1, 6, none⟩ (.int .u64 (limb e.fi 1 : Nat))).setCell ⟨w.heap.size + 1, 7, none⟩ (.int .u64 (limb e.fi 2 : Nat))).setCell ⟨w.heap.size + 1, 8, none⟩ (.int .u64 (limb e.fi 3 : Nat))).setCell ⟨w.heap.size + 1, 9, none⟩ (.int .u64 (limb e.nw 0 : Nat))).setCell ⟨w.heap.size + 1, 10, none⟩ (.int .u64 (limb e.nw 1 : Nat))).setCell ⟨w.heap.size + 1, 11, none⟩ (.int .u64 (limb e.nw 2 : Nat))).setCell ⟨w.heap.size + 1, 12, none⟩ (.int .u64 (limb e.nw 3 : Nat))) := ⟨_, rfl⟩
  rw [← hW4]
  have hE := HE.out
  have hl : Ext w wl := ((hE.1.trans hE.2.1).drew).trans' hKl fun k hk e => by have := hE.2.2.1; have := hE.2.2.2; omega
  have hE4 : Ext w W4 := by
    rw [hW4]
    exact (((((((((((((hl.setCell (a := ⟨w.heap.size + 1, 0, none⟩) (fun c => absurd c (by simp)) _).setCell (a := ⟨w.heap.size + 1, 1, none⟩) (fun c => absurd c (by simp)) _).setCell (a := ⟨w.heap.size + 1, 2, none⟩) (fun c => absurd c (by simp)) _).setCell (a := ⟨w.heap.size + 1, 3, none⟩) (fun c => absurd c (by simp)) _).setCell (a := ⟨w.heap.size + 1, 4, none⟩) (fun c => absurd c (by simp)) _).setCell (a := ⟨w.heap.size + 1, 5, none⟩) (fun c => absurd c (by simp)) _).setCell (a := ⟨w.heap.size + 1, 6, none⟩) (fun c => absurd c (by simp)) _).setCell (a := ⟨w.heap.size + 1, 7, none⟩) (fun c => absurd c (by simp)) _).setCell (a := ⟨w.heap.size + 1, 8, none⟩) (fun c => absurd c (by simp)) _).setCell (a := ⟨w.heap.size + 1, 9, none⟩) (fun c => absurd c (by simp)) _).setCell (a := ⟨w.heap.size + 1, 10, none⟩) (fun c => absurd c (by simp)) _).setCell (a := ⟨w.heap.size + 1, 11, none⟩) (fun c => absurd c (by simp)) _).setCell (a := ⟨w.heap.size + 1, 12, none⟩) (fun c => absurd c (by simp)) _)
  have q100 : W4.cell? ⟨w.heap.size + 1, 0, none⟩ = some (.int .u64 (e.no : Int)) := by rw [hW4]; simp [go_sem, z0]
  have q101 : W4.cell? ⟨w.heap.size + 1, 1, none⟩ = some (.int .u8 (e.ow.toNat : Int)) := by rw [hW4]; simp [go_sem, z1]
  have q102 : W4.cell? ⟨w.heap.size + 1, 2, none⟩ = some (.int .u8 (e.va.toNat : Int)) := by rw [hW4]; simp [go_sem, z2]
  have q103 : W4.cell? ⟨w.heap.size + 1, 3, none⟩ = some (.int .u64 (e.made : Int)) := by rw [hW4]; simp [go_sem, z3]
  have q104 : W4.cell? ⟨w.heap.size + 1, 4, none⟩ = some (.int .u64 (e.due : Int)) := by rw [hW4]; simp [go_sem, z4]
  have q105 : W4.cell? ⟨w.heap.size + 1, 5, none⟩ = some (.int .u64 (limb e.fi 0 : Nat)) := by rw [hW4]; simp [go_sem, z5]
  have q106 : W4.cell? ⟨w.heap.size + 1, 6, none⟩ = some (.int .u64 (limb e.fi 1 : Nat)) := by rw [hW4]; simp [go_sem, z6]
  have q107 : W4.cell? ⟨w.heap.size + 1, 7, none⟩ = some (.int .u64 (limb e.fi 2 : Nat)) := by rw [hW4]; simp [go_sem, z7]
  have q108 : W4.cell? ⟨w.heap.size + 1, 8, none⟩ = some (.int .u64 (limb e.fi 3 : Nat)) := by rw [hW4]; simp [go_sem, z8]
  have q109 : W4.cell? ⟨w.heap.size + 1, 9, none⟩ = some (.int .u64 (limb e.nw 0 : Nat)) := by rw [hW4]; simp [go_sem, z9]
  have q110 : W4.cell? ⟨w.heap.size + 1, 10, none⟩ = some (.int .u64 (limb e.nw 1 : Nat)) := by rw [hW4]; simp [go_sem, z10]
  have q111 : W4.cell? ⟨w.heap.size + 1, 11, none⟩ = some (.int .u64 (limb e.nw 2 : Nat)) := by rw [hW4]; simp [go_sem, z11]
  have q112 : W4.cell? ⟨w.heap.size + 1, 12, none⟩ = some (.int .u64 (limb e.nw 3 : Nat)) := by rw [hW4]; simp [go_sem, z12]
  clear hW4
  exact bodyPost_ret (v := e.V) (by simp [results, Try.f119, go_sem, En.V, En.cells, q100, q101, q102, q103, q104, q105, q106, q107, q108, q109, q110, q111, q112]) rfl ⟨rfl, hE4⟩

end Go.Proofs.Ytaidgkdebocenaa

namespace Go.Proofs.Ytaidgkdebocenaa
open Go Go.RowKit

theorem Hp.bs_eq (e : Hp) : e.bs = e.ow :: e.fr :: e.to :: (be 8 e.made ++ (recN e.fi ++ (recN e.sh ++ []))) := by simp [Hp.bs]

set_option maxRecDepth 100000 in
set_option maxHeartbeats 4000000 in
theorem takeHop_c {w : World} (e : Hp) (he : e.Ok) {pa : Option Addr} {pl pc : Nat} (hp : BV w (.slice pa pl pc) e.bs) :
    Calls Try.prog 121 #[.agg #[.int .u64 (e.due : Int), .int .u64 (e.no : Int), .slice pa pl pc]] w fun x w' => x = .returned e.V ∧ Ext w w' := by
  obtain ⟨h1, h2, h3, h4, h5⟩ := he
  obtain ⟨W0, hW0⟩ : ∃ W0, W0 = (w.alloc (.cells #[.int .u64 (e.due : Int), .int .u64 (e.no : Int), .slice pa pl pc] 61)).alloc (.cells #[.int .u64 0, .int .u8 0, .int .u8 0, .int .u8 0, .int .u64 0, .int .u64 0, .int .u64 0, .int .u64 0, .int .u64 0, .int .u64 0, .int .u64 0, .int .u64 0, .int .u64 0, .int .u64 0] 83) := ⟨_, rfl⟩
  have hE0 : Ext w W0 := by rw [hW0]; exact ((Ext.refl w).alloc _).alloc _
  have hs : W0.heap.size = w.heap.size + 1 + 1 := by rw [hW0, World.size_alloc, World.size_alloc]
  have hb0 : W0.heap[w.heap.size]? = some (.cells #[.int .u64 (e.due : Int), .int .u64 (e.no : Int), .slice pa pl pc] 61 (0, 0)) := by rw [hW0]; exact Keeps.heap ((Ext.refl _).alloc _) (heap_alloc_new w _) fun c => c
  have hz0 : W0.heap[w.heap.size + 1]? = some (.cells #[.int .u64 0, .int .u8 0, .int .u8 0, .int .u8 0, .int .u64 0, .int .u64 0, .int .u64 0, .int .u64 0, .int .u64 0, .int .u64 0, .int .u64 0, .int .u64 0, .int .u64 0, .int .u64 0] 83 (0, 0)) := by rw [hW0, ← World.size_alloc w (.cells #[.int .u64 (e.due : Int), .int .u64 (e.no : Int), .slice pa pl pc] 61)]; exact heap_alloc_new _ _
  have hc2 : W0.cell? ⟨w.heap.size, 2, none⟩ = some (.slice pa pl pc) := by rw [cell_of_row W0 _ 2 _ _ _ hb0]; rfl
  have hC := cRead_c (hp.ext hE0) (le_big (by have := e.bs_le; omega))
  have HC := hid hC
  have Hb := hid (And.intro hb0 (And.intro hz0 (And.intro hE0 hs)))
  have Hh := hid (And.intro h2 (And.intro h4 h5))
  have HW := hid hW0
  clear hC hp h1 h2 h3 h4 h5 hb0 hz0 hE0 hs hW0
  go_enter Try.func121, Try.ntmps121
  go_wp2_with fail
  rw [← HW.out]
  go_wp2_with fail
  refine HC.out.mono ?_
  rintro x w1 ⟨b, rfl, hR, hE1, hbs⟩
  go_wp2_with fail
  rw [Hp.bs_eq] at hR
  obtain ⟨hb0, hz0, hE0, hs⟩ := Hb.out
  obtain ⟨h2, h4, h5⟩ := Hh.out
  have hbb : ¬ w.heap.size = b := by omega
  have hzb : ¬ w.heap.size + 1 = b := by omega
  have hb : w1.drew.heap[w.heap.size]? = some (.cells #[.int .u64 (e.due : Int), .int .u64 (e.no : Int), .slice pa pl pc] 61 (0, 0)) := hE1.drew.heap hb0 fun c => c
  have hz : w1.drew.heap[w.heap.size + 1]? = some (.cells #[.int .u64 0, .int .u8 0, .int .u8 0, .int .u8 0, .int .u64 0, .int .u64 0, .int .u64 0, .int .u64 0, .int .u64 0, .int .u64 0, .int .u64 0, .int .u64 0, .int .u64 0, .int .u64 0] 83 (0, 0)) := hE1.drew.heap hz0 fun c => c
  have HB := hid (fun (w' : World) (hK : Keeps (fun k => k = b) w1.drew w') => (⟨by rw [cell_of_row w' _ 0 _ _ _ (hK.heap hb hbb)]; rfl, by rw [cell_of_row w' _ 1 _ _ _ (hK.heap hb hbb)]; rfl⟩ : w'.cell? ⟨w.heap.size, 0, none⟩ = some (.int .u64 (e.due : Int)) ∧ w'.cell? ⟨w.heap.size, 1, none⟩ = some (.int .u64 (e.no : Int))))
  have HZ := hid (fun (w' : World) (hK : Keeps (fun k => k = b) w1.drew w') => (⟨by rw [cell_of_row w' _ 0 _ _ _ (hK.heap hz hzb)]; rfl, by rw [cell_of_row w' _ 1 _ _ _ (hK.heap hz hzb)]; rfl, by rw [cell_of_row w' _ 2 _ _ _ (hK.heap hz hzb)]; rfl, by rw [cell_of_row w' _ 3 _ _ _ (hK.heap hz hzb)]; rfl, by rw [cell_of_row w' _ 4 _ _ _ (hK.heap hz hzb)]; rfl, by rw [cell_of_row w' _ 5 _ _ _ (hK.heap hz hzb)]; rfl, by rw [cell_of_row w' _ 6 _ _ _ (hK.heap hz hzb)]; rfl, by rw [cell_of_row w' _ 7 _ _ _ (hK.heap hz hzb)]; rfl, by rw [cell_of_row w' _ 8 _ _ _ (hK.heap hz hzb)]; rfl, by rw [cell_of_row w' _ 9 _ _ _ (hK.heap hz hzb)]; rfl, by rw [cell_of_row w' _ 10 _ _ _ (hK.heap hz hzb)]; rfl, by rw [cell_of_row w' _ 11 _ _ _ (hK.heap hz hzb)]; rfl, by rw [cell_of_row w' _ 12 _ _ _ (hK.heap hz hzb)]; rfl, by rw [cell_of_row w' _ 13 _ _ _ (hK.heap hz hzb)]; rfl, frozen_of_row w' _ 0 _ _ (hK.heap hz hzb), frozen_of_row w' _ 1 _ _ (hK.heap hz hzb), frozen_of_row w' _ 2 _ _ (hK.heap hz hzb), frozen_of_row w' _ 3 _ _ (hK.heap hz hzb), frozen_of_row w' _ 4 _ _ (hK.heap hz hzb), frozen_of_row w' _ 5 _ _ (hK.heap hz hzb), frozen_of_row w' _ 6 _ _ (hK.heap hz hzb), frozen_of_row w' _ 7 _ _ (hK.heap hz hzb), frozen_of_row w' _ 8 _ _ (hK.heap hz hzb), frozen_of_row w' _ 9 _ _ (hK.heap hz hzb), frozen_of_row w' _ 10 _ _ (hK.heap hz hzb), frozen_of_row w' _ 11 _ _ (hK.heap hz hzb), frozen_of_row w' _ 12 _ _ (hK.heap hz hzb), frozen_of_row w' _ 13 _ _ (hK.heap hz hzb), lt_of_heap (hK.heap hz hzb)⟩ : w'.cell? ⟨w.heap.size + 1, 0, none⟩ = some (.int .u64 0) ∧ w'.cell? ⟨w.heap.size + 1, 1, none⟩ = some (.int .u8 0) ∧ w'.cell? ⟨w.heap.size + 1, 2, none⟩ = some (.int .u8 0) ∧ w'.cell? ⟨w.heap.size + 1, 3, none⟩ = some (.int .u8 0) ∧ w'.cell? ⟨w.heap.size + 1, 4, none⟩ = some (.int .u64 0) ∧ w'.cell? ⟨w.heap.size + 1, 5, none⟩ = some (.int .u64 0) ∧ w'.cell? ⟨w.heap.size + 1, 6, none⟩ = some (.int .u64 0) ∧ w'.cell? ⟨w.heap.size + 1, 7, none⟩ = some (.int .u64 0) ∧ w'.cell? ⟨w.heap.size + 1, 8, none⟩ = some (.int .u64 0) ∧ w'.cell? ⟨w.heap.size + 1, 9, none⟩ = some (.int .u64 0) ∧ w'.cell? ⟨w.heap.size + 1, 10, none⟩ = some (.int .u64 0) ∧ w'.cell? ⟨w.heap.size + 1, 11, none⟩ = some (.int .u64 0) ∧ w'.cell? ⟨w.heap.size + 1, 12, none⟩ = some (.int .u64 0) ∧ w'.cell? ⟨w.heap.size + 1, 13, none⟩ = some (.int .u64 0) ∧ w'.frozen? ⟨w.heap.size + 1, 0, none⟩ = false ∧ w'.frozen? ⟨w.heap.size + 1, 1, none⟩ = false ∧ w'.frozen? ⟨w.heap.size + 1, 2, none⟩ = false ∧ w'.frozen? ⟨w.heap.size + 1, 3, none⟩ = false ∧ w'.frozen? ⟨w.heap.size + 1, 4, none⟩ = false ∧ w'.frozen? ⟨w.heap.size + 1, 5, none⟩ = false ∧ w'.frozen? ⟨w.heap.size + 1, 6, none⟩ = false ∧ w'.frozen? ⟨w.heap.size + 1, 7, none⟩ = false ∧ w'.frozen? ⟨w.heap.size + 1, 8, none⟩ = false ∧ w'.frozen? ⟨w.heap.size + 1, 9, none⟩ = false ∧ w'.frozen? ⟨w.heap.size + 1, 10, none⟩ = false ∧ w'.frozen? ⟨w.heap.size + 1, 11, none⟩ = false ∧ w'.frozen? ⟨w.heap.size + 1, 12, none⟩ = false ∧ w'.frozen? ⟨w.heap.size + 1, 13, none⟩ = false ∧ w.heap.size + 1 < w'.heap.size))
  obtain ⟨p0, q0⟩ := HB.out _ (Keeps.refl _ _)
  have HW0 := hid (And.intro (hR.ext (Ext.refl _).drew) (Keeps.refl (fun k => k = b) w1.drew))
  have HC1 := hid (fun (w' : World) (h : Rd w' b (e.ow :: e.fr :: e.to :: (be 8 e.made ++ (recN e.fi ++ (recN e.sh ++ []))))) => (crByte_c h : Calls Try.prog 160 #[.pointer (some ⟨b, 0, none⟩)] w' fun x w'' => x = .returned (.int .u8 (e.ow.toNat : Int)) ∧ Rd w'' b (e.fr :: e.to :: (be 8 e.made ++ (recN e.fi ++ (recN e.sh ++ [])))) ∧ Keeps (fun k => k = b) w' w''))
  have HC2 := hid (fun (w' : World) (h : Rd w' b (e.fr :: e.to :: (be 8 e.made ++ (recN e.fi ++ (recN e.sh ++ []))))) => (crByte_c h : Calls Try.prog 160 #[.pointer (some ⟨b, 0, none⟩)] w' fun x w'' => x = .returned (.int .u8 (e.fr.toNat : Int)) ∧ Rd w'' b (e.to :: (be 8 e.made ++ (recN e.fi ++ (recN e.sh ++ [])))) ∧ Keeps (fun k => k = b) w' w''))
  have HC3 := hid (fun (w' : World) (h : Rd w' b (e.to :: (be 8 e.made ++ (recN e.fi ++ (recN e.sh ++ []))))) => (crByte_c h : Calls Try.prog 160 #[.pointer (some ⟨b, 0, none⟩)] w' fun x w'' => x = .returned (.int .u8 (e.to.toNat : Int)) ∧ Rd w'' b ((be 8 e.made ++ (recN e.fi ++ (recN e.sh ++ [])))) ∧ Keeps (fun k => k = b) w' w''))
  have HC4 := hid (fun (w' : World) (h : Rd w' b ((be 8 e.made ++ (recN e.fi ++ (recN e.sh ++ []))))) => (long_c h h2 : Calls Try.prog 109 #[.pointer (some ⟨b, 0, none⟩)] w' fun x w'' => x = .returned (.int .u64 (e.made : Int)) ∧ Rd w'' b (recN e.fi ++ (recN e.sh ++ [])) ∧ Keeps (fun k => k = b) w' w''))
  have HC5 := hid (fun (w' : World) (h : Rd w' b (recN e.fi ++ (recN e.sh ++ []))) => (crNum_c h h4 : Calls Try.prog 161 #[.pointer (some ⟨b, 0, none⟩)] w' fun x w'' => x = .returned (.agg #[.int .u64 (limb e.fi 0 : Nat), .int .u64 (limb e.fi 1 : Nat), .int .u64 (limb e.fi 2 : Nat), .int .u64 (limb e.fi 3 : Nat)]) ∧ Rd w'' b (recN e.sh ++ []) ∧ Keeps (fun k => k = b) w' w''))
  have HC6 := hid (fun (w' : World) (h : Rd w' b (recN e.sh ++ [])) => (crNum_c h h5 : Calls Try.prog 161 #[.pointer (some ⟨b, 0, none⟩)] w' fun x w'' => x = .returned (.agg #[.int .u64 (limb e.sh 0 : Nat), .int .u64 (limb e.sh 1 : Nat), .int .u64 (limb e.sh 2 : Nat), .int .u64 (limb e.sh 3 : Nat)]) ∧ Rd w'' b ([]) ∧ Keeps (fun k => k = b) w' w''))
  unfold numV numC at HC5 HC6
  have HE := hid (And.intro hE0 (And.intro hE1 (And.intro hbs hs)))
  clear hb hz hb0 hz0 hE0 hs hR hE1 hbs h2 h4 h5 hbb hzb HC
  go_region_held3 (fun w' => w'.cell? ⟨w.heap.size, 0, none⟩ = some (.int .u64 (e.due : Int)) ∧ w'.cell? ⟨w.heap.size, 1, none⟩ = some (.int .u64 (e.no : Int))) (go_keep)
    (first
      | (go_at_call 160; (with_reducible refine (HC1.out _ HW0.out.1).mono ?_); rintro x w1 ⟨rfl, hR, hK0⟩; have hK := HW0.out.2.trans hK0; have HW1 := hid (And.intro hR hK); obtain ⟨p1, q1⟩ := HB.out _ hK; clear hR hK0 hK)
      | (go_at_call 160; (with_reducible refine (HC2.out _ HW1.out.1).mono ?_); rintro x w2 ⟨rfl, hR, hK0⟩; have hK := HW1.out.2.trans hK0; have HW2 := hid (And.intro hR hK); obtain ⟨p2, q2⟩ := HB.out _ hK; clear hR hK0 hK)
      | (go_at_call 160; (with_reducible refine (HC3.out _ HW2.out.1).mono ?_); rintro x w3 ⟨rfl, hR, hK0⟩; have hK := HW2.out.2.trans hK0; have HW3 := hid (And.intro hR hK); obtain ⟨p3, q3⟩ := HB.out _ hK; clear hR hK0 hK)
      | (go_at_call 109; (with_reducible refine (HC4.out _ HW3.out.1).mono ?_); rintro x w4 ⟨rfl, hR, hK0⟩; have hK := HW3.out.2.trans hK0; have HW4 := hid (And.intro hR hK); obtain ⟨p4, q4⟩ := HB.out _ hK; clear hR hK0 hK)
      | (go_at_call 161; (with_reducible refine (HC5.out _ HW4.out.1).mono ?_); rintro x w5 ⟨rfl, hR, hK0⟩; have hK := HW4.out.2.trans hK0; have HW5 := hid (And.intro hR hK); obtain ⟨p5, q5⟩ := HB.out _ hK; clear hR hK0 hK)
      | (go_at_call 161; (with_reducible refine (HC6.out _ HW5.out.1).mono ?_); rintro x w6 ⟨rfl, hR, hK0⟩; have hK := HW5.out.2.trans hK0; have HW6 := hid (And.intro hR hK); obtain ⟨p6, q6⟩ := HB.out _ hK; obtain ⟨z0, z1, z2, z3, z4, z5, z6, z7, z8, z9, z10, z11, z12, z13, f0, f1, f2, f3, f4, f5, f6, f7, f8, f9, f10, f11, f12, f13, hlt⟩ := HZ.out _ hK; clear hR hK0 hK))
  go_wp2_with fail
  obtain ⟨wl, hwl⟩ : ∃ wl, wl = w6 := ⟨_, rfl⟩
  have hKl := HW6.out.2
  rw [← hwl] at hKl z0 z1 z2 z3 z4 z5 z6 z7 z8 z9 z10 z11 z12 z13 ⊢
  obtain ⟨W4, hW4⟩ : ∃ W4, W4 = ((((((((((((((wl.setCell ⟨w.heap.size + 1, 0, none⟩ (.int .u64 (e.no : Int))).setCell ⟨w.heap.size + 1, 1, none⟩ (.int .u8 (e.ow.toNat : Int))).setCell ⟨w.heap.size + 1, 2, none⟩ (.int .u8 (e.fr.toNat : Int))).setCell ⟨w.heap.size + 1, 3, none⟩ (.int .u8 (e.to.toNat : Int))).setCell ⟨w.heap.size + 1, 4, none⟩ (.int .u64 (e.made : Int))).setCell ⟨w.heap.size + 1, 5, none⟩ (.int .u64 (e.due : Int))).setCell ⟨w.heap.size + 1, 6, none⟩ (.int .u64 (limb e.fi 0 : Nat))).setCell ⟨w.heap.size + 1, 7, none⟩ (.int .u64 (limb e.fi 1 : Nat))).setCell ⟨w.heap.size + 1, 8, none⟩ (.int .u64 (limb e.fi 2 : Nat))).setCell ⟨w.heap.size + 1, 9, none⟩ (.int .u64 (limb e.fi 3 : Nat))).setCell ⟨w.heap.size + 1, 10, none⟩ (.int .u64 (limb e.sh 0 : Nat))).setCell ⟨w.heap.size + 1, 11, none⟩ (.int .u64 (limb e.sh 1 : Nat))).setCell ⟨w.heap.size + 1, 12, none⟩ (.int .u64 (limb e.sh 2 : Nat))).setCell ⟨w.heap.size + 1, 13, none⟩ (.int .u64 (limb e.sh 3 : Nat))) := ⟨_, rfl⟩
  rw [← hW4]
  have hE := HE.out
  have hl : Ext w wl := ((hE.1.trans hE.2.1).drew).trans' hKl fun k hk e => by have := hE.2.2.1; have := hE.2.2.2; omega
  have hE4 : Ext w W4 := by
    rw [hW4]
    exact ((((((((((((((hl.setCell (a := ⟨w.heap.size + 1, 0, none⟩) (fun c => absurd c (by simp)) _).setCell (a := ⟨w.heap.size + 1, 1, none⟩) (fun c => absurd c (by simp)) _).setCell (a := ⟨w.heap.size + 1, 2, none⟩) (fun c => absurd c (by simp)) _).setCell (a := ⟨w.heap.size + 1, 3, none⟩) (fun c => absurd c (by simp)) _).setCell (a := ⟨w.heap.size + 1, 4, none⟩) (fun c => absurd c (by simp)) _).setCell (a := ⟨w.heap.size + 1, 5, none⟩) (fun c => absurd c (by simp)) _).setCell (a := ⟨w.heap.size + 1, 6, none⟩) (fun c => absurd c (by simp)) _).setCell (a := ⟨w.heap.size + 1, 7, none⟩) (fun c => absurd c (by simp)) _).setCell (a := ⟨w.heap.size + 1, 8, none⟩) (fun c => absurd c (by simp)) _).setCell (a := ⟨w.heap.size + 1, 9, none⟩) (fun c => absurd c (by simp)) _).setCell (a := ⟨w.heap.size + 1, 10, none⟩) (fun c => absurd c (by simp)) _).setCell (a := ⟨w.heap.size + 1, 11, none⟩) (fun c => absurd c (by simp)) _).setCell (a := ⟨w.heap.size + 1, 12, none⟩) (fun c => absurd c (by simp)) _).setCell (a := ⟨w.heap.size + 1, 13, none⟩) (fun c => absurd c (by simp)) _)
  have q100 : W4.cell? ⟨w.heap.size + 1, 0, none⟩ = some (.int .u64 (e.no : Int)) := by rw [hW4]; simp [go_sem, z0]
  have q101 : W4.cell? ⟨w.heap.size + 1, 1, none⟩ = some (.int .u8 (e.ow.toNat : Int)) := by rw [hW4]; simp [go_sem, z1]
  have q102 : W4.cell? ⟨w.heap.size + 1, 2, none⟩ = some (.int .u8 (e.fr.toNat : Int)) := by rw [hW4]; simp [go_sem, z2]
  have q103 : W4.cell? ⟨w.heap.size + 1, 3, none⟩ = some (.int .u8 (e.to.toNat : Int)) := by rw [hW4]; simp [go_sem, z3]
  have q104 : W4.cell? ⟨w.heap.size + 1, 4, none⟩ = some (.int .u64 (e.made : Int)) := by rw [hW4]; simp [go_sem, z4]
  have q105 : W4.cell? ⟨w.heap.size + 1, 5, none⟩ = some (.int .u64 (e.due : Int)) := by rw [hW4]; simp [go_sem, z5]
  have q106 : W4.cell? ⟨w.heap.size + 1, 6, none⟩ = some (.int .u64 (limb e.fi 0 : Nat)) := by rw [hW4]; simp [go_sem, z6]
  have q107 : W4.cell? ⟨w.heap.size + 1, 7, none⟩ = some (.int .u64 (limb e.fi 1 : Nat)) := by rw [hW4]; simp [go_sem, z7]
  have q108 : W4.cell? ⟨w.heap.size + 1, 8, none⟩ = some (.int .u64 (limb e.fi 2 : Nat)) := by rw [hW4]; simp [go_sem, z8]
  have q109 : W4.cell? ⟨w.heap.size + 1, 9, none⟩ = some (.int .u64 (limb e.fi 3 : Nat)) := by rw [hW4]; simp [go_sem, z9]
  have q110 : W4.cell? ⟨w.heap.size + 1, 10, none⟩ = some (.int .u64 (limb e.sh 0 : Nat)) := by rw [hW4]; simp [go_sem, z10]
  have q111 : W4.cell? ⟨w.heap.size + 1, 11, none⟩ = some (.int .u64 (limb e.sh 1 : Nat)) := by rw [hW4]; simp [go_sem, z11]
  have q112 : W4.cell? ⟨w.heap.size + 1, 12, none⟩ = some (.int .u64 (limb e.sh 2 : Nat)) := by rw [hW4]; simp [go_sem, z12]
  have q113 : W4.cell? ⟨w.heap.size + 1, 13, none⟩ = some (.int .u64 (limb e.sh 3 : Nat)) := by rw [hW4]; simp [go_sem, z13]
  clear hW4
  exact bodyPost_ret (v := e.V) (by simp [results, Try.f121, go_sem, Hp.V, Hp.cells, q100, q101, q102, q103, q104, q105, q106, q107, q108, q109, q110, q111, q112, q113]) rfl ⟨rfl, hE4⟩

end Go.Proofs.Ytaidgkdebocenaa
