/- Numbers, entries and hops that are handed in: opened.
   No conditions. -/
import Derived.Test.YtaidgkdebocenaaArg
import Derived.Test.YtaidgkdebocenaaHopRec
namespace Go.Proofs.Ytaidgkdebocenaa
open Go Go.RowKit
open Go.ChangeShapes Go.WideShapes Go.ChangeAt

variable {H : Type} {enc : TypeId × Value → H} {W : World} {base : Nat} {spare : Nat → Bool} {held : Bool}

theorem cellsNum : Try.prog.cellsOf 79 = 4 := by kernel_rfl
theorem cellsEntry : Try.prog.cellsOf 81 = 13 := by kernel_rfl
theorem cellsHop : Try.prog.cellsOf 83 = 14 := by kernel_rfl
theorem undNum : Try.prog.underlying 79 = some (.array 4 54) := by kernel_rfl

theorem limbs_of (a b c d : Nat) (ha : a < 18446744073709551616) (hb : b < 18446744073709551616) (hc : c < 18446744073709551616) (hd : d < 18446744073709551616) :
    ∃ n, n < 256 ^ 32 ∧ limb n 0 = a ∧ limb n 1 = b ∧ limb n 2 = c ∧ limb n 3 = d := by
  refine ⟨a + 18446744073709551616 * (b + 18446744073709551616 * (c + 18446744073709551616 * d)), ?_, ?_, ?_, ?_, ?_⟩
  · have : (256 : Nat) ^ 32 = 115792089237316195423570985008687907853269984665640564039457584007913129639936 := by decide
    omega
  all_goals
    unfold limb
    simp only [Nat.reducePow]
    omega

set_option maxRecDepth 100000 in
theorem open_num {fuel : Nat} {cs : List Value} {x : DataW H × List MemPlace} (h : DataW.trod enc Try.prog W base spare held fuel 79 cs = some x) : ∃ n, n < 256 ^ 32 ∧ cs = numC n := by
  obtain ⟨xs, n, -, -, hl, hlen, hf⟩ := DataW.trod_array undNum h
  rw [cellsNum] at hl
  match cs, hl with
  | [c0, c1, c2, c3], _ =>
    match xs, hlen with
    | [y0, y1, y2, y3], _ =>
      have f0 := hf 0 (by decide)
      have f1 := hf 1 (by decide)
      have f2 := hf 2 (by decide)
      have f3 := hf 3 (by decide)
      simp only [cellsU64, List.drop_zero, List.drop_succ_cons, List.take_succ_cons, List.take_zero, List.getElem?_cons_zero, List.getElem?_cons_succ, Nat.zero_mul, Nat.one_mul, Nat.mul_one] at f0 f1 f2 f3
      obtain ⟨k0, e0, -, w0⟩ := DataW.trod_int Try.underlying54 f0
      obtain ⟨k1, e1, -, w1⟩ := DataW.trod_int Try.underlying54 f1
      obtain ⟨k2, e2, -, w2⟩ := DataW.trod_int Try.underlying54 f2
      obtain ⟨k3, e3, -, w3⟩ := DataW.trod_int Try.underlying54 f3
      obtain rfl := (List.cons.inj e0).1
      obtain rfl := (List.cons.inj e1).1
      obtain rfl := (List.cons.inj e2).1
      obtain rfl := (List.cons.inj e3).1
      obtain ⟨n0, l0⟩ := u64_of_wf w0
      obtain ⟨n1, l1⟩ := u64_of_wf w1
      obtain ⟨n2, l2⟩ := u64_of_wf w2
      obtain ⟨n3, l3⟩ := u64_of_wf w3
      obtain ⟨n, hn, g0, g1, g2, g3⟩ := limbs_of _ _ _ _ l0 l1 l2 l3
      refine ⟨n, hn, ?_⟩
      rw [numC, g0, g1, g2, g3, n0, n1, n2, n3]

set_option maxRecDepth 100000 in
theorem open_entry {fuel : Nat} {cs : List Value} {x : DataW H × List MemPlace} (h : DataW.trod enc Try.prog W base spare held fuel 81 cs = some x) : ∃ e : En, cs = e.cells ∧ e.Ok := by
  obtain ⟨xs, n, -, -, hl, hlen, hf⟩ := DataW.trod_struct Try.underlying81 h
  rw [cellsEntry] at hl
  match cs, hl with
  | [c0, c1, c2, c3, c4, c5, c6, c7, c8, c9, c10, c11, c12], _ =>
    match xs, hlen with
    | [y0, y1, y2, y3, y4, y5, y6], _ =>
      have f0 := hf 0 _ rfl
      have f1 := hf 1 _ rfl
      have f2 := hf 2 _ rfl
      have f3 := hf 3 _ rfl
      have f4 := hf 4 _ rfl
      have f5 := hf 5 _ rfl
      have f6 := hf 6 _ rfl
      simp only [cellsU8, cellsU64, cellsNum, List.drop_zero, List.drop_succ_cons, List.take_succ_cons, List.take_zero, List.getElem?_cons_zero, List.getElem?_cons_succ] at f0 f1 f2 f3 f4 f5 f6
      obtain ⟨k0, e0, -, w0⟩ := DataW.trod_int Try.underlying54 f0
      obtain ⟨k1, e1, -, w1⟩ := DataW.trod_int Try.underlying5 f1
      obtain ⟨k2, e2, -, w2⟩ := DataW.trod_int Try.underlying5 f2
      obtain ⟨k3, e3, -, w3⟩ := DataW.trod_int Try.underlying54 f3
      obtain ⟨k4, e4, -, w4⟩ := DataW.trod_int Try.underlying54 f4
      obtain ⟨n5, l5, e5⟩ := open_num f5
      obtain ⟨n6, l6, e6⟩ := open_num f6
      obtain rfl := (List.cons.inj e0).1
      obtain rfl := (List.cons.inj e1).1
      obtain rfl := (List.cons.inj e2).1
      obtain rfl := (List.cons.inj e3).1
      obtain rfl := (List.cons.inj e4).1
      simp only [numC, List.cons.injEq, and_true] at e5 e6
      obtain ⟨rfl, rfl, rfl, rfl⟩ := e5
      obtain ⟨rfl, rfl, rfl, rfl⟩ := e6
      obtain ⟨n0, l0⟩ := u64_of_wf w0
      obtain ⟨n3, l3⟩ := u64_of_wf w3
      obtain ⟨n4, l4⟩ := u64_of_wf w4
      refine ⟨⟨k0.toNat, UInt8.ofNat k1.toNat, UInt8.ofNat k2.toNat, k3.toNat, k4.toNat, n5, n6⟩, ?_, l0, l3, l4, l5, l6⟩
      rw [En.cells, u8_of_wf w1, u8_of_wf w2, n0, n3, n4]

set_option maxRecDepth 100000 in
theorem open_hop {fuel : Nat} {cs : List Value} {x : DataW H × List MemPlace} (h : DataW.trod enc Try.prog W base spare held fuel 83 cs = some x) : ∃ e : Hp, cs = e.cells ∧ e.Ok := by
  obtain ⟨xs, n, -, -, hl, hlen, hf⟩ := DataW.trod_struct Try.underlying83 h
  rw [cellsHop] at hl
  match cs, hl with
  | [c0, c1, c2, c3, c4, c5, c6, c7, c8, c9, c10, c11, c12, c13], _ =>
    match xs, hlen with
    | [y0, y1, y2, y3, y4, y5, y6, y7], _ =>
      have f0 := hf 0 _ rfl
      have f1 := hf 1 _ rfl
      have f2 := hf 2 _ rfl
      have f3 := hf 3 _ rfl
      have f4 := hf 4 _ rfl
      have f5 := hf 5 _ rfl
      have f6 := hf 6 _ rfl
      have f7 := hf 7 _ rfl
      simp only [cellsU8, cellsU64, cellsNum, List.drop_zero, List.drop_succ_cons, List.take_succ_cons, List.take_zero, List.getElem?_cons_zero, List.getElem?_cons_succ] at f0 f1 f2 f3 f4 f5 f6 f7
      obtain ⟨k0, e0, -, w0⟩ := DataW.trod_int Try.underlying54 f0
      obtain ⟨k1, e1, -, w1⟩ := DataW.trod_int Try.underlying5 f1
      obtain ⟨k2, e2, -, w2⟩ := DataW.trod_int Try.underlying5 f2
      obtain ⟨k7, e7, -, w7⟩ := DataW.trod_int Try.underlying5 f3
      obtain ⟨k3, e3, -, w3⟩ := DataW.trod_int Try.underlying54 f4
      obtain ⟨k4, e4, -, w4⟩ := DataW.trod_int Try.underlying54 f5
      obtain ⟨n5, l5, e5⟩ := open_num f6
      obtain ⟨n6, l6, e6⟩ := open_num f7
      obtain rfl := (List.cons.inj e0).1
      obtain rfl := (List.cons.inj e1).1
      obtain rfl := (List.cons.inj e2).1
      obtain rfl := (List.cons.inj e7).1
      obtain rfl := (List.cons.inj e3).1
      obtain rfl := (List.cons.inj e4).1
      simp only [numC, List.cons.injEq, and_true] at e5 e6
      obtain ⟨rfl, rfl, rfl, rfl⟩ := e5
      obtain ⟨rfl, rfl, rfl, rfl⟩ := e6
      obtain ⟨n0, l0⟩ := u64_of_wf w0
      obtain ⟨n3, l3⟩ := u64_of_wf w3
      obtain ⟨n4, l4⟩ := u64_of_wf w4
      refine ⟨⟨k0.toNat, UInt8.ofNat k1.toNat, UInt8.ofNat k2.toNat, UInt8.ofNat k7.toNat, k3.toNat, k4.toNat, n5, n6⟩, ?_, l0, l3, l4, l5, l6⟩
      rw [Hp.cells, u8_of_wf w1, u8_of_wf w2, u8_of_wf w7, n0, n3, n4]

set_option maxRecDepth 100000 in
/-- A value that is handed in whole. -/
theorem open_entryV {v : Value} {d : DataW H} {ps : List MemPlace} {r : Reach} {b0 : Nat} (hval : Value.okWide Try.prog W r b0 81 v) (h : DataW.Trod enc Try.prog W base spare held 81 v d ps) : ∃ e : En, v = e.V ∧ e.Ok := by
  obtain ⟨cs, rfl⟩ : ∃ cs, v = .agg cs := by
    unfold Value.okWide at hval
    rw [Try.underlying81] at hval
    obtain ⟨cs, rfl, -⟩ := hval
    exact ⟨cs, rfl⟩
  obtain ⟨fuel, hf⟩ := h
  obtain ⟨e, he, ho⟩ := open_entry hf
  refine ⟨e, ?_, ho⟩
  have : cs.toList = e.cells := he
  rw [En.V, ← this]
set_option maxRecDepth 100000 in
theorem open_hopV {v : Value} {d : DataW H} {ps : List MemPlace} {r : Reach} {b0 : Nat} (hval : Value.okWide Try.prog W r b0 83 v) (h : DataW.Trod enc Try.prog W base spare held 83 v d ps) : ∃ e : Hp, v = e.V ∧ e.Ok := by
  obtain ⟨cs, rfl⟩ : ∃ cs, v = .agg cs := by
    unfold Value.okWide at hval
    rw [Try.underlying83] at hval
    obtain ⟨cs, rfl, -⟩ := hval
    exact ⟨cs, rfl⟩
  obtain ⟨fuel, hf⟩ := h
  obtain ⟨e, he, ho⟩ := open_hop hf
  refine ⟨e, ?_, ho⟩
  have : cs.toList = e.cells := he
  rw [Hp.V, ← this]

/-- A deed of layer 14. -/
structure A14 where
  d : UInt8
  e : En
  h : Hp
def A14.cells (a : A14) : List Value := .int .u8 (a.d.toNat : Int) :: (a.e.cells ++ a.h.cells)
theorem A14.cells_len (a : A14) : a.cells.length = 28 := rfl
def A14.ok (_ : World) (a : A14) : Prop := a.e.Ok ∧ a.h.Ok
abbrev Acts14 (w : World) (v : Value) (l : List A14) : Prop := ArgV A14.cells 28 A14.ok w v l
theorem cellsAct14 : Try.prog.cellsOf 103 = 28 := by kernel_rfl

set_option maxRecDepth 100000 in
theorem open_act14 (fuel : Nat) (cs : List Value) (x : DataW H × List MemPlace) (h : DataW.trod enc Try.prog W base spare held fuel 103 cs = some x) : ∃ a : A14, cs = a.cells ∧ A14.ok W a := by
  obtain ⟨xs, n, -, -, hl, hlen, hf⟩ := DataW.trod_struct Try.underlying103 h
  rw [cellsAct14] at hl
  match xs, hlen with
  | [y0, y1, y2], _ =>
    have f0 := hf 0 _ rfl
    have f1 := hf 1 _ rfl
    have f2 := hf 2 _ rfl
    simp only [cellsU8, cellsEntry, cellsHop, List.drop_zero, List.getElem?_cons_zero, List.getElem?_cons_succ] at f0 f1 f2
    obtain ⟨k0, e0, -, w0⟩ := DataW.trod_int Try.underlying5 f0
    obtain ⟨e, e1, ok1⟩ := open_entry f1
    obtain ⟨g, e2, ok2⟩ := open_hop f2
    refine ⟨⟨UInt8.ofNat k0.toNat, e, g⟩, ?_, ok1, ok2⟩
    have hs : cs = cs.take 1 ++ ((cs.drop 1).take 13 ++ (cs.drop 14).take 14) := by
      have h1 : (cs.drop 14).take 14 = cs.drop 14 := List.take_of_length_le (by rw [List.length_drop]; omega)
      have h2 : cs.drop 14 = (cs.drop 1).drop 13 := by rw [List.drop_drop]
      rw [h1, h2, List.take_append_drop, List.take_append_drop]
    rw [A14.cells, u8_of_wf w0]
    show cs = [_] ++ (e.cells ++ g.cells)
    rw [← e0, ← e1, ← e2]
    exact hs

theorem open_acts14 {fuel : Nat} {a : Option Addr} {len cap : Nat} {x : DataW H × List MemPlace} (h : DataW.trod enc Try.prog W base spare held fuel 91 [.slice a len cap] = some x) : ∃ l : List A14, l.length = len ∧ Acts14 W (.slice a len cap) l :=
  open_list Try.underlying91 cellsAct14 (by decide) A14.cells_len open_act14 h

end Go.Proofs.Ytaidgkdebocenaa
