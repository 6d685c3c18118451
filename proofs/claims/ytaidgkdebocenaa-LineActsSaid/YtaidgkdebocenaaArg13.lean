/- The deeds of layer 13 ([]jointurelaw13.Act): opened; jointurelaw13.few.
   No conditions. -/
import Derived.Test.YtaidgkdebocenaaArg
import Derived.Test.YtaidgkdebocenaaLineP
namespace Go.Proofs.Ytaidgkdebocenaa
open Go Go.RowKit
open Go.ChangeShapes Go.WideShapes Go.ChangeAt

structure A13 where
  d : UInt8
  κ : UInt8
  due : Nat
  no : Nat
  pv : Value
  p : BS
def A13.cells (a : A13) : List Value := [.int .u8 (a.d.toNat : Int), .int .u8 (a.κ.toNat : Int), .int .u64 (a.due : Int), .int .u64 (a.no : Int), a.pv]
theorem A13.cells_len (a : A13) : a.cells.length = 5 := rfl
def A13.ok (w : World) (a : A13) : Prop := BV w a.pv a.p ∧ a.due < W64 ∧ a.no < W64
theorem A13.ok_ext {w w' : World} (hE : Ext w w') (a : A13) (h : A13.ok w a) : A13.ok w' a := ⟨h.1.ext hE, h.2⟩
abbrev Acts13 (w : World) (v : Value) (l : List A13) : Prop := ArgV A13.cells 5 A13.ok w v l
theorem Acts13.ext {w w' : World} {v : Value} {l : List A13} (h : Acts13 w v l) (hE : Ext w w') : Acts13 w' v l := ArgV.ext A13.cells_len (A13.ok_ext hE) h hE

theorem Acts13.at {w : World} {v : Value} {l : List A13} (h : Acts13 w v l) {i : Nat} (hi : i < l.length) :
    ∃ g off cap pa pc, v = .slice (some ⟨g, off, none⟩) l.length cap ∧ l.length ≤ cap ∧ cap ≤ 9223372036854775807 ∧ g < w.heap.size ∧ (l[i]).pv = .slice pa (l[i]).p.length pc ∧ A13.ok w l[i] ∧
      w.cell? ⟨g, off + i * 5, none⟩ = some (.int .u8 ((l[i]).d.toNat : Int)) ∧ w.cell? ⟨g, off + i * 5 + 1, none⟩ = some (.int .u8 ((l[i]).κ.toNat : Int)) ∧ w.cell? ⟨g, off + i * 5 + 2, none⟩ = some (.int .u64 ((l[i]).due : Int)) ∧
      w.cell? ⟨g, off + i * 5 + 3, none⟩ = some (.int .u64 ((l[i]).no : Int)) ∧ w.cell? ⟨g, off + i * 5 + 4, none⟩ = some (.slice pa (l[i]).p.length pc) := by
  obtain ⟨g, off, cap, h1, h2, h3, h4, hc, hk⟩ := ArgV.at h hi
  obtain ⟨pa, pc, hpv, -, -⟩ := hk.1.val
  have c0 := hc 0 (by decide)
  have c1 := hc 1 (by decide)
  have c2 := hc 2 (by decide)
  have c3 := hc 3 (by decide)
  have c4 := hc 4 (by decide)
  simp only [A13.cells, List.getElem?_cons_zero, List.getElem?_cons_succ, Nat.add_zero] at c0 c1 c2 c3 c4
  rw [hpv] at c4
  exact ⟨g, off, cap, pa, pc, h1, h2, h3, h4, hpv, hk, c0, c1, c2, c3, c4⟩

variable {H : Type} {enc : TypeId × Value → H} {W : World} {base : Nat} {spare : Nat → Bool} {held : Bool}

theorem cellsAct13 : Try.prog.cellsOf 57 = 5 := by kernel_rfl

set_option maxRecDepth 100000 in
theorem open_act13 (fuel : Nat) (cs : List Value) (x : DataW H × List MemPlace) (h : DataW.trod enc Try.prog W base spare held fuel 57 cs = some x) : ∃ a : A13, cs = a.cells ∧ A13.ok W a := by
  obtain ⟨xs, n, -, -, hl, hlen, hf⟩ := DataW.trod_struct Try.underlying57 h
  rw [cellsAct13] at hl
  match cs, hl with
  | [c0, c1, c2, c3, c4], _ =>
    have f0 := hf 0 _ rfl
    have f1 := hf 1 _ rfl
    have f2 := hf 2 _ rfl
    have f3 := hf 3 _ rfl
    have f4 := hf 4 _ rfl
    match xs, hlen with
    | [y0, y1, y2, y3, y4], _ =>
      simp only [cellsBytes, cellsU8, cellsU64, List.drop_zero, List.drop_succ_cons, List.take_succ_cons, List.take_zero, List.getElem?_cons_zero, List.getElem?_cons_succ] at f0 f1 f2 f3 f4
      obtain ⟨k0, e0, -, w0⟩ := DataW.trod_int Try.underlying5 f0
      obtain ⟨k1, e1, -, w1⟩ := DataW.trod_int Try.underlying5 f1
      obtain ⟨k2, e2, -, w2⟩ := DataW.trod_int Try.underlying54 f2
      obtain ⟨k3, e3, -, w3⟩ := DataW.trod_int Try.underlying54 f3
      obtain ⟨pv, p, e4, hb⟩ := open_bytes' f4
      obtain rfl := (List.cons.inj e0).1
      obtain rfl := (List.cons.inj e1).1
      obtain rfl := (List.cons.inj e2).1
      obtain rfl := (List.cons.inj e3).1
      obtain rfl := (List.cons.inj e4).1
      have q2 := u64_of_wf w2
      have q3 := u64_of_wf w3
      refine ⟨⟨UInt8.ofNat k0.toNat, UInt8.ofNat k1.toNat, k2.toNat, k3.toNat, c4, p⟩, ?_, hb, q2.2, q3.2⟩
      simp only [A13.cells]
      rw [u8_of_wf w0, u8_of_wf w1, q2.1, q3.1]

theorem open_acts13 {fuel : Nat} {a : Option Addr} {len cap : Nat} {x : DataW H × List MemPlace} (h : DataW.trod enc Try.prog W base spare held fuel 52 [.slice a len cap] = some x) : ∃ l : List A13, l.length = len ∧ Acts13 W (.slice a len cap) l :=
  open_list Try.underlying52 cellsAct13 (by decide) A13.cells_len open_act13 h

def few13 (l : List A13) : Bool := decide (l.length ≤ 40) && l.all fun a => decide (a.p.length ≤ 60)

theorem few13_at {l : List A13} (h : few13 l = true) : l.length ≤ 40 ∧ ∀ a ∈ l, a.p.length ≤ 60 := by
  simp only [few13, Bool.and_eq_true, List.all_eq_true, decide_eq_true_eq] at h
  exact h
theorem few13_not (l : List A13) (k : Nat) (hk : k < l.length) (h : ¬ (l[k]).p.length ≤ 60) : few13 l = false := by
  cases hf : few13 l with
  | false => rfl
  | true => exact absurd ((few13_at hf).2 _ (List.getElem_mem hk)) h

set_option maxRecDepth 100000 in
set_option maxHeartbeats 1000000 in
theorem few13_c {w : World} {v : Value} {l : List A13} (h : Acts13 w v l) :
    Calls Try.prog 48 #[v] w fun e w' => e = .returned (.bool (few13 l)) ∧ w = w' := by
  obtain ⟨ao, cap, rfl, hlc, hcm⟩ := ArgV.val h
  by_cases h40 : l.length ≤ 40
  · have t40 : ¬ (40 : Int) < (l.length : Int) := by omega
    have H := hid h
    clear h
    go_enter Try.func48, Try.ntmps48
    go_wp2_with fail
    go_loopw [3] (fun j wr => ∃ k : Nat, k ≤ l.length ∧ j = .int .i64 k ∧ (l.take k).all (fun a => decide (a.p.length ≤ 60)) = true ∧ w = wr) (fun j _ => l.length - (intOf j).toNat)
    case atStart => exact ⟨0, Nat.zero_le _, rfl, rfl, rfl⟩
    case round =>
      obtain ⟨k, hk, rfl, hall, rfl⟩ := hrel
      by_cases hlt : k < l.length
      · have hki : (k : Int) < (l.length : Int) := by omega
        obtain ⟨g, off, cap', pa, pc, hv, -, -, -, -, -, -, -, -, -, c4⟩ := H.out.at hlt
        cases hv
        have HAll := hid hall
        obtain ⟨pl, hpl⟩ : ∃ pl, pl = (l[k]).p.length := ⟨_, rfl⟩
        rw [← hpl] at c4
        have Hpl := hid hpl
        clear hall hpl
        by_cases h1 : pl ≤ 60
        · have t1 : ¬ (60 : Int) < (pl : Int) := by omega
          go_wp2_with fail
          refine ⟨⟨k + 1, hlt, by go_num, ?_, by first | rfl | trivial⟩, by simp [intOf]; omega⟩
          rw [List.take_succ_eq_append_getElem hlt, List.all_append, HAll.out]
          have := Hpl.out
          simp; omega
        · have t1 : (60 : Int) < (pl : Int) := by omega
          go_wp2_with fail
          go_ret
          exact ⟨by rw [few13_not l k hlt (by rw [← Hpl.out]; exact h1)]; rfl, rfl⟩
      · obtain rfl : k = l.length := by omega
        go_wp2_with fail
        go_ret
        refine ⟨?_, rfl⟩
        rw [List.take_length] at hall
        simp only [few13, h40, hall]
        rfl
  · have t40 : (40 : Int) < (l.length : Int) := by omega
    clear h
    go_enter Try.func48, Try.ntmps48
    go_wp2_with fail
    go_ret
    exact ⟨by simp [few13, h40], rfl⟩

end Go.Proofs.Ytaidgkdebocenaa
