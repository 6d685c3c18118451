/- Arguments of deeds ([]jointurelaw05.Act), opened.
   No conditions. -/
import Derived.Test.YtaidgkdebocenaaOpen
import Derived.Test.YtaidgkdebocenaaActs
namespace Go.Proofs.Ytaidgkdebocenaa
open Go Go.RowKit
open Go.ChangeShapes Go.WideShapes Go.ChangeAt

variable {H : Type} {enc : TypeId × Value → H} {W : World} {base : Nat} {spare : Nat → Bool} {held : Bool}

theorem open_bytes' {fuel : Nat} {cs : List Value} {x : DataW H × List MemPlace} (h : DataW.trod enc Try.prog W base spare held fuel 33 cs = some x) : ∃ v xs, cs = [v] ∧ BV W v xs := by
  rcases open_ints Try.underlying33 Try.underlying5 (by kernel_rfl) h with ⟨hcs, _⟩ | ⟨y, l, c, zs, hcs, _, hl, hm, hz, _, hcell, hwz⟩
  · exact ⟨_, [], hcs, BV.nil W⟩
  · obtain ⟨xs, -, hb⟩ := bv_row (W := W) (a := some y) hl hm (by rw [hz]; split <;> omega) rfl hcell hwz
    exact ⟨_, xs, hcs, hb⟩

theorem cellsAct : Try.prog.cellsOf 35 = 3 := by kernel_rfl
theorem cellsBytes : Try.prog.cellsOf 33 = 1 := by kernel_rfl
theorem cellsU8 : Try.prog.cellsOf 5 = 1 := by kernel_rfl

set_option maxRecDepth 100000 in
theorem open_act {fuel : Nat} {cs : List Value} {x : DataW H × List MemPlace} (h : DataW.trod enc Try.prog W base spare held fuel 35 cs = some x) :
    ∃ a : ActV, cs = [.int .u8 (a.d.toNat : Int), a.kv, a.vv] ∧ BV W a.kv a.key ∧ BV W a.vv a.val := by
  obtain ⟨xs, n, -, -, hl, hlen, hf⟩ := DataW.trod_struct Try.underlying35 h
  rw [cellsAct] at hl
  match cs, hl with
  | [c0, c1, c2], _ =>
    have f0 := hf 0 _ rfl
    have f1 := hf 1 _ rfl
    have f2 := hf 2 _ rfl
    match xs, hlen with
    | [y0, y1, y2], _ =>
      simp only [cellsBytes, cellsU8, List.drop_zero, List.drop_succ_cons, List.take_succ_cons, List.take_zero, List.getElem?_cons_zero, List.getElem?_cons_succ] at f0 f1 f2
      obtain ⟨k, hk, -, hw⟩ := DataW.trod_int Try.underlying5 f0
      obtain ⟨kv, key, hkv, hkb⟩ := open_bytes' f1
      obtain ⟨vv, val, hvv, hvb⟩ := open_bytes' f2
      obtain rfl := (List.cons.inj hk).1
      obtain rfl := (List.cons.inj hkv).1
      obtain rfl := (List.cons.inj hvv).1
      refine ⟨⟨UInt8.ofNat k.toNat, c1, c2, key, val⟩, ?_, hkb, hvb⟩
      rw [u8_of_wf hw]

theorem list_of {α : Type} {R : Nat → α → Prop} : ∀ {n : Nat}, (∀ i, i < n → ∃ t, R i t) → ∃ l : List α, l.length = n ∧ ∀ i (h : i < l.length), R i (l[i])
  | 0, _ => ⟨[], rfl, fun _ h => nomatch h⟩
  | n + 1, h => by
    obtain ⟨l, hl, hR⟩ := list_of (n := n) fun i hi => h i (by omega)
    obtain ⟨t, ht⟩ := h n (by omega)
    refine ⟨l ++ [t], by simp [hl], fun i hi => ?_⟩
    by_cases c : i < l.length
    · rw [List.getElem_append_left c]; exact hR i c
    · have : i = n := by simp at hi; omega
      subst this
      simp [hl, ht]

theorem open_acts {fuel : Nat} {a : Option Addr} {len cap : Nat} {x : DataW H × List MemPlace}
    (h : DataW.trod enc Try.prog W base spare held fuel 22 [.slice a len cap] = some x) : ∃ l : List ActV, l.length = len ∧ ActsV W (.slice a len cap) l := by
  rcases DataW.trod_slice Try.underlying22 h with ⟨hcs, -⟩ | ⟨y, len', cap', elems, rest, n, -, hcs, -, hb, hl, hm, hlen, hel, -, -⟩
  · simp at hcs
    obtain ⟨rfl, rfl, rfl⟩ := hcs
    exact ⟨[], rfl, none, 0, rfl, Nat.le_refl _, Nat.zero_le _, .inl rfl, fun _ h => nomatch h⟩
  · simp at hcs
    obtain ⟨rfl, rfl, rfl⟩ := hcs
    rw [cellsAct] at hel
    have each : ∀ i, i < len → ∃ t : ActV, W.cells? base (y.add (i * 3)) 3 = some [.int .u8 (t.d.toNat : Int), t.kv, t.vv] ∧ BV W t.kv t.key ∧ BV W t.vv t.val := by
      intro i hi
      have h1 := hel i hi
      have h2 : i < elems.length := by omega
      rw [List.getElem?_eq_getElem h2, Option.bind_eq_some_iff] at h1
      obtain ⟨cs, hc, ht⟩ := h1
      obtain ⟨t, rfl, hk, hv⟩ := open_act ht
      exact ⟨t, hc, hk, hv⟩
    obtain ⟨l, hll, hget⟩ : ∃ l : List ActV, l.length = len ∧ ∀ i (h : i < l.length), W.cells? base (y.add (i * 3)) 3 = some [.int .u8 ((l[i]).d.toNat : Int), (l[i]).kv, (l[i]).vv] ∧ BV W (l[i]).kv (l[i]).key ∧ BV W (l[i]).vv (l[i]).val := list_of each
    subst hll
    refine ⟨l, rfl, some y, cap, rfl, hl, hm, ?_, fun t ht => ?_⟩
    · by_cases h0 : l = []
      · exact .inl h0
      · right
        have hpos : 0 < l.length := List.length_pos_iff.2 h0
        have c0 := (World.cells?_some (hget 0 hpos).1).2.2 0 (by omega)
        obtain ⟨b, off, spot⟩ := y
        have hspot : spot = none := by simpa [Addr.add] using World.cell?_spot c0
        subst hspot
        have hb0 : b < W.heap.size := World.block_lt_of_cell? W _ (by simpa [Addr.add_plain] using c0)
        refine ⟨b, off, rfl, hb0, fun i hi => ?_⟩
        have c := (World.cells?_some (hget i hi).1).2.2
        have c1 := c 0 (by omega)
        have c2 := c 1 (by omega)
        have c3 := c 2 (by omega)
        rw [Addr.add_plain, Addr.add_plain] at c1 c2 c3
        exact ⟨by simpa using c1, by simpa using c2, by simpa using c3⟩
    · obtain ⟨i, hi, rfl⟩ := List.getElem_of_mem ht
      exact ⟨(hget i hi).2.1, (hget i hi).2.2⟩

end Go.Proofs.Ytaidgkdebocenaa
