/- Arguments that are slices of structs: how they lie in memory, and how they are opened.
   No conditions. -/
import Derived.Test.YtaidgkdebocenaaSlots
import Derived.Test.YtaidgkdebocenaaOpen
namespace Go.Proofs.Ytaidgkdebocenaa
open Go Go.RowKit
open Go.ChangeShapes Go.WideShapes Go.ChangeAt

section
variable {H : Type} {enc : TypeId × Value → H} {W : World} {base : Nat} {spare : Nat → Bool} {held : Bool}

theorem open_bytes' {fuel : Nat} {cs : List Value} {x : DataW H × List MemPlace} (h : DataW.trod enc Try.prog W base spare held fuel 33 cs = some x) : ∃ v xs, cs = [v] ∧ BV W v xs := by
  rcases open_ints Try.underlying33 Try.underlying5 (by kernel_rfl) h with ⟨hcs, _⟩ | ⟨y, l, c, zs, hcs, _, hl, hm, hz, _, hcell, hwz⟩
  · exact ⟨_, [], hcs, BV.nil W⟩
  · obtain ⟨xs, -, hb⟩ := bv_row (W := W) (a := some y) hl hm (by rw [hz]; split <;> omega) rfl hcell hwz
    exact ⟨_, xs, hcs, hb⟩

theorem cellsBytes : Try.prog.cellsOf 33 = 1 := by kernel_rfl
theorem cellsU8 : Try.prog.cellsOf 5 = 1 := by kernel_rfl

theorem list_of {α : Type} {R : Nat → α → Prop} : ∀ {n : Nat}, (∀ i, i < n → ∃ t, R i t) → ∃ l : List α, l.length = n ∧ ∀ i (h : i < l.length), R i (l[i])
  | 0, _ => ⟨[], rfl, fun _ h => nomatch h⟩
  | n + 1, h => by
    obtain ⟨l, hl, hR⟩ := list_of (n := n) fun i hi => h i (by omega)
    obtain ⟨t, ht⟩ := h n (by omega)
    refine ⟨l ++ [t], by simp [hl], fun i hi => ?_⟩
    by_cases c : i < l.length
    · rw [List.getElem_append_left c]; exact hR i c
    · have : i = n := by simp at hi; omega
      subst this
      simp [hl, ht]

end

section
variable {α : Type}

def ArgV (f : α → List Value) (s : Nat) (R : World → α → Prop) (w : World) (v : Value) (l : List α) : Prop :=
  ∃ ao cap, v = .slice ao l.length cap ∧ l.length ≤ cap ∧ cap ≤ maxLen ∧ (l = [] ∨ ∃ g off, ao = some ⟨g, off, none⟩ ∧ g < w.heap.size ∧
    ∀ i (h : i < l.length) j, j < s → w.cell? ⟨g, off + i * s + j, none⟩ = (f l[i])[j]?) ∧ ∀ a ∈ l, R w a

variable {f : α → List Value} {s : Nat} {R : World → α → Prop}

theorem ArgV.ext {w w' : World} {v : Value} {l : List α} (hf : ∀ a, (f a).length = s) (hR : ∀ a, R w a → R w' a) (h : ArgV f s R w v l) (hE : Ext w w') : ArgV f s R w' v l := by
  obtain ⟨ao, cap, h1, h2, h3, h4, h5⟩ := h
  refine ⟨ao, cap, h1, h2, h3, h4.imp id fun ⟨g, off, e, hg, hc⟩ => ⟨g, off, e, Nat.lt_of_lt_of_le hg hE.size, fun i hi j hj => ?_⟩, fun a ha => hR a (h5 a ha)⟩
  have h := hc i hi j hj
  have hl : j < (f l[i]).length := by rw [hf]; exact hj
  rw [List.getElem?_eq_getElem hl] at h ⊢
  exact hE.cell h

theorem ArgV.val {w : World} {v : Value} {l : List α} (h : ArgV f s R w v l) : ∃ ao cap, v = .slice ao l.length cap ∧ l.length ≤ cap ∧ cap ≤ 9223372036854775807 := by
  obtain ⟨ao, cap, h1, h2, h3, -⟩ := h
  exact ⟨ao, cap, h1, h2, by unfold maxLen at h3; omega⟩

theorem ArgV.at {w : World} {v : Value} {l : List α} (h : ArgV f s R w v l) {i : Nat} (hi : i < l.length) :
    ∃ g off cap, v = .slice (some ⟨g, off, none⟩) l.length cap ∧ l.length ≤ cap ∧ cap ≤ 9223372036854775807 ∧ g < w.heap.size ∧ (∀ j, j < s → w.cell? ⟨g, off + i * s + j, none⟩ = (f l[i])[j]?) ∧ R w l[i] := by
  obtain ⟨ao, cap, h1, h2, h3, h4, h5⟩ := h
  rcases h4 with rfl | ⟨g, off, rfl, hg, hc⟩
  · simp at hi
  · exact ⟨g, off, cap, h1, h2, by unfold maxLen at h3; omega, hg, fun j hj => hc i hi j hj, h5 _ (List.getElem_mem hi)⟩

theorem ArgV.mem {w : World} {v : Value} {l : List α} (h : ArgV f s R w v l) : ∀ a ∈ l, R w a := by
  obtain ⟨ao, cap, h1, h2, h3, h4, h5⟩ := h
  exact h5

variable {H : Type} {enc : TypeId × Value → H} {W : World} {base : Nat} {spare : Nat → Bool} {held : Bool}

theorem open_list {tS tE : TypeId} (hu : Try.prog.underlying tS = some (.slice tE)) (hcell : Try.prog.cellsOf tE = s) (hs : 0 < s) (hf : ∀ a, (f a).length = s)
    (hopen : ∀ (fuel : Nat) (cs : List Value) (x : DataW H × List MemPlace), DataW.trod enc Try.prog W base spare held fuel tE cs = some x → ∃ a, cs = f a ∧ R W a)
    {fuel : Nat} {a : Option Addr} {len cap : Nat} {x : DataW H × List MemPlace} (h : DataW.trod enc Try.prog W base spare held fuel tS [.slice a len cap] = some x) : ∃ l : List α, l.length = len ∧ ArgV f s R W (.slice a len cap) l := by
  rcases DataW.trod_slice hu h with ⟨hcs, -⟩ | ⟨y, len', cap', elems, rest, n, -, hcs, -, hb, hl, hm, hlen, hel, -, -⟩
  · simp at hcs
    obtain ⟨rfl, rfl, rfl⟩ := hcs
    exact ⟨[], rfl, none, 0, rfl, Nat.le_refl _, Nat.zero_le _, .inl rfl, fun _ h => nomatch h⟩
  · simp at hcs
    obtain ⟨rfl, rfl, rfl⟩ := hcs
    rw [hcell] at hel
    have each : ∀ i, i < len → ∃ t : α, W.cells? base (y.add (i * s)) s = some (f t) ∧ R W t := by
      intro i hi
      have h1 := hel i hi
      have h2 : i < elems.length := by omega
      rw [List.getElem?_eq_getElem h2, Option.bind_eq_some_iff] at h1
      obtain ⟨cs, hc, ht⟩ := h1
      obtain ⟨t, rfl, hk⟩ := hopen _ _ _ ht
      exact ⟨t, hc, hk⟩
    obtain ⟨l, hll, hget⟩ : ∃ l : List α, l.length = len ∧ ∀ i (h : i < l.length), W.cells? base (y.add (i * s)) s = some (f l[i]) ∧ R W l[i] := list_of each
    subst hll
    refine ⟨l, rfl, some y, cap, rfl, hl, hm, ?_, fun t ht => ?_⟩
    · by_cases h0 : l = []
      · exact .inl h0
      · right
        have hpos : 0 < l.length := List.length_pos_iff.2 h0
        have c0 := (World.cells?_some (hget 0 hpos).1).2.2 0 hs
        rw [List.getElem?_eq_getElem (by rw [hf]; exact hs)] at c0
        obtain ⟨b, off, spot⟩ := y
        have hspot : spot = none := by simpa [Addr.add] using World.cell?_spot c0
        subst hspot
        have hb0 : b < W.heap.size := World.block_lt_of_cell? W _ (by simpa [Addr.add_plain] using c0)
        refine ⟨b, off, rfl, hb0, fun i hi j hj => ?_⟩
        have c := (World.cells?_some (hget i hi).1).2.2 j hj
        rw [Addr.add_plain, Addr.add_plain] at c
        exact c
    · obtain ⟨i, hi, rfl⟩ := List.getElem_of_mem ht
      exact (hget i hi).2

end

theorem cellsU64 : Try.prog.cellsOf 54 = 1 := by kernel_rfl

theorem u64_of_wf {n : Int} (h : (Lit.int .u64 n).wf = true) : ((n.toNat : Nat) : Int) = n ∧ n.toNat < 18446744073709551616 := by
  have h1 : (0 : Int) ≤ n ∧ n ≤ 18446744073709551615 := (Lit.wf_int_iff .u64 n).1 h
  omega

end Go.Proofs.Ytaidgkdebocenaa
