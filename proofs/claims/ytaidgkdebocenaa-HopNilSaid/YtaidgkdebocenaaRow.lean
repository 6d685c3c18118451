/- Builtins over a row that is known whole: append within the capacity, append of zeros, copy, clear; slices.overlaps.
   No conditions beyond what each lemma names. -/
import Derived.Test.YtaidgkdebocenaaBase
import Derived.Lib.Overlaps
namespace Go.Proofs.Ytaidgkdebocenaa
open Go Go.RowKit

/-- The builtins that write, under names that the walk does not open: it takes their runs from the context. -/
def App (ats : Array TypeId) (ty : TypeId) (args : Array Value) : Sem Value := Builtin.append_ ats ty args
def Cpy (ats : Array TypeId) (ty : TypeId) (args : Array Value) : Sem Value := Builtin.copy_ ats ty args
def Clr (ats : Array TypeId) (ty : TypeId) (args : Array Value) : Sem Value := Builtin.clear_ ats ty args
theorem builtin_app (ats : Array TypeId) (ty : TypeId) (cs : Array Bool) (args : Array Value) : builtin .append ats ty cs args = (do pure (.value (← App ats ty args))) := rfl
theorem builtin_cpy (ats : Array TypeId) (ty : TypeId) (cs : Array Bool) (args : Array Value) : builtin .copy ats ty cs args = (do pure (.value (← Cpy ats ty args))) := rfl
theorem builtin_clr (ats : Array TypeId) (ty : TypeId) (cs : Array Bool) (args : Array Value) : builtin .clear ats ty cs args = (do pure (.value (← Clr ats ty args))) := rfl
attribute [go_sem ↓ high] builtin_app builtin_cpy builtin_clr

section
variable {P : Program} {w : World}

/-- run_app under the name that the walk does not open. -/
theorem run_App {base : Nat} (t ty e : TypeId) (size bytes : Nat) (z : Value) (ht : P.underlying t = some (.slice e))
    (hinfo : (P.info? e).map (fun i => (i.zero, i.size, i.bytes)) = some (some z, size, bytes)) (hzs : z.cells.size = size) (hsz : 0 < size)
    {v : Value} {n : Nat} {xs : List Value} (hown : w.ownsRow base e size v n xs)
    {ao : Option Addr} {m c : Nat} {news : List Value} (hl : news.length = m * size) (hsrc : Src w ao m c news) (h1 : ∀ u ∈ news, u.oneCell' = true)
    (h63 : n + m ≤ maxLen) (hbytes : (n + m) * bytes ≤ 140737488355328) (hbase : base ≤ w.heap.size) :
    ∃ v' w', (App #[t, t] ty #[v, .slice ao m c]).run P w = .ok v' w' ∧ w'.ownsRow base e size v' (n + m) (xs ++ news) ∧ w.grownBy w' v.ownBlock ∧
      (∀ k, v'.ownBlock = some k → v.ownBlock = some k ∨ w.heap.size ≤ k) :=
  run_app t ty e size bytes z ht hinfo hzs hsz v n xs hown ao m c news hl hsrc h1 h63 hbytes hbase

/-- append within the capacity, the row known whole. -/
theorem run_app_room (t ty e : TypeId) (size : Nat) (ht : P.underlying t = some (.slice e)) (hi : (P.info? e).map (·.size) = some size)
    (g n cap : Nat) (ys : List Value) (hg : w.heap[g]? = some (.cells ys.toArray e (0, 0))) (ao : Option Addr) (m c : Nat) (news : List Value) (hl : news.length = m * size) (hsrc : Src w ao m c news)
    (h1 : ∀ u ∈ news, u.oneCell' = true) (hroom : n + m ≤ cap) (hcap : ys.length = cap * size) :
    (App #[t, t] ty #[.slice (some ⟨g, 0, none⟩) n cap, .slice ao m c]).run P w =
      .ok (.slice (some ⟨g, 0, none⟩) (n + m) cap) (w.setRow g (ys.take (n * size) ++ news ++ ys.drop (n * size + news.length)).toArray) := by
  obtain ⟨i, hi', rfl⟩ := Option.map_eq_some_iff.1 hi
  clear hi
  cases ao with
  | none =>
    obtain ⟨rfl, rfl⟩ := hsrc.1 rfl
    obtain rfl : news = [] := List.eq_nil_of_length_eq_zero (by simpa using hl)
    have : (ys.take (n * i.size) ++ [] ++ ys.drop (n * i.size + ([] : List Value).length)).toArray = ys.toArray := by simp
    rw [this, setRow_self w g ys.toArray e _ hg]
    have hn : n ≤ cap := by omega
    simp [App, Builtin.append_, run_underlying ht, sizeOf, typeInfo, hi', Builtin.lenOf, Builtin.firstCells, hn, storeCells, Result.andThen]
  | some a =>
    have hfit : n * i.size + news.length ≤ ys.toArray.size := by rw [hl, ← Nat.add_mul]; simp only [List.size_toArray, hcap]; exact Nat.mul_le_mul_right _ hroom
    have hr := run_append_room (P := P) w t ty e i ht hi' g n cap ys.toArray hg a m c news hl (hsrc.2 a rfl) h1 hroom hfit
    simp only [App, hr]

/-- copy onto a row that is known whole. -/
theorem run_copy_whole (dT sT ty e : TypeId) (size : Nat) (hu : P.underlying dT = some (.slice e)) (hi : (P.info? e).map (·.size) = some size)
    (g o dLen dCap : Nat) (ys : List Value) (t : TypeId) (hg : w.heap[g]? = some (.cells ys.toArray t (0, 0))) (ao : Option Addr) (m c : Nat) (cs : List Value)
    (hn : cs.length = Nat.min m dLen * size) (hsrc : Src w ao (Nat.min m dLen) c cs) (hfit : o + cs.length ≤ ys.length) (h1 : ∀ u ∈ cs, u.oneCell' = true) (hm : ao = none → m = 0) :
    (Cpy #[dT, sT] ty #[.slice (some ⟨g, o, none⟩) dLen dCap, .slice ao m c]).run P w =
      .ok (.int .i64 (Nat.min m dLen : Nat)) (w.setRow g (ys.take o ++ cs ++ ys.drop (o + cs.length)).toArray) := by
  obtain ⟨i, hi', rfl⟩ := Option.map_eq_some_iff.1 hi
  clear hi
  have hst := run_storeCells_at P g o t cs 0 ys.toArray w hg (by simpa using hfit) h1
  cases ao with
  | none =>
    have h0 := hm rfl
    subst h0
    obtain rfl : cs = [] := List.eq_nil_of_length_eq_zero (by simpa using hn)
    have : (ys.take o ++ [] ++ ys.drop (o + ([] : List Value).length)).toArray = ys.toArray := by simp
    rw [this, setRow_self w g ys.toArray t _ hg]
    simp [Cpy, Builtin.copy_, run_underlying hu, Builtin.lenOf, Builtin.firstCells, sizeOf, typeInfo, hi', storeCells, Result.andThen, goInt]
  | some a =>
    have hl := run_loadCells_list (P := P) w a cs (hsrc.2 a rfl)
    rw [hn] at hl
    simp [Cpy, Builtin.copy_, run_underlying hu, Builtin.lenOf, Builtin.firstCells, sizeOf, typeInfo, hi', hl, hst, Result.andThen, goInt]

/-- clear of the part of a row. -/
theorem run_clear_whole (t ty e : TypeId) (size : Nat) (z : Value) (hu : P.underlying t = some (.slice e)) (hi : (P.info? e).map (fun i => (i.zero, i.size)) = some (some z, size)) (hzs : z.cells.size = size)
    (h1 : ∀ u ∈ z.cells.toList, u.oneCell' = true)
    (g o n c : Nat) (ys : List Value) (t' : TypeId) (hg : w.heap[g]? = some (.cells ys.toArray t' (0, 0))) (hn : 0 < n) (hfit : o + n * size ≤ ys.length) :
    (Clr #[t] ty #[.slice (some ⟨g, o, none⟩) n c]).run P w =
      .ok (.tuple #[]) (w.setRow g (ys.take o ++ (Builtin.zeroCells z.cells n).toList ++ ys.drop (o + n * size)).toArray) := by
  obtain ⟨i, hi', hii⟩ := Option.map_eq_some_iff.1 hi
  clear hi
  simp only [Prod.mk.injEq] at hii
  obtain ⟨hz, rfl⟩ := hii
  have hsz : (Builtin.zeroCells z.cells n).toList.length = n * i.size := by simp [size_zeroCells, hzs]
  have hone : ∀ u ∈ (Builtin.zeroCells z.cells n).toList, u.oneCell' = true := by
    intro u hu
    simp only [Builtin.zeroCells, Array.toList_map, Array.toList_range, List.mem_map, List.mem_range] at hu
    obtain ⟨j, hj, rfl⟩ := hu
    have hpos : 0 < z.cells.size := by
      rcases Nat.eq_zero_or_pos z.cells.size with h | h
      · rw [h] at hj; simp at hj
      · exact h
    have hlt := Nat.mod_lt j hpos
    rw [getElem!_pos z.cells _ hlt]
    exact h1 _ (by simp)
  have hst := run_storeCells_at P g o t' (Builtin.zeroCells z.cells n).toList 0 ys.toArray w hg (by rw [hsz]; simpa using hfit) hone
  cases n with
  | zero => omega
  | succ n =>
    simp only [Nat.add_zero] at hst
    rw [hsz] at hst
    simp [Clr, Builtin.clear_, run_underlying hu, zeroValue, typeInfo, hi', hz, hst, Result.andThen]

end

theorem ownsRow_whole {w : World} {base : Nat} {e : TypeId} {size : Nat} {g n cap : Nat} {xs : List Value} (h : w.ownsRow base e size (.slice (some ⟨g, 0, none⟩) n cap) n xs) :
    ∃ ys : List Value, w.heap[g]? = some (.cells ys.toArray e (0, 0)) ∧ ys.length = cap * size ∧ ys.take (n * size) = xs ∧ n ≤ cap ∧ cap ≤ maxLen ∧ base ≤ g := by
  rcases h.2 with ⟨hv, -⟩ | ⟨g', cap', cur, hv, hb, hg, hn, hc, hs, ht⟩
  · simp at hv
  · obtain ⟨⟨rfl⟩, -, rfl⟩ : (g = g') ∧ True ∧ cap = cap' := by simpa using hv
    exact ⟨cur.toList, by simpa using hg, by simpa using hs, ht, hn, hc, hb⟩

theorem ownsRow_of_whole {w : World} {base : Nat} {e : TypeId} {size : Nat} {g n cap : Nat} {ys : List Value} (hg : w.heap[g]? = some (.cells ys.toArray e (0, 0))) (hl : ys.length = cap * size) (hn : n ≤ cap) (hc : cap ≤ maxLen) (hb : base ≤ g) :
    w.ownsRow base e size (.slice (some ⟨g, 0, none⟩) n cap) n (ys.take (n * size)) :=
  ⟨by rw [List.length_take, hl, Nat.min_eq_left (Nat.mul_le_mul_right _ hn)], .inr ⟨g, cap, ys.toArray, rfl, hb, hg, hn, hc, by simpa using hl, rfl⟩⟩

theorem whole_cells {w : World} {g : Nat} {e : TypeId} {ys : List Value} {fr : Nat × Nat} (hg : w.heap[g]? = some (.cells ys.toArray e fr)) (o k : Nat) : ∀ j u, ((ys.drop o).take k)[j]? = some u → w.cell? ((⟨g, o, none⟩ : Addr).add j) = some u := by
  intro j u hu
  rw [Addr.add_plain, cell_of_row w g (o + j) ys.toArray e fr hg]
  rw [List.getElem?_take] at hu
  split at hu
  · simpa [List.getElem?_drop] using hu
  · simp at hu

theorem setRow_whole {w : World} {g : Nat} {e : TypeId} {ys zs : List Value} {fr : Nat × Nat} (hg : w.heap[g]? = some (.cells ys.toArray e fr)) : (w.setRow g zs.toArray).heap[g]? = some (.cells zs.toArray e fr) :=
  setRow_heap w g ys.toArray zs.toArray e fr hg

theorem Src.row {w : World} {g m c : Nat} {e : TypeId} {fr : Nat × Nat} {news : List Value} (h : w.heap[g]? = some (.cells news.toArray e fr)) : Src w (some ⟨g, 0, none⟩) m c news := by
  refine ⟨(fun e => nomatch e), fun a ha j u hj => ?_⟩
  obtain rfl := Option.some.inj ha
  rw [Addr.add_plain, Nat.zero_add, cell_of_row w g j _ _ _ h]
  simpa using hj

theorem Src.part {w : World} {g o m c k : Nat} {e : TypeId} {fr : Nat × Nat} {ys : List Value} (h : w.heap[g]? = some (.cells ys.toArray e fr)) : Src w (some ⟨g, o, none⟩) m c ((ys.drop o).take k) := by
  refine ⟨(fun e => nomatch e), fun a ha j u hj => ?_⟩
  obtain rfl := Option.some.inj ha
  exact whole_cells h o k j u hj

end Go.Proofs.Ytaidgkdebocenaa
