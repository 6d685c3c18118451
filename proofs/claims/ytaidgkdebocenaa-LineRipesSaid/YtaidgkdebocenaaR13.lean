/- The document's lines, jointureref13.Line, three in an array: how they lie in memory; find.
   Conditions: fewer than 2^40 records. -/
import Derived.Test.YtaidgkdebocenaaLineRipe
namespace Go.Proofs.Ytaidgkdebocenaa
open Go Go.RowKit

/-! ### Lists -/

section
variable {α : Type}

/-- y ahead of the first one of which p holds. -/
def insBy (p : α → Bool) (y : α) : List α → List α
  | [] => [y]
  | x :: l => if p x = true then y :: x :: l else x :: insBy p y l

theorem insBy_none {p : α → Bool} {y : α} : ∀ {l : List α}, l.any p = false → insBy p y l = l ++ [y]
  | [], _ => rfl
  | x :: l, h => by
    rw [List.any_cons, Bool.or_eq_false_iff] at h
    rw [insBy, h.1, insBy_none h.2]
    simp
theorem insBy_any {p : α → Bool} {y x : α} : ∀ {l : List α}, l.any p = true → insBy p y (l ++ [x]) = insBy p y l ++ [x]
  | [], h => by simp at h
  | z :: l, h => by
    rw [List.cons_append, insBy, insBy]
    by_cases hz : p z = true
    · simp [hz]
    · rw [List.any_cons, Bool.or_eq_true] at h
      rw [if_neg hz, if_neg hz, insBy_any (h.resolve_left hz)]
      rfl
theorem insBy_at {p : α → Bool} {y x : α} : ∀ {l : List α}, l.any p = false → p x = true → insBy p y (l ++ [x]) = l ++ [y] ++ [x]
  | [], _, h => by simp [insBy, h]
  | z :: l, h, hx => by
    rw [List.any_cons, Bool.or_eq_false_iff] at h
    rw [List.cons_append, insBy, h.1, insBy_at h.2 hx]
    simp
theorem insBy_map {β : Type} (g : α → β) {p : α → Bool} {q : β → Bool} (h : ∀ a, q (g a) = p a) (y : α) : ∀ l : List α, (insBy p y l).map g = insBy q (g y) (l.map g)
  | [] => rfl
  | x :: l => by
    rw [insBy, List.map_cons, insBy, h]
    split
    · rfl
    · rw [List.map_cons, insBy_map g h y l]
theorem insBy_length (p : α → Bool) (y : α) : ∀ l : List α, (insBy p y l).length = l.length + 1
  | [] => rfl
  | x :: l => by rw [insBy]; split <;> simp [insBy_length p y l]
theorem insBy_mem {p : α → Bool} {y x : α} : ∀ {l : List α}, x ∈ insBy p y l → x = y ∨ x ∈ l
  | [], h => .inl (List.mem_singleton.1 h)
  | z :: l, h => by
    rw [insBy] at h
    split at h
    · rcases List.mem_cons.1 h with h | h
      · exact .inl h
      · exact .inr h
    · rcases List.mem_cons.1 h with h | h
      · exact .inr (h ▸ List.mem_cons_self)
      · exact (insBy_mem h).imp id (List.mem_cons_of_mem _)

/-- What a loop has made of the first ones: done: y is in. -/
def insTo (p : α → Bool) (y : α) (l : List α) : List α := if l.any p = true then insBy p y l else l
theorem insTo_none {p : α → Bool} {y : α} {l : List α} (h : l.any p = false) : insTo p y l = l := by simp [insTo, h]
theorem insTo_some {p : α → Bool} {y : α} {l : List α} (h : l.any p = true) : insTo p y l = insBy p y l := by simp [insTo, h]
theorem insTo_mem {p : α → Bool} {y x : α} {l : List α} (h : x ∈ insTo p y l) : x = y ∨ x ∈ l := by
  unfold insTo at h
  split at h
  · exact insBy_mem h
  · exact .inr h
theorem insTo_length_le (p : α → Bool) (y : α) (l : List α) : (insTo p y l).length ≤ l.length + 1 := by
  unfold insTo
  split
  · rw [insBy_length]; omega
  · omega

theorem any_succ {p : α → Bool} {l : List α} {k : Nat} (hk : k < l.length) : (l.take (k + 1)).any p = ((l.take k).any p || p l[k]) := by
  rw [List.take_succ_eq_append_getElem hk, List.any_append]; simp
theorem insTo_succ_t {p : α → Bool} {y : α} {l : List α} {k : Nat} (hk : k < l.length) (h : (l.take k).any p = true) : insTo p y (l.take k) ++ [l[k]] = insTo p y (l.take (k + 1)) := by
  rw [insTo_some h, insTo_some (by rw [any_succ hk, h]; rfl), List.take_succ_eq_append_getElem hk, insBy_any h]
theorem insTo_succ_p {p : α → Bool} {y : α} {l : List α} {k : Nat} (hk : k < l.length) (h : (l.take k).any p = false) (hp : p l[k] = true) : insTo p y (l.take k) ++ [y] ++ [l[k]] = insTo p y (l.take (k + 1)) := by
  rw [insTo_none h, insTo_some (by rw [any_succ hk, hp, Bool.or_true]), List.take_succ_eq_append_getElem hk, insBy_at h hp]
theorem insTo_succ_f {p : α → Bool} {y : α} {l : List α} {k : Nat} (hk : k < l.length) (h : (l.take k).any p = false) (hp : p l[k] = false) : insTo p y (l.take k) ++ [l[k]] = insTo p y (l.take (k + 1)) := by
  rw [insTo_none h, insTo_none (by rw [any_succ hk, h, hp]; rfl), List.take_succ_eq_append_getElem hk]
theorem insTo_over_t {p : α → Bool} {y : α} {l : List α} (h : l.any p = true) : insTo p y l = insBy p y l := insTo_some h
theorem insTo_over_f {p : α → Bool} {y : α} {l : List α} (h : l.any p = false) : insTo p y l ++ [y] = insBy p y l := by rw [insTo_none h, insBy_none h]

theorem flat_set {f : α → List Value} {s : Nat} (hf : ∀ a, (f a).length = s) : ∀ (l : List α) (i : Nat) (x : α) (j : Nat) (u : Value), i < l.length → j < s → (∀ y, l[i]? = some y → f x = (f y).set j u) → (l.flatMap f).set (i * s + j) u = (l.set i x).flatMap f
  | [], i, _, _, _, h, _, _ => by simp at h
  | a :: l, 0, x, j, u, _, hj, hx => by
    rw [List.set_cons_zero, List.flatMap_cons, List.flatMap_cons, hx a rfl, Nat.zero_mul, Nat.zero_add, List.set_append_left _ _ (by rw [hf]; exact hj)]
  | a :: l, i + 1, x, j, u, h, hj, hx => by
    have ih := flat_set hf l i x j u (by simpa using h) hj (fun y hy => hx y (by simpa using hy))
    rw [List.set_cons_succ, List.flatMap_cons, List.flatMap_cons, ← ih, List.set_append_right _ _ (by rw [hf, Nat.add_mul]; omega), hf]
    congr 2
    rw [Nat.add_mul]; omega
end

/-! ### Three lines in an array -/

structure RL where
  lv : Value
  rs : List IV
  c : Nat
def RL.cells (x : RL) : List Value := [x.lv, .int .u64 (x.c : Int)]
theorem RL.cells_len (x : RL) : x.cells.length = 2 := rfl
def RL.L (x : RL) : List It := x.rs.map IV.it

structure R13 (w0 w : World) (bm : Nat) (ls : List RL) : Prop where
  hb : w.heap[bm]? = some (.cells (ls.flatMap RL.cells).toArray 67 (0, 0))
  len : ls.length = 3
  row : ∀ x ∈ ls, w.ownsRow w0.heap.size 182 3 x.lv x.rs.length (x.rs.flatMap IV.cells)
  byt : ∀ x ∈ ls, ∀ r ∈ x.rs, OB w r.v r.it.p
  dis : ls.Pairwise fun x y => ∀ g, x.lv.ownBlock = some g → y.lv.ownBlock ≠ some g
  new : w0.heap.size ≤ bm
  ext : Ext w0 w

def T13 (t : TypeId) : Prop := t = 67 ∨ t = 182

theorem R13.keep {T : TypeId → Prop} {w0 w w' : World} {bm : Nat} {ls : List RL} (h : R13 w0 w bm ls) (hk : TK T w w') (hE : Ext w0 w') (hT : ∀ t, T t → ¬ T13 t ∧ t ≠ 5) : R13 w0 w' bm ls :=
  ⟨hk.heap h.hb fun c => (hT _ c).1 (.inl rfl), h.len, fun x hx => hk.owns (h.row x hx) fun c => (hT _ c).1 (.inr rfl), fun x hx r hr => hk.owns (h.byt x hx r hr) fun c => (hT _ c).2 rfl, h.dis, h.new, hE⟩
theorem R13.ext' {w0 w w' : World} {bm : Nat} {ls : List RL} (h : R13 w0 w bm ls) (hE : Ext w w') : R13 w0 w' bm ls :=
  ⟨hE.heap h.hb, h.len, fun x hx => Keeps.ownsRow hE (h.row x hx) fun _ _ c => c, fun x hx r hr => (h.byt x hx r hr).ext hE, h.dis, h.new, h.ext.trans hE⟩

theorem R13.cells {w0 w : World} {bm : Nat} {ls : List RL} (h : R13 w0 w bm ls) {i : Nat} (hi : i < ls.length) :
    w.cell? ⟨bm, i * 2, none⟩ = some (ls[i]).lv ∧ w.cell? ⟨bm, i * 2 + 1, none⟩ = some (.int .u64 ((ls[i]).c : Int)) ∧ w.frozen? ⟨bm, i * 2, none⟩ = false ∧ w.frozen? ⟨bm, i * 2 + 1, none⟩ = false := by
  have c0 := flat_get RL.cells_len ls i hi 0 (by decide)
  have c1 := flat_get RL.cells_len ls i hi 1 (by decide)
  refine ⟨?_, ?_, frozen_of_row w _ _ _ _ h.hb, frozen_of_row w _ _ _ _ h.hb⟩
  · rw [cell_of_row w bm _ _ _ _ h.hb]; simpa [RL.cells] using c0
  · rw [cell_of_row w bm _ _ _ _ h.hb]; simpa [RL.cells] using c1

def findIt (L : List It) (d n : Nat) : Option Nat := L.findIdx? fun x => at? x d n

theorem findIt_some {L : List It} {d n k : Nat} (hk : k < L.length) (h1 : (L.take k).any (fun x => at? x d n) = false) (h2 : at? L[k] d n = true) : findIt L d n = some k := by
  unfold findIt
  rw [List.findIdx?_eq_some_iff_getElem]
  refine ⟨hk, h2, fun j hj => ?_⟩
  rw [List.any_eq_false] at h1
  have := h1 (L[j]'(by omega)) (by rw [List.mem_take_iff_getElem]; exact ⟨j, by omega, rfl⟩)
  simpa using this
theorem findIt_none {L : List It} {d n : Nat} (h1 : L.any (fun x => at? x d n) = false) : findIt L d n = none := by
  unfold findIt
  rw [List.findIdx?_eq_none_iff]
  rw [List.any_eq_false] at h1
  intro x hx
  simpa using h1 x hx

def idxV (o : Option Nat) : Value := match o with | some k => .int .i64 (k : Int) | none => .int .i64 (-1)

theorem at?_false {x : It} {d n : Nat} (h : ¬ (x.due = d ∧ x.no = n)) : at? x d n = false := by simp [at?, h]
theorem any_take_succ {α : Type} (p : α → Bool) (l : List α) (k : Nat) (hk : k < l.length) (h1 : (l.take k).any p = false) (h2 : p l[k] = false) : (l.take (k + 1)).any p = false := by
  rw [List.take_succ_eq_append_getElem hk, List.any_append, h1]
  simp [h2]

set_option maxRecDepth 100000 in
set_option maxHeartbeats 1000000 in
theorem r13find_c {w0 w : World} {bm : Nat} {ls : List RL} {i d n : Nat} (h : R13 w0 w bm ls) (hi : i < ls.length) (hd : d < W64) (hn : n < W64) :
    Calls Try.prog 158 #[.pointer (some ⟨bm, i * 2, none⟩), .int .u64 (d : Int), .int .u64 (n : Int)] w fun e w' => e = .returned (idxV (findIt (ls[i]).L d n)) ∧ w = w' := by
  obtain ⟨s0, -, -, -⟩ := h.cells hi
  have hrow := h.row _ (List.getElem_mem hi)
  obtain ⟨x, hx⟩ : ∃ x, x = ls[i] := ⟨_, rfl⟩
  rw [← hx] at s0 hrow ⊢
  obtain ⟨la, lc, hlv, hlc1, hlc2⟩ := row_len hrow
  rw [hlv] at s0 hrow
  have HRow := hid hrow
  obtain ⟨m, hm⟩ : ∃ m, m = x.rs.length := ⟨_, rfl⟩
  rw [← hm] at s0 hlc1
  have Hm := hid hm
  have hLl : x.L.length = m := by rw [hm]; simp [RL.L]
  have HL := hid hLl
  clear h hx hlv hrow hm hLl hd hn
  go_enter Try.func158, Try.ntmps158
  go_wp2_with fail
  go_loopw [7] (fun j wr => ∃ k : Nat, k ≤ m ∧ j = .int .i64 k ∧ (x.L.take k).any (fun y => at? y d n) = false ∧ w = wr) (fun j _ => m - (intOf j).toNat)
  case atStart => exact ⟨0, Nat.zero_le _, rfl, rfl, rfl⟩
  case round =>
    obtain ⟨k, hk, rfl, hany, rfl⟩ := hrel
    have HAny := hid hany
    clear hany
    by_cases hlt : k < m
    · have hki : (k : Int) < (m : Int) := by omega
      have hkr : k < x.rs.length := by rw [← Hm.out]; exact hlt
      have hkL : k < x.L.length := by rw [HL.out]; exact hlt
      have hit : x.L[k] = (x.rs[k]).it := by simp [RL.L]
      obtain ⟨g, cap, hv, -, -, -, -, hcell⟩ := rowCell IV.cells_len HRow.out hkr
      rw [← Hm.out] at hv
      cases hv
      have c0 := (hcell 0 (by decide)).1
      have c1 := (hcell 1 (by decide)).1
      simp only [IV.cells, List.getElem?_cons_zero, List.getElem?_cons_succ, Nat.add_zero] at c0 c1
      obtain ⟨d1, hd1⟩ : ∃ d1, d1 = (x.rs[k]).it.due := ⟨_, rfl⟩
      obtain ⟨n1, hn1⟩ : ∃ n1, n1 = (x.rs[k]).it.no := ⟨_, rfl⟩
      rw [← hd1] at c0
      rw [← hn1] at c1
      have HIt := hid (And.intro hit (And.intro hd1 (And.intro hn1 hkL)))
      clear hcell hit hd1 hn1
      have hstep : ¬ (d1 = d ∧ n1 = n) → (x.L.take (k + 1)).any (fun y => at? y d n) = false := fun hne =>
        any_take_succ _ _ _ HIt.out.2.2.2 HAny.out (at?_false (by rw [HIt.out.1, ← HIt.out.2.1, ← HIt.out.2.2.1]; exact hne))
      have HStep := hid hstep
      clear hstep
      by_cases h1 : d1 = d
      · by_cases h2 : n1 = n
        · have t1 : ((d1 : Int) == (d : Int)) = true := by rw [beq_iff_eq]; omega
          have t2 : ((n1 : Int) == (n : Int)) = true := by rw [beq_iff_eq]; omega
          have H12 := hid (And.intro h1 h2)
          clear h1 h2
          go_wp2_with fail
          go_ret
          refine ⟨?_, rfl⟩
          rw [findIt_some HIt.out.2.2.2 HAny.out (by rw [HIt.out.1, at?, ← HIt.out.2.1, ← HIt.out.2.2.1, H12.out.1, H12.out.2]; simp)]
          rfl
        · have t1 : ((d1 : Int) == (d : Int)) = true := by rw [beq_iff_eq]; omega
          have t2 : ((n1 : Int) == (n : Int)) = false := by rw [beq_eq_false_iff_ne]; omega
          have H12 := hid (And.intro h1 h2)
          clear h1 h2
          go_wp2_with fail
          exact ⟨⟨k + 1, hlt, by go_num, HStep.out fun c => H12.out.2 c.2, by first | rfl | trivial⟩, by simp [intOf]; omega⟩
      · have t1 : ((d1 : Int) == (d : Int)) = false := by rw [beq_eq_false_iff_ne]; omega
        have H12 := hid h1
        clear h1
        go_wp2_with fail
        exact ⟨⟨k + 1, hlt, by go_num, HStep.out fun c => H12.out c.1, by first | rfl | trivial⟩, by simp [intOf]; omega⟩
    · obtain rfl : k = m := by omega
      go_wp2_with fail
      go_ret
      refine ⟨?_, rfl⟩
      have hany := HAny.out
      rw [List.take_of_length_le (by rw [HL.out]; omega)] at hany
      rw [findIt_none hany]
      rfl

end Go.Proofs.Ytaidgkdebocenaa
