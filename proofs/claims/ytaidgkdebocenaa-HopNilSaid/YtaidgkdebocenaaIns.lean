/- Putting an element ahead of the first one that is later: plain lists.
   No conditions. -/
import Derived.Test.YtaidgkdebocenaaLineP
namespace Go.Proofs.Ytaidgkdebocenaa
open Go Go.RowKit

/-! ### Lists -/

section
variable {α : Type}

/-- y ahead of the first one of which p holds. -/
def insBy (p : α → Bool) (y : α) : List α → List α
  | [] => [y]
  | x :: l => if p x = true then y :: x :: l else x :: insBy p y l

theorem insBy_none {p : α → Bool} {y : α} : ∀ {l : List α}, l.any p = false → insBy p y l = l ++ [y]
  | [], _ => rfl
  | x :: l, h => by
    rw [List.any_cons, Bool.or_eq_false_iff] at h
    rw [insBy, h.1, insBy_none h.2]
    simp
theorem insBy_any {p : α → Bool} {y x : α} : ∀ {l : List α}, l.any p = true → insBy p y (l ++ [x]) = insBy p y l ++ [x]
  | [], h => by simp at h
  | z :: l, h => by
    rw [List.cons_append, insBy, insBy]
    by_cases hz : p z = true
    · simp [hz]
    · rw [List.any_cons, Bool.or_eq_true] at h
      rw [if_neg hz, if_neg hz, insBy_any (h.resolve_left hz)]
      rfl
theorem insBy_at {p : α → Bool} {y x : α} : ∀ {l : List α}, l.any p = false → p x = true → insBy p y (l ++ [x]) = l ++ [y] ++ [x]
  | [], _, h => by simp [insBy, h]
  | z :: l, h, hx => by
    rw [List.any_cons, Bool.or_eq_false_iff] at h
    rw [List.cons_append, insBy, h.1, insBy_at h.2 hx]
    simp
theorem insBy_map {β : Type} (g : α → β) {p : α → Bool} {q : β → Bool} (h : ∀ a, q (g a) = p a) (y : α) : ∀ l : List α, (insBy p y l).map g = insBy q (g y) (l.map g)
  | [] => rfl
  | x :: l => by
    rw [insBy, List.map_cons, insBy, h]
    split
    · rfl
    · rw [List.map_cons, insBy_map g h y l]
theorem insBy_length (p : α → Bool) (y : α) : ∀ l : List α, (insBy p y l).length = l.length + 1
  | [] => rfl
  | x :: l => by rw [insBy]; split <;> simp [insBy_length p y l]
theorem insBy_mem {p : α → Bool} {y x : α} : ∀ {l : List α}, x ∈ insBy p y l → x = y ∨ x ∈ l
  | [], h => .inl (List.mem_singleton.1 h)
  | z :: l, h => by
    rw [insBy] at h
    split at h
    · rcases List.mem_cons.1 h with h | h
      · exact .inl h
      · exact .inr h
    · rcases List.mem_cons.1 h with h | h
      · exact .inr (h ▸ List.mem_cons_self)
      · exact (insBy_mem h).imp id (List.mem_cons_of_mem _)

/-- What a loop has made of the first ones: done: y is in. -/
def insTo (p : α → Bool) (y : α) (l : List α) : List α := if l.any p = true then insBy p y l else l
theorem insTo_none {p : α → Bool} {y : α} {l : List α} (h : l.any p = false) : insTo p y l = l := by simp [insTo, h]
theorem insTo_some {p : α → Bool} {y : α} {l : List α} (h : l.any p = true) : insTo p y l = insBy p y l := by simp [insTo, h]
theorem insTo_mem {p : α → Bool} {y x : α} {l : List α} (h : x ∈ insTo p y l) : x = y ∨ x ∈ l := by
  unfold insTo at h
  split at h
  · exact insBy_mem h
  · exact .inr h
theorem insTo_length_le (p : α → Bool) (y : α) (l : List α) : (insTo p y l).length ≤ l.length + 1 := by
  unfold insTo
  split
  · rw [insBy_length]; omega
  · omega

theorem any_succ {p : α → Bool} {l : List α} {k : Nat} (hk : k < l.length) : (l.take (k + 1)).any p = ((l.take k).any p || p l[k]) := by
  rw [List.take_succ_eq_append_getElem hk, List.any_append]; simp
theorem insTo_succ_t {p : α → Bool} {y : α} {l : List α} {k : Nat} (hk : k < l.length) (h : (l.take k).any p = true) : insTo p y (l.take k) ++ [l[k]] = insTo p y (l.take (k + 1)) := by
  rw [insTo_some h, insTo_some (by rw [any_succ hk, h]; rfl), List.take_succ_eq_append_getElem hk, insBy_any h]
theorem insTo_succ_p {p : α → Bool} {y : α} {l : List α} {k : Nat} (hk : k < l.length) (h : (l.take k).any p = false) (hp : p l[k] = true) : insTo p y (l.take k) ++ [y] ++ [l[k]] = insTo p y (l.take (k + 1)) := by
  rw [insTo_none h, insTo_some (by rw [any_succ hk, hp, Bool.or_true]), List.take_succ_eq_append_getElem hk, insBy_at h hp]
theorem insTo_succ_f {p : α → Bool} {y : α} {l : List α} {k : Nat} (hk : k < l.length) (h : (l.take k).any p = false) (hp : p l[k] = false) : insTo p y (l.take k) ++ [l[k]] = insTo p y (l.take (k + 1)) := by
  rw [insTo_none h, insTo_none (by rw [any_succ hk, h, hp]; rfl), List.take_succ_eq_append_getElem hk]
theorem insTo_over_t {p : α → Bool} {y : α} {l : List α} (h : l.any p = true) : insTo p y l = insBy p y l := insTo_some h
theorem insTo_over_f {p : α → Bool} {y : α} {l : List α} (h : l.any p = false) : insTo p y l ++ [y] = insBy p y l := by rw [insTo_none h, insBy_none h]

theorem flat_set {f : α → List Value} {s : Nat} (hf : ∀ a, (f a).length = s) : ∀ (l : List α) (i : Nat) (x : α) (j : Nat) (u : Value), i < l.length → j < s → (∀ y, l[i]? = some y → f x = (f y).set j u) → (l.flatMap f).set (i * s + j) u = (l.set i x).flatMap f
  | [], i, _, _, _, h, _, _ => by simp at h
  | a :: l, 0, x, j, u, _, hj, hx => by
    rw [List.set_cons_zero, List.flatMap_cons, List.flatMap_cons, hx a rfl, Nat.zero_mul, Nat.zero_add, List.set_append_left _ _ (by rw [hf]; exact hj)]
  | a :: l, i + 1, x, j, u, h, hj, hx => by
    have ih := flat_set hf l i x j u (by simpa using h) hj (fun y hy => hx y (by simpa using hy))
    rw [List.set_cons_succ, List.flatMap_cons, List.flatMap_cons, ← ih, List.set_append_right _ _ (by rw [hf, Nat.add_mul]; omega), hf]
    congr 2
    rw [Nat.add_mul]; omega
end

theorem insIt_by (L : List It) (y : It) : insIt L y = insBy (fun x => decide (y.due < x.due)) y L := by
  induction L with
  | nil => rfl
  | cons x L ih => rw [insIt, insBy, ih]; simp

end Go.Proofs.Ytaidgkdebocenaa
