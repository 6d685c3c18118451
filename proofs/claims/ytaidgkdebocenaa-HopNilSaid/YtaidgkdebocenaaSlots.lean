/- Rows of structs, each of as many cells: reading an element, appending one.
   No conditions but sizes. -/
import Derived.Test.YtaidgkdebocenaaLive2
namespace Go.Proofs.Ytaidgkdebocenaa
open Go Go.RowKit

section
variable {α : Type} {f : α → List Value} {s : Nat}

theorem flat_length (hf : ∀ a, (f a).length = s) (l : List α) : (l.flatMap f).length = l.length * s := by
  induction l with
  | nil => simp
  | cons a l ih => rw [List.flatMap_cons, List.length_append, ih, hf, List.length_cons, Nat.add_mul, Nat.one_mul, Nat.add_comm]
theorem flat_get (hf : ∀ a, (f a).length = s) : ∀ (l : List α) (i : Nat) (h : i < l.length) (j : Nat), j < s → (l.flatMap f)[i * s + j]? = (f l[i])[j]?
  | [], i, h, _, _ => by simp at h
  | a :: l, 0, _, j, hj => by
    rw [List.flatMap_cons, Nat.zero_mul, Nat.zero_add, List.getElem?_append_left (by rw [hf]; exact hj)]
    rfl
  | a :: l, i + 1, h, j, hj => by
    have := flat_get hf l i (by simpa using h) j hj
    rw [List.flatMap_cons, List.getElem?_append_right (by rw [hf, Nat.add_mul]; omega), hf]
    rw [show (i + 1) * s + j - s = i * s + j by rw [Nat.add_mul]; omega, this]
    rfl
theorem flat_take (hf : ∀ a, (f a).length = s) : ∀ (l : List α) (i : Nat), (l.flatMap f).take (i * s) = (l.take i).flatMap f
  | [], i => by simp
  | a :: l, 0 => by simp
  | a :: l, i + 1 => by
    have := flat_take hf l i
    rw [List.flatMap_cons, List.take_succ_cons, List.flatMap_cons, ← this, Nat.add_mul, Nat.one_mul, Nat.add_comm (i * s) s, ← hf a, List.take_length_add_append]
theorem flat_drop (hf : ∀ a, (f a).length = s) : ∀ (l : List α) (i : Nat), (l.flatMap f).drop (i * s) = (l.drop i).flatMap f
  | [], i => by simp
  | a :: l, 0 => by simp
  | a :: l, i + 1 => by
    have := flat_drop hf l i
    rw [List.flatMap_cons, List.drop_succ_cons, ← this, Nat.add_mul, Nat.one_mul, Nat.add_comm (i * s) s, ← hf a, List.drop_length_add_append]

/-- The cells of an element. -/
theorem rowCell {w : World} {base : Nat} {e : TypeId} {v : Value} {l : List α} (hf : ∀ a, (f a).length = s) (h : w.ownsRow base e s v l.length (l.flatMap f)) {i : Nat} (hi : i < l.length) :
    ∃ g cap, v = .slice (some ⟨g, 0, none⟩) l.length cap ∧ l.length ≤ cap ∧ cap ≤ maxLen ∧ base ≤ g ∧ g < w.heap.size ∧ ∀ j, j < s → w.cell? ⟨g, i * s + j, none⟩ = (f l[i])[j]? ∧ w.frozen? ⟨g, i * s + j, none⟩ = false := by
  rcases h.2 with ⟨-, h0⟩ | ⟨g, cap, cur, hv, hb, hg, hn, hc, hsz, ht⟩
  · omega
  · refine ⟨g, cap, hv, hn, hc, hb, lt_of_heap hg, fun j hj => ?_⟩
    have h1 := flat_get hf l i hi j hj
    have h2 : i * s + j < l.length * s := by
      have := Nat.mul_le_mul_right s (Nat.succ_le_of_lt hi)
      rw [Nat.succ_mul] at this
      omega
    rw [← ht, List.getElem?_take_of_lt h2] at h1
    rw [cell_of_row w g _ cur _ _ hg, frozen_of_row w g _ cur _ hg, ← h1]
    simp

/-- append of one element, which lies in a row of its own just made. -/
theorem rowApp {t e : TypeId} {bytes : Nat} {z : Value} (ht : Try.prog.underlying t = some (.slice e)) (hinfo : (Try.prog.info? e).map (fun i => (i.zero, i.size, i.bytes)) = some (some z, s, bytes)) (hzs : z.cells.size = s) (hsz : 0 < s)
    (hby : bytes ≤ 10000) {w0 wr : World} {oa : Option Addr} {oc n : Nat} {l : List α} {x : α} {cs : List Value} (hE : Ext w0 wr) (hn : l.length = n) (hown : wr.ownsRow w0.heap.size e s (.slice oa n oc) n (l.flatMap f))
    (hx : f x = cs) (hcs : cs.length = s) (h1 : ∀ u ∈ cs, u.oneCell' = true) (hb : n ≤ 1000000) :
    ∃ oa' oc' w', (App #[t, t] t #[.slice oa n oc, .slice (some ⟨wr.heap.size, 0, none⟩) 1 1]).run Try.prog (wr.alloc (.cells cs.toArray e)) = .ok (.slice oa' (n + 1) oc') w' ∧
      (l ++ [x]).length = n + 1 ∧ w'.ownsRow w0.heap.size e s (.slice oa' (n + 1) oc') (n + 1) ((l ++ [x]).flatMap f) ∧ Ext w0 w' ∧ Keeps (fun k => (Value.slice oa n oc).ownBlock = some k) wr w' := by
  have hE4 : Ext wr (wr.alloc (.cells cs.toArray e)) := (Ext.refl wr).alloc _
  have hM := heap_alloc_new wr (.cells cs.toArray e)
  have hown4 := Keeps.ownsRow hE4 hown fun _ _ c => c
  have hbb : (n + 1) * bytes ≤ 140737488355328 := Nat.le_trans (Nat.mul_le_mul (Nat.succ_le_succ hb) hby) (by omega)
  obtain ⟨o', w', hrun, hown5, hgrow, -⟩ := run_App (P := Try.prog) t t e s bytes z ht hinfo hzs hsz hown4 (m := 1) (c := 1) (news := cs) (by omega) (Src.row hM) h1 (by unfold maxLen; omega) hbb (hE.trans hE4).size
  obtain ⟨oa', oc', rfl⟩ := owns_slice hown5
  refine ⟨oa', oc', w', hrun, by simp [hn], ?_, ?_, (Keeps.of_ext hE4).grown hgrow fun k hk' _ => hk'⟩
  · have e : (l ++ [x]).flatMap f = l.flatMap f ++ cs := by rw [List.flatMap_append]; simp [hx]
    rw [e]; exact hown5
  · exact (hE.trans hE4).grown hgrow fun k hk' hlt => by
      have := (hown.lt k hk').1
      omega

/-- The same, behind a draw. -/
theorem rowAppD {t e : TypeId} {bytes : Nat} {z : Value} (ht : Try.prog.underlying t = some (.slice e)) (hinfo : (Try.prog.info? e).map (fun i => (i.zero, i.size, i.bytes)) = some (some z, s, bytes)) (hzs : z.cells.size = s) (hsz : 0 < s)
    (hby : bytes ≤ 10000) {w0 wr : World} {oa : Option Addr} {oc n : Nat} {l : List α} {x : α} {cs : List Value} (hE : Ext w0 wr) (hn : l.length = n) (hown : wr.ownsRow w0.heap.size e s (.slice oa n oc) n (l.flatMap f))
    (hx : f x = cs) (hcs : cs.length = s) (h1 : ∀ u ∈ cs, u.oneCell' = true) (hb : n ≤ 1000000) :
    ∃ oa' oc' w', (App #[t, t] t #[.slice oa n oc, .slice (some ⟨wr.heap.size, 0, none⟩) 1 1]).run Try.prog (wr.alloc (.cells cs.toArray e)).drew = .ok (.slice oa' (n + 1) oc') w' ∧
      (l ++ [x]).length = n + 1 ∧ w'.ownsRow w0.heap.size e s (.slice oa' (n + 1) oc') (n + 1) ((l ++ [x]).flatMap f) ∧ Ext w0 w' ∧ Keeps (fun k => (Value.slice oa n oc).ownBlock = some k) wr w' := by
  have hE4 : Ext wr (wr.alloc (.cells cs.toArray e)).drew := ((Ext.refl wr).alloc _).drew
  have hM : (wr.alloc (.cells cs.toArray e)).drew.heap[wr.heap.size]? = some (.cells cs.toArray e (0, 0)) := heap_alloc_new wr (.cells cs.toArray e)
  have hown4 := Keeps.ownsRow hE4 hown fun _ _ c => c
  have hbb : (n + 1) * bytes ≤ 140737488355328 := Nat.le_trans (Nat.mul_le_mul (Nat.succ_le_succ hb) hby) (by omega)
  obtain ⟨o', w', hrun, hown5, hgrow, -⟩ := run_App (P := Try.prog) t t e s bytes z ht hinfo hzs hsz hown4 (m := 1) (c := 1) (news := cs) (by omega) (Src.row hM) h1 (by unfold maxLen; omega) hbb (hE.trans hE4).size
  obtain ⟨oa', oc', rfl⟩ := owns_slice hown5
  refine ⟨oa', oc', w', hrun, by simp [hn], ?_, ?_, (Keeps.of_ext hE4).grown hgrow fun k hk' _ => hk'⟩
  · have e : (l ++ [x]).flatMap f = l.flatMap f ++ cs := by rw [List.flatMap_append]; simp [hx]
    rw [e]; exact hown5
  · exact (hE.trans hE4).grown hgrow fun k hk' hlt => by
      have := (hown.lt k hk').1
      omega

/-- The first elements of a row. -/
theorem rowTake {w : World} {base : Nat} {e : TypeId} {a : Option Addr} {n c i : Nat} {l : List α} (hf : ∀ a, (f a).length = s) (h : w.ownsRow base e s (.slice a n c) n (l.flatMap f)) (hn : l.length = n) (hi : i ≤ n) :
    w.ownsRow base e s (.slice a i c) i ((l.take i).flatMap f) := by
  rcases h.2 with ⟨hv, h0⟩ | ⟨g, cap, cur, hv, hb, hg, hnc, hc, hsz, ht⟩
  · cases hv
    obtain rfl : i = 0 := by omega
    exact ⟨by simp, .inl ⟨rfl, rfl⟩⟩
  · cases hv
    refine ⟨by rw [flat_length hf, List.length_take]; congr 1; omega, .inr ⟨g, c, cur, rfl, hb, hg, by omega, hc, hsz, ?_⟩⟩
    rw [← flat_take hf, ← ht, List.take_take, Nat.min_eq_left (Nat.mul_le_mul_right s hi)]

theorem row_some {w : World} {base : Nat} {e : TypeId} {v : Value} {n : Nat} {xs : List Value} (h : w.ownsRow base e s v n xs) (hn : 0 < n) : ∃ g c, v = .slice (some ⟨g, 0, none⟩) n c ∧ n ≤ c ∧ c ≤ 9223372036854775807 := by
  rcases h.2 with ⟨-, h0⟩ | ⟨g, cap, cur, hv, hb, hg, hnc, hc, hsz, ht⟩
  · omega
  · exact ⟨g, cap, hv, hnc, by unfold maxLen at hc; omega⟩
theorem row_len {w : World} {base : Nat} {e : TypeId} {v : Value} {n : Nat} {xs : List Value} (h : w.ownsRow base e s v n xs) : ∃ a c, v = .slice a n c ∧ n ≤ c ∧ c ≤ 9223372036854775807 := by
  obtain ⟨a, c, h1, h2, h3⟩ := owns_val h
  exact ⟨a, c, h1, h2, by unfold maxLen at h3; omega⟩

end

end Go.Proofs.Ytaidgkdebocenaa
