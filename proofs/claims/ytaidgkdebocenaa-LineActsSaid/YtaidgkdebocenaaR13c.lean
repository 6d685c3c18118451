/- jointureref13.Line: Set, Remove, Ripe.
   Conditions: the records are in order; at most a thousand. -/
import Derived.Test.YtaidgkdebocenaaR13b
namespace Go.Proofs.Ytaidgkdebocenaa
open Go Go.RowKit

theorem findIt_split {L : List It} {d n k : Nat} (h : findIt L d n = some k) : ∃ hk : k < L.length, at? L[k] d n = true ∧ ∀ x ∈ L.take k, at? x d n = false := by
  unfold findIt at h
  rw [List.findIdx?_eq_some_iff_getElem] at h
  obtain ⟨hk, h1, h2⟩ := h
  refine ⟨hk, h1, fun x hx => ?_⟩
  obtain ⟨j, hj, rfl⟩ := List.mem_take_iff_getElem.1 hx
  have := h2 j (by omega)
  simpa using this
theorem findIt_hasIt (L : List It) (d n : Nat) : (findIt L d n).isSome = hasIt L d n := by
  unfold findIt hasIt
  rw [List.findIdx?_isSome]
theorem after_false {L : List It} {d n k : Nat} (hs : SortedI L) (hk : k < L.length) (h : at? L[k] d n = true) : ∀ x ∈ L.drop (k + 1), at? x d n = false := by
  intro x hx
  have hd : L.drop k = L[k] :: L.drop (k + 1) := List.drop_eq_getElem_cons hk
  have hs2 : SortedI (L.drop k) := List.Pairwise.sublist (List.drop_sublist _ _) hs
  rw [hd] at hs2
  have := (List.pairwise_cons.1 hs2).1 x hx
  simp only [at?, decide_eq_true_eq, decide_eq_false_iff_not] at *
  unfold before at this
  omega

theorem map_id_of {α : Type} {f : α → α} {l : List α} (h : ∀ x ∈ l, f x = x) : l.map f = l := by
  conv => rhs; rw [← List.map_id l]
  exact List.map_congr_left h

theorem setIt_at {L : List It} {d n k : Nat} {p : BS} (hs : SortedI L) (h : findIt L d n = some k) : ∃ hk : k < L.length, setIt L d n p = L.set k { L[k] with p := p } := by
  obtain ⟨hk, h1, h2⟩ := findIt_split h
  refine ⟨hk, ?_⟩
  have h3 := after_false hs hk h1
  have e : L = L.take k ++ L[k] :: L.drop (k + 1) := by rw [← List.drop_eq_getElem_cons hk, List.take_append_drop]
  have e2 : setIt L d n p = setIt (L.take k) d n p ++ { L[k] with p := p } :: setIt (L.drop (k + 1)) d n p := by
    conv => lhs; rw [e]
    simp only [setIt, List.map_append, List.map_cons, h1, if_true]
  rw [e2, List.set_eq_take_append_cons_drop, if_pos hk]
  unfold setIt
  rw [map_id_of fun x hx => by simp [h2 x hx], map_id_of fun x hx => by simp [h3 x hx]]
theorem delIt_at {L : List It} {d n k : Nat} (hs : SortedI L) (h : findIt L d n = some k) : ∃ _ : k < L.length, delIt L d n = L.take k ++ L.drop (k + 1) := by
  obtain ⟨hk, h1, h2⟩ := findIt_split h
  refine ⟨hk, ?_⟩
  have h3 := after_false hs hk h1
  have e : L = L.take k ++ L[k] :: L.drop (k + 1) := by rw [← List.drop_eq_getElem_cons hk, List.take_append_drop]
  have e2 : delIt L d n = delIt (L.take k) d n ++ delIt (L.drop (k + 1)) d n := by
    conv => lhs; rw [e]
    simp only [delIt, List.filter_append, List.filter_cons, h1, Bool.not_true, Bool.false_eq_true, if_false]
  rw [e2]
  unfold delIt
  rw [List.filter_eq_self.2 fun x hx => by simp [h2 x hx], List.filter_eq_self.2 fun x hx => by simp [h3 x hx]]
theorem setIt_no {L : List It} {d n : Nat} {p : BS} (h : findIt L d n = none) : setIt L d n p = L := by
  unfold findIt at h
  rw [List.findIdx?_eq_none_iff] at h
  exact map_id_of fun x hx => by simp [h x hx]
theorem delIt_no {L : List It} {d n : Nat} (h : findIt L d n = none) : delIt L d n = L := by
  unfold findIt at h
  rw [List.findIdx?_eq_none_iff] at h
  exact List.filter_eq_self.2 fun x hx => by simp [h x hx]

/-! ### Rows -/

theorem row_set {w : World} {base : Nat} {e : TypeId} {s g n c j : Nat} {xs : List Value} {u : Value} (h : w.ownsRow base e s (.slice (some ⟨g, 0, none⟩) n c) n xs) (hj : j < n * s) : (w.setCell ⟨g, j, none⟩ u).ownsRow base e s (.slice (some ⟨g, 0, none⟩) n c) n (xs.set j u) := by
  obtain ⟨ys, hg, hl, ht, hn, hc, hb⟩ := ownsRow_whole h
  refine ⟨by rw [List.length_set]; exact h.1, .inr ⟨g, c, (ys.set j u).toArray, rfl, hb, heap_set hg, hn, hc, by simpa using hl, ?_⟩⟩
  rw [← ht]
  simp [List.take_set]

theorem rowSrc {w : World} {base : Nat} {e : TypeId} {s g n c o m c' k : Nat} {xs : List Value} (h : w.ownsRow base e s (.slice (some ⟨g, 0, none⟩) n c) n xs) : Src w (some ⟨g, o, none⟩) m c' ((xs.drop o).take k) := by
  refine ⟨(fun e => nomatch e), fun a ha j u hu => ?_⟩
  cases ha
  rw [List.getElem?_take] at hu
  split at hu
  · rw [List.getElem?_drop] at hu
    have := h.cells (g := g) rfl (o + j) u hu
    rw [Addr.add_plain] at this ⊢
    rwa [Nat.zero_add] at this
  · cases hu

/-- One line's record anew, in place. -/
theorem R13.edit {w0 w : World} {bm i k g cap : Nat} {ls : List RL} {x : RL} {u : Value} {p : BS} (h : R13 w0 w bm ls) (hi : i < ls.length) (hx : ls[i] = x) (hv : x.lv = .slice (some ⟨g, 0, none⟩) x.rs.length cap) (hk : k < x.rs.length) (hu : OB w u p) :
    R13 w0 (w.setCell ⟨g, k * 3 + 2, none⟩ u) bm (ls.set i { x with rs := x.rs.set k ⟨u, { (x.rs[k]).it with p := p }⟩ }) := by
  have hxm : x ∈ ls := by rw [← hx]; exact List.getElem_mem hi
  have hrow := h.row x hxm
  obtain ⟨cg, hcg⟩ := owns_typed hrow (g := g) (by rw [hv]; rfl)
  have hK : Keeps (fun b => b = g) w (w.setCell ⟨g, k * 3 + 2, none⟩ u) := Keeps.one (a := ⟨g, k * 3 + 2, none⟩) (fun b => b = g) (fun _ => rfl) _
  have hgn := (hrow.lt g (by rw [hv]; rfl)).1
  have hbyt : ∀ {v : Value} {xs : BS}, OB w v xs → OB (w.setCell ⟨g, k * 3 + 2, none⟩ u) v xs := fun ho => ho.keeps' hK fun b hb e => by
    obtain ⟨c2, h2⟩ := ho.typed hb
    subst e
    exact typed_ne hcg h2 (by decide)
  have hoth : ∀ j (hj : j < ls.length), j ≠ i → ∀ b, (ls[j]).lv.ownBlock = some b → b ≠ g := by
    intro j hj hne b hb e
    subst e
    have hd := List.pairwise_iff_getElem.1 h.dis
    have hxb : (ls[i]).lv.ownBlock = some b := by rw [hx, hv]; rfl
    rcases Nat.lt_or_gt_of_ne hne with c | c
    · exact hd j i hj hi c b hb hxb
    · exact hd i j hi hj c b hxb hb
  refine ⟨?_, by rw [List.length_set]; exact h.len, fun y hy => ?_, fun y hy => ?_, ?_, h.new, ?_⟩
  · have e1 : (ls.set i { x with rs := x.rs.set k ⟨u, { (x.rs[k]).it with p := p }⟩ }).flatMap RL.cells = ls.flatMap RL.cells := by
      rw [List.flatMap_def, List.flatMap_def, List.map_set]
      have : RL.cells { x with rs := x.rs.set k ⟨u, { (x.rs[k]).it with p := p }⟩ } = (ls.map RL.cells)[i]'(by simpa using hi) := by
        rw [List.getElem_map, hx]; rfl
      rw [this, List.set_getElem_self]
    rw [e1]
    exact hK.heap h.hb fun e => by subst e; exact typed_ne hcg h.hb (by decide)
  · obtain ⟨j, hj, rfl⟩ := List.getElem_of_mem hy
    rw [List.length_set] at hj
    rw [List.getElem_set]
    split
    · dsimp only
      rw [List.length_set]
      have h1 := row_set (u := u) (j := k * 3 + 2) (by rw [hv] at hrow; exact hrow) (by omega)
      rw [hv]
      have e1 : (x.rs.flatMap IV.cells).set (k * 3 + 2) u = (x.rs.set k ⟨u, { (x.rs[k]).it with p := p }⟩).flatMap IV.cells :=
        flat_set IV.cells_len x.rs k _ 2 u hk (by decide) fun y hy => by rw [List.getElem?_eq_getElem hk] at hy; cases hy; rfl
      rw [← e1]
      exact h1
    · rename_i hne
      exact hK.ownsRow (h.row _ (List.getElem_mem hj)) fun b hb => hoth j hj (fun e => hne e.symm) b hb
  · obtain ⟨j, hj, rfl⟩ := List.getElem_of_mem hy
    rw [List.length_set] at hj
    rw [List.getElem_set]
    split
    · intro r hr
      rcases List.mem_or_eq_of_mem_set hr with hr | rfl
      · exact hbyt (h.byt x hxm r hr)
      · exact hbyt hu
    · intro r hr
      exact hbyt (h.byt _ (List.getElem_mem hj) r hr)
  · rw [List.pairwise_iff_getElem]
    intro a b ha hb hab
    rw [List.length_set] at ha hb
    have hd := List.pairwise_iff_getElem.1 h.dis a b ha hb hab
    rw [List.getElem_set, List.getElem_set]
    split
    · rename_i e1
      subst e1
      split
      · omega
      · rw [hx] at hd; exact hd
    · split
      · rename_i e2
        subst e2
        rw [hx] at hd; exact hd
      · exact hd
  · exact h.ext.trans' hK fun b hb e => by omega

end Go.Proofs.Ytaidgkdebocenaa
