/- The store's deeds on plain lists: what a deed undoes, what the document's store does, and that both go together.
   No conditions but that the pairs stand in order. -/
import Derived.Test.YtaidgkdebocenaaR05k
namespace Go.Proofs.Ytaidgkdebocenaa
open Go Go.RowKit

theorem lt_ne {a b : BS} (h : lt a b = true) : (a == b) = false := by
  cases hb : a == b with
  | false => rfl
  | true => rw [beq_iff_eq] at hb; subst hb; rw [lt_irrefl] at h; exact h.symm
theorem lt_ne' {a b : BS} (h : lt a b = true) : (b == a) = false := by
  cases hb : b == a with
  | false => rfl
  | true => rw [beq_iff_eq] at hb; subst hb; rw [lt_irrefl] at h; exact h.symm

/-! ### Head and rest -/

theorem posM_cons (e : KV) (M : List KV) (k : BS) : posM (e :: M) k = if lt e.1 k = true then posM M k + 1 else 0 := rfl

theorem hasM_cons (e : KV) (M : List KV) (k : BS) : hasM (e :: M) k = if lt e.1 k = true then hasM M k else e.1 == k := by
  unfold hasM
  rw [posM_cons]
  by_cases h : lt e.1 k = true
  · simp [h]
  · simp [h]

theorem getM_cons (e : KV) (M : List KV) (k : BS) : getM (e :: M) k = if lt e.1 k = true then getM M k else if (e.1 == k) = true then e.2 else [] := by
  unfold getM
  rw [hasM_cons, posM_cons]
  by_cases h : lt e.1 k = true
  · simp [h]
  · simp [h]

theorem putM_cons (e : KV) (M : List KV) (k v : BS) (is : Bool) : putM (e :: M) k v is =
    if lt e.1 k = true then e :: putM M k v is else if (e.1 == k) = true then (if is = true then (k, v) :: M else M) else if is = true then (k, v) :: e :: M else e :: M := by
  unfold putM
  rw [hasM_cons, posM_cons]
  by_cases h : lt e.1 k = true
  · simp only [h, if_true]
    by_cases h1 : hasM M k = true <;> by_cases h2 : is = true <;> simp [h1, h2]
  · simp only [h]
    by_cases h1 : (e.1 == k) = true <;> by_cases h2 : is = true <;> simp [h1, h2]

theorem putM_nil (k v : BS) (is : Bool) : putM [] k v is = if is = true then [(k, v)] else [] := by
  unfold putM hasM
  simp [posM]
theorem hasM_nil (k : BS) : hasM [] k = false := rfl
theorem getM_nil (k : BS) : getM [] k = [] := rfl

theorem putM_mem {M : List KV} {k v : BS} {is : Bool} {p : KV} (h : p ∈ putM M k v is) : p ∈ M ∨ p = (k, v) := by
  induction M with
  | nil =>
    rw [putM_nil] at h
    split at h
    · exact .inr (List.mem_singleton.1 h)
    · exact nomatch h
  | cons e M ih =>
    rw [putM_cons] at h
    by_cases h1 : lt e.1 k = true
    · rw [if_pos h1] at h
      rcases List.mem_cons.1 h with h | h
      · exact .inl (h ▸ List.mem_cons_self)
      · rcases ih h with h | h
        · exact .inl (List.mem_cons_of_mem _ h)
        · exact .inr h
    · rw [if_neg h1] at h
      split at h
      · split at h
        · rcases List.mem_cons.1 h with h | h
          · exact .inr h
          · exact .inl (List.mem_cons_of_mem _ h)
        · exact .inl (List.mem_cons_of_mem _ h)
      · split at h
        · rcases List.mem_cons.1 h with h | h
          · exact .inr h
          · exact .inl h
        · exact .inl h

theorem putM_sorted {M : List KV} (hs : SortedM M) (k v : BS) (is : Bool) : SortedM (putM M k v is) := by
  induction M with
  | nil =>
    rw [putM_nil]
    split
    · exact List.pairwise_singleton _ _
    · exact List.Pairwise.nil
  | cons e M ih =>
    have hc := List.pairwise_cons.1 hs
    rw [putM_cons]
    by_cases h1 : lt e.1 k = true
    · rw [if_pos h1]
      refine List.pairwise_cons.2 ⟨fun p hp => ?_, ih hc.2⟩
      rcases putM_mem hp with h | rfl
      · exact hc.1 _ h
      · exact h1
    · have h1' : lt e.1 k = false := by simpa using h1
      rw [if_neg h1]
      by_cases h2 : (e.1 == k) = true
      · rw [if_pos h2]
        rw [beq_iff_eq] at h2
        split
        · refine List.pairwise_cons.2 ⟨fun p hp => ?_, hc.2⟩
          have := hc.1 p hp
          rw [h2] at this
          exact this
        · exact hc.2
      · rw [if_neg h2]
        have hlt : lt k e.1 = true := lt_of_not_of_ne h1' (fun c => h2 (by rw [c]; simp))
        split
        · refine List.pairwise_cons.2 ⟨fun p hp => ?_, hs⟩
          rcases List.mem_cons.1 hp with rfl | hp
          · exact hlt
          · exact lt_trans _ _ _ hlt (hc.1 p hp)
        · exact hs

/-- What a deed did, its own note undoes. -/
theorem putM_undo {M : List KV} (hs : SortedM M) (k v : BS) (is : Bool) : putM (putM M k v is) k (getM M k) (hasM M k) = M := by
  induction M with
  | nil =>
    rw [putM_nil, getM_nil, hasM_nil]
    split
    · rw [putM_cons]; simp [lt_irrefl]
    · rw [putM_nil]; simp
  | cons e M ih =>
    have hc := List.pairwise_cons.1 hs
    rw [putM_cons, getM_cons, hasM_cons]
    by_cases h1 : lt e.1 k = true
    · simp only [h1, if_true]
      rw [putM_cons, if_pos h1, ih hc.2]
    · have h1' : lt e.1 k = false := by simpa using h1
      simp only [h1', Bool.false_eq_true, if_false]
      by_cases h2 : (e.1 == k) = true
      · simp only [h2, if_true]
        have h3 : e.1 = k := by simpa using h2
        subst h3
        split
        · rw [putM_cons]; simp [lt_irrefl]
        · cases M with
          | nil => rw [putM_nil]; simp
          | cons f M =>
            have hf := hc.1 f List.mem_cons_self
            rw [putM_cons]
            simp [lt_asymm _ _ hf, lt_ne' hf]
      · have h2' : (e.1 == k) = false := by simpa using h2
        have hlt : lt k e.1 = true := lt_of_not_of_ne h1' (fun c => h2 (by rw [c]; simp))
        simp only [h2', Bool.false_eq_true, if_false]
        split
        · rw [putM_cons]; simp [lt_irrefl]
        · rw [putM_cons]; simp [h1', h2']

/-! ### The document's Set -/

def fin (new : Ent) (r : List Ent × Bool) : List Ent := if r.2 = true then r.1 else r.1 ++ [new]

theorem refFold_far {new : Ent} {is : Bool} : ∀ (L : List Ent) (out : List Ent), (∀ e ∈ L, (e.key == new.key) = false) → L.foldl (refStep new is) (out, true) = (out ++ L, true)
  | [], out, _ => by simp
  | e :: L, out, h => by
    have he := h e List.mem_cons_self
    have hs : refStep new is (out, true) e = (out ++ [e], true) := by simp [refStep, he]
    rw [List.foldl_cons, hs, refFold_far L (out ++ [e]) (fun x hx => h x (List.mem_cons_of_mem _ hx))]
    simp

theorem far_of {e : Ent} {L : List Ent} {k : BS} (hs : Sorted (e :: L)) (h : lt k e.key = true ∨ k = e.key) : ∀ x ∈ L, (x.key == k) = false := by
  intro x hx
  have hc := (List.pairwise_cons.1 hs).1 x hx
  rcases h with h | h
  · exact lt_ne' (lt_trans _ _ _ h hc)
  · rw [h]; exact lt_ne' hc

theorem absL_append (a b : List Ent) : absL (a ++ b) = absL a ++ absL b := by simp [absL]
theorem absL_cons (e : Ent) (l : List Ent) : absL (e :: l) = (e.key, e.val) :: absL l := rfl

theorem refFold_eq {new : Ent} {is : Bool} : ∀ (L : List Ent) (out : List Ent), Sorted L → absL (fin new (L.foldl (refStep new is) (out, !is))) = absL out ++ putM (absL L) new.key new.val is
  | [], out, _ => by
    cases is <;> simp [fin, absL, putM_nil]
  | e :: L, out, hs => by
    have hc := List.pairwise_cons.1 hs
    rw [List.foldl_cons, absL_cons, putM_cons]
    by_cases h2 : (e.key == new.key) = true
    · have h2e : e.key = new.key := by simpa using h2
      have hl : lt e.key new.key = false := by rw [h2e]; exact lt_irrefl _
      have hl' : lt new.key e.key = false := by rw [h2e]; exact lt_irrefl _
      have hfar := far_of hs (k := new.key) (.inr h2e.symm)
      cases is with
      | true =>
        have hst : refStep new true (out, !true) e = (out ++ [new], true) := by simp [refStep, h2, hl']
        rw [hst, refFold_far L _ hfar]
        simp [fin, h2e, absL, lt_irrefl]
      | false =>
        have hst : refStep new false (out, !false) e = (out, true) := by simp [refStep, h2]
        rw [hst, refFold_far L _ hfar]
        simp [fin, h2e, absL, lt_irrefl]
    · have h2' : (e.key == new.key) = false := by simpa using h2
      by_cases h1 : lt e.key new.key = true
      · have hst : refStep new is (out, !is) e = (out ++ [e], !is) := by
          have : lt new.key e.key = false := lt_asymm _ _ h1
          simp [refStep, h2', this]
        rw [hst, refFold_eq L (out ++ [e]) hc.2, absL_append]
        simp [h1, absL]
      · have h1' : lt e.key new.key = false := by simpa using h1
        have hlt : lt new.key e.key = true := lt_of_not_of_ne h1' (fun c => h2 (by rw [c]; simp))
        have hfar := far_of hs (k := new.key) (.inl hlt)
        cases is with
        | true =>
          have hst : refStep new true (out, !true) e = (out ++ [new] ++ [e], true) := by simp [refStep, h2', hlt]
          rw [hst, refFold_far L _ hfar]
          simp [fin, h1', h2', absL]
        | false =>
          have hst : refStep new false (out, !false) e = (out ++ [e], true) := by simp [refStep, h2']
          rw [hst, refFold_far L _ hfar]
          simp [fin, h1', h2', absL]

theorem refSet_abs {L : List Ent} {new : Ent} {is : Bool} (hs : Sorted L) : absL (refSet L new is) = putM (absL L) new.key new.val is := by
  have := refFold_eq (new := new) (is := is) L [] hs
  simpa [refSet, fin, absL] using this

theorem sorted_of_abs {L : List Ent} (h : SortedM (absL L)) : Sorted L := by
  unfold SortedM absL at h
  rw [List.pairwise_map] at h
  exact h

/-! ### Both stores -/

def stepA (d : Nat) (k v : BS) (a : AS) : AS :=
  if d % 8 < 3 then doM a k v true else if d % 8 = 3 then doM a k [] false else if d % 8 < 6 then beginM a else if d % 8 = 6 then commitM a else rollM a
def stepR (d : Nat) (k v : BS) (r : RS) : RS :=
  if d % 8 < 3 then { r with M := putM r.M k v true } else if d % 8 = 3 then { r with M := putM r.M k [] false } else if d % 8 < 6 then { r with was := r.was ++ [r.M] } else if d % 8 = 6 then endR true r else endR false r

structure Rel (a : AS) (r : RS) : Prop where
  M : r.M = a.M
  so : SortedM a.M
  len : r.was.length = a.marks.length
  was : ∀ i (h : i < a.marks.length) (h' : i < r.was.length), undoM a.M (a.log.drop a.marks[i]) = r.was[i]
  le : ∀ n ∈ a.marks, n ≤ a.log.length
  up : a.marks.Pairwise (· ≤ ·)

theorem undoM_append (M : List KV) (l l' : List LU) : undoM M (l ++ l') = undoM (undoM M l') l := by
  simp [undoM, List.foldr_append]

theorem undoM_sorted {M : List KV} (hs : SortedM M) : ∀ l : List LU, SortedM (undoM M l)
  | [] => hs
  | _ :: l => putM_sorted (undoM_sorted hs l) _ _ _

theorem Rel.new : Rel ⟨[], [], []⟩ ⟨[], []⟩ := ⟨rfl, List.Pairwise.nil, rfl, (fun _ h => nomatch h), (fun _ h => nomatch h), List.Pairwise.nil⟩

theorem Rel.put {a : AS} {r : RS} (h : Rel a r) (k v : BS) (is : Bool) : Rel (doM a k v is) { r with M := putM r.M k v is } := by
  refine ⟨by simp [doM, h.M], putM_sorted h.so _ _ _, h.len, fun i hi hi' => ?_, fun n hn => ?_, h.up⟩
  · have hne : a.marks ≠ [] := fun c => by simp [doM, c] at hi
    have hl := h.le _ (List.getElem_mem (l := a.marks) (n := i) hi)
    show undoM (putM a.M k v is) ((if a.marks = [] then a.log else a.log ++ [⟨k, getM a.M k, hasM a.M k⟩]).drop a.marks[i]) = _
    rw [if_neg hne, List.drop_append_of_le_length hl, undoM_append]
    show undoM (putM (putM a.M k v is) k (getM a.M k) (hasM a.M k)) _ = _
    rw [putM_undo h.so]
    exact h.was i hi hi'
  · have := h.le n hn
    show n ≤ (if a.marks = [] then a.log else a.log ++ [⟨k, getM a.M k, hasM a.M k⟩]).length
    split
    · exact this
    · simp; omega

theorem Rel.begin {a : AS} {r : RS} (h : Rel a r) : Rel (beginM a) { r with was := r.was ++ [r.M] } := by
  refine ⟨h.M, h.so, by simp [beginM, h.len], fun i hi hi' => ?_, fun n hn => ?_, ?_⟩
  · by_cases hlt : i < a.marks.length
    · have hlt' : i < r.was.length := by rw [h.len]; exact hlt
      simp only [beginM, List.getElem_append_left hlt, List.getElem_append_left hlt']
      exact h.was i hlt hlt'
    · have he : i = a.marks.length := by simp [beginM] at hi; omega
      subst he
      have : (a.marks ++ [a.log.length])[a.marks.length]'(by simp) = a.log.length := by simp
      show undoM a.M (a.log.drop ((a.marks ++ [a.log.length])[a.marks.length]'(by simp))) = _
      rw [this]
      simp [undoM, ← h.len, h.M]
  · simp only [beginM, List.mem_append, List.mem_singleton] at hn ⊢
    rcases hn with hn | rfl
    · exact h.le n hn
    · exact Nat.le_refl _
  · simp only [beginM]
    refine List.pairwise_append.2 ⟨h.up, List.pairwise_singleton _ _, fun x hx y hy => ?_⟩
    rw [List.mem_singleton.1 hy]
    exact h.le x hx

theorem pair_dropLast {α : Type} {R : α → α → Prop} {l : List α} (h : l.Pairwise R) : l.dropLast.Pairwise R := h.sublist (List.dropLast_sublist l)

theorem Rel.commit {a : AS} {r : RS} (h : Rel a r) : Rel (commitM a) (endR true r) := by
  have hM : (commitM a).M = a.M := by unfold commitM endM; dsimp only; split <;> rfl
  have hmk : (commitM a).marks = a.marks.dropLast := by unfold commitM endM; dsimp only; split <;> rfl
  by_cases hd : a.marks.dropLast = []
  · have h0 : (commitM a).marks = [] := hmk.trans hd
    refine ⟨by simp [hM, endR, h.M], by rw [hM]; exact h.so, by simp [hmk, endR, h.len], fun i hi => ?_, fun n hn => ?_, by rw [h0]; exact List.Pairwise.nil⟩
    · have : (commitM a).marks.length = 0 := by rw [h0]; rfl
      omega
    · rw [h0] at hn; exact nomatch hn
  · have hc : commitM a = endM a := by simp [commitM, endM, hd]
    rw [hc]
    refine ⟨by simp [endM, endR, h.M], h.so, by simp [endM, endR, h.len], fun i hi hi' => ?_, fun n hn => h.le n (List.dropLast_subset _ hn), pair_dropLast h.up⟩
    simp only [endM, endR] at hi hi' ⊢
    have h1 : i < a.marks.length := by simp at hi; omega
    have h2 : i < r.was.length := by rw [h.len]; exact h1
    simp only [List.getElem_dropLast]
    exact h.was i h1 h2

theorem Rel.roll {a : AS} {r : RS} (h : Rel a r) : Rel (rollM a) (endR false r) := by
  by_cases hm : a.marks = []
  · have hw : r.was = [] := by
      have := h.len; rw [hm] at this; exact List.eq_nil_of_length_eq_zero this
    have e1 : rollM a = a := by simp [rollM, hm]
    have e2 : endR false r = r := by cases r; simp [endR] at *; simp [hw]
    rw [e1, e2]; exact h
  · have hr : rollM a = backTo a (lastM a) := by simp [rollM, hm]
    obtain ⟨l, x, hl⟩ : ∃ l x, a.marks = l ++ [x] := ⟨a.marks.dropLast, a.marks.getLast hm, (List.dropLast_concat_getLast hm).symm⟩
    have hlast : lastM a = x := by simp [lastM, hl]
    have hxl : x ≤ a.log.length := h.le x (by rw [hl]; simp)
    have hlen : r.was.length = l.length + 1 := by rw [h.len, hl]; simp
    have hw := h.was l.length (by rw [hl]; simp) (by omega)
    have hx : a.marks[l.length]'(by rw [hl]; simp) = x := by simp [hl]
    rw [hx] at hw
    have hlastW : r.was.getLast? = some (r.was[l.length]'(by omega)) := by
      rw [List.getLast?_eq_getElem?, show r.was.length - 1 = l.length by omega, List.getElem?_eq_getElem]
    have hup := h.up
    rw [hl] at hup
    have hup' := List.pairwise_append.1 hup
    rw [hr, hlast]
    refine ⟨?_, undoM_sorted h.so _, by simp [backTo, endR, hl, hlen], fun i hi hi' => ?_, fun n hn => ?_, ?_⟩
    · simp only [endR, backTo, hlastW, Bool.false_eq_true, if_false, Option.getD_some]
      exact hw.symm
    · simp only [backTo, hl, List.dropLast_concat] at hi
      have h1 : i < a.marks.length := by rw [hl]; simp; omega
      have h2 : i < r.was.length := by omega
      have hget : (backTo a x).marks[i]'(by simpa [backTo, hl] using hi) = a.marks[i] := by simp [backTo]
      have hle : a.marks[i] ≤ x := by
        have : a.marks[i] = l[i] := by simp [hl, List.getElem_append_left hi]
        rw [this]
        exact hup'.2.2 _ (List.getElem_mem hi) x (by simp)
      have hwi := h.was i h1 h2
      rw [hget]
      show undoM (undoM a.M (a.log.drop x)) ((a.log.take x).drop a.marks[i]) = _
      rw [← undoM_append]
      have : (a.log.take x).drop a.marks[i] ++ a.log.drop x = a.log.drop a.marks[i] := by
        conv => rhs; rw [← List.take_append_drop x a.log]
        rw [List.drop_append_of_le_length (by simp; omega)]
      rw [this, hwi]
      simp [endR]
    · have hn' : n ∈ l := by simpa [backTo, hl] using hn
      have : n ≤ x := hup'.2.2 n hn' x (by simp)
      simp [backTo]; omega
    · simp only [backTo, hl, List.dropLast_concat]
      exact hup'.1

/-- The blocks. -/
theorem Rel.step {a : AS} {r : RS} (h : Rel a r) (d : Nat) (k v : BS) : Rel (stepA d k v a) (stepR d k v r) := by
  unfold stepA stepR
  by_cases h1 : d % 8 < 3
  · simp only [h1, if_true]; exact h.put k v true
  · by_cases h2 : d % 8 = 3
    · simp only [h1, h2, if_true]; exact h.put k [] false
    · by_cases h3 : d % 8 < 6
      · simp only [h1, h2, h3, if_true, if_false]; exact h.begin
      · by_cases h4 : d % 8 = 6
        · simp only [h1, h2, h3, h4, if_true]; exact h.commit
        · simp only [h1, h2, h3, h4, if_false]; exact h.roll

end Go.Proofs.Ytaidgkdebocenaa
