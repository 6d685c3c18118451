/- Pairs in order, on plain lists: what is found behind a deed; the pairs whose keys begin so.
   No conditions but that the pairs stand in order. -/
import Derived.Test.YtaidgkdebocenaaPure
namespace Go.Proofs.Ytaidgkdebocenaa
open Go Go.RowKit

/-! ### The keys that begin so -/

theorem pre_nil (xs : BS) : pre [] xs = true := by simp [pre]
theorem pre_cons_nil (x : UInt8) (p : BS) : pre (x :: p) [] = false := by simp [pre]
theorem pre_cons (x y : UInt8) (p ys : BS) : pre (x :: p) (y :: ys) = ((y == x) && pre p ys) := by
  have h1 : (p.length + 1 ≤ ys.length + 1) ↔ (p.length ≤ ys.length) := by omega
  simp only [pre, List.length_cons, List.take_succ_cons, List.cons_beq_cons, decide_eq_decide.2 h1]
  cases decide (p.length ≤ ys.length) <;> simp

theorem pre_lt : ∀ (p k : BS), pre p k = true → lt k p = false
  | [], k, _ => lt_nil k
  | x :: p, [], h => by rw [pre_cons_nil] at h; cases h
  | x :: p, y :: k, h => by
    rw [pre_cons, Bool.and_eq_true, beq_iff_eq] at h
    rw [lt, if_pos h.1]
    exact pre_lt p k h.2

theorem pre_between : ∀ (p a b : BS), lt a p = false → lt a b = true → pre p b = true → pre p a = true
  | [], a, _, _, _, _ => pre_nil a
  | x :: p, a, [], _, _, h => by rw [pre_cons_nil] at h; cases h
  | x :: p, [], y :: b, h, _, _ => by simp [lt] at h
  | x :: p, z :: a, y :: b, h1, h2, h3 => by
    rw [pre_cons, Bool.and_eq_true, beq_iff_eq] at h3
    obtain ⟨rfl, h3⟩ := h3
    by_cases e : z = y
    · subst e
      simp only [lt, if_true] at h1 h2
      rw [pre_cons, pre_between p a b h1 h2 h3]
      simp
    · simp only [lt, if_neg e] at h1 h2
      rw [h1] at h2
      cases h2

theorem posM_zero {M : List KV} {p : BS} (h : ∀ e ∈ M, lt e.1 p = false) : posM M p = 0 := by
  cases M with
  | nil => rfl
  | cons e M => rw [posM_cons, h e List.mem_cons_self]; simp

theorem keysM_filter : ∀ (M : List KV) (p : BS), SortedM M → keysM M p = (M.map Prod.fst).filter fun k => pre p k
  | [], p, _ => rfl
  | e :: M, p, hs => by
    have hc := List.pairwise_cons.1 hs
    have ih := keysM_filter M p hc.2
    by_cases h1 : lt e.1 p = true
    · have hp : pre p e.1 = false := by
        cases hpe : pre p e.1 with
        | false => rfl
        | true => rw [pre_lt p e.1 hpe] at h1; cases h1
      have : keysM (e :: M) p = keysM M p := by unfold keysM; rw [posM_cons, if_pos h1, List.drop_succ_cons]
      rw [this, ih, List.map_cons, List.filter_cons, hp]
      rfl
    · have h1' : lt e.1 p = false := by simpa using h1
      have hall : ∀ f ∈ M, lt f.1 p = false := fun f hf => by
        cases hfp : lt f.1 p with
        | false => rfl
        | true => rw [lt_trans _ _ _ (hc.1 f hf) hfp] at h1'; cases h1'
      have hM : keysM M p = (M.map Prod.fst).takeWhile fun k => pre p k := by unfold keysM; rw [posM_zero hall, List.drop_zero]
      have hE : keysM (e :: M) p = ((e :: M).map Prod.fst).takeWhile fun k => pre p k := by unfold keysM; rw [posM_cons, if_neg h1, List.drop_zero]
      rw [hE, List.map_cons, List.takeWhile_cons, List.filter_cons]
      by_cases h2 : pre p e.1 = true
      · rw [if_pos h2, if_pos h2, ← hM, ih]
      · rw [if_neg h2, if_neg h2]
        symm
        rw [List.filter_eq_nil_iff]
        intro k hk hp
        obtain ⟨f, hf, rfl⟩ := List.mem_map.1 hk
        exact h2 (pre_between p e.1 f.1 h1' (hc.1 f hf) hp)

theorem keysM_sorted {M : List KV} (p : BS) (hs : SortedM M) : (keysM M p).Pairwise fun a b => lt a b = true := by
  rw [keysM_filter M p hs]
  have h : (M.map Prod.fst).Pairwise fun a b => lt a b = true := by
    rw [List.pairwise_map]; exact hs
  exact h.sublist List.filter_sublist


/-! ### What is found -/

/-- A key's value, if it is there. -/
def look (M : List KV) (k : BS) : Option BS := (M.find? fun e => e.1 == k).map Prod.snd

theorem look_nil (k : BS) : look [] k = none := rfl
theorem look_cons (e : KV) (M : List KV) (k : BS) : look (e :: M) k = if (e.1 == k) = true then some e.2 else look M k := by
  unfold look
  rw [List.find?_cons]
  cases (e.1 == k) <;> simp

theorem look_none {M : List KV} {k : BS} (h : ∀ e ∈ M, lt k e.1 = true) : look M k = none := by
  induction M with
  | nil => rfl
  | cons e M ih => rw [look_cons, lt_ne' (h e List.mem_cons_self)]; simpa using ih fun x hx => h x (List.mem_cons_of_mem _ hx)

theorem hasM_look {M : List KV} (hs : SortedM M) (k : BS) : hasM M k = (look M k).isSome ∧ getM M k = (look M k).getD [] := by
  induction M with
  | nil => exact ⟨rfl, rfl⟩
  | cons e M ih =>
    have hc := List.pairwise_cons.1 hs
    rw [hasM_cons, getM_cons, look_cons]
    by_cases h1 : lt e.1 k = true
    · rw [if_pos h1, if_pos h1, if_neg (by rw [lt_ne h1]; simp)]
      exact ih hc.2
    · rw [if_neg h1, if_neg h1]
      by_cases h2 : (e.1 == k) = true
      · simp [h2]
      · have h1' : lt e.1 k = false := by simpa using h1
        have hlt : lt k e.1 = true := lt_of_not_of_ne h1' (fun c => h2 (by rw [c]; simp))
        have : look M k = none := look_none fun x hx => lt_trans _ _ _ hlt (hc.1 x hx)
        simp [h2, this]
theorem hasM_eq {M : List KV} (hs : SortedM M) (k : BS) : hasM M k = (look M k).isSome := (hasM_look hs k).1
theorem getM_eq {M : List KV} (hs : SortedM M) (k : BS) : getM M k = (look M k).getD [] := (hasM_look hs k).2

theorem look_mem {M : List KV} (hs : SortedM M) {k v : BS} (h : (k, v) ∈ M) : look M k = some v := by
  induction M with
  | nil => exact nomatch h
  | cons e M ih =>
    have hc := List.pairwise_cons.1 hs
    rw [look_cons]
    rcases List.mem_cons.1 h with rfl | h
    · simp
    · rw [if_neg (by rw [lt_ne (hc.1 _ h)]; simp)]
      exact ih hc.2 h

theorem look_put {M : List KV} (hs : SortedM M) (k v k' : BS) (is : Bool) : look (putM M k v is) k' = if k = k' then (if is = true then some v else none) else look M k' := by
  induction M with
  | nil =>
    rw [putM_nil]
    by_cases e : k = k' <;> cases is <;> simp [look_cons, look_nil, e]
  | cons e M ih =>
    have hc := List.pairwise_cons.1 hs
    rw [putM_cons, look_cons]
    by_cases h1 : lt e.1 k = true
    · rw [if_pos h1, look_cons, ih hc.2]
      by_cases h3 : (e.1 == k') = true
      · have : k ≠ k' := by
          rintro rfl
          rw [lt_ne h1] at h3; cases h3
        simp [h3, this]
      · simp [h3]
    · have h1' : lt e.1 k = false := by simpa using h1
      rw [if_neg h1]
      by_cases h2 : (e.1 == k) = true
      · have h2e : e.1 = k := by simpa using h2
        rw [if_pos h2]
        have hn : k = k' → look M k' = none := fun c => look_none fun x hx => by rw [← c, ← h2e]; exact hc.1 x hx
        by_cases h3 : k = k'
        · rw [if_pos h3]
          cases is
          · simpa using hn h3
          · simp [look_cons, h3]
        · rw [if_neg h3, h2e]
          have : (k == k') = false := by simpa using h3
          cases is <;> simp [look_cons, this]
      · rw [if_neg h2]
        have hlt : lt k e.1 = true := lt_of_not_of_ne h1' (fun c => h2 (by rw [c]; simp))
        by_cases h3 : k = k'
        · rw [if_pos h3]
          have hn : look M k' = none := look_none fun x hx => by rw [← h3]; exact lt_trans _ _ _ hlt (hc.1 x hx)
          have h2' : (e.1 == k') = false := by rw [← h3]; simpa using h2
          cases is
          · simp [look_cons, h2', hn]
          · simp [look_cons, h3]
        · rw [if_neg h3]
          have : (k == k') = false := by simpa using h3
          cases is <;> simp [look_cons, this]

/-! ### The pairs whose keys begin so -/

def sub (M : List KV) (p : BS) : List KV := M.filter fun e => pre p e.1

theorem sub_cons (e : KV) (M : List KV) (p : BS) : sub (e :: M) p = if pre p e.1 = true then e :: sub M p else sub M p := by
  unfold sub; rw [List.filter_cons]
theorem sub_sorted {M : List KV} (hs : SortedM M) (p : BS) : SortedM (sub M p) := List.Pairwise.sublist List.filter_sublist hs
theorem sub_nil (M : List KV) : sub M [] = M := by
  unfold sub
  rw [List.filter_eq_self]
  intro e _
  exact pre_nil _

theorem keysM_sub {M : List KV} (hs : SortedM M) (p : BS) : keysM M p = (sub M p).map Prod.fst := by
  rw [keysM_filter M p hs, sub, List.filter_map]
  rfl

theorem look_sub {M : List KV} {p k : BS} (h : pre p k = true) : look (sub M p) k = look M k := by
  induction M with
  | nil => rfl
  | cons e M ih =>
    rw [sub_cons, look_cons]
    by_cases h1 : pre p e.1 = true
    · rw [if_pos h1, look_cons, ih]
    · rw [if_neg h1, ih]
      have : (e.1 == k) = false := by
        cases hk : e.1 == k with
        | false => rfl
        | true => rw [beq_iff_eq] at hk; rw [hk] at h1; exact absurd h h1
      rw [this]; simp

theorem putM_head {M : List KV} {k v : BS} {is : Bool} (h : ∀ e ∈ M, lt k e.1 = true) : putM M k v is = if is = true then (k, v) :: M else M := by
  cases M with
  | nil => rw [putM_nil]
  | cons e M =>
    have he := h e List.mem_cons_self
    rw [putM_cons, lt_asymm _ _ he, lt_ne' he]
    simp

theorem sub_put {M : List KV} (hs : SortedM M) (k v p : BS) (is : Bool) : sub (putM M k v is) p = if pre p k = true then putM (sub M p) k v is else sub M p := by
  induction M with
  | nil =>
    rw [putM_nil]
    by_cases h : pre p k = true <;> cases is <;> simp [sub, h, putM_nil]
  | cons e M ih =>
    have hc := List.pairwise_cons.1 hs
    rw [putM_cons]
    by_cases h1 : lt e.1 k = true
    · rw [if_pos h1, sub_cons, sub_cons, ih hc.2]
      by_cases h2 : pre p k = true
      · simp only [h2, if_true]
        split
        · rw [putM_cons, if_pos h1]
        · rfl
      · simp only [h2]; simp
    · have h1' : lt e.1 k = false := by simpa using h1
      rw [if_neg h1]
      by_cases h2 : (e.1 == k) = true
      · have h2e : e.1 = k := by simpa using h2
        rw [if_pos h2, sub_cons, h2e]
        by_cases h3 : pre p k = true
        · simp only [h3, if_true]
          rw [putM_cons]
          simp only [h1', h2, if_true]
          cases is <;> simp [sub_cons, h3]
        · simp only [h3]
          cases is <;> simp [sub_cons, h3]
      · have hlt : lt k e.1 = true := lt_of_not_of_ne h1' (fun c => h2 (by rw [c]; simp))
        rw [if_neg h2]
        have hall : ∀ x ∈ e :: M, lt k x.1 = true := fun x hx => by
          rcases List.mem_cons.1 hx with rfl | hx
          · exact hlt
          · exact lt_trans _ _ _ hlt (hc.1 x hx)
        have hsub : ∀ x ∈ sub (e :: M) p, lt k x.1 = true := fun x hx => hall x ((List.mem_filter.1 hx).1)
        by_cases h3 : pre p k = true
        · rw [if_pos h3, putM_head hsub]
          cases is
          · simp
          · simp only [if_true]; rw [sub_cons, if_pos h3]
        · rw [if_neg h3]
          cases is
          · simp
          · simp only [if_true]; rw [sub_cons, if_neg h3]

end Go.Proofs.Ytaidgkdebocenaa
