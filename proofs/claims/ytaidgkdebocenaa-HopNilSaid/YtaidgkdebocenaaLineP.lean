/- A kind's line in a store, on plain lists: records by time and number.
   Conditions: times and numbers below 2^64. -/
import Derived.Test.YtaidgkdebocenaaLive2
namespace Go.Proofs.Ytaidgkdebocenaa
open Go Go.RowKit

abbrev W64 : Nat := 18446744073709551616
theorem w64_pow : W64 = 256 ^ 8 := by decide

structure It where
  due : Nat
  no : Nat
  p : BS

def wkey (κ : UInt8) (d n : Nat) : BS := [119, κ] ++ (be 8 d ++ be 8 n)
def nkey (κ : UInt8) : BS := [110, κ]
theorem wkey_length (κ : UInt8) (d n : Nat) : (wkey κ d n).length = 18 := by simp [wkey, be_length]

theorem wkey_inj {κ : UInt8} {d n d' n' : Nat} (hd : d < W64) (hn : n < W64) (hd' : d' < W64) (hn' : n' < W64) (h : wkey κ d n = wkey κ d' n') : d = d' ∧ n = n' := by
  rw [w64_pow] at *
  have h1 := List.append_cancel_left h
  have h2 := List.append_inj h1 (by rw [be_length, be_length])
  exact ⟨be_inj hd hd' h2.1, be_inj hn hn' h2.2⟩

theorem lt_wkey {κ : UInt8} {d n d' n' : Nat} (hd : d < W64) (hn : n < W64) (hd' : d' < W64) (hn' : n' < W64) : lt (wkey κ d n) (wkey κ d' n') = decide (d < d' ∨ d = d' ∧ n < n') := by
  rw [w64_pow] at *
  unfold wkey
  rw [lt_append _ _ _ _ rfl, if_pos rfl, lt_append _ _ _ _ (by rw [be_length, be_length]), lt_be hd hd', lt_be hn hn']
  by_cases h : d = d'
  · subst h; simp
  · rw [if_neg fun c => h (be_inj hd hd' c)]
    simp [h]

theorem pre_wkey (κ κ' : UInt8) (d n : Nat) : pre [119, κ] (wkey κ' d n) = (κ == κ') := by
  unfold wkey
  rw [List.cons_append, List.cons_append, pre_cons, pre_cons, List.nil_append, pre_nil]
  simp only [BEq.rfl, Bool.true_and, Bool.and_true]
  rw [Bool.eq_iff_iff, beq_iff_eq, beq_iff_eq]
  exact eq_comm
theorem pre_nkey (κ κ' : UInt8) : pre [119, κ] (nkey κ') = false := by
  unfold nkey
  rw [pre_cons]
  simp

/-- The records of a kind. -/
def recs (κ : UInt8) (L : List It) : List KV := L.map fun x => (wkey κ x.due x.no, x.p)

def okIt (x : It) : Prop := x.due < W64 ∧ x.no < W64
def okIts (L : List It) : Prop := ∀ x ∈ L, okIt x
def before (x y : It) : Prop := x.due < y.due ∨ x.due = y.due ∧ x.no < y.no

def insIt : List It → It → List It
  | [], y => [y]
  | x :: L, y => if y.due < x.due then y :: x :: L else x :: insIt L y
def at? (x : It) (d n : Nat) : Bool := decide (x.due = d ∧ x.no = n)
def hasIt (L : List It) (d n : Nat) : Bool := L.any fun x => at? x d n
def setIt (L : List It) (d n : Nat) (p : BS) : List It := L.map fun x => if at? x d n = true then { x with p := p } else x
def delIt (L : List It) (d n : Nat) : List It := L.filter fun x => !(at? x d n)

def SortedI (L : List It) : Prop := L.Pairwise before

theorem recs_sorted {κ : UInt8} {L : List It} (ho : okIts L) (hs : SortedI L) : SortedM (recs κ L) := by
  unfold recs SortedM
  rw [List.pairwise_map]
  refine List.Pairwise.imp_of_mem ?_ hs
  intro a b ha hb hab
  rw [lt_wkey (ho a ha).1 (ho a ha).2 (ho b hb).1 (ho b hb).2]
  simpa [before] using hab

theorem insIt_mem {L : List It} {y x : It} (h : x ∈ insIt L y) : x = y ∨ x ∈ L := by
  induction L with
  | nil => exact .inl (List.mem_singleton.1 h)
  | cons z L ih =>
    rw [insIt] at h
    split at h
    · rcases List.mem_cons.1 h with h | h
      · exact .inl h
      · exact .inr h
    · rcases List.mem_cons.1 h with h | h
      · exact .inr (h ▸ List.mem_cons_self)
      · exact (ih h).imp id (List.mem_cons_of_mem _)
theorem insIt_length (L : List It) (y : It) : (insIt L y).length = L.length + 1 := by
  induction L with
  | nil => rfl
  | cons z L ih => rw [insIt]; split <;> simp [ih]

theorem insIt_sorted {L : List It} {y : It} (hs : SortedI L) (hn : ∀ x ∈ L, x.no < y.no) : SortedI (insIt L y) := by
  induction L with
  | nil => exact List.pairwise_singleton _ _
  | cons z L ih =>
    have hc := List.pairwise_cons.1 hs
    rw [insIt]
    split
    · rename_i hlt
      refine List.pairwise_cons.2 ⟨fun x hx => ?_, hs⟩
      rcases List.mem_cons.1 hx with rfl | hx
      · exact .inl hlt
      · have := hc.1 x hx
        unfold before at *
        omega
    · rename_i hlt
      refine List.pairwise_cons.2 ⟨fun x hx => ?_, ih hc.2 fun x hx => hn x (List.mem_cons_of_mem _ hx)⟩
      rcases insIt_mem hx with rfl | hx
      · have := hn z List.mem_cons_self
        unfold before; omega
      · exact hc.1 x hx

theorem recs_ins {κ : UInt8} {L : List It} {y : It} (ho : okIts L) (hy : okIt y) (hn : ∀ x ∈ L, x.no < y.no) : putM (recs κ L) (wkey κ y.due y.no) y.p true = recs κ (insIt L y) := by
  induction L with
  | nil => simp [recs, insIt, putM_nil]
  | cons z L ih =>
    have hz := ho z List.mem_cons_self
    have hzn := hn z List.mem_cons_self
    have ih' := ih (fun x hx => ho x (List.mem_cons_of_mem _ hx)) fun x hx => hn x (List.mem_cons_of_mem _ hx)
    rw [insIt]
    show putM ((wkey κ z.due z.no, z.p) :: recs κ L) _ _ _ = _
    rw [putM_cons, lt_wkey hz.1 hz.2 hy.1 hy.2]
    by_cases h : y.due < z.due
    · have e1 : ¬ (z.due < y.due ∨ z.due = y.due ∧ z.no < y.no) := by omega
      have e2 : (wkey κ z.due z.no == wkey κ y.due y.no) = false := by
        rw [beq_eq_false_iff_ne]
        intro c
        have := wkey_inj hz.1 hz.2 hy.1 hy.2 c
        omega
      simp only [e1, e2, h, decide_false, if_true]
      simp [recs]
    · have e1 : z.due < y.due ∨ z.due = y.due ∧ z.no < y.no := by omega
      simp only [e1, h, decide_true, if_true, if_false, ih']
      simp [recs]

theorem look_recs {κ : UInt8} {L : List It} {d n : Nat} (ho : okIts L) (hd : d < W64) (hn : n < W64) : look (recs κ L) (wkey κ d n) = (L.find? fun x => at? x d n).map It.p := by
  induction L with
  | nil => rfl
  | cons z L ih =>
    have hz := ho z List.mem_cons_self
    show look ((wkey κ z.due z.no, z.p) :: recs κ L) _ = _
    rw [look_cons, ih fun x hx => ho x (List.mem_cons_of_mem _ hx), List.find?_cons]
    by_cases h : z.due = d ∧ z.no = n
    · obtain ⟨rfl, rfl⟩ := h
      simp [at?]
    · have e2 : (wkey κ z.due z.no == wkey κ d n) = false := by
        rw [beq_eq_false_iff_ne]
        exact fun c => h (wkey_inj hz.1 hz.2 hd hn c)
      have e3 : at? z d n = false := by simp [at?, h]
      simp [e2, e3]

theorem hasIt_find (L : List It) (d n : Nat) : (L.find? fun x => at? x d n).isSome = hasIt L d n := by
  unfold hasIt
  induction L with
  | nil => rfl
  | cons z L ih => rw [List.find?_cons, List.any_cons]; cases at? z d n <;> simp [ih]

theorem recs_set {κ : UInt8} {L : List It} {d n : Nat} {p : BS} (ho : okIts L) (hs : SortedI L) (hd : d < W64) (hn : n < W64) (hh : hasIt L d n = true) : putM (recs κ L) (wkey κ d n) p true = recs κ (setIt L d n p) := by
  induction L with
  | nil => cases hh
  | cons z L ih =>
    have hz := ho z List.mem_cons_self
    have hc := List.pairwise_cons.1 hs
    show putM ((wkey κ z.due z.no, z.p) :: recs κ L) _ _ _ = _
    rw [putM_cons, lt_wkey hz.1 hz.2 hd hn]
    by_cases h : z.due = d ∧ z.no = n
    · obtain ⟨rfl, rfl⟩ := h
      have hL : setIt L z.due z.no p = L := by
        unfold setIt
        conv => rhs; rw [← List.map_id L]
        refine List.map_congr_left fun x hx => ?_
        have := hc.1 x hx
        have : at? x z.due z.no = false := by
          unfold before at this
          simp only [at?, decide_eq_false_iff_not]; omega
        simp [this]
      have : setIt (z :: L) z.due z.no p = { z with p := p } :: L := by
        conv => rhs; rw [← hL]
        simp [setIt, at?]
      rw [this]
      simp [recs]
    · have hin : hasIt L d n = true := by
        simp only [hasIt, List.any_cons, Bool.or_eq_true] at hh
        rcases hh with hh | hh
        · simp only [at?, decide_eq_true_eq] at hh; exact absurd hh h
        · exact hh
      have hlt : z.due < d ∨ z.due = d ∧ z.no < n := by
        simp only [hasIt, List.any_eq_true, at?, decide_eq_true_eq] at hin
        obtain ⟨x, hx, rfl, rfl⟩ := hin
        exact hc.1 x hx
      have ih' := ih (fun x hx => ho x (List.mem_cons_of_mem _ hx)) hc.2 hin
      have e3 : at? z d n = false := by simp [at?, h]
      simp only [hlt, decide_true, if_true, ih']
      simp [recs, setIt, e3]

theorem recs_del {κ : UInt8} {L : List It} {d n : Nat} (ho : okIts L) (hs : SortedI L) (hd : d < W64) (hn : n < W64) : putM (recs κ L) (wkey κ d n) [] false = recs κ (delIt L d n) := by
  induction L with
  | nil => simp [recs, delIt, putM_nil]
  | cons z L ih =>
    have hz := ho z List.mem_cons_self
    have hc := List.pairwise_cons.1 hs
    show putM ((wkey κ z.due z.no, z.p) :: recs κ L) _ _ _ = _
    rw [putM_cons, lt_wkey hz.1 hz.2 hd hn]
    by_cases h : z.due = d ∧ z.no = n
    · obtain ⟨rfl, rfl⟩ := h
      have hL : delIt L z.due z.no = L := by
        unfold delIt
        rw [List.filter_eq_self]
        intro x hx
        have := hc.1 x hx
        unfold before at this
        simp only [at?, Bool.not_eq_true', decide_eq_false_iff_not]; omega
      have : delIt (z :: L) z.due z.no = L := by
        conv => rhs; rw [← hL]
        simp [delIt, at?]
      rw [this]
      simp
    · have e3 : at? z d n = false := by simp [at?, h]
      have e4 : delIt (z :: L) d n = z :: delIt L d n := by simp [delIt, e3]
      have e2 : (wkey κ z.due z.no == wkey κ d n) = false := by
        rw [beq_eq_false_iff_ne]
        exact fun c => h (wkey_inj hz.1 hz.2 hd hn c)
      rw [e4]
      by_cases hlt : z.due < d ∨ z.due = d ∧ z.no < n
      · have ih' := ih (fun x hx => ho x (List.mem_cons_of_mem _ hx)) hc.2
        simp only [hlt, decide_true, if_true, ih']
        simp [recs]
      · have hL : delIt L d n = L := by
          unfold delIt
          rw [List.filter_eq_self]
          intro x hx
          have := hc.1 x hx
          unfold before at this
          simp only [at?, Bool.not_eq_true', decide_eq_false_iff_not]; omega
        simp only [hlt, decide_false, e2]
        simp [recs, hL]

theorem setIt_ok {L : List It} {d n : Nat} {p : BS} (h : okIts L) : okIts (setIt L d n p) := by
  intro x hx
  obtain ⟨y, hy, rfl⟩ := List.mem_map.1 hx
  have := h y hy
  split <;> exact this
theorem setIt_sorted {L : List It} {d n : Nat} {p : BS} (h : SortedI L) : SortedI (setIt L d n p) := by
  unfold SortedI setIt
  rw [List.pairwise_map]
  refine List.Pairwise.imp ?_ h
  intro a b hab
  unfold before at *
  split <;> split <;> exact hab
theorem delIt_ok {L : List It} {d n : Nat} (h : okIts L) : okIts (delIt L d n) := fun x hx => h x (List.mem_filter.1 hx).1
theorem delIt_sorted {L : List It} {d n : Nat} (h : SortedI L) : SortedI (delIt L d n) := List.Pairwise.sublist List.filter_sublist h

/-! ### A kind's line: its records, and how many there were -/

def cntB (c : Nat) : Option BS := if c = 0 then none else some (be 8 c)

structure LineOk (M : List KV) (κ : UInt8) (L : List It) (c : Nat) : Prop where
  sub : sub M [119, κ] = recs κ L
  cnt : look M (nkey κ) = cntB c
  ok : okIts L
  so : SortedI L
  lt : ∀ x ∈ L, x.no ≤ c

theorem LineOk.new (κ : UInt8) : LineOk [] κ [] 0 := ⟨rfl, rfl, (fun _ h => nomatch h), List.Pairwise.nil, (fun _ h => nomatch h)⟩

theorem nkey_ne (κ κ' : UInt8) (d n : Nat) : wkey κ d n ≠ nkey κ' := by
  intro c
  have := congrArg List.length c
  rw [wkey_length] at this
  simp [nkey] at this

theorem nkey_inj {κ κ' : UInt8} (h : nkey κ = nkey κ') : κ = κ' := by
  simp only [nkey, List.cons.injEq] at h
  exact h.2.1

/-- Behind Add. -/
def addM (M : List KV) (κ : UInt8) (c due : Nat) (p : BS) : List KV := putM (putM M (nkey κ) (be 8 (c + 1)) true) (wkey κ due (c + 1)) p true

theorem LineOk.add {M : List KV} {κ : UInt8} {L : List It} {c due : Nat} {p : BS} (h : LineOk M κ L c) (hs : SortedM M) (hd : due < W64) (hc : c + 1 < W64) : LineOk (addM M κ c due p) κ (insIt L ⟨due, c + 1, p⟩) (c + 1) := by
  have hs1 := putM_sorted hs (nkey κ) (be 8 (c + 1)) true
  have hlt : ∀ x ∈ L, x.no < c + 1 := fun x hx => Nat.lt_succ_of_le (h.lt x hx)
  refine ⟨?_, ?_, ?_, insIt_sorted h.so hlt, ?_⟩
  · rw [addM, sub_put hs1, pre_wkey, sub_put hs, pre_nkey, h.sub]
    simp only [BEq.rfl, if_true]
    exact recs_ins (y := ⟨due, c + 1, p⟩) h.ok ⟨hd, hc⟩ hlt
  · rw [addM, look_put hs1, if_neg (nkey_ne _ _ _ _), look_put hs, if_pos rfl]
    simp [cntB]
  · intro x hx
    rcases insIt_mem hx with rfl | hx
    · exact ⟨hd, hc⟩
    · exact h.ok x hx
  · intro x hx
    rcases insIt_mem hx with rfl | hx
    · exact Nat.le_refl _
    · exact Nat.le_succ_of_le (h.lt x hx)
theorem LineOk.addO {M : List KV} {κ κ' : UInt8} {L : List It} {c c' due : Nat} {p : BS} (h : LineOk M κ' L c') (hs : SortedM M) (hne : κ' ≠ κ) : LineOk (addM M κ c due p) κ' L c' := by
  have hs1 := putM_sorted hs (nkey κ) (be 8 (c + 1)) true
  have hne' : (κ' == κ) = false := by simpa using hne
  refine ⟨?_, ?_, h.ok, h.so, h.lt⟩
  · rw [addM, sub_put hs1, pre_wkey, hne', sub_put hs, pre_nkey, h.sub]; simp
  · rw [addM, look_put hs1, if_neg (nkey_ne _ _ _ _), look_put hs, if_neg fun e => hne (nkey_inj e).symm]
    exact h.cnt

theorem LineOk.has {M : List KV} {κ : UInt8} {L : List It} {c d n : Nat} (h : LineOk M κ L c) (hd : d < W64) (hn : n < W64) : (look M (wkey κ d n)).isSome = hasIt L d n := by
  rw [← look_sub (p := [119, κ]) (by rw [pre_wkey]; simp), h.sub, look_recs h.ok hd hn, Option.isSome_map, hasIt_find]

/-- Behind Set. -/
def setLM (M : List KV) (κ : UInt8) (d n : Nat) (p : BS) : List KV := if (look M (wkey κ d n)).isSome = true then putM M (wkey κ d n) p true else M
theorem LineOk.set {M : List KV} {κ : UInt8} {L : List It} {c d n : Nat} {p : BS} (h : LineOk M κ L c) (hs : SortedM M) (hd : d < W64) (hn : n < W64) : LineOk (setLM M κ d n p) κ (setIt L d n p) c := by
  have hl : ∀ x ∈ setIt L d n p, x.no ≤ c := by
    intro x hx
    obtain ⟨y, hy, rfl⟩ := List.mem_map.1 hx
    have := h.lt y hy
    split <;> exact this
  unfold setLM
  rw [h.has hd hn]
  by_cases hh : hasIt L d n = true
  · rw [if_pos hh]
    refine ⟨?_, ?_, setIt_ok h.ok, setIt_sorted h.so, hl⟩
    · rw [sub_put hs, pre_wkey, h.sub]
      simp only [BEq.rfl, if_true]
      exact recs_set h.ok h.so hd hn hh
    · rw [look_put hs, if_neg (nkey_ne _ _ _ _)]; exact h.cnt
  · rw [if_neg hh]
    have e : setIt L d n p = L := by
      unfold setIt
      conv => rhs; rw [← List.map_id L]
      refine List.map_congr_left fun x hx => ?_
      have : at? x d n = false := by
        cases ha : at? x d n with
        | false => rfl
        | true => exact absurd (List.any_eq_true.2 ⟨x, hx, ha⟩) hh
      simp [this]
    rw [e]; exact h
theorem LineOk.setO {M : List KV} {κ κ' : UInt8} {L : List It} {c d n : Nat} {p : BS} (h : LineOk M κ' L c) (hs : SortedM M) (hne : κ' ≠ κ) : LineOk (setLM M κ d n p) κ' L c := by
  unfold setLM
  split
  · have hne' : (κ' == κ) = false := by simpa using hne
    refine ⟨?_, ?_, h.ok, h.so, h.lt⟩
    · rw [sub_put hs, pre_wkey, hne', h.sub]; simp
    · rw [look_put hs, if_neg (nkey_ne _ _ _ _)]; exact h.cnt
  · exact h

/-- Behind Remove. -/
def delLM (M : List KV) (κ : UInt8) (d n : Nat) : List KV := putM M (wkey κ d n) [] false
theorem LineOk.del {M : List KV} {κ : UInt8} {L : List It} {c d n : Nat} (h : LineOk M κ L c) (hs : SortedM M) (hd : d < W64) (hn : n < W64) : LineOk (delLM M κ d n) κ (delIt L d n) c := by
  refine ⟨?_, ?_, delIt_ok h.ok, delIt_sorted h.so, fun x hx => h.lt x (List.mem_filter.1 hx).1⟩
  · rw [delLM, sub_put hs, pre_wkey, h.sub]
    simp only [BEq.rfl, if_true]
    exact recs_del h.ok h.so hd hn
  · rw [delLM, look_put hs, if_neg (nkey_ne _ _ _ _)]; exact h.cnt
theorem LineOk.delO {M : List KV} {κ κ' : UInt8} {L : List It} {c d n : Nat} (h : LineOk M κ' L c) (hs : SortedM M) (hne : κ' ≠ κ) : LineOk (delLM M κ d n) κ' L c := by
  have hne' : (κ' == κ) = false := by simpa using hne
  refine ⟨?_, ?_, h.ok, h.so, h.lt⟩
  · rw [delLM, sub_put hs, pre_wkey, hne', h.sub]; simp
  · rw [delLM, look_put hs, if_neg (nkey_ne _ _ _ _)]; exact h.cnt

theorem addM_length (M : List KV) (κ : UInt8) (c due : Nat) (p : BS) : (addM M κ c due p).length ≤ M.length + 2 := by
  have h1 := putM_length (putM M (nkey κ) (be 8 (c + 1)) true) (wkey κ due (c + 1)) p true
  have h2 := putM_length M (nkey κ) (be 8 (c + 1)) true
  unfold addM; omega
theorem setLM_length (M : List KV) (κ : UInt8) (d n : Nat) (p : BS) : (setLM M κ d n p).length ≤ M.length + 1 := by
  unfold setLM
  split
  · exact putM_length _ _ _ _
  · omega
theorem delLM_length (M : List KV) (κ : UInt8) (d n : Nat) : (delLM M κ d n).length ≤ M.length + 1 := putM_length _ _ _ _

end Go.Proofs.Ytaidgkdebocenaa
