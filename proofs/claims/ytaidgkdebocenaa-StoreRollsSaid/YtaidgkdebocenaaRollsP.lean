/- What holds of a store behind the beginning of a part, whatever is done in it; a deed on a store beside a document's one.
   Conditions: at most 1000 deeds, short keys and values. -/
import Derived.Test.YtaidgkdebocenaaStays
namespace Go.Proofs.Ytaidgkdebocenaa
open Go Go.RowKit

/-- a0: the store ahead of the part's beginning; a: what it is now, the part not being over. -/
structure Part (a0 a : AS) : Prop where
  so : SortedM a.M
  len : a0.log.length ≤ a.log.length
  undo : undoM a.M (a.log.drop a0.log.length) = a0.M
  marks : ∃ rest, a.marks = a0.marks ++ a0.log.length :: rest ∧ (∀ x ∈ rest, a0.log.length ≤ x ∧ x ≤ a.log.length) ∧ rest.Pairwise (· ≤ ·)

theorem Part.begun {a0 : AS} (h : SortedM a0.M) : Part a0 (beginM a0) :=
  ⟨h, Nat.le_refl _, by simp [beginM, undoM], [], rfl, (fun _ h => nomatch h), List.Pairwise.nil⟩

theorem Part.ne {a0 a : AS} (h : Part a0 a) : a.marks ≠ [] := by
  obtain ⟨rest, hr, -⟩ := h.marks
  rw [hr]; simp

theorem Part.put {a0 a : AS} (h : Part a0 a) (k v : BS) (is : Bool) : Part a0 (doM a k v is) := by
  obtain ⟨rest, hr, h2, h3⟩ := h.marks
  have hne := h.ne
  have hlog : (doM a k v is).log = a.log ++ [⟨k, getM a.M k, hasM a.M k⟩] := by simp only [doM]; rw [if_neg hne]
  refine ⟨putM_sorted h.so _ _ _, ?_, ?_, rest, hr, fun x hx => ?_, h3⟩
  · rw [hlog]; have := h.len; simp; omega
  · rw [hlog, List.drop_append_of_le_length h.len, undoM_append]
    show undoM (putM (putM a.M k v is) k (getM a.M k) (hasM a.M k)) _ = _
    rw [putM_undo h.so]
    exact h.undo
  · have := h2 x hx
    rw [hlog]
    exact ⟨this.1, by simp; omega⟩

theorem Part.begin {a0 a : AS} (h : Part a0 a) : Part a0 (beginM a) := by
  obtain ⟨rest, hr, h2, h3⟩ := h.marks
  refine ⟨h.so, h.len, h.undo, rest ++ [a.log.length], by simp [beginM, hr], fun x hx => ?_, ?_⟩
  · rcases List.mem_append.1 hx with hx | hx
    · exact h2 x hx
    · rw [List.mem_singleton.1 hx]; exact ⟨h.len, Nat.le_refl _⟩
  · refine List.pairwise_append.2 ⟨h3, List.pairwise_singleton _ _, fun x hx y hy => ?_⟩
    rw [List.mem_singleton.1 hy]
    exact (h2 x hx).2

theorem Part.inner {a0 a : AS} (h : Part a0 a) (hd : a0.marks.length + 1 < a.marks.length) : ∃ rest x, a.marks = (a0.marks ++ a0.log.length :: rest) ++ [x] ∧ a0.log.length ≤ x ∧ x ≤ a.log.length ∧ (∀ y ∈ rest, a0.log.length ≤ y ∧ y ≤ x) ∧ rest.Pairwise (· ≤ ·) := by
  obtain ⟨rest, hr, h2, h3⟩ := h.marks
  have hne : rest ≠ [] := by
    intro c; rw [hr, c] at hd; simp at hd
  obtain ⟨l, x, hl⟩ : ∃ l x, rest = l ++ [x] := ⟨rest.dropLast, rest.getLast hne, (List.dropLast_concat_getLast hne).symm⟩
  subst hl
  have h3' := List.pairwise_append.1 h3
  have hx := h2 x (by simp)
  exact ⟨l, x, by rw [hr]; simp, hx.1, hx.2, fun y hy => ⟨(h2 y (by simp [hy])).1, h3'.2.2 y hy x (by simp)⟩, h3'.1⟩

theorem Part.commit {a0 a : AS} (h : Part a0 a) (hd : a0.marks.length + 1 < a.marks.length) : Part a0 (commitM a) := by
  obtain ⟨rest, x, hr, h1, h2, h3, h4⟩ := h.inner hd
  have hdl : a.marks.dropLast = a0.marks ++ a0.log.length :: rest := by rw [hr, List.dropLast_concat]
  have hc : commitM a = endM a := by simp [commitM, endM, hdl]
  rw [hc]
  exact ⟨h.so, h.len, h.undo, rest, hdl, fun y hy => ⟨(h3 y hy).1, Nat.le_trans (h3 y hy).2 h2⟩, h4⟩

theorem Part.roll {a0 a : AS} (h : Part a0 a) (hd : a0.marks.length + 1 < a.marks.length) : Part a0 (rollM a) := by
  obtain ⟨rest, x, hr, h1, h2, h3, h4⟩ := h.inner hd
  have hm : a.marks ≠ [] := h.ne
  have hdl : a.marks.dropLast = a0.marks ++ a0.log.length :: rest := by rw [hr, List.dropLast_concat]
  have hlast : lastM a = x := by rw [lastM, hr, List.getLast?_concat]; rfl
  have hrl : rollM a = backTo a x := by rw [rollM, if_neg hm, hlast]
  rw [hrl]
  refine ⟨undoM_sorted h.so _, by simp [backTo]; omega, ?_, rest, hdl, fun y hy => ⟨(h3 y hy).1, by have := (h3 y hy).2; simp [backTo]; omega⟩, h4⟩
  show undoM (undoM a.M (a.log.drop x)) ((a.log.take x).drop a0.log.length) = _
  rw [← undoM_append]
  have : (a.log.take x).drop a0.log.length ++ a.log.drop x = a.log.drop a0.log.length := by
    conv => rhs; rw [← List.take_append_drop x a.log]
    rw [List.drop_append_of_le_length (by simp; omega)]
  rw [this]
  exact h.undo

theorem Part.step {a0 a : AS} (h : Part a0 a) {d : Nat} (hd : d % 8 < 5 ∨ 5 < d % 8 ∧ a0.marks.length + 1 < a.marks.length) (k v : BS) : Part a0 (stepA d k v a) := by
  unfold stepA
  by_cases h1 : d % 8 < 3
  · rw [if_pos h1]; exact h.put k v true
  · rw [if_neg h1]
    by_cases h2 : d % 8 = 3
    · rw [if_pos h2]; exact h.put k [] false
    · rw [if_neg h2]
      by_cases h3 : d % 8 < 6
      · rw [if_pos h3]; exact h.begin
      · rw [if_neg h3]
        have h5 := (hd.resolve_left (by omega)).2
        by_cases h4 : d % 8 = 6
        · rw [if_pos h4]; exact h.commit h5
        · rw [if_neg h4]; exact h.roll h5

theorem Part.over {a0 a : AS} (h : Part a0 a) (hd : ¬ a0.marks.length + 1 < a.marks.length) : (rollM a).M = a0.M ∧ (rollM a).marks = a0.marks := by
  obtain ⟨rest, hr, -, -⟩ := h.marks
  have h0 : rest = [] := by
    cases rest with
    | nil => rfl
    | cons x l => rw [hr] at hd; simp at hd
  subst h0
  have hm : a.marks ≠ [] := h.ne
  have hlast : lastM a = a0.log.length := by simp [lastM, hr]
  have hrl : rollM a = backTo a a0.log.length := by rw [rollM, if_neg hm, hlast]
  rw [hrl]
  exact ⟨h.undo, by simp [backTo, hr]⟩

/-! ### The document's store, alone -/

structure RInv (n : Nat) (r : RS) : Prop where
  so : SortedM r.M
  len : r.M.length ≤ n
  wl : r.was.length ≤ n
  ws : ∀ x ∈ r.was, SortedM x ∧ x.length ≤ n

theorem RInv.new : RInv 0 ⟨[], []⟩ := ⟨List.Pairwise.nil, Nat.le_refl _, Nat.le_refl _, fun _ h => nomatch h⟩
theorem RInv.mono {n n' : Nat} {r : RS} (h : RInv n r) (hn : n ≤ n') : RInv n' r := ⟨h.so, Nat.le_trans h.len hn, Nat.le_trans h.wl hn, fun x hx => ⟨(h.ws x hx).1, Nat.le_trans (h.ws x hx).2 hn⟩⟩
theorem RInv.put {n : Nat} {r : RS} (h : RInv n r) (k v : BS) (is : Bool) : RInv (n + 1) { r with M := putM r.M k v is } :=
  ⟨putM_sorted h.so _ _ _, Nat.le_trans (putM_length _ _ _ _) (Nat.succ_le_succ h.len), Nat.le_succ_of_le h.wl, fun x hx => ⟨(h.ws x hx).1, Nat.le_succ_of_le (h.ws x hx).2⟩⟩
theorem RInv.ends {n : Nat} {r : RS} (h : RInv n r) (stay : Bool) : RInv n (endR stay r) := by
  have hw : ∀ x ∈ r.was.dropLast, SortedM x ∧ x.length ≤ n := fun x hx => h.ws x (List.dropLast_subset _ hx)
  have hl : r.was.dropLast.length ≤ n := by have := h.wl; simp; omega
  cases stay with
  | true => exact ⟨h.so, h.len, hl, hw⟩
  | false =>
    cases hg : r.was.getLast? with
    | none => exact ⟨by simp [endR, hg]; exact h.so, by simp [endR, hg]; exact h.len, hl, hw⟩
    | some x =>
      have hx := h.ws x (List.mem_of_getLast? hg)
      exact ⟨by simp [endR, hg]; exact hx.1, by simp [endR, hg]; exact hx.2, hl, hw⟩
theorem RInv.step {n : Nat} {r : RS} (h : RInv n r) (d : Nat) (k v : BS) : RInv (n + 1) (stepR d k v r) := by
  unfold stepR
  split
  · exact h.put k v true
  · split
    · exact h.put k [] false
    · split
      · refine ⟨h.so, Nat.le_succ_of_le h.len, by have := h.wl; simp; omega, fun x hx => ?_⟩
        rcases List.mem_append.1 hx with hx | hx
        · exact ⟨(h.ws x hx).1, Nat.le_succ_of_le (h.ws x hx).2⟩
        · rw [List.mem_singleton.1 hx]; exact ⟨h.so, Nat.le_succ_of_le h.len⟩
      · split
        · exact (h.ends true).mono (Nat.le_succ _)
        · exact (h.ends false).mono (Nat.le_succ _)

/-! ### A part under way, beside a copy of what was -/

structure RolB (w0 w : World) (b n : Nat) (a0 : AS) (t s : SG) : Prop where
  hs : Has w0 w b n s
  ht : SRep w t
  dis : ∀ k, Foot t k → ¬ Foot s k
  part : Part a0 (abs s)
  ext : Ext w0 w

structure RolA (w0 w : World) (b bm n : Nat) (a0 : AS) (t s : SG) (m : RG) : Prop extends RolB w0 w b n a0 t s where
  rm : RRep w m
  hbm : m.b = bm
  ri : RInv n (rabs m)
  fm : ∀ k, RFoot m k → w0.heap.size ≤ k

theorem RolA.mono {w0 w : World} {b bm n n' : Nat} {a0 : AS} {t s : SG} {m : RG} (h : RolA w0 w b bm n a0 t s m) (hn : n ≤ n') : RolA w0 w b bm n' a0 t s m :=
  ⟨⟨⟨h.hs.rs, h.hs.hb, h.hs.bnd.mono hn, h.hs.new⟩, h.ht, h.dis, h.part, h.ext⟩, h.rm, h.hbm, h.ri.mono hn, h.fm⟩

theorem RolA.does {w0 w : World} {b bm n : Nat} {a0 : AS} {t s : SG} {m : RG} {d : UInt8} {kv vv : Value} {key val : BS} (h : RolA w0 w b bm n a0 t s m) (hn : n ≤ 1000) (hk : BV w kv key) (hv : BV w vv val) (hkl : key.length ≤ 100) (hvl : val.length ≤ 100)
    (hd : d.toNat % 8 < 5 ∨ 5 < d.toNat % 8 ∧ a0.marks.length + 1 < s.marks.length) :
    Calls Try.prog 28 #[.pointer (some ⟨b, 0, none⟩), .pointer (some ⟨bm, 0, none⟩), .agg #[.int .u8 d.toNat, kv, vv]] w fun e w' => (∃ x, e = .returned (.bool x)) ∧ ∃ s' m', RolA w0 w' b bm (n + 1) a0 t s' m' := by
  have hf := h.hs.bnd.fit hn
  have := does5_c (d := d) h.hs.rs h.rm hk hv hf h.ri.so (le_big (Nat.le_trans h.ri.len (by omega))) (by have := h.ri.wl; rw [big_eq]; omega) (le_big (by omega)) (le_big (by omega))
  rw [h.hs.hb, h.hbm] at this
  refine this.mono ?_
  rintro e w' ⟨rfl, s', m', hB⟩
  obtain ⟨ht', hd'⟩ := Both.other h.hs.rs h.rm h.ht h.dis hB
  refine ⟨⟨_, rfl⟩, s', m', ⟨⟨⟨hB.rs, hB.bs.trans h.hs.hb, by rw [hB.as_]; exact h.hs.bnd.step hkl hvl _, fun k hk => (hB.fs k hk).elim (h.hs.new k) (Nat.le_trans h.ext.size)⟩, ht', hd', by rw [hB.as_]; exact h.part.step hd key val, ?_⟩, hB.rm, hB.bm.trans h.hbm, by rw [hB.am]; exact h.ri.step _ _ _, fun k hk => (hB.fm k hk).elim (h.fm k) (Nat.le_trans h.ext.size)⟩⟩
  exact h.ext.trans' hB.keeps fun k hk c => c.elim (fun c => absurd (h.hs.new k c) (by omega)) fun c => absurd (h.fm k c) (by omega)

theorem RolB.commits {w0 w : World} {b n : Nat} {a0 : AS} {t s : SG} (h : RolB w0 w b n a0 t s) (hn : n ≤ 1000) (hd : a0.marks.length + 1 < s.marks.length) :
    Calls Try.prog 40 #[.pointer (some ⟨b, 0, none⟩)] w fun e w' => (∃ x, e = .returned (.bool x)) ∧ ∃ s', RolB w0 w' b n a0 t s' ∧ s'.marks.length < s.marks.length := by
  have := commit_c h.hs.rs (h.hs.bnd.fit hn).small
  rw [h.hs.hb] at this
  refine this.mono ?_
  rintro e w' ⟨rfl, s', hM⟩
  obtain ⟨ht', hd'⟩ := hM.other h.hs.rs h.ht h.dis
  refine ⟨⟨_, rfl⟩, s', ⟨⟨hM.rep, hM.b.trans h.hs.hb, by rw [hM.abs]; exact h.hs.bnd.commit, fun k hk => (hM.foot k hk).elim (h.hs.new k) (Nat.le_trans h.ext.size)⟩, ht', hd', by rw [hM.abs]; exact h.part.commit hd, ?_⟩, ?_⟩
  · exact h.ext.trans' hM.keeps fun k hk c => absurd (h.hs.new k c) (by omega)
  · have e1 : s'.marks = (commitM (abs s)).marks := congrArg AS.marks hM.abs
    have e2 : (commitM (abs s)).marks = s.marks.dropLast := by unfold commitM endM; dsimp only; split <;> rfl
    rw [e1, e2]
    simp; omega

/-- How many parts are begun, by the cell. -/
def marksLen (b : Nat) (w : World) : Nat := match w.cell? ⟨b, 2, none⟩ with | some (.slice _ n _) => n | _ => 0

theorem marksLen_eq {w : World} {s : SG} (h : SRep w s) : marksLen s.b w = s.marks.length := by
  obtain ⟨-, -, s2, -, -, -⟩ := h.scells
  obtain ⟨ga, gcap, hgv, -, -⟩ := h.mval
  unfold marksLen
  rw [s2, hgv]

end Go.Proofs.Ytaidgkdebocenaa
