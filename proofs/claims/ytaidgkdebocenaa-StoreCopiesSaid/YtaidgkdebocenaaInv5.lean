/- Both stores through many deeds: what holds after each.
   Conditions: at most 1000 deeds, keys and values of at most 100 bytes. -/
import Derived.Test.YtaidgkdebocenaaActs
namespace Go.Proofs.Ytaidgkdebocenaa
open Go Go.RowKit

def Bnd (n : Nat) (a : AS) : Prop :=
  a.M.length + a.log.length ≤ 2 * n ∧ a.marks.length ≤ n ∧ (∀ p ∈ a.M, p.1.length ≤ 100 ∧ p.2.length ≤ 100) ∧ (∀ u ∈ a.log, u.key.length ≤ 100 ∧ u.val.length ≤ 100)

theorem Bnd.fit {n : Nat} {a : AS} (h : Bnd n a) (hn : n ≤ 1000) : Fit a := by
  obtain ⟨h1, h2, h3, h4⟩ := h
  exact Fit.of (by omega) (by omega) (by omega) fun p hp => ⟨by have := (h3 p hp).1; omega, by have := (h3 p hp).2; omega⟩

theorem Bnd.new : Bnd 0 ⟨[], [], []⟩ := ⟨Nat.le_refl _, Nat.le_refl _, (fun _ h => nomatch h), (fun _ h => nomatch h)⟩

theorem getM_len {M : List KV} {k : BS} (h : ∀ p ∈ M, p.1.length ≤ 100 ∧ p.2.length ≤ 100) : (getM M k).length ≤ 100 := by
  induction M with
  | nil => simp [getM_nil]
  | cons e M ih =>
    rw [getM_cons]
    split
    · exact ih fun p hp => h p (List.mem_cons_of_mem _ hp)
    · split
      · exact (h e List.mem_cons_self).2
      · simp

theorem putM_vals {M : List KV} {k v : BS} {is : Bool} (h : ∀ p ∈ M, p.1.length ≤ 100 ∧ p.2.length ≤ 100) (hk : k.length ≤ 100) (hv : v.length ≤ 100) : ∀ p ∈ putM M k v is, p.1.length ≤ 100 ∧ p.2.length ≤ 100 := by
  intro p hp
  rcases putM_mem hp with hp | rfl
  · exact h p hp
  · exact ⟨hk, hv⟩

theorem undoM_vals {M : List KV} (h : ∀ p ∈ M, p.1.length ≤ 100 ∧ p.2.length ≤ 100) : ∀ (l : List LU), (∀ u ∈ l, u.key.length ≤ 100 ∧ u.val.length ≤ 100) → ∀ p ∈ undoM M l, p.1.length ≤ 100 ∧ p.2.length ≤ 100
  | [], _ => h
  | u :: l, hl => putM_vals (undoM_vals h l fun x hx => hl x (List.mem_cons_of_mem _ hx)) (hl u List.mem_cons_self).1 (hl u List.mem_cons_self).2

theorem Bnd.put {n : Nat} {a : AS} (h : Bnd n a) {k v : BS} (hk : k.length ≤ 100) (hv : v.length ≤ 100) (is : Bool) : Bnd (n + 1) (doM a k v is) := by
  obtain ⟨h1, h2, h3, h4⟩ := h
  have hp := putM_length a.M k v is
  refine ⟨?_, Nat.le_succ_of_le h2, putM_vals h3 hk hv, ?_⟩
  · simp only [doM]
    split
    · omega
    · simp; omega
  · intro u hu
    simp only [doM] at hu
    split at hu
    · exact h4 u hu
    · rcases List.mem_append.1 hu with hu | hu
      · exact h4 u hu
      · obtain rfl := List.mem_singleton.1 hu
        exact ⟨hk, getM_len h3⟩

theorem Bnd.mono {n n' : Nat} {a : AS} (h : Bnd n a) (hn : n ≤ n') : Bnd n' a := ⟨by have := h.1; omega, Nat.le_trans h.2.1 hn, h.2.2⟩

theorem Bnd.begin {n : Nat} {a : AS} (h : Bnd n a) : Bnd (n + 1) (beginM a) := by
  obtain ⟨h1, h2, h3, h4⟩ := h
  exact ⟨by simp only [beginM]; omega, by simp [beginM]; omega, h3, h4⟩
theorem Bnd.commit {n : Nat} {a : AS} (h : Bnd n a) : Bnd n (commitM a) := by
  obtain ⟨h1, h2, h3, h4⟩ := h
  unfold commitM endM
  dsimp only
  split
  · exact ⟨by simp; omega, by simp; omega, h3, fun _ h => nomatch h⟩
  · exact ⟨h1, by simp; omega, h3, h4⟩
theorem Bnd.roll {n : Nat} {a : AS} (h : Bnd n a) : Bnd n (rollM a) := by
  by_cases hm : a.marks = []
  · have : rollM a = a := by simp [rollM, hm]
    rw [this]; exact h
  · have hr : rollM a = backTo a (lastM a) := by simp [rollM, hm]
    obtain ⟨h1, h2, h3, h4⟩ := h
    rw [hr]
    have hu := undoM_length a.M (a.log.drop (lastM a))
    refine ⟨?_, by simp [backTo]; omega, undoM_vals h3 _ fun u hu => h4 u (List.mem_of_mem_drop hu), fun u hu => h4 u (List.mem_of_mem_take hu)⟩
    simp only [backTo, List.length_take, List.length_drop] at *
    omega

theorem Bnd.step {n : Nat} {a : AS} (h : Bnd n a) {k v : BS} (hk : k.length ≤ 100) (hv : v.length ≤ 100) (d : Nat) : Bnd (n + 1) (stepA d k v a) := by
  unfold stepA
  split
  · exact h.put hk hv true
  · split
    · exact h.put hk (by simp) false
    · split
      · exact h.begin
      · split
        · exact h.commit.mono (Nat.le_succ _)
        · exact h.roll.mono (Nat.le_succ _)

structure Inv (w0 w : World) (bs bm n : Nat) (s : SG) (m : RG) : Prop where
  rs : SRep w s
  rm : RRep w m
  hbs : s.b = bs
  hbm : m.b = bm
  rel : Rel (abs s) (rabs m)
  bnd : Bnd n (abs s)
  ext : Ext w0 w
  fs : ∀ k, Foot s k → w0.heap.size ≤ k
  fm : ∀ k, RFoot m k → w0.heap.size ≤ k

theorem Inv.after {w0 w w' : World} {bs bm n : Nat} {s : SG} {m : RG} (h : Inv w0 w bs bm n s m) (hE : Ext w w') : Inv w0 w' bs bm n s m :=
  ⟨h.rs.ext hE, h.rm.ext hE, h.hbs, h.hbm, h.rel, h.bnd, h.ext.trans hE, h.fs, h.fm⟩

theorem Inv.next {w0 w w' : World} {bs bm n : Nat} {s s' : SG} {m m' : RG} {d : Nat} {k v : BS} (h : Inv w0 w bs bm n s m) (hk : k.length ≤ 100) (hv : v.length ≤ 100) (hB : Both w s m (stepA d k v (abs s)) (stepR d k v (rabs m)) w' s' m') : Inv w0 w' bs bm (n + 1) s' m' where
  rs := hB.rs
  rm := hB.rm
  hbs := hB.bs.trans h.hbs
  hbm := hB.bm.trans h.hbm
  rel := by rw [hB.as_, hB.am]; exact h.rel.step d k v
  bnd := by rw [hB.as_]; exact h.bnd.step hk hv d
  ext := h.ext.trans' hB.keeps fun k hk c => c.elim (fun c => absurd (h.fs k c) (by omega)) (fun c => absurd (h.fm k c) (by omega))
  fs := fun k hk => (hB.fs k hk).elim (h.fs k) (Nat.le_trans h.ext.size)
  fm := fun k hk => (hB.fm k hk).elim (h.fm k) (Nat.le_trans h.ext.size)

theorem Rel.ends {a : AS} {r : RS} (h : Rel a r) : (decide (a.marks = []) == decide (r.was = [])) = true := by
  have : a.marks = [] ↔ r.was = [] := by rw [← List.length_eq_zero_iff, ← List.length_eq_zero_iff, h.len]
  by_cases c : a.marks = []
  · simp [c, this.1 c]
  · have c2 : ¬ r.was = [] := fun c' => c (this.2 c')
    simp [c, c2]

theorem Rel.doesB {a : AS} {r : RS} (h : Rel a r) (d : Nat) : doesB d a r = true := by
  unfold Go.Proofs.Ytaidgkdebocenaa.doesB
  split
  · rfl
  · exact h.ends

theorem doesI {w0 w : World} {bs bm n : Nat} {s : SG} {m : RG} {d : UInt8} {kv vv : Value} {key val : BS} (h : Inv w0 w bs bm n s m) (hn : n ≤ 1000) (hk : BV w kv key) (hv : BV w vv val) (hkl : key.length ≤ 100) (hvl : val.length ≤ 100) :
    Calls Try.prog 28 #[.pointer (some ⟨bs, 0, none⟩), .pointer (some ⟨bm, 0, none⟩), .agg #[.int .u8 d.toNat, kv, vv]] w fun e w' => e = .returned (.bool true) ∧ ∃ s' m', Inv w0 w' bs bm (n + 1) s' m' := by
  have hf := h.bnd.fit hn
  obtain ⟨h1, h2, -, -, -⟩ := hf
  have := does5_c (d := d) h.rs h.rm hk hv (h.bnd.fit hn) (by rw [h.rel.M]; exact h.rel.so) (by rw [h.rel.M]; exact Nat.le_of_lt h1) (by rw [h.rel.len, big_eq]; have := h.bnd.2.1; omega) (le_big (by omega)) (le_big (by omega))
  rw [h.hbs, h.hbm] at this
  refine this.mono ?_
  rintro e w' ⟨rfl, s', m', hB⟩
  exact ⟨by rw [h.rel.doesB], s', m', h.next hkl hvl hB⟩

theorem sameI {w0 w : World} {bs bm n : Nat} {s : SG} {m : RG} (h : Inv w0 w bs bm n s m) (hn : n ≤ 1000) :
    Calls Try.prog 29 #[.pointer (some ⟨bs, 0, none⟩), .pointer (some ⟨bm, 0, none⟩)] w fun e w' => e = .returned (.bool true) ∧ Ext w w' := by
  have := same5_c h.rs h.rm (by have := h.rel.M; simpa [rabs, abs] using this.symm) (by have := h.rel.len; simpa [rabs, abs] using this.symm) (h.bnd.fit hn)
  rw [h.hbs, h.hbm] at this
  exact this

def rnew (b : Nat) : RG := ⟨b, .slice none 0 0, .slice none 0 0, [], []⟩
theorem rnew_rep {w : World} {b : Nat} (h : w.heap[b]? = some (.cells #[.slice none 0 0, .slice none 0 0] 31 (0, 0))) : RRep w (rnew b) :=
  ⟨h, World.ownsRow_nil _ _ _ _, World.ownsRow_nil _ _ _ _, (fun _ h => nomatch h), (fun _ h => nomatch h), (fun _ h => nomatch h)⟩

/-- Both stores, just made. -/
theorem Inv.new {w0 w1 w2 : World} {bs : Nat} (hE : Ext w0 w1) (hs : SRep w1 (newG bs)) (hb : w0.heap.size ≤ bs) (hw : w2 = w1.alloc (.cells #[.slice none 0 0, .slice none 0 0] 31)) : Inv w0 w2 bs w1.heap.size 0 (newG bs) (rnew w1.heap.size) := by
  subst hw
  have hE2 : Ext w1 (w1.alloc (.cells #[.slice none 0 0, .slice none 0 0] 31)) := (Ext.refl w1).alloc _
  refine ⟨hs.ext hE2, rnew_rep (heap_alloc_new w1 _), rfl, rfl, Rel.new, Bnd.new, hE.trans hE2, ?_, ?_⟩
  · rintro k (c | c | c | c)
    · simp only [newG] at c; omega
    all_goals simp [newG, Value.ownBlock] at c
  · rintro k (c | c)
    · simp only [rnew] at c; have := hE.size; omega
    · simp [rnew, Value.ownBlock] at c

theorem few_at {l : List ActV} (h : few l = true) : l.length ≤ 40 ∧ ∀ a ∈ l, a.key.length ≤ 30 ∧ a.val.length ≤ 60 := by
  simp only [few, Bool.and_eq_true, List.all_eq_true, decide_eq_true_eq] at h
  exact h

end Go.Proofs.Ytaidgkdebocenaa
