/- A store made within a call, as later texts use it: where it lies, and what it holds.
   Conditions: Fit: fewer than 2^40 pairs, deeds, marks, bytes of a key or a value. -/
import Derived.Test.YtaidgkdebocenaaSame
namespace Go.Proofs.Ytaidgkdebocenaa
open Go Go.RowKit

def Fit (a : AS) : Prop := a.M.length < big ∧ a.log.length < big ∧ a.marks.length < big ∧ a.M.length + a.log.length ≤ big ∧ ∀ p ∈ a.M, p.1.length ≤ big ∧ p.2.length ≤ big

theorem Fit.small {s : SG} (h : Fit (abs s)) : small s := by
  obtain ⟨h1, h2, h3, -, -⟩ := h
  simp only [abs, absL, absU, List.length_map] at h1 h2 h3
  exact ⟨h1, h2, h3⟩
theorem Fit.two {s : SG} (h : Fit (abs s)) : s.L.length + s.log.length ≤ big := by
  obtain ⟨-, -, -, h4, -⟩ := h
  simpa only [abs, absL, absU, List.length_map] using h4
theorem Fit.vals {s : SG} (h : Fit (abs s)) : ∀ e ∈ s.L, e.key.length ≤ big ∧ e.val.length ≤ big := by
  intro e he
  obtain ⟨-, -, -, -, h5⟩ := h
  exact h5 (e.key, e.val) (List.mem_map.2 ⟨e, he, rfl⟩)

theorem le_big {n : Nat} (h : n ≤ 1000000) : n ≤ big := by rw [big_eq]; omega
theorem Fit.of {a : AS} (h1 : a.M.length ≤ 1000000) (h2 : a.log.length ≤ 1000000) (h3 : a.marks.length ≤ 1000000) (h4 : ∀ p ∈ a.M, p.1.length ≤ 1000000 ∧ p.2.length ≤ 1000000) : Fit a := by
  refine ⟨?_, ?_, ?_, ?_, fun p hp => ⟨le_big (h4 p hp).1, le_big (h4 p hp).2⟩⟩ <;> rw [big_eq] <;> omega

/-- A store that lies in memory made behind w0. -/
def Live (w0 w : World) (b : Nat) (a : AS) : Prop :=
  ∃ s, s.b = b ∧ SRep w s ∧ abs s = a ∧ Ext w0 w ∧ (∀ k, Foot s k → w0.heap.size ≤ k) ∧ ∀ k, Byt s k → w0.heap.size ≤ k

theorem Live.ext {w0 w w' : World} {b : Nat} {a : AS} (h : Live w0 w b a) (hE : Ext w w') : Live w0 w' b a := by
  obtain ⟨s, h1, h2, h3, h4, h5⟩ := h
  exact ⟨s, h1, h2.ext hE, h3, h4.trans hE, h5⟩
theorem Live.base {w0 w : World} {b : Nat} {a : AS} (h : Live w0 w b a) : Ext w0 w := by
  obtain ⟨s, h1, h2, h3, h4, h5⟩ := h
  exact h4
theorem Live.lt {w0 w : World} {b : Nat} {a : AS} (h : Live w0 w b a) : w0.heap.size ≤ b ∧ b < w.heap.size := by
  obtain ⟨s, rfl, h2, h3, h4, h5, -⟩ := h
  exact ⟨h5 _ (.inl rfl), h2.lt (.inl rfl)⟩
/-- Memory that the store does not use may be turned. -/
theorem Live.keeps {w0 w w' : World} {S : Nat → Prop} {b : Nat} {a : AS} (h : Live w0 w b a) (hk : Keeps S w w') (hS : ∀ s, s.b = b → SRep w s → abs s = a → ∀ k, S k → ¬ Foot s k ∧ ¬ Byt s k) (hE : Ext w0 w') : Live w0 w' b a := by
  obtain ⟨s, h1, h2, h3, h4, h5⟩ := h
  exact ⟨s, h1, h2.keeps' hk (fun k hf hs => (hS s h1 h2 h3 k hs).1 hf) (fun k hb hs => (hS s h1 h2 h3 k hs).2 hb), h3, hE, h5⟩

theorem Live.moved {w0 w w' : World} {s s' : SG} {a' : AS} (hE : Ext w0 w) (hf : ∀ k, Foot s k → w0.heap.size ≤ k) (hb : ∀ k, Byt s k → w0.heap.size ≤ k) (hm : Moved w s a' w' s') : Live w0 w' s.b a' :=
  ⟨s', hm.b, hm.rep, hm.abs, hE.trans' hm.keeps (fun k hk c => absurd (hf k c) (by omega)), fun k hk => (hm.foot k hk).elim (hf k) (Nat.le_trans hE.size), fun k hk => (hm.byt k hk).elim (hb k) (Nat.le_trans hE.size)⟩

theorem lnew {w0 w : World} (hE : Ext w0 w) : Calls Try.prog 27 #[] w fun e w' => ∃ b, e = .returned (.pointer (some ⟨b, 0, none⟩)) ∧ Live w0 w' b ⟨[], [], []⟩ := by
  refine (new_c w).mono ?_
  rintro e w' ⟨rfl, hr, hE'⟩
  refine ⟨_, rfl, newG w.heap.size, rfl, hr, rfl, hE.trans hE', ?_, ?_⟩
  · rintro k (c | c | c | c)
    · have := hE.size; simp only [newG] at c; omega
    all_goals simp [newG, Value.ownBlock] at c
  · rintro k (⟨e, he, -⟩ | ⟨e, he, -⟩) <;> exact nomatch he

theorem lset {w0 w : World} {b : Nat} {a : AS} {kv vv : Value} {key val : BS} (h : Live w0 w b a) (hk : BV w kv key) (hv : BV w vv val) (hf : Fit a) (hkl : key.length ≤ big) (hvl : val.length ≤ big) :
    Calls Try.prog 36 #[.pointer (some ⟨b, 0, none⟩), kv, vv] w fun e w' => e = .returned (.tuple #[]) ∧ Live w0 w' b (doM a key val true) := by
  obtain ⟨s, rfl, h2, rfl, h4, h5, h6⟩ := h
  refine (set_c h2 hk hv hf.small hkl hvl).mono ?_
  rintro e w' ⟨rfl, s', hm⟩
  exact ⟨rfl, Live.moved h4 h5 h6 hm⟩
theorem ldelete {w0 w : World} {b : Nat} {a : AS} {kv : Value} {key : BS} (h : Live w0 w b a) (hk : BV w kv key) (hf : Fit a) (hkl : key.length ≤ big) :
    Calls Try.prog 46 #[.pointer (some ⟨b, 0, none⟩), kv] w fun e w' => e = .returned (.tuple #[]) ∧ Live w0 w' b (doM a key [] false) := by
  obtain ⟨s, rfl, h2, rfl, h4, h5, h6⟩ := h
  refine (delete_c h2 hk hf.small hkl).mono ?_
  rintro e w' ⟨rfl, s', hm⟩
  exact ⟨rfl, Live.moved h4 h5 h6 hm⟩
theorem lbegin {w0 w : World} {b : Nat} {a : AS} (h : Live w0 w b a) (hf : Fit a) :
    Calls Try.prog 39 #[.pointer (some ⟨b, 0, none⟩)] w fun e w' => e = .returned (.tuple #[]) ∧ Live w0 w' b (beginM a) := by
  obtain ⟨s, rfl, h2, rfl, h4, h5, h6⟩ := h
  refine (begin_c h2 hf.small).mono ?_
  rintro e w' ⟨rfl, s', hm⟩
  exact ⟨rfl, Live.moved h4 h5 h6 hm⟩
theorem lcommit {w0 w : World} {b : Nat} {a : AS} (h : Live w0 w b a) (hf : Fit a) :
    Calls Try.prog 40 #[.pointer (some ⟨b, 0, none⟩)] w fun e w' => e = .returned (.bool (!decide (a.marks = []))) ∧ Live w0 w' b (commitM a) := by
  obtain ⟨s, rfl, h2, rfl, h4, h5, h6⟩ := h
  refine (commit_c h2 hf.small).mono ?_
  rintro e w' ⟨rfl, s', hm⟩
  exact ⟨rfl, Live.moved h4 h5 h6 hm⟩
theorem lrollback {w0 w : World} {b : Nat} {a : AS} (h : Live w0 w b a) (hf : Fit a) :
    Calls Try.prog 44 #[.pointer (some ⟨b, 0, none⟩)] w fun e w' => e = .returned (.bool (!decide (a.marks = []))) ∧ Live w0 w' b (rollM a) := by
  obtain ⟨s, rfl, h2, rfl, h4, h5, h6⟩ := h
  refine (rollback_c h2 hf.small hf.two).mono ?_
  rintro e w' ⟨rfl, s', hm⟩
  exact ⟨rfl, Live.moved h4 h5 h6 hm⟩
theorem lget {w0 w : World} {b : Nat} {a : AS} {kv : Value} {key : BS} (h : Live w0 w b a) (hk : BV w kv key) (hf : Fit a) :
    Calls Try.prog 37 #[.pointer (some ⟨b, 0, none⟩), kv] w (GetPost w a.M key) := by
  obtain ⟨s, rfl, h2, rfl, h4, h5, h6⟩ := h
  exact get_c h2 hk (Nat.le_of_lt hf.small.1) fun e he => (hf.vals e he).2
theorem llen {w0 w : World} {b : Nat} {a : AS} (h : Live w0 w b a) :
    Calls Try.prog 34 #[.pointer (some ⟨b, 0, none⟩)] w fun e w' => e = .returned (.int .i64 a.M.length) ∧ w = w' := by
  obtain ⟨s, rfl, h2, rfl, h4, h5, h6⟩ := h
  have := len_c h2
  simpa [abs, absL] using this
theorem ldepth {w0 w : World} {b : Nat} {a : AS} (h : Live w0 w b a) :
    Calls Try.prog 42 #[.pointer (some ⟨b, 0, none⟩)] w fun e w' => e = .returned (.int .i64 a.marks.length) ∧ w = w' := by
  obtain ⟨s, rfl, h2, rfl, h4, h5, h6⟩ := h
  exact depth_c h2
theorem lkeys {w0 w : World} {b : Nat} {a : AS} {pv : Value} {p : BS} (h : Live w0 w b a) (hp : BV w pv p) (hf : Fit a) :
    Calls Try.prog 30 #[.pointer (some ⟨b, 0, none⟩), pv] w (KeysPost w (keysM a.M p)) := by
  obtain ⟨s, rfl, h2, rfl, h4, h5, h6⟩ := h
  exact keys_c h2 hp (Nat.le_of_lt hf.small.1) fun e he => (hf.vals e he).1

/-- A row of bytes written in the text of the program. -/
theorem lit1 (w : World) (x : UInt8) : BV (w.alloc (.cells #[bval x] 5)) (.slice (some ⟨w.heap.size, 0, none⟩) 1 1) [x] := by
  have := ownsRow_of_whole (w := w.alloc (.cells #[bval x] 5)) (base := 0) (size := 1) (g := w.heap.size) (n := 1) (cap := 1) (ys := [bval x]) (e := 5) (heap_alloc_new w _) rfl (Nat.le_refl _) (by simp [maxLen]) (Nat.zero_le _)
  exact BV.of_owns (xs := [x]) this

end Go.Proofs.Ytaidgkdebocenaa
