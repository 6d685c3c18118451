/- The contracts of store.New, (*Store).Len, Depth, Get, Begin, end, Commit, Copy.
   Conditions: the store lies in memory as SRep says; fewer than 2^40 pairs, deeds, marks. -/
import Derived.Test.YtaidgkdebocenaaModel
namespace Go.Proofs.Ytaidgkdebocenaa
open Go Go.RowKit

theorem Moved.refl {w : World} {s : SG} (h : SRep w s) : Moved w s (Go.Proofs.Ytaidgkdebocenaa.abs s) w s := ⟨h, rfl, rfl, Keeps.refl _ _, fun _ c => .inl c, fun _ c => .inl c⟩
theorem Moved.trans {w w1 w2 : World} {s s1 s2 : SG} {a a2 : AS} (h : Moved w s a w1 s1) (h' : Moved w1 s1 a2 w2 s2) : Moved w s a2 w2 s2 :=
  ⟨h'.rep, h'.b.trans h.b, h'.abs, h.keeps.trans' h'.keeps (fun k hk c => (h.foot k c).resolve_right (by omega)),
   fun k hk => (h'.foot k hk).elim (h.foot k) (fun c => .inr (Nat.le_trans h.keeps.size c)), fun k hk => (h'.byt k hk).elim (h.byt k) (fun c => .inr (Nat.le_trans h.keeps.size c))⟩
theorem Moved.ext {w w1 w2 : World} {s s1 : SG} {a : AS} (h : Moved w s a w1 s1) (h' : Ext w1 w2) : Moved w s a w2 s1 :=
  ⟨h.rep.ext h', h.b, h.abs, h.keeps.ext h', h.foot, h.byt⟩
theorem Moved.after {w w1 w2 : World} {s s2 : SG} {a : AS} (h : Ext w w1) (h' : Moved w1 s a w2 s2) : Moved w s a w2 s2 :=
  ⟨h'.rep, h'.b, h'.abs, (Keeps.of_ext h).trans' h'.keeps (fun _ _ c => c), fun k hk => (h'.foot k hk).imp id (Nat.le_trans h.size), fun k hk => (h'.byt k hk).imp id (Nat.le_trans h.size)⟩

/-! ### New -/

def newG (b : Nat) : SG := ⟨b, .slice none 0 0, .slice none 0 0, .slice none 0 0, [], [], []⟩

theorem new_rep (w : World) : SRep (w.alloc (.cells #[.slice none 0 0, .slice none 0 0, .slice none 0 0] 153)) (newG w.heap.size) where
  hs := heap_alloc_new w _
  hl := World.ownsRow_nil _ _ _ _
  hg := World.ownsRow_nil _ _ _ _
  hm := World.ownsRow_nil _ _ _ _
  he := fun _ h => nomatch h
  hu := fun _ h => nomatch h
  so := List.Pairwise.nil

theorem new_c (w : World) : Calls Try.prog 27 #[] w fun e w' => e = .returned (.pointer (some ⟨w.heap.size, 0, none⟩)) ∧ SRep w' (newG w.heap.size) ∧ Ext w w' := by
  go_enter Try.func27, Try.ntmps27
  go_wp2
  go_ret
  exact ⟨rfl, new_rep w, (Ext.refl w).alloc _⟩

/-! ### Len, Depth -/

theorem len_c {w : World} {s : SG} (h : SRep w s) : Calls Try.prog 34 #[.pointer (some ⟨s.b, 0, none⟩)] w fun e w' => e = .returned (.int .i64 s.L.length) ∧ w = w' := by
  obtain ⟨s0, -, -, -, -, -⟩ := h.scells
  obtain ⟨ao, cap, hlv, -, -⟩ := h.lval
  rw [hlv] at s0
  clear h hlv
  go_enter Try.func34, Try.ntmps34
  go_wp2
  go_ret
  exact ⟨rfl, rfl⟩

theorem depth_c {w : World} {s : SG} (h : SRep w s) : Calls Try.prog 42 #[.pointer (some ⟨s.b, 0, none⟩)] w fun e w' => e = .returned (.int .i64 s.marks.length) ∧ w = w' := by
  obtain ⟨-, -, s2, -, -, -⟩ := h.scells
  obtain ⟨ao, cap, hmv, -, -⟩ := h.mval
  rw [hmv] at s2
  clear h hmv
  go_enter Try.func42, Try.ntmps42
  go_wp2
  go_ret
  exact ⟨rfl, rfl⟩

/-! ### Get -/

def GetPost (w : World) (M : List KV) (key : BS) (e : Ending) (w' : World) : Prop :=
  ∃ v', e = .returned (.tuple #[v', .bool (hasM M key)]) ∧ w'.ownsRow w.heap.size 5 1 v' (getM M key).length (bcells (getM M key)) ∧ Ext w w'

set_option maxRecDepth 100000 in
set_option maxHeartbeats 400000 in
theorem get_c {w : World} {s : SG} {kv : Value} {key : BS} (h : SRep w s) (hk : BV w kv key) (hb : s.L.length ≤ big) (hv : ∀ e ∈ s.L, e.val.length ≤ big) :
    Calls Try.prog 37 #[.pointer (some ⟨s.b, 0, none⟩), kv] w (GetPost w (absL s.L) key) := by
  have HF := hid (find_c h hk hb)
  have H := hid h
  have HV := hid hv
  clear h hk hb hv
  by_cases hh : has s.L key = true
  · have hlt := has_lt hh
    have hf := HF.out
    rw [hh] at hf
    obtain ⟨i, hi⟩ : ∃ i, i = pos s.L key := ⟨_, rfl⟩
    rw [← hi] at hf
    have hlt' : i < s.L.length := by rw [hi]; exact hlt
    have hget : Hid (getM (absL s.L) key = (s.L[i]'hlt').val) := hid (by rw [getM_abs]; simp [oldB, hh, hlt, hi])
    have hhas : Hid (hasM (absL s.L) key = true) := hid (by rw [hasM_abs]; exact hh)
    have HF2 := hid hf
    clear hf HF hi hlt hh
    go_enter Try.func37, Try.ntmps37
    go_wp2_with fail
    refine HF2.out.mono ?_
    rintro e w1 ⟨rfl, hE1⟩
    have hr1 := H.out.ext hE1
    obtain ⟨g, cap, hlv, hn, hc, -, c2, -, -⟩ := hr1.pairCells hlt'
    obtain ⟨s0, -, -, -, -, -⟩ := hr1.scells
    rw [hlv] at s0
    have c2' : w1.cell? ⟨g, i * 2 + 1, none⟩ = some (s.L[i]'hlt').vv := by rw [Nat.mul_comm]; exact c2
    have HCl := hid (cloneB_c (hr1.he _ (List.getElem_mem hlt')).2.bv (HV.out _ (List.getElem_mem hlt')))
    obtain ⟨x, hx⟩ : ∃ x, x = (s.L[i]'hlt').vv := ⟨_, rfl⟩
    rw [← hx] at c2' HCl
    have hi' : (i : Int) < (s.L.length : Int) := by omega
    unfold maxLen at hc
    have HE1 := hid hE1
    clear c2 hlv hr1 hx hE1 HF2
    go_wp2_with fail
    refine HCl.out.mono ?_
    rintro e w2 ⟨v', rfl, hv', hE2⟩
    have Hv' := hid hv'
    have HE2 := hid hE2
    obtain ⟨va, vcap, hva, -, -⟩ := (OB.of_owns hv').bv.val
    subst hva
    clear hv' hE2 HCl
    go_wp2_with fail
    go_ret2
    refine ⟨_, by rw [hhas.out]; rfl, ?_, HE1.out.trans HE2.out⟩
    rw [hget.out]
    exact ⟨Hv'.out.1, Hv'.out.2.imp id fun ⟨g, cap, cur, h1, h2, h3⟩ => ⟨g, cap, cur, h1, Nat.le_trans HE1.out.size h2, h3⟩⟩
  · have hh' : has s.L key = false := by simpa using hh
    have hf := HF.out
    rw [hh'] at hf
    have hget : Hid (getM (absL s.L) key = []) := hid (by rw [getM_abs]; simp [oldB, hh'])
    have hhas : Hid (hasM (absL s.L) key = false) := hid (by rw [hasM_abs]; exact hh')
    have HF2 := hid hf
    clear hf HF hh hh'
    go_enter Try.func37, Try.ntmps37
    go_wp2_with fail
    refine HF2.out.mono ?_
    rintro e w1 ⟨rfl, hE1⟩
    have HE1 := hid hE1
    clear hE1 HF2
    go_wp2_with fail
    go_ret2
    refine ⟨_, by rw [hhas.out]; rfl, ?_, HE1.out⟩
    rw [hget.out]
    exact World.ownsRow_nil _ _ _ _

end Go.Proofs.Ytaidgkdebocenaa
