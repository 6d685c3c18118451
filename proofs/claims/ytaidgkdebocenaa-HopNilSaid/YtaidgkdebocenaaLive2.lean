/- A store of plain pairs within a call: its contracts, and what they leave of memory, by the types of blocks.
   Conditions: at most 10000 pairs, keys and values of at most 1000 bytes. -/
import Derived.Test.YtaidgkdebocenaaReader2
namespace Go.Proofs.Ytaidgkdebocenaa
open Go Go.RowKit

/-- Blocks of cells of some types. -/
def Ty (T : TypeId → Prop) (w : World) (k : Nat) : Prop := ∃ c t fr, w.heap[k]? = some (.cells c t fr) ∧ T t
/-- Of what was there, blocks of some types alone are turned. -/
abbrev TK (T : TypeId → Prop) (w w' : World) : Prop := Keeps (Ty T w) w w'

theorem TK.trans {T : TypeId → Prop} {w w1 w2 : World} (h : TK T w w1) (h' : TK T w1 w2) : TK T w w2 := by
  refine h.trans' h' fun k hk hT => ?_
  by_cases hn : Ty T w k
  · exact hn
  · obtain ⟨c, t, fr, hc, ht⟩ := hT
    rw [h.block k hk hn] at hc
    exact ⟨c, t, fr, hc, ht⟩
theorem TK.of_ext {T : TypeId → Prop} {w w1 : World} (h : Ext w w1) : TK T w w1 := Keeps.of_ext h
theorem TK.refl (T : TypeId → Prop) (w : World) : TK T w w := Keeps.refl _ w
theorem TK.ext {T : TypeId → Prop} {w w1 w2 : World} (h : TK T w w1) (h' : Ext w1 w2) : TK T w w2 := Keeps.ext h h'
theorem TK.mono {T T' : TypeId → Prop} {w w1 : World} (h : TK T w w1) (ht : ∀ t, T t → T' t) : TK T' w w1 := Keeps.mono h fun _ ⟨c, t, fr, hc, h'⟩ => ⟨c, t, fr, hc, ht t h'⟩
theorem TK.heap {T : TypeId → Prop} {w w1 : World} (h : TK T w w1) {k : Nat} {c : Array Value} {t : TypeId} {fr : Nat × Nat} (hc : w.heap[k]? = some (.cells c t fr)) (ht : ¬ T t) : w1.heap[k]? = some (.cells c t fr) :=
  Keeps.heap h hc fun ⟨c', t', fr', hc', ht'⟩ => by
    rw [hc] at hc'
    simp only [Option.some.injEq, Obj.cells.injEq] at hc'
    exact ht (hc'.2.1 ▸ ht')
theorem TK.owns {T : TypeId → Prop} {w w1 : World} (h : TK T w w1) {base : Nat} {e : TypeId} {size : Nat} {v : Value} {n : Nat} {xs : List Value} (ho : w.ownsRow base e size v n xs) (ht : ¬ T e) : w1.ownsRow base e size v n xs :=
  Keeps.ownsRow h ho fun g hg ⟨c', t', fr', hc', ht'⟩ => by
    obtain ⟨c, hc⟩ := owns_typed ho hg
    rw [hc] at hc'
    simp only [Option.some.injEq, Obj.cells.injEq] at hc'
    exact ht (hc'.2.1 ▸ ht')

/-- The types of a store's blocks. -/
def StT (t : TypeId) : Prop := t = 153 ∨ t = 161 ∨ t = 167 ∨ t = 3
theorem SRep.ty {w : World} {s : SG} (h : SRep w s) {k : Nat} (hk : Foot s k) : Ty StT w k := by
  obtain ⟨c, t, hc, ht⟩ := h.typed hk
  exact ⟨c, t, _, hc, ht⟩
theorem Moved.tk {w w' : World} {s s' : SG} {a : AS} (h : SRep w s) (hm : Moved w s a w' s') : TK StT w w' := hm.keeps.mono fun _ hk => h.ty hk

/-- Bytes that no store turns that was made behind w0. -/
def SB (w0 w : World) (v : Value) (xs : BS) : Prop := ∀ w', TK StT w w' → Ext w0 w' → BV w' v xs
theorem SB.old {w0 w : World} {v : Value} {xs : BS} (h : BV w0 v xs) : SB w0 w v xs := fun _ _ hE => h.ext hE
theorem SB.own {w0 w : World} {v : Value} {xs : BS} (h : OB w v xs) : SB w0 w v xs := fun _ hT _ => BV.of_owns (TK.owns hT h (by unfold StT; decide))
theorem SB.bv {w0 w : World} {v : Value} {xs : BS} (h : SB w0 w v xs) (hE : Ext w0 w) : BV w v xs := h w (TK.refl _ _) hE
theorem SB.next {w0 w w1 : World} {v : Value} {xs : BS} (h : SB w0 w v xs) (hT : TK StT w w1) : SB w0 w1 v xs := fun _ hT' hE => h _ (hT.trans hT') hE

/-- A store of plain pairs, made behind w0, with nothing begun. -/
structure St (w0 w : World) (b : Nat) (M : List KV) : Prop where
  live : Live w0 w b ⟨M, [], []⟩
  kv : ∀ p ∈ M, p.1.length ≤ 1000 ∧ p.2.length ≤ 1000

theorem St.so {w0 w : World} {b : Nat} {M : List KV} (h : St w0 w b M) : SortedM M := by
  obtain ⟨s, -, h2, h3, -⟩ := h.live
  have := sortedM_abs h2.so
  have e : absL s.L = M := congrArg AS.M h3
  rw [e] at this; exact this
theorem St.base {w0 w : World} {b : Nat} {M : List KV} (h : St w0 w b M) : Ext w0 w := h.live.base
theorem St.ext {w0 w w' : World} {b : Nat} {M : List KV} (h : St w0 w b M) (hE : Ext w w') : St w0 w' b M := ⟨h.live.ext hE, h.kv⟩
theorem St.fit {w0 w : World} {b : Nat} {M : List KV} (h : St w0 w b M) (hm : M.length ≤ 10000) : Fit ⟨M, [], []⟩ :=
  Fit.of (by show M.length ≤ _; omega) (by simp) (by simp) fun p hp => ⟨by have := (h.kv p hp).1; omega, by have := (h.kv p hp).2; omega⟩
/-- What turns blocks of other types leaves a store. -/
theorem St.keep {T : TypeId → Prop} {w0 w w' : World} {b : Nat} {M : List KV} (h : St w0 w b M) (hk : TK T w w') (hE : Ext w0 w') (hT : ∀ t, T t → ¬ StT t ∧ t ≠ 5) : St w0 w' b M := by
  refine ⟨Live.keeps h.live hk (fun s _ h2 _ k hk' => ?_) hE, h.kv⟩
  obtain ⟨c, t, fr, hc, ht⟩ := hk'
  refine ⟨fun hf => ?_, fun hb => ?_⟩
  · obtain ⟨c2, t2, hc2, ht2⟩ := h2.typed hf
    rw [hc] at hc2
    simp only [Option.some.injEq, Obj.cells.injEq] at hc2
    exact (hT t ht).1 (by rw [hc2.2.1]; exact ht2)
  · obtain ⟨c2, hc2⟩ := h2.byt_lt hb
    rw [hc] at hc2
    simp only [Option.some.injEq, Obj.cells.injEq] at hc2
    exact (hT t ht).2 hc2.2.1

theorem St.new {w0 w : World} (hE : Ext w0 w) : Calls Try.prog 27 #[] w fun e w' => ∃ b, e = .returned (.pointer (some ⟨b, 0, none⟩)) ∧ St w0 w' b [] ∧ Ext w w' ∧ b = w.heap.size := by
  refine (new_c w).mono ?_
  rintro e w' ⟨rfl, hr, hE'⟩
  refine ⟨_, rfl, ⟨⟨newG w.heap.size, rfl, hr, rfl, hE.trans hE', ?_, ?_⟩, fun _ h => nomatch h⟩, hE', rfl⟩
  · rintro k (c | c | c | c)
    · have := hE.size; simp only [newG] at c; omega
    all_goals simp [newG, Value.ownBlock] at c
  · rintro k (⟨e, he, -⟩ | ⟨e, he, -⟩) <;> exact nomatch he

theorem kv_put {M : List KV} {k v : BS} {is : Bool} (h : ∀ p ∈ M, p.1.length ≤ 1000 ∧ p.2.length ≤ 1000) (hk : k.length ≤ 1000) (hv : v.length ≤ 1000) : ∀ p ∈ putM M k v is, p.1.length ≤ 1000 ∧ p.2.length ≤ 1000 := by
  intro p hp
  rcases putM_mem hp with hp | rfl
  · exact h p hp
  · exact ⟨hk, hv⟩

theorem St.set {w0 w : World} {b : Nat} {M : List KV} {kv vv : Value} {key val : BS} (h : St w0 w b M) (hm : M.length ≤ 10000) (hk : BV w kv key) (hv : BV w vv val) (hkl : key.length ≤ 1000) (hvl : val.length ≤ 1000) :
    Calls Try.prog 36 #[.pointer (some ⟨b, 0, none⟩), kv, vv] w fun e w' => e = .returned (.tuple #[]) ∧ St w0 w' b (putM M key val true) ∧ TK StT w w' := by
  have hf := h.fit hm
  have hkv := h.kv
  obtain ⟨⟨s, rfl, h2, h3, h4, h5, h6⟩, -⟩ := h
  have hf' : Fit (abs s) := by rw [h3]; exact hf
  refine (set_c h2 hk hv hf'.small (le_big (by omega)) (le_big (by omega))).mono ?_
  rintro e w' ⟨rfl, s', hM⟩
  have hl := Live.moved h4 h5 h6 hM
  rw [h3] at hl
  exact ⟨rfl, ⟨by simpa [doM] using hl, kv_put hkv hkl hvl⟩, hM.tk h2⟩
theorem St.delete {w0 w : World} {b : Nat} {M : List KV} {kv : Value} {key : BS} (h : St w0 w b M) (hm : M.length ≤ 10000) (hk : BV w kv key) (hkl : key.length ≤ 1000) :
    Calls Try.prog 46 #[.pointer (some ⟨b, 0, none⟩), kv] w fun e w' => e = .returned (.tuple #[]) ∧ St w0 w' b (putM M key [] false) ∧ TK StT w w' := by
  have hf := h.fit hm
  have hkv := h.kv
  obtain ⟨⟨s, rfl, h2, h3, h4, h5, h6⟩, -⟩ := h
  have hf' : Fit (abs s) := by rw [h3]; exact hf
  refine (delete_c h2 hk hf'.small (le_big (by omega))).mono ?_
  rintro e w' ⟨rfl, s', hM⟩
  have hl := Live.moved h4 h5 h6 hM
  rw [h3] at hl
  exact ⟨rfl, ⟨by simpa [doM] using hl, kv_put hkv hkl (by simp)⟩, hM.tk h2⟩

/-- What Get answers, by what is found. -/
def GotPost (w : World) (x : Option BS) (e : Ending) (w' : World) : Prop :=
  ∃ a c, e = .returned (.tuple #[.slice a (x.getD []).length c, .bool x.isSome]) ∧ w'.ownsRow w.heap.size 5 1 (.slice a (x.getD []).length c) (x.getD []).length (bcells (x.getD [])) ∧ Ext w w'

theorem St.get {w0 w : World} {b : Nat} {M : List KV} {kv : Value} {key : BS} (h : St w0 w b M) (hm : M.length ≤ 10000) (hk : BV w kv key) :
    Calls Try.prog 37 #[.pointer (some ⟨b, 0, none⟩), kv] w (GotPost w (look M key)) := by
  refine (lget h.live hk (h.fit hm)).mono ?_
  rintro e w' ⟨v', rfl, ho, hE⟩
  obtain ⟨a, c, rfl⟩ := owns_slice ho
  rw [getM_eq h.so] at ho
  exact ⟨a, c, by rw [hasM_eq h.so, getM_eq h.so], ho, hE⟩

theorem St.keys {w0 w : World} {b : Nat} {M : List KV} {pv : Value} {p : BS} (h : St w0 w b M) (hm : M.length ≤ 10000) (hp : BV w pv p) :
    Calls Try.prog 30 #[.pointer (some ⟨b, 0, none⟩), pv] w (KeysPost w ((sub M p).map Prod.fst)) := by
  have := lkeys h.live hp (h.fit hm)
  rwa [keysM_sub h.so] at this

end Go.Proofs.Ytaidgkdebocenaa
