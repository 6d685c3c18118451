/- jointurelaw05.StoreStays answers true, and turns nothing that was there.
   No conditions but that the arguments lie in memory as deeds. -/
import Derived.Test.YtaidgkdebocenaaAfter
import Derived.Test.YtaidgkdebocenaaRolls
namespace Go.Proofs.Ytaidgkdebocenaa
open Go Go.RowKit

/-- Two stores side by side: a deed on one leaves the other. -/
theorem Moved.other {w w' : World} {s s' t : SG} {a : AS} (hs : SRep w s) (ht : SRep w t) (hd : ∀ k, Foot t k → ¬ Foot s k) (hm : Moved w s a w' s') : SRep w' t ∧ ∀ k, Foot t k → ¬ Foot s' k :=
  ⟨ht.keeps hm.keeps hd hs.nb, fun k hk hk' => (hm.foot k hk').elim (hd k hk) fun c => by have := ht.lt hk; omega⟩

/-- The same for a deed on a store and on the document's. -/
theorem Both.other {w w' : World} {s s' t : SG} {m m' : RG} {a : AS} {r : RS} (hs : SRep w s) (hm : RRep w m) (ht : SRep w t) (hd : ∀ k, Foot t k → ¬ Foot s k) (hB : Both w s m a r w' s' m') : SRep w' t ∧ ∀ k, Foot t k → ¬ Foot s' k := by
  refine ⟨ht.keeps hB.keeps (fun k hk c => c.elim (hd k hk) fun c => ?_) (fun k c cc fr hc => ?_), fun k hk hk' => (hB.fs k hk').elim (hd k hk) fun c => by have := ht.lt hk; omega⟩
  · obtain ⟨c1, t1, h1, ht1⟩ := ht.typed hk
    obtain ⟨c2, t2, h2, ht2⟩ := hm.rtyped c
    refine typed_ne h1 h2 ?_
    rcases ht1 with rfl | rfl | rfl | rfl <;> rcases ht2 with rfl | rfl <;> decide
  · rcases c with c | c
    · exact hs.nb k c cc fr hc
    · obtain ⟨c2, t2, h2, ht2⟩ := hm.rtyped c
      refine typed_ne hc h2 ?_
      rcases ht2 with rfl | rfl <;> decide

/-- A store within a call, and what is known of it. -/
structure Has (w0 w : World) (b n : Nat) (s : SG) : Prop where
  rs : SRep w s
  hb : s.b = b
  bnd : Bnd n (abs s)
  new : ∀ k, Foot s k → w0.heap.size ≤ k

theorem Inv.has {w0 w : World} {bs bm n : Nat} {s : SG} {m : RG} (h : Inv w0 w bs bm n s m) : Has w0 w bs n s := ⟨h.rs, h.hbs, h.bnd, h.fs⟩
theorem Has.ext {w0 w w' : World} {b n : Nat} {s : SG} (h : Has w0 w b n s) (hE : Ext w w') : Has w0 w' b n s := ⟨h.rs.ext hE, h.hb, h.bnd, h.new⟩

/-- One deed on a store, beside a document's store of nothing. -/
theorem doesN {w0 w : World} {b bm n : Nat} {s : SG} {d : UInt8} {kv vv : Value} {key val : BS} (hE : Ext w0 w) (h : Has w0 w b n s) (hm : RRep w (rnew bm)) (hbm : w0.heap.size ≤ bm) (hn : n ≤ 1000) (hk : BV w kv key) (hv : BV w vv val) (hkl : key.length ≤ 100) (hvl : val.length ≤ 100) :
    Calls Try.prog 28 #[.pointer (some ⟨b, 0, none⟩), .pointer (some ⟨bm, 0, none⟩), .agg #[.int .u8 d.toNat, kv, vv]] w fun e w' => (∃ x, e = .returned (.bool x)) ∧ ∃ s', Has w0 w' b (n + 1) s' ∧ abs s' = stepA d.toNat key val (abs s) ∧ Ext w0 w' ∧
      (∀ t, SRep w t → (∀ k, Foot t k → ¬ Foot s k) → SRep w' t ∧ ∀ k, Foot t k → ¬ Foot s' k) := by
  have hf := h.bnd.fit hn
  have := does5_c (d := d) h.rs hm hk hv hf List.Pairwise.nil (Nat.zero_le _) (by simp [rabs, rnew, big_eq]) (le_big (by omega)) (le_big (by omega))
  rw [h.hb] at this
  refine this.mono ?_
  rintro e w' ⟨rfl, s', m', hB⟩
  refine ⟨⟨_, rfl⟩, s', ⟨hB.rs, hB.bs.trans h.hb, by rw [hB.as_]; exact h.bnd.step hkl hvl _, fun k hk => (hB.fs k hk).elim (h.new k) (Nat.le_trans hE.size)⟩, hB.as_, ?_, fun t ht hd => Both.other h.rs hm ht hd hB⟩
  refine hE.trans' hB.keeps fun k hk c => c.elim (fun c => absurd (h.new k c) (by omega)) fun c => ?_
  rcases c with c | c
  · simp only [rnew] at c; omega
  · simp [rnew, Value.ownBlock] at c

end Go.Proofs.Ytaidgkdebocenaa
