/- A store in memory, and where a key is in it: (*Store).find.
   Conditions: the store lies in memory as SRep says; fewer than 2^40 pairs. -/
import Derived.Test.YtaidgkdebocenaaSearch
namespace Go.Proofs.Ytaidgkdebocenaa
open Go Go.RowKit

/-- A slice of bytes that is the program's own row. -/
def OB (w : World) (v : Value) (xs : BS) : Prop := w.ownsRow 0 5 1 v xs.length (bcells xs)

theorem OB.bv {w : World} {v : Value} {xs : BS} (h : OB w v xs) : BV w v xs := BV.of_owns h
theorem OB.of_owns {w : World} {base : Nat} {v : Value} {xs : BS} (h : w.ownsRow base 5 1 v xs.length (bcells xs)) : OB w v xs := by
  refine ⟨h.1, ?_⟩
  rcases h.2 with h2 | ⟨g, cap, cur, h1, h3, h4⟩
  · exact .inl h2
  · exact .inr ⟨g, cap, cur, h1, Nat.zero_le _, h4⟩
theorem OB.typed {w : World} {v : Value} {xs : BS} (h : OB w v xs) {g : Nat} (hg : v.ownBlock = some g) : ∃ cur, w.heap[g]? = some (.cells cur 5 (0, 0)) := by
  rcases h.2 with ⟨rfl, -⟩ | ⟨g', cap, cur, rfl, -, h3, -⟩
  · simp [Value.ownBlock] at hg
  · obtain rfl : g' = g := by simpa [Value.ownBlock] using hg
    exact ⟨cur, h3⟩
/-- No block of S holds bytes. -/
def NB (w : World) (S : Nat → Prop) : Prop := ∀ k, S k → ∀ c fr, w.heap[k]? ≠ some (.cells c 5 fr)
theorem OB.keeps {S : Nat → Prop} {w w' : World} {v : Value} {xs : BS} (h : OB w v xs) (hk : Keeps S w w') (hS : NB w S) : OB w' v xs :=
  hk.ownsRow h fun g hg c => by obtain ⟨cur, hc⟩ := h.typed hg; exact hS g c _ _ hc
theorem OB.ext {w w' : World} {v : Value} {xs : BS} (h : OB w v xs) (hk : Ext w w') : OB w' v xs := Keeps.ownsRow hk h fun _ _ c => c
theorem OB.nil (w : World) : OB w (.slice none 0 0) [] := World.ownsRow_nil _ _ _ _

structure Ent where
  kv : Value
  vv : Value
  key : BS
  val : BS
structure Und where
  kv : Value
  vv : Value
  key : BS
  val : BS
  was : Bool

def Ent.cells (e : Ent) : List Value := [e.kv, e.vv]
def Und.cells (u : Und) : List Value := [u.kv, u.vv, .bool u.was]
def ecells (l : List Ent) : List Value := l.flatMap Ent.cells
def ucells (l : List Und) : List Value := l.flatMap Und.cells
def mcells (l : List Nat) : List Value := l.map fun (n : Nat) => .int .i64 (n : Int)

def Sorted (l : List Ent) : Prop := l.Pairwise fun a b => lt a.key b.key = true

structure SG where
  b : Nat
  lv : Value
  gv : Value
  mv : Value
  L : List Ent
  log : List Und
  marks : List Nat

structure SRep (w : World) (s : SG) : Prop where
  hs : w.heap[s.b]? = some (.cells #[s.lv, s.gv, s.mv] 153 (0, 0))
  hl : w.ownsRow 0 161 2 s.lv s.L.length (ecells s.L)
  hg : w.ownsRow 0 167 3 s.gv s.log.length (ucells s.log)
  hm : w.ownsRow 0 3 1 s.mv s.marks.length (mcells s.marks)
  he : ∀ e ∈ s.L, OB w e.kv e.key ∧ OB w e.vv e.val
  hu : ∀ u ∈ s.log, OB w u.kv u.key ∧ OB w u.vv u.val
  so : Sorted s.L

/-- The blocks that a store's deeds may write. -/
def Foot (s : SG) (k : Nat) : Prop := k = s.b ∨ s.lv.ownBlock = some k ∨ s.gv.ownBlock = some k ∨ s.mv.ownBlock = some k

theorem owns_typed {w : World} {base : Nat} {e : TypeId} {size : Nat} {v : Value} {n : Nat} {xs : List Value} (h : w.ownsRow base e size v n xs) {g : Nat} (hg : v.ownBlock = some g) :
    ∃ cur, w.heap[g]? = some (.cells cur e (0, 0)) := by
  rcases h.2 with ⟨rfl, -⟩ | ⟨g', cap, cur, rfl, -, h3, -⟩
  · simp [Value.ownBlock] at hg
  · obtain rfl : g' = g := by simpa [Value.ownBlock] using hg
    exact ⟨cur, h3⟩

theorem SRep.typed {w : World} {s : SG} (h : SRep w s) {k : Nat} (hk : Foot s k) :
    ∃ c t, w.heap[k]? = some (.cells c t (0, 0)) ∧ (t = 153 ∨ t = 161 ∨ t = 167 ∨ t = 3) := by
  rcases hk with rfl | hk | hk | hk
  · exact ⟨_, _, h.hs, .inl rfl⟩
  · obtain ⟨c, hc⟩ := owns_typed h.hl hk; exact ⟨c, _, hc, .inr (.inl rfl)⟩
  · obtain ⟨c, hc⟩ := owns_typed h.hg hk; exact ⟨c, _, hc, .inr (.inr (.inl rfl))⟩
  · obtain ⟨c, hc⟩ := owns_typed h.hm hk; exact ⟨c, _, hc, .inr (.inr (.inr rfl))⟩

theorem SRep.lt {w : World} {s : SG} (h : SRep w s) {k : Nat} (hk : Foot s k) : k < w.heap.size := by
  obtain ⟨c, t, hc, -⟩ := h.typed hk
  exact lt_of_heap hc

theorem SRep.nb {w : World} {s : SG} (h : SRep w s) : NB w (Foot s) := by
  intro k hk c fr hc
  obtain ⟨c', t, hc', ht⟩ := h.typed hk
  rw [hc] at hc'
  simp only [Option.some.injEq, Obj.cells.injEq] at hc'
  obtain ⟨-, rfl, -⟩ := hc'
  simp at ht

theorem SRep.keeps {S : Nat → Prop} {w w' : World} {s : SG} (h : SRep w s) (hk : Keeps S w w') (hd : ∀ k, Foot s k → ¬ S k) (hb : NB w S) : SRep w' s where
  hs := hk.heap h.hs (hd _ (.inl rfl))
  hl := hk.ownsRow h.hl fun g hg => hd g (.inr (.inl hg))
  hg := hk.ownsRow h.hg fun g hg => hd g (.inr (.inr (.inl hg)))
  hm := hk.ownsRow h.hm fun g hg => hd g (.inr (.inr (.inr hg)))
  he := fun e he => ⟨(h.he e he).1.keeps hk hb, (h.he e he).2.keeps hk hb⟩
  hu := fun e he => ⟨(h.hu e he).1.keeps hk hb, (h.hu e he).2.keeps hk hb⟩
  so := h.so

theorem SRep.ext {w w' : World} {s : SG} (h : SRep w s) (hk : Ext w w') : SRep w' s := h.keeps hk (fun _ _ c => c) fun _ c => c.elim

/-! ### The place of a key -/

def pos : List Ent → BS → Nat
  | [], _ => 0
  | e :: l, k => if lt e.key k = true then pos l k + 1 else 0

def has (l : List Ent) (k : BS) : Bool := (l[pos l k]?.map fun e => e.key == k).getD false

theorem pos_le : ∀ (l : List Ent) (k : BS), pos l k ≤ l.length
  | [], _ => Nat.le_refl _
  | e :: l, k => by
    unfold pos
    split
    · have := pos_le l k; simp; omega
    · simp

theorem pos_spec : ∀ (l : List Ent) (k : BS), Sorted l → ∀ i (h : i < l.length), lt (l[i]).key k = decide (i < pos l k)
  | [], _, _, i, h => by simp at h
  | e :: l, k, hs, i, h => by
    have hs' := List.pairwise_cons.1 hs
    unfold pos
    by_cases hk : lt e.key k = true
    · rw [if_pos hk]
      cases i with
      | zero => simp [hk]
      | succ i =>
        have := pos_spec l k hs'.2 i (by simpa using h)
        simp only [List.getElem_cons_succ, this]
        simp
    · rw [if_neg hk]
      cases i with
      | zero => simpa using hk
      | succ i =>
        have h1 : l[i]'(by simpa using h) ∈ l := List.getElem_mem _
        have := hs'.1 _ h1
        simp only [List.getElem_cons_succ]
        have hk' : lt e.key k = false := by simpa using hk
        by_cases hc : lt (l[i]'(by simpa using h)).key k = true
        · exact absurd (lt_trans _ _ _ this hc) hk
        · simpa using hc

theorem ecells_length (l : List Ent) : (ecells l).length = l.length * 2 := by
  induction l with
  | nil => rfl
  | cons e l ih => simp only [ecells, List.flatMap_cons, List.length_append] at *; rw [ih]; simp [Ent.cells]; omega

theorem ecells_get : ∀ (l : List Ent) (i : Nat) (h : i < l.length), (ecells l)[2 * i]? = some (l[i]).kv ∧ (ecells l)[2 * i + 1]? = some (l[i]).vv
  | [], i, h => by simp at h
  | e :: l, 0, _ => by simp [ecells, Ent.cells]
  | e :: l, i + 1, h => by
    have := ecells_get l i (by simpa using h)
    simp only [ecells, List.flatMap_cons, Ent.cells] at *
    rw [show 2 * (i + 1) = 2 * i + 1 + 1 by omega]
    simpa using this

/-- The cells of a pair. -/
theorem SRep.pairCells {w : World} {s : SG} (h : SRep w s) {i : Nat} (hi : i < s.L.length) :
    ∃ g cap, s.lv = .slice (some ⟨g, 0, none⟩) s.L.length cap ∧ s.L.length ≤ cap ∧ cap ≤ maxLen ∧ w.cell? ⟨g, 2 * i, none⟩ = some (s.L[i]).kv ∧ w.cell? ⟨g, 2 * i + 1, none⟩ = some (s.L[i]).vv ∧ w.frozen? ⟨g, 2 * i, none⟩ = false ∧ w.frozen? ⟨g, 2 * i + 1, none⟩ = false := by
  rcases h.hl.2 with ⟨-, h0⟩ | ⟨g, cap, cur, hv, -, hg, hn, hc, hsz, ht⟩
  · omega
  · refine ⟨g, cap, hv, hn, hc, ?_⟩
    have he := ecells_get s.L i hi
    rw [← ht] at he
    rw [List.getElem?_take_of_lt (by omega), List.getElem?_take_of_lt (by omega)] at he
    rw [cell_of_row w g _ cur _ _ hg, cell_of_row w g _ cur _ _ hg, frozen_of_row w g _ cur _ hg, frozen_of_row w g _ cur _ hg]
    simpa using he

theorem SRep.lval {w : World} {s : SG} (h : SRep w s) : ∃ ao cap, s.lv = .slice ao s.L.length cap ∧ s.L.length ≤ cap ∧ cap ≤ maxLen := by
  rcases h.hl.2 with ⟨hv, h0⟩ | ⟨g, cap, cur, hv, -, hg, hn, hc, hsz, ht⟩
  · exact ⟨none, 0, by rw [hv, h0], by omega, by simp [maxLen]⟩
  · exact ⟨_, cap, hv, hn, hc⟩

theorem SRep.scells {w : World} {s : SG} (h : SRep w s) : w.cell? ⟨s.b, 0, none⟩ = some s.lv ∧ w.cell? ⟨s.b, 1, none⟩ = some s.gv ∧ w.cell? ⟨s.b, 2, none⟩ = some s.mv ∧
    w.frozen? ⟨s.b, 0, none⟩ = false ∧ w.frozen? ⟨s.b, 1, none⟩ = false ∧ w.frozen? ⟨s.b, 2, none⟩ = false := by
  simp [cell_of_row w _ _ _ _ _ h.hs, frozen_of_row w _ _ _ _ h.hs]

/-! ### find -/

theorem cmpI_geq (a b : BS) : decide ((0 : Int) ≤ cmpI a b) = !(lt a b) := by
  unfold cmpI
  cases h : lt a b <;> simp
  split <;> simp

set_option maxRecDepth 100000 in
set_option maxHeartbeats 400000 in
theorem findC_c {w : World} {s : SG} {kv : Value} {key : BS} {p q : Nat} (h : SRep w s) (hk : BV w kv key) (hp : w.cell? ⟨p, 0, none⟩ = some (.pointer (some ⟨s.b, 0, none⟩))) (hq : w.cell? ⟨q, 0, none⟩ = some kv)
    {i : Nat} (hi : i < s.L.length) :
    Calls Try.prog 151 #[.int .i64 i, .pointer (some ⟨p, 0, none⟩), .pointer (some ⟨q, 0, none⟩)] w (Quiet1 (.bool (!(lt (s.L[i]).key key))) w) := by
  obtain ⟨g, cap, hv, hn, hc, c1, -, -, -⟩ := h.pairCells hi
  obtain ⟨s0, -, -, -, -, -⟩ := h.scells
  have hkv := (h.he _ (List.getElem_mem hi)).1.bv
  rw [hv] at s0
  have hx := hid (fun m => bcompare_c (hkv.ext (Ext.of_drewN w m)) (hk.ext (Ext.of_drewN w m)))
  obtain ⟨x, hxe⟩ : ∃ x, x = (s.L[i]).kv := ⟨_, rfl⟩
  obtain ⟨kk, hkk⟩ : ∃ kk, kk = (s.L[i]).key := ⟨_, rfl⟩
  rw [← hxe, ← hkk] at hx
  rw [← hxe] at c1
  rw [← hkk]
  have hi' : (i : Int) < (s.L.length : Int) := by omega
  have hfin := hid (cmpI_geq kk key)
  unfold maxLen at hc
  clear hv hkv hxe hkk h hk
  have c1' : w.cell? ⟨g, i * 2, none⟩ = some x := by rw [Nat.mul_comm]; exact c1
  clear c1
  go_enter Try.func151, Try.ntmps151
  go_wp2
  go_quiet ((go_at_call 152; exact Calls.quiet_of_same ((hx.out _).mono fun e w' h => ⟨h.1, h.2.symm⟩)))
  go_wp2
  go_ret
  exact ⟨by rw [← hfin.out]; rfl, _, rfl⟩

theorem SRep.drewN {w : World} {s : SG} (h : SRep w s) (m : Nat) : SRep (w.drewN m) s := h.ext (Ext.of_drewN w m)

set_option maxRecDepth 100000 in
set_option maxHeartbeats 600000 in
theorem find_c {w : World} {s : SG} {kv : Value} {key : BS} (h : SRep w s) (hk : BV w kv key) (hb : s.L.length ≤ big) :
    Calls Try.prog 100 #[.pointer (some ⟨s.b, 0, none⟩), kv] w fun e w' => e = .returned (.tuple #[.int .i64 (pos s.L key), .bool (has s.L key)]) ∧ Ext w w' := by
  obtain ⟨ka, kcap, rfl, -, -⟩ := hk.val
  obtain ⟨W, hW⟩ : ∃ W, W = (w.alloc (.cells #[.pointer (some ⟨s.b, 0, none⟩)] 25)).alloc (.cells #[.slice ka key.length kcap] 33) := ⟨_, rfl⟩
  have hE : Ext w W := by rw [hW]; exact ((Ext.refl w).alloc _).alloc _
  have hW' := h.ext hE
  have hkW := hk.ext hE
  have hp : W.cell? ⟨w.heap.size, 0, none⟩ = some (.pointer (some ⟨s.b, 0, none⟩)) := by rw [hW]; simp
  have hq : W.cell? ⟨w.heap.size + 1, 0, none⟩ = some (.slice ka key.length kcap) := by rw [hW]; simp
  have hcall := hid (fun (i m : Nat) (hi : i < s.L.length) =>
    (findC_c (hW'.drewN m) (hkW.ext (Ext.of_drewN W m)) (p := w.heap.size) (q := w.heap.size + 1) (by simpa using hp) (by simpa using hq) hi))
  have hsr := hid (search_c (w := W) (n := s.L.length) (r := pos s.L key) #[.pointer (some ⟨w.heap.size, 0, none⟩), .pointer (some ⟨w.heap.size + 1, 0, none⟩)] hb (pos_le _ _) (fun i m hi => by
    have := hcall.out i m hi
    rw [pos_spec s.L key h.so i hi] at this
    have e : (!decide (i < pos s.L key)) = decide (pos s.L key ≤ i) := by by_cases c : i < pos s.L key <;> simp [c] <;> omega
    rw [e] at this
    exact this))
  obtain ⟨ao, cap, hv, hn, hc⟩ := h.lval
  unfold maxLen at hc
  have hpl := pos_le s.L key
  by_cases hlt : pos s.L key < s.L.length
  · obtain ⟨g, cap', hv', hn', hc', c1, -, -, -⟩ := hW'.pairCells hlt
    obtain ⟨s0, -, -, -, -, -⟩ := hW'.scells
    have hkv := (hW'.he _ (List.getElem_mem hlt)).1.bv
    obtain ⟨sw, -, -, -, -, -⟩ := h.scells
    have hsb := lt_of_heap h.hs
    rw [hv'] at s0 sw
    have hx := hid (fun m => bequal_c (hkv.ext (Ext.of_drewN W m)) (hkW.ext (Ext.of_drewN W m)))
    have hfin : Hid (has s.L key = ((s.L[pos s.L key]).key == key)) := hid (by simp [has, hlt])
    obtain ⟨x, hxe⟩ : ∃ x, x = (s.L[pos s.L key]).kv := ⟨_, rfl⟩
    obtain ⟨kk, hkk⟩ : ∃ kk, kk = (s.L[pos s.L key]).key := ⟨_, rfl⟩
    rw [← hxe, ← hkk] at hx
    rw [← hxe] at c1
    rw [← hkk] at hfin
    obtain ⟨i, hi⟩ : ∃ i, i = pos s.L key := ⟨_, rfl⟩
    rw [← hi] at c1 hlt hsr hpl ⊢
    have c1' : W.cell? ⟨g, i * 2, none⟩ = some x := by rw [Nat.mul_comm]; exact c1
    unfold maxLen at hc'
    have HE := hid hE
    have HW := hid hW
    have hi' : (i : Int) < (s.L.length : Int) := by omega
    clear c1 hkv hxe hkk h hk hv' hv hi hW' hkW hcall hE hW hb
    go_enter Try.func100, Try.ntmps100
    go_wp2_with fail
    rw [← HW.out]
    refine hsr.out.mono ?_
    rintro e W1 ⟨rfl, m, hW1⟩
    have s0' : W1.cell? ⟨s.b, 0, none⟩ = some (.slice (some ⟨g, 0, none⟩) s.L.length cap') := by rw [hW1]; exact s0
    have c1'' : W1.cell? ⟨g, i * 2, none⟩ = some x := by rw [hW1]; exact c1'
    have hp' : W1.cell? ⟨w.heap.size, 0, none⟩ = some (.pointer (some ⟨s.b, 0, none⟩)) := by rw [hW1]; exact hp
    have hq' : W1.cell? ⟨w.heap.size + 1, 0, none⟩ = some (.slice ka key.length kcap) := by rw [hW1]; exact hq
    have hx' := hid (fun n => by have := hx.out (m + n); rw [← World.drewN_drewN, ← hW1] at this; exact this)
    have HE1 : Hid (Ext w W1) := hid (by rw [hW1]; exact HE.out.trans (Ext.of_drewN _ _))
    clear hp hq c1' s0 sw hx hW1 HE hsr HW hsb
    go_wp2_with fail
    go_quiet ((go_at_call 105; exact Calls.quiet_of_same ((hx'.out _).mono fun e w' h => ⟨h.1, h.2.symm⟩)))
    go_wp2
    go_ret2
    refine ⟨?_, HE1.out.trans (Ext.of_drewN _ _)⟩
    rw [hfin.out]
    rfl
  · have hi : pos s.L key = s.L.length := by omega
    have hfin : Hid (has s.L key = false) := hid (by simp [has, hi])
    obtain ⟨s0, -, -, -, -, -⟩ := hW'.scells
    obtain ⟨sw, -, -, -, -, -⟩ := h.scells
    have hsb := lt_of_heap h.hs
    rw [hv] at s0 sw
    rw [hi] at hsr ⊢
    have HE := hid hE
    have HW := hid hW
    have hd : decide (s.L.length < s.L.length) = false := by simp
    clear h hk hv hi hW' hkW hcall hE hW hb hlt hpl
    go_enter Try.func100, Try.ntmps100
    go_wp2_with fail
    rw [← HW.out]
    refine hsr.out.mono ?_
    rintro e W1 ⟨rfl, m, hW1⟩
    have s0' : W1.cell? ⟨s.b, 0, none⟩ = some (.slice ao s.L.length cap) := by rw [hW1]; exact s0
    have hp' : W1.cell? ⟨w.heap.size, 0, none⟩ = some (.pointer (some ⟨s.b, 0, none⟩)) := by rw [hW1]; exact hp
    have HE1 : Hid (Ext w W1) := hid (by rw [hW1]; exact HE.out.trans (Ext.of_drewN _ _))
    clear hp hq s0 sw hW1 HE hsr HW hsb
    go_wp2_with fail
    go_quiet (fail)
    go_wp2
    go_ret2
    refine ⟨?_, HE1.out.trans (Ext.of_drewN _ _)⟩
    rw [hfin.out]
    rfl

end Go.Proofs.Ytaidgkdebocenaa
