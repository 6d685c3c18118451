/- The contract of (*Store).put: a pair is set, or none of its key is there any more; what was there is told.
   Conditions: the store lies in memory as SRep says; the pair's slices are the program's own; fewer than 2^40 pairs. -/
import Derived.Test.YtaidgkdebocenaaPairs
namespace Go.Proofs.Ytaidgkdebocenaa
open Go Go.RowKit

def putL (L : List Ent) (e : Ent) (is : Bool) : List Ent :=
  if has L e.key = true then (if is = true then L.take (pos L e.key) ++ e :: L.drop (pos L e.key + 1) else L.take (pos L e.key) ++ L.drop (pos L e.key + 1))
  else if is = true then L.take (pos L e.key) ++ e :: L.drop (pos L e.key) else L

def oldV (L : List Ent) (k : BS) : Value := if has L k = true then ((L[pos L k]?).map Ent.vv).getD (.slice none 0 0) else .slice none 0 0
def oldB (L : List Ent) (k : BS) : BS := if has L k = true then ((L[pos L k]?).map Ent.val).getD [] else []

theorem ecells_append (a b : List Ent) : ecells (a ++ b) = ecells a ++ ecells b := by simp [ecells]
theorem ecells_cons (e : Ent) (b : List Ent) : ecells (e :: b) = e.cells ++ ecells b := by simp [ecells]

theorem ecells_take : ∀ (l : List Ent) (i : Nat), (ecells l).take (i * 2) = ecells (l.take i)
  | [], i => by simp [ecells]
  | e :: l, 0 => by simp [ecells]
  | e :: l, i + 1 => by
    rw [List.take_succ_cons, ecells_cons, ecells_cons, ← ecells_take l i]
    simp [Ent.cells, show (i + 1) * 2 = i * 2 + 1 + 1 by omega]

theorem ecells_drop : ∀ (l : List Ent) (i : Nat), (ecells l).drop (i * 2) = ecells (l.drop i)
  | [], i => by simp [ecells]
  | e :: l, 0 => by simp
  | e :: l, i + 1 => by
    rw [List.drop_succ_cons, ecells_cons, ← ecells_drop l i]
    simp [Ent.cells, show (i + 1) * 2 = i * 2 + 1 + 1 by omega]

theorem OB.one {w : World} {v : Value} {xs : BS} (h : OB w v xs) : v.oneCell' = true := by
  rcases h.2 with ⟨rfl, -⟩ | ⟨g, cap, cur, rfl, -⟩ <;> rfl

theorem SRep.one {w : World} {s : SG} (h : SRep w s) : ∀ u ∈ ecells s.L, u.oneCell' = true := by
  intro u hu
  simp only [ecells, List.mem_flatMap] at hu
  obtain ⟨e, he, hu⟩ := hu
  have := h.he e he
  simp only [Ent.cells, List.mem_cons, List.not_mem_nil, or_false] at hu
  rcases hu with rfl | rfl
  · exact this.1.one
  · exact this.2.one

/-! ### What is put stays in order -/

theorem pos_of {L : List Ent} {k : BS} (hs : Sorted L) {i : Nat} (h : i < L.length) (hi : pos L k ≤ i) : lt (L[i]).key k = false := by
  rw [pos_spec L k hs i h]; simp; omega
theorem pos_lt {L : List Ent} {k : BS} (hs : Sorted L) {i : Nat} (h : i < L.length) (hi : i < pos L k) : lt (L[i]).key k = true := by
  rw [pos_spec L k hs i h]; simp; omega

theorem has_lt {L : List Ent} {k : BS} (h : has L k = true) : pos L k < L.length := by
  unfold has at h
  rcases Nat.lt_or_ge (pos L k) L.length with h' | h'
  · exact h'
  · simp [List.getElem?_eq_none h'] at h
theorem has_key {L : List Ent} {k : BS} (h : has L k = true) : (L[pos L k]'(has_lt h)).key = k := by
  have hl := has_lt h
  unfold has at h
  simpa [hl] using h

theorem Sorted.take {L : List Ent} (h : Sorted L) (i : Nat) : Sorted (L.take i) := List.Pairwise.sublist (List.take_sublist i L) h
theorem Sorted.drop {L : List Ent} (h : Sorted L) (i : Nat) : Sorted (L.drop i) := List.Pairwise.sublist (List.drop_sublist i L) h

theorem sorted_between {a b : List Ent} {e : Ent} (ha : Sorted a) (hb : Sorted b) (h1 : ∀ x ∈ a, lt x.key e.key = true) (h2 : ∀ x ∈ b, lt e.key x.key = true) : Sorted (a ++ e :: b) := by
  refine List.pairwise_append.2 ⟨ha, List.pairwise_cons.2 ⟨h2, hb⟩, fun x hx y hy => ?_⟩
  rcases List.mem_cons.1 hy with rfl | hy
  · exact h1 x hx
  · exact lt_trans _ _ _ (h1 x hx) (h2 y hy)

theorem mem_take_pos {L : List Ent} {k : BS} (hs : Sorted L) : ∀ x ∈ L.take (pos L k), lt x.key k = true := by
  intro x hx
  obtain ⟨i, hi, rfl⟩ := List.getElem_of_mem hx
  simp only [List.length_take] at hi
  rw [List.getElem_take]
  exact pos_lt hs (by omega) (by omega)

theorem mem_drop_pos {L : List Ent} {k : BS} (hs : Sorted L) (h : has L k = true) : ∀ x ∈ L.drop (pos L k + 1), lt k x.key = true := by
  intro x hx
  obtain ⟨i, hi, rfl⟩ := List.getElem_of_mem hx
  rw [List.getElem_drop]
  simp only [List.length_drop] at hi
  have := List.pairwise_iff_getElem.1 hs (pos L k) (pos L k + 1 + i) (has_lt h) (by omega) (by omega)
  rw [has_key h] at this
  exact this

theorem mem_drop_not {L : List Ent} {k : BS} (hs : Sorted L) (h : has L k = false) : ∀ x ∈ L.drop (pos L k), lt k x.key = true := by
  intro x hx
  obtain ⟨i, hi, rfl⟩ := List.getElem_of_mem hx
  rw [List.getElem_drop]
  simp only [List.length_drop] at hi
  have hl : pos L k < L.length := by omega
  have hne : (L[pos L k]).key ≠ k := by
    unfold has at h
    simpa [hl] using h
  have h0 : lt k (L[pos L k]).key = true := lt_of_not_of_ne (pos_of hs hl (Nat.le_refl _)) hne
  by_cases hi0 : i = 0
  · subst hi0; exact h0
  · have := List.pairwise_iff_getElem.1 hs (pos L k) (pos L k + i) hl (by omega) (by omega)
    exact lt_trans _ _ _ h0 this

theorem putL_sorted {L : List Ent} (e : Ent) (is : Bool) (hs : Sorted L) : Sorted (putL L e is) := by
  unfold putL
  by_cases h : has L e.key = true
  · rw [if_pos h]
    cases is with
    | true => exact sorted_between (hs.take _) (hs.drop _) (mem_take_pos hs) (mem_drop_pos hs h)
    | false =>
      simp only [Bool.false_eq_true, if_false]
      refine List.pairwise_append.2 ⟨hs.take _, hs.drop _, fun x hx y hy => ?_⟩
      exact lt_trans _ _ _ (mem_take_pos hs x hx) (mem_drop_pos hs h y hy)
  · rw [if_neg h]
    cases is with
    | true => exact sorted_between (hs.take _) (hs.drop _) (mem_take_pos hs) (mem_drop_not hs (by simpa using h))
    | false => exact hs

theorem putL_mem {L : List Ent} {e : Ent} {is : Bool} : ∀ x ∈ putL L e is, x ∈ L ∨ (x = e ∧ is = true) := by
  intro x hx
  unfold putL at hx
  split at hx
  · split at hx
    · rename_i h2
      rcases List.mem_append.1 hx with h | h
      · exact .inl (List.mem_of_mem_take h)
      · rcases List.mem_cons.1 h with h | h
        · exact .inr ⟨h, h2⟩
        · exact .inl (List.mem_of_mem_drop h)
    · rcases List.mem_append.1 hx with h | h
      · exact .inl (List.mem_of_mem_take h)
      · exact .inl (List.mem_of_mem_drop h)
  · split at hx
    · rename_i h2
      rcases List.mem_append.1 hx with h | h
      · exact .inl (List.mem_of_mem_take h)
      · rcases List.mem_cons.1 h with h | h
        · exact .inr ⟨h, h2⟩
        · exact .inl (List.mem_of_mem_drop h)
    · exact .inl hx

theorem putL_length (L : List Ent) (e : Ent) (is : Bool) : (putL L e is).length ≤ L.length + 1 := by
  unfold putL
  split <;> split <;> simp <;> omega

theorem InsPost.keeps {w : World} {v : Value} {n : Nat} {xs : List Value} {e : Ending} {w' : World} (h : InsPost w v n xs e w') : Keeps (fun k => v.ownBlock = some k) w w' := by
  obtain ⟨v', -, -, h, -⟩ := h
  exact h

/-! ### The store behind a deed on its pairs -/

/-- The blocks that put may write. -/
def LFoot (s : SG) (k : Nat) : Prop := k = s.b ∨ s.lv.ownBlock = some k

theorem LFoot.foot {s : SG} {k : Nat} (h : LFoot s k) : Foot s k := by
  rcases h with h | h
  · exact .inl h
  · exact .inr (.inl h)

theorem SRep.upd {w w' : World} {s : SG} {lv' : Value} {L' : List Ent} (h : SRep w s) (hk : Keeps (LFoot s) w w') (hs : w'.heap[s.b]? = some (.cells #[lv', s.gv, s.mv] 153 (0, 0)))
    (hl : w'.ownsRow 0 161 2 lv' L'.length (ecells L')) (he : ∀ e ∈ L', OB w' e.kv e.key ∧ OB w' e.vv e.val) (so : Sorted L') : SRep w' { s with lv := lv', L := L' } where
  hs := hs
  hl := hl
  hg := hk.ownsRow h.hg fun g hg c => by
    obtain ⟨c1, h1⟩ := owns_typed h.hg hg
    rcases c with rfl | c
    · rw [h.hs] at h1; simp at h1
    · obtain ⟨c2, h2⟩ := owns_typed h.hl c
      rw [h1] at h2; simp at h2
  hm := hk.ownsRow h.hm fun g hg c => by
    obtain ⟨c1, h1⟩ := owns_typed h.hm hg
    rcases c with rfl | c
    · rw [h.hs] at h1; simp at h1
    · obtain ⟨c2, h2⟩ := owns_typed h.hl c
      rw [h1] at h2; simp at h2
  he := he
  hu := fun e he => ⟨(h.hu e he).1.keeps hk fun k c => h.nb k c.foot, (h.hu e he).2.keeps hk fun k c => h.nb k c.foot⟩
  so := so

theorem SRep.b_ne {w : World} {s : SG} (h : SRep w s) : s.lv.ownBlock ≠ some s.b := by
  intro c
  obtain ⟨c2, h2⟩ := owns_typed h.hl c
  rw [h.hs] at h2; simp at h2

theorem SRep.keepsE {w w' : World} {s : SG} (h : SRep w s) (hk : Keeps (LFoot s) w w') : ∀ e ∈ s.L, OB w' e.kv e.key ∧ OB w' e.vv e.val :=
  fun e he => ⟨(h.he e he).1.keeps hk fun k c => h.nb k c.foot, (h.he e he).2.keeps hk fun k c => h.nb k c.foot⟩

theorem ecells_set : ∀ (L : List Ent) (i : Nat) (e : Ent), i < L.length → ((ecells L).set (i * 2) e.kv).set (i * 2 + 1) e.vv = ecells (L.take i ++ e :: L.drop (i + 1))
  | [], i, e, h => by simp at h
  | x :: L, 0, e, _ => by simp [ecells, Ent.cells]
  | x :: L, i + 1, e, h => by
    have ih := ecells_set L i e (by simpa using h)
    rw [List.take_succ_cons, List.drop_succ_cons, List.cons_append, ecells_cons, ecells_cons, ← ih]
    simp [Ent.cells, show (i + 1) * 2 = i * 2 + 1 + 1 by omega]

theorem heap_set {w : World} {g j : Nat} {e : TypeId} {ys : List Value} {u : Value} (h : w.heap[g]? = some (.cells ys.toArray e (0, 0))) : (w.setCell ⟨g, j, none⟩ u).heap[g]? = some (.cells (ys.set j u).toArray e (0, 0)) := by
  rw [heap_setCell_same w g j ys.toArray e u h]
  simp

theorem heap_ne {w : World} {k : Nat} {o : Obj} (h : w.heap[k]? = some o) {a : Addr} (u : Value) (hne : k ≠ a.block) : (w.setCell a u).heap[k]? = some o := by
  rw [Below.heap_setCell w a u k hne]; exact h

/-- What put leaves. -/
def PutPost (w : World) (s : SG) (e : Ent) (is : Bool) (x : Ending) (w' : World) : Prop :=
  ∃ lv', x = .returned (.agg #[e.kv, oldV s.L e.key, .bool (has s.L e.key)]) ∧ SRep w' { s with lv := lv', L := putL s.L e is } ∧ Keeps (LFoot s) w w' ∧
    (∀ k, lv'.ownBlock = some k → s.lv.ownBlock = some k ∨ w.heap.size ≤ k)

theorem infoU1 : (Try.prog.info? 167).map (·.size) = some 3 := by kernel_rfl

set_option maxRecDepth 100000 in
set_option maxHeartbeats 1000000 in
theorem put_set {w : World} {s : SG} {e : Ent} (h : SRep w s) (hk : OB w e.kv e.key) (hv : OB w e.vv e.val) (hb : s.L.length ≤ big) (hh : has s.L e.key = true) :
    Calls Try.prog 107 #[.pointer (some ⟨s.b, 0, none⟩), .agg #[e.kv, e.vv], .bool true] w (PutPost w s e true) := by
  obtain ⟨kv, vv, key, val⟩ := e
  dsimp only at hk hv hh ⊢
  have hE : Ext w ((w.alloc (.cells #[kv, vv] 161)).alloc (.cells #[.slice none 0 0, .slice none 0 0, .bool false] 167)) := ((Ext.refl w).alloc _).alloc _
  have hfind := find_c (h.ext hE) (hk.bv.ext hE) hb
  rw [hh] at hfind
  have hlt := has_lt hh
  have ho : Hid (oldV s.L key = (s.L[pos s.L key]'hlt).vv) := hid (by simp [oldV, hh, hlt])
  obtain ⟨i, hi⟩ : ∃ i, i = pos s.L key := ⟨_, rfl⟩
  have Hi := hid hi
  have hlt' : i < s.L.length := by rw [hi]; exact hlt
  have hofin : Hid (oldV s.L key = (s.L[i]'hlt').vv) := hid (by rw [ho.out]; simp [hi])
  rw [← hi] at hfind
  clear hi hlt ho
  obtain ⟨ka, kcap, hkv, -, -⟩ := hk.bv.val
  obtain ⟨va, vcap, hvv, -, -⟩ := hv.bv.val
  have hkv' := hid hkv
  have hvv' := hid hvv
  subst hkv hvv
  have HF := hid hfind
  have HE := hid hE
  have H := hid h
  have HK := hid hk
  have HV := hid hv
  have Hh := hid hh
  have hsb := lt_of_heap h.hs
  clear h hk hv hb hh hE hfind
  go_enter Try.func107, Try.ntmps107
  go_wp2_with fail
  refine HF.out.mono ?_
  rintro e w1 ⟨rfl, hE1⟩
  have HE1 : Hid (Ext w w1) := hid (HE.out.trans hE1)
  obtain ⟨g, cap, hlv, hn, hc, c1, c2, f1, f2⟩ := (H.out.ext HE1.out).pairCells hlt'
  obtain ⟨ov, hov⟩ : ∃ ov, ov = (s.L[i]'hlt').vv := ⟨_, rfl⟩
  rw [← hov] at hofin c2
  obtain ⟨oa, ocap, hov2, -, -⟩ := (H.out.he _ (List.getElem_mem hlt')).2.bv.val
  rw [← hov] at hov2
  obtain ⟨s0, -, -, fs, -, -⟩ := (H.out.ext HE1.out).scells
  have s0' := s0
  rw [hlv] at s0'
  have hE1x := hid hE1
  have p0 : w1.cell? ⟨w.heap.size, 0, none⟩ = some (.slice ka key.length kcap) := hE1.cell (by simp)
  have p1 : w1.cell? ⟨w.heap.size, 1, none⟩ = some (.slice va val.length vcap) := hE1.cell (by simp)
  have z1 := hE1.size
  simp at z1
  have hr := hE1.heap (k := w.heap.size + 1) (o := .cells #[.slice none 0 0, .slice none 0 0, .bool false] 167) (heap_alloc2_new w _ _)
  have r0 := fun j => cell_of_row w1 (w.heap.size + 1) j _ _ _ hr
  have rf := fun j => frozen_of_row w1 (w.heap.size + 1) j _ _ hr
  have r0a := r0 0
  have r0b := r0 1
  have r0c := r0 2
  have rfa := rf 0
  have rfb := rf 1
  have rfc := rf 2
  simp at r0a r0b r0c
  have c1' : w1.cell? ⟨g, i * 2, none⟩ = some (s.L[i]'hlt').kv := by rw [Nat.mul_comm]; exact c1
  have c2' : w1.cell? ⟨g, i * 2 + 1, none⟩ = some ov := by rw [Nat.mul_comm]; exact c2
  have f1' : w1.frozen? ⟨g, i * 2, none⟩ = false := by rw [Nat.mul_comm]; exact f1
  have f2' : w1.frozen? ⟨g, i * 2 + 1, none⟩ = false := by rw [Nat.mul_comm]; exact f2
  have hgl : g < w1.heap.size := World.block_lt_of_cell? _ _ c1
  have hsl : s.b < w1.heap.size := World.block_lt_of_cell? _ _ s0
  have hgb : ¬ g = s.b := by
    intro c; have := H.out.b_ne; rw [hlv] at this; simp [Value.ownBlock, c] at this
  have hi' : (i : Int) < (s.L.length : Int) := by omega
  unfold maxLen at hc
  have HLV := hid hlv
  have Hov2 := hid hov2
  have HOV := hid hov
  subst hov2
  have z2 : w.heap.size < w1.heap.size := by omega
  have z3 : w.heap.size + 1 < w1.heap.size := by omega
  clear r0 rf hr s0 c1 c2 f1 f2 hE1 hlv hov z1 HF HE hsb
  go_wp2_with fail
  obtain ⟨W2, hW2⟩ : ∃ W2, W2 = w1.alloc (.cells #[.slice ka key.length kcap, .slice none 0 0, .bool true] 167) := ⟨_, rfl⟩
  rw [← hW2]
  obtain ⟨N, hN⟩ : ∃ N, N = w1.heap.size := ⟨_, rfl⟩
  rw [← hN]
  have hE2 : Ext w1 W2 := by rw [hW2]; exact (Ext.refl w1).alloc _
  have hrN : W2.heap[N]? = some (.cells #[.slice ka key.length kcap, .slice none 0 0, .bool true] 167 (0, 0)) := by rw [hW2, hN]; exact heap_alloc_new w1 _
  have n0 := fun j => cell_of_row W2 N j _ _ _ hrN
  have nf := fun j => frozen_of_row W2 N j _ _ hrN
  have n0a := n0 0
  have n0b := n0 1
  have n0c := n0 2
  have nfa := nf 1
  simp at n0a n0b n0c
  have q1 := hE2.cell s0'
  have q2 := hE2.cell p0
  have q3 := hE2.cell p1
  have q4 := hE2.cell r0a
  have q5 := hE2.cell r0b
  have q6 := hE2.cell r0c
  have q7 := hE2.cell c1'
  have q8 := hE2.cell c2'
  have frz : ∀ b o, b < N → W2.frozen? ⟨b, o, none⟩ = w1.frozen? ⟨b, o, none⟩ := fun b o hb => World.frozen?_of_block (a := ⟨b, o, none⟩) (hE2.block b (by omega) id)
  have g1 := (frz g (i * 2) (by omega)).trans f1'
  have g2 := (frz g (i * 2 + 1) (by omega)).trans f2'
  have g3 := (frz (w.heap.size + 1) 0 (by omega)).trans rfa
  have g4 := (frz (w.heap.size + 1) 1 (by omega)).trans rfb
  have g5 := (frz (w.heap.size + 1) 2 (by omega)).trans rfc
  rw [← hN] at hgl hsl z2 z3
  have HE2 : Hid (Ext w W2) := hid (HE1.out.trans hE2)
  have HW2 := hid hW2
  have HN := hid hN
  have hrr := hE2.heap (hE1x.out.heap (k := w.heap.size + 1) (o := .cells #[.slice none 0 0, .slice none 0 0, .bool false] 167) (heap_alloc2_new w _ _))
  have hLW := H.out.ext HE2.out
  have hgw : ¬ g = w.heap.size + 1 := by
    intro c
    obtain ⟨c2, h2⟩ := owns_typed hLW.hl (g := g) (by rw [HLV.out]; rfl)
    rw [c, hrr] at h2; simp at h2
  have hgw0 : g < w.heap.size := by
    have := (H.out.hl).lt g (by rw [HLV.out]; rfl)
    exact this.2
  have hsw0 : s.b < w.heap.size := lt_of_heap H.out.hs
  have HLW := hid hLW
  have Hrr := hid hrr
  clear hrr hLW
  clear hW2 hN hE2 hrN n0 nf s0' p0 p1 r0a r0b r0c c1' c2' frz f1' f2' rfa rfb rfc fs
  go_region
  go_wp2_with fail
  obtain ⟨ys, hgy, hyl, hyt, -, -, -⟩ := ownsRow_whole (w := W2) (by have := HLW.out.hl; rw [HLV.out] at this; exact this)
  obtain ⟨W3, hW3⟩ : ∃ W3, W3 = (((((W2.setCell ⟨N, 1, none⟩ (.slice oa (s.L[i].val).length ocap)).setCell ⟨g, i * 2, none⟩ (.slice ka key.length kcap)).setCell ⟨g, i * 2 + 1, none⟩ (.slice va val.length vcap)).setCell ⟨w.heap.size + 1, 0, none⟩ (.slice ka key.length kcap)).setCell ⟨w.heap.size + 1, 1, none⟩ (.slice oa (s.L[i].val).length ocap)).setCell ⟨w.heap.size + 1, 2, none⟩ (.bool true) := ⟨_, rfl⟩
  have hR : W3.heap[w.heap.size + 1]? = some (.cells #[.slice ka key.length kcap, .slice oa (s.L[i].val).length ocap, .bool true] 167 (0, 0)) := by
    rw [hW3]
    have h0 := heap_ne (heap_ne (heap_ne Hrr.out (a := ⟨N, 1, none⟩) (.slice oa (s.L[i].val).length ocap) (by simp; omega)) (a := ⟨g, i * 2, none⟩) (.slice ka key.length kcap) (by simp; omega)) (a := ⟨g, i * 2 + 1, none⟩) (.slice va val.length vcap) (by simp; omega)
    exact heap_set (ys := [_, _, _]) (heap_set (ys := [_, _, _]) (heap_set (ys := [_, _, _]) h0))
  have hG : W3.heap[g]? = some (.cells ((ys.set (i * 2) (.slice ka key.length kcap)).set (i * 2 + 1) (.slice va val.length vcap)).toArray 161 (0, 0)) := by
    rw [hW3]
    exact heap_ne (heap_ne (heap_ne (heap_set (heap_set (heap_ne hgy (a := ⟨N, 1, none⟩) _ (by simp; omega)))) (a := ⟨w.heap.size + 1, 0, none⟩) _ (by simp; omega)) (a := ⟨w.heap.size + 1, 1, none⟩) _ (by simp; omega)) (a := ⟨w.heap.size + 1, 2, none⟩) _ (by simp; omega)
  have hS : W3.heap[s.b]? = some (.cells #[s.lv, s.gv, s.mv] 153 (0, 0)) := by
    rw [hW3]
    exact heap_ne (heap_ne (heap_ne (heap_ne (heap_ne (heap_ne HLW.out.hs (a := ⟨N, 1, none⟩) _ (by simp; omega)) (a := ⟨g, i * 2, none⟩) _ (by simp; omega)) (a := ⟨g, i * 2 + 1, none⟩) _ (by simp; omega)) (a := ⟨w.heap.size + 1, 0, none⟩) _ (by simp; omega)) (a := ⟨w.heap.size + 1, 1, none⟩) _ (by simp; omega)) (a := ⟨w.heap.size + 1, 2, none⟩) _ (by simp; omega)
  have hKg : LFoot s g := .inr (by rw [HLV.out]; rfl)
  have hK : Keeps (LFoot s) w W3 := by
    rw [hW3]
    refine ((((((Keeps.of_ext HE2.out).setCell (fun c => ?_) _).setCell (fun _ => hKg) _).setCell (fun _ => hKg) _).setCell (fun c => ?_) _).setCell (fun c => ?_) _).setCell (fun c => ?_) _ <;> (simp at c; omega)
  rw [← hW3]
  refine bodyPost_ret (results_cell_row (P := Try.prog) (fn := Try.f107) (p := 6) (ty := 167) rfl _ W3.drew (w.heap.size + 1) 167 _ (0, 0) _ rfl hR Try.underlying167 rfl infoU1) rfl ?_
  have hL' : putL s.L ⟨.slice ka key.length kcap, .slice va val.length vcap, key, val⟩ true = s.L.take i ++ ⟨.slice ka key.length kcap, .slice va val.length vcap, key, val⟩ :: s.L.drop (i + 1) := by
    unfold putL; simp only [Hh.out, if_true]; rw [← Hi.out]
  refine ⟨s.lv, ?_, ?_, hK.drew, fun k hk => .inl hk⟩
  · rw [hofin.out, Hh.out]
  · refine SRep.upd H.out hK.drew hS ?_ ?_ (putL_sorted _ _ H.out.so)
    · have hlen : (putL s.L ⟨.slice ka key.length kcap, .slice va val.length vcap, key, val⟩ true).length = s.L.length := by rw [hL']; simp; omega
      rw [hlen, HLV.out, hL', ← ecells_set s.L i _ hlt', ← hyt, ← List.take_set, ← List.take_set]
      exact ownsRow_of_whole hG (by simpa using hyl) hn (by unfold maxLen; exact hc) (Nat.zero_le _)
    · intro x hx
      rcases putL_mem x hx with h | ⟨rfl, -⟩
      · exact H.out.keepsE hK.drew x h
      · exact ⟨HK.out.keeps hK.drew (fun k c => H.out.nb k c.foot), HV.out.keeps hK.drew (fun k c => H.out.nb k c.foot)⟩

set_option maxRecDepth 100000 in
set_option maxHeartbeats 1000000 in
theorem put_ins {w : World} {s : SG} {e : Ent} (h : SRep w s) (hk : OB w e.kv e.key) (hv : OB w e.vv e.val) (hb : s.L.length ≤ big) (hh : has s.L e.key = false) :
    Calls Try.prog 107 #[.pointer (some ⟨s.b, 0, none⟩), .agg #[e.kv, e.vv], .bool true] w (PutPost w s e true) := by
  obtain ⟨kv, vv, key, val⟩ := e
  dsimp only at hk hv hh ⊢
  have hE : Ext w ((w.alloc (.cells #[kv, vv] 161)).alloc (.cells #[.slice none 0 0, .slice none 0 0, .bool false] 167)) := ((Ext.refl w).alloc _).alloc _
  have hfind := find_c (h.ext hE) (hk.bv.ext hE) hb
  rw [hh] at hfind
  have hofin : Hid (oldV s.L key = .slice none 0 0) := hid (by simp [oldV, hh])
  obtain ⟨i, hi⟩ : ∃ i, i = pos s.L key := ⟨_, rfl⟩
  have Hi := hid hi
  have hle' : i ≤ s.L.length := by rw [hi]; exact pos_le _ _
  rw [← hi] at hfind
  clear hi
  obtain ⟨ka, kcap, hkv, -, -⟩ := hk.bv.val
  obtain ⟨va, vcap, hvv, -, -⟩ := hv.bv.val
  subst hkv hvv
  have HF := hid hfind
  have HE := hid hE
  have H := hid h
  have HK := hid hk
  have HV := hid hv
  have Hh := hid hh
  have HB := hid hb
  clear h hk hv hb hh hE hfind
  go_enter Try.func107, Try.ntmps107
  go_wp2_with fail
  refine HF.out.mono ?_
  rintro e w1 ⟨rfl, hE1⟩
  have HE1 : Hid (Ext w w1) := hid (HE.out.trans hE1)
  obtain ⟨s0, -, -, fs, -, -⟩ := (H.out.ext HE1.out).scells
  obtain ⟨ao, cap, hlv, hn, hc⟩ := H.out.lval
  have s0' := s0
  rw [hlv] at s0'
  have p0 : w1.cell? ⟨w.heap.size, 0, none⟩ = some (.slice ka key.length kcap) := hE1.cell (by simp)
  have p1 : w1.cell? ⟨w.heap.size, 1, none⟩ = some (.slice va val.length vcap) := hE1.cell (by simp)
  have z1 := hE1.size
  simp at z1
  have hr := hE1.heap (k := w.heap.size + 1) (o := .cells #[.slice none 0 0, .slice none 0 0, .bool false] 167) (heap_alloc2_new w _ _)
  have hsl : s.b < w1.heap.size := World.block_lt_of_cell? _ _ s0
  unfold maxLen at hc
  have HLV := hid hlv
  have z2 : w.heap.size < w1.heap.size := by omega
  have z3 : w.heap.size + 1 < w1.heap.size := by omega
  have HR := hid hr
  clear hr s0 hE1 hlv z1 HF HE
  go_wp2_with fail
  obtain ⟨W2, hW2⟩ : ∃ W2, W2 = w1.alloc (.cells #[.slice ka key.length kcap, .slice none 0 0, .bool false] 167) := ⟨_, rfl⟩
  rw [← hW2]
  obtain ⟨N, hN⟩ : ∃ N, N = w1.heap.size := ⟨_, rfl⟩
  rw [← hN]
  have hE2 : Ext w1 W2 := by rw [hW2]; exact (Ext.refl w1).alloc _
  have hrN : W2.heap[N]? = some (.cells #[.slice ka key.length kcap, .slice none 0 0, .bool false] 167 (0, 0)) := by rw [hW2, hN]; exact heap_alloc_new w1 _
  have q1 := hE2.cell s0'
  have q2 := hE2.cell p0
  have q3 := hE2.cell p1
  rw [← hN] at hsl z2 z3
  have hEw2 : Ext w W2 := HE1.out.trans hE2
  have hrr := hE2.heap HR.out
  have hsw0 : s.b < w.heap.size := lt_of_heap H.out.hs
  obtain ⟨M, hM⟩ : ∃ M, M = W2.heap.size := ⟨_, rfl⟩
  have hNM : N < M := by rw [hM]; exact lt_of_heap hrN
  obtain ⟨W3, hW3⟩ : ∃ W3, W3 = (W2.alloc (.cells #[.slice ka key.length kcap, .slice va val.length vcap] 161)).drew := ⟨_, rfl⟩
  have hE3 : Ext W2 W3 := by rw [hW3]; exact ((Ext.refl W2).alloc _).drew
  have hM3 : W3.heap[M]? = some (.cells #[.slice ka key.length kcap, .slice va val.length vcap] 161 (0, 0)) := by rw [hW3, hM]; exact heap_alloc_new W2 _
  have hLW3 := H.out.ext (hEw2.trans hE3)
  have hlvM : s.lv.ownBlock ≠ some M := fun c => by have := (H.out.hl).lt M c; omega
  have hins := insertP_c (gv := M) (news := [.slice ka key.length kcap, .slice va val.length vcap]) hLW3.hl H.out.one hle' hM3 hlvM rfl (by simp [Value.oneCell']) HB.out
  rw [HLV.out] at hins
  have hfacts : ∀ w3, Keeps (fun k => s.lv.ownBlock = some k) W3 w3 → w3.heap[s.b]? = some (.cells #[s.lv, s.gv, s.mv] 153 (0, 0)) ∧
      w3.heap[N]? = some (.cells #[.slice ka key.length kcap, .slice none 0 0, .bool false] 167 (0, 0)) ∧ w3.heap[w.heap.size + 1]? = some (.cells #[.slice none 0 0, .slice none 0 0, .bool false] 167 (0, 0)) ∧ Keeps (LFoot s) w w3 := by
    intro w3 hK
    have hb1 : ∀ k, s.lv.ownBlock = some k → k < w.heap.size := fun k hk => ((H.out.hl).lt k hk).2
    exact ⟨hK.heap hLW3.hs H.out.b_ne, hK.heap (hE3.heap hrN) (fun c => by have := hb1 _ c; omega), hK.heap (hE3.heap hrr) (fun c => by have := hb1 _ c; omega), (Keeps.of_ext (hEw2.trans hE3)).trans' hK (fun k _ c => .inr c)⟩
  have hcells : ∀ w3, Keeps (fun k => s.lv.ownBlock = some k) W3 w3 → w3.cell? ⟨s.b, 0, none⟩ = some s.lv ∧ w3.frozen? ⟨s.b, 0, none⟩ = false ∧ w3.cell? ⟨N, 0, none⟩ = some (.slice ka key.length kcap) ∧ w3.cell? ⟨N, 1, none⟩ = some (.slice none 0 0) ∧ w3.cell? ⟨N, 2, none⟩ = some (.bool false) ∧
      w3.cell? ⟨w.heap.size + 1, 0, none⟩ = some (.slice none 0 0) ∧ w3.cell? ⟨w.heap.size + 1, 1, none⟩ = some (.slice none 0 0) ∧ w3.cell? ⟨w.heap.size + 1, 2, none⟩ = some (.bool false) ∧
      w3.frozen? ⟨w.heap.size + 1, 0, none⟩ = false ∧ w3.frozen? ⟨w.heap.size + 1, 1, none⟩ = false ∧ w3.frozen? ⟨w.heap.size + 1, 2, none⟩ = false := by
    intro w3 hK
    obtain ⟨k1, k2, k3, -⟩ := hfacts w3 hK
    simp [cell_of_row w3 _ _ _ _ _ k1, frozen_of_row w3 _ _ _ _ k1, cell_of_row w3 _ _ _ _ _ k2, cell_of_row w3 _ _ _ _ _ k3, frozen_of_row w3 _ _ _ _ k3]
  have HI := hid hins
  have HFa := hid hfacts
  have HC := hid hcells
  have HW2 := hid hW2
  have HW3 := hid hW3
  have HM := hid hM
  have HLW3 := hid hLW3
  have hsN : ¬ s.b = N := by omega
  have hsR : ¬ s.b = w.heap.size + 1 := by omega
  have hRN : ¬ w.heap.size + 1 = N := by omega
  have x1 : s.b < W2.heap.size := by omega
  have x2 : w.heap.size < W2.heap.size := by omega
  clear hins hfacts hcells hW2 hW3 hN hE2 hrN hrr hE3 hM3 hLW3 hlvM hEw2 s0' p0 p1 fs HR
  go_region_with (first | (go_at_call 154; rw [← HM.out, ← HW3.out]; refine HI.out.mono ?_; rintro e w3 hpost; obtain ⟨lo, lcap, rfl, hpost⟩ := hpost.slice; have HPo := hid hpost; clear hpost; have hK3 := hid (InsPost.keeps HPo.out); obtain ⟨m1, m2, m3, m4, m5, m6, m7, m8, m9, m10, m11⟩ := HC.out w3 (HLV.out ▸ hK3.out)))
  all_goals
    go_wp2_with fail
    obtain ⟨k1, k2, k3, k4⟩ := HFa.out w3 (HLV.out ▸ hK3.out)
    obtain ⟨v', hv', hown, -, hblk⟩ := HPo.out
    obtain rfl : Value.slice lo (s.L.length + 1) lcap = v' := by simpa using hv'
    obtain ⟨W4, hW4⟩ : ∃ W4, W4 = (((w3.setCell ⟨s.b, 0, none⟩ (.slice lo (s.L.length + 1) lcap)).setCell ⟨w.heap.size + 1, 0, none⟩ (.slice ka key.length kcap)).setCell ⟨w.heap.size + 1, 1, none⟩ (.slice none 0 0)).setCell ⟨w.heap.size + 1, 2, none⟩ (.bool false) := ⟨_, rfl⟩
    have hR : W4.heap[w.heap.size + 1]? = some (.cells #[.slice ka key.length kcap, .slice none 0 0, .bool false] 167 (0, 0)) := by
      rw [hW4]
      exact heap_set (ys := [_, _, _]) (heap_set (ys := [_, _, _]) (heap_set (ys := [_, _, _]) (heap_ne k3 (a := ⟨s.b, 0, none⟩) (.slice lo (s.L.length + 1) lcap) (by simp; omega))))
    have hS : W4.heap[s.b]? = some (.cells #[.slice lo (s.L.length + 1) lcap, s.gv, s.mv] 153 (0, 0)) := by
      rw [hW4]
      exact heap_ne (heap_ne (heap_ne (heap_set (ys := [_, _, _]) k1) (a := ⟨w.heap.size + 1, 0, none⟩) _ (by simp; omega)) (a := ⟨w.heap.size + 1, 1, none⟩) _ (by simp; omega)) (a := ⟨w.heap.size + 1, 2, none⟩) _ (by simp; omega)
    have hK : Keeps (LFoot s) w W4 := by
      rw [hW4]
      refine (((k4.setCell (fun _ => .inl rfl) _).setCell (fun c => ?_) _).setCell (fun c => ?_) _).setCell (fun c => ?_) _ <;> (simp at c; omega)
    have hgrow := (HFa.out W3 (Keeps.refl _ _)).2.2.2.size
    have hblk2 : ∀ k, (Value.slice lo (s.L.length + 1) lcap).ownBlock = some k → s.lv.ownBlock = some k ∨ w.heap.size ≤ k := fun k hk => by
      rcases hblk k hk with c | c
      · exact .inl (by rw [HLV.out]; exact c)
      · exact .inr (by omega)
    have hown4 : W4.ownsRow 0 161 2 (.slice lo (s.L.length + 1) lcap) (s.L.length + 1) (insC (ecells s.L) i [.slice ka key.length kcap, .slice va val.length vcap]) := by
      refine Keeps.ownsRow (S := fun k => k = s.b ∨ k = w.heap.size + 1) (w := w3) ?_ hown ?_
      · rw [hW4]
        exact (((Keeps.refl _ w3).setCell (fun _ => .inl rfl) _).setCell (fun _ => .inr rfl) _).setCell (fun _ => .inr rfl) _ |>.setCell (fun _ => .inr rfl) _
      · intro k hk c
        obtain ⟨c2, h2⟩ := owns_typed hown hk
        rcases c with rfl | rfl
        · rw [k1] at h2; simp at h2
        · rw [k3] at h2; simp at h2
    rw [← hW4]
    refine bodyPost_ret (results_cell_row (P := Try.prog) (fn := Try.f107) (p := 6) (ty := 167) rfl _ W4 (w.heap.size + 1) 167 _ (0, 0) _ rfl hR Try.underlying167 rfl infoU1) rfl ?_
    have hL' : putL s.L ⟨.slice ka key.length kcap, .slice va val.length vcap, key, val⟩ true = s.L.take i ++ ⟨.slice ka key.length kcap, .slice va val.length vcap, key, val⟩ :: s.L.drop i := by
      unfold putL; simp only [Hh.out, Bool.false_eq_true, if_false, if_true]; rw [← Hi.out]
    refine ⟨.slice lo (s.L.length + 1) lcap, ?_, ?_, hK, hblk2⟩
    · rw [hofin.out, Hh.out]
    · refine SRep.upd H.out hK hS ?_ ?_ (putL_sorted _ _ H.out.so)
      · have hlen : (putL s.L ⟨.slice ka key.length kcap, .slice va val.length vcap, key, val⟩ true).length = s.L.length + 1 := by rw [hL']; simp; omega
        have hcells : ecells (s.L.take i ++ ⟨.slice ka key.length kcap, .slice va val.length vcap, key, val⟩ :: s.L.drop i) = insC (ecells s.L) i [.slice ka key.length kcap, .slice va val.length vcap] := by
          rw [insC, ecells_append, ecells_cons, ← ecells_take, ← ecells_drop]
          simp [Ent.cells]
        rw [hlen, hL', hcells]
        exact hown4
      · intro x hx
        rcases putL_mem x hx with h | ⟨rfl, -⟩
        · exact H.out.keepsE hK x h
        · exact ⟨HK.out.keeps hK (fun k c => H.out.nb k c.foot), HV.out.keeps hK (fun k c => H.out.nb k c.foot)⟩

set_option maxRecDepth 100000 in
set_option maxHeartbeats 1000000 in
theorem put_del {w : World} {s : SG} {e : Ent} {xa : Option Addr} {xn xcap : Nat} (h : SRep w s) (hk : OB w e.kv e.key) (hb : s.L.length ≤ big) (hh : has s.L e.key = true) :
    Calls Try.prog 107 #[.pointer (some ⟨s.b, 0, none⟩), .agg #[e.kv, .slice xa xn xcap], .bool false] w (PutPost w s e false) := by
  obtain ⟨kv, vv, key, val⟩ := e
  dsimp only at hk hh ⊢
  have hE : Ext w ((w.alloc (.cells #[kv, .slice xa xn xcap] 161)).alloc (.cells #[.slice none 0 0, .slice none 0 0, .bool false] 167)) := ((Ext.refl w).alloc _).alloc _
  have hfind := find_c (h.ext hE) (hk.bv.ext hE) hb
  rw [hh] at hfind
  have hlt := has_lt hh
  have ho : Hid (oldV s.L key = (s.L[pos s.L key]'hlt).vv) := hid (by simp [oldV, hh, hlt])
  obtain ⟨i, hi⟩ : ∃ i, i = pos s.L key := ⟨_, rfl⟩
  have Hi := hid hi
  have hlt' : i < s.L.length := by rw [hi]; exact hlt
  have hofin : Hid (oldV s.L key = (s.L[i]'hlt').vv) := hid (by rw [ho.out]; simp [hi])
  rw [← hi] at hfind
  clear hi hlt ho
  obtain ⟨ka, kcap, hkv, -, -⟩ := hk.bv.val
  have hkv' := hid hkv
  subst hkv
  have HF := hid hfind
  have HE := hid hE
  have H := hid h
  have HK := hid hk
  have Hh := hid hh
  have hsb := lt_of_heap h.hs
  clear h hk hb hh hE hfind
  go_enter Try.func107, Try.ntmps107
  go_wp2_with fail
  refine HF.out.mono ?_
  rintro e w1 ⟨rfl, hE1⟩
  have HE1 : Hid (Ext w w1) := hid (HE.out.trans hE1)
  obtain ⟨g, cap, hlv, hn, hc, c1, c2, f1, f2⟩ := (H.out.ext HE1.out).pairCells hlt'
  obtain ⟨ov, hov⟩ : ∃ ov, ov = (s.L[i]'hlt').vv := ⟨_, rfl⟩
  rw [← hov] at hofin c2
  obtain ⟨oa, ocap, hov2, -, -⟩ := (H.out.he _ (List.getElem_mem hlt')).2.bv.val
  rw [← hov] at hov2
  obtain ⟨s0, -, -, fs, -, -⟩ := (H.out.ext HE1.out).scells
  have s0' := s0
  rw [hlv] at s0'
  have hE1x := hid hE1
  have p0 : w1.cell? ⟨w.heap.size, 0, none⟩ = some (.slice ka key.length kcap) := hE1.cell (by simp)
  have p1 : w1.cell? ⟨w.heap.size, 1, none⟩ = some (.slice xa xn xcap) := hE1.cell (by simp)
  have z1 := hE1.size
  simp at z1
  have hr := hE1.heap (k := w.heap.size + 1) (o := .cells #[.slice none 0 0, .slice none 0 0, .bool false] 167) (heap_alloc2_new w _ _)
  have r0 := fun j => cell_of_row w1 (w.heap.size + 1) j _ _ _ hr
  have rf := fun j => frozen_of_row w1 (w.heap.size + 1) j _ _ hr
  have r0a := r0 0
  have r0b := r0 1
  have r0c := r0 2
  have rfa := rf 0
  have rfb := rf 1
  have rfc := rf 2
  simp at r0a r0b r0c
  have c1' : w1.cell? ⟨g, i * 2, none⟩ = some (s.L[i]'hlt').kv := by rw [Nat.mul_comm]; exact c1
  have c2' : w1.cell? ⟨g, i * 2 + 1, none⟩ = some ov := by rw [Nat.mul_comm]; exact c2
  have f1' : w1.frozen? ⟨g, i * 2, none⟩ = false := by rw [Nat.mul_comm]; exact f1
  have f2' : w1.frozen? ⟨g, i * 2 + 1, none⟩ = false := by rw [Nat.mul_comm]; exact f2
  have hgl : g < w1.heap.size := World.block_lt_of_cell? _ _ c1
  have hsl : s.b < w1.heap.size := World.block_lt_of_cell? _ _ s0
  have hgb : ¬ g = s.b := by
    intro c; have := H.out.b_ne; rw [hlv] at this; simp [Value.ownBlock, c] at this
  have hi' : (i : Int) < (s.L.length : Int) := by omega
  unfold maxLen at hc
  have HLV := hid hlv
  have Hov2 := hid hov2
  have HOV := hid hov
  subst hov2
  have z2 : w.heap.size < w1.heap.size := by omega
  have z3 : w.heap.size + 1 < w1.heap.size := by omega
  clear r0 rf hr s0 c1 c2 f1 f2 hE1 hlv hov z1 HF HE hsb
  go_wp2_with fail
  obtain ⟨W3, hW3⟩ : ∃ W3, W3 = w1.alloc (.cells #[.slice ka key.length kcap, .slice oa (s.L[i].val).length ocap, .bool true] 167) := ⟨_, rfl⟩
  rw [← hW3]
  obtain ⟨N, hN⟩ : ∃ N, N = w1.heap.size := ⟨_, rfl⟩
  rw [← hN]
  have hE3 : Ext w1 W3 := by rw [hW3]; exact (Ext.refl w1).alloc _
  have hN3 : W3.heap[N]? = some (.cells #[.slice ka key.length kcap, .slice oa (s.L[i].val).length ocap, .bool true] 167 (0, 0)) := by rw [hW3, hN]; exact heap_alloc_new w1 _
  rw [← hN] at hgl hsl z2 z3
  have hEw : Ext w W3 := HE1.out.trans hE3
  have hLW := H.out.ext hEw
  have hR3 := hE3.heap (hE1x.out.heap (k := w.heap.size + 1) (o := .cells #[.slice none 0 0, .slice none 0 0, .bool false] 167) (heap_alloc2_new w _ _))
  have hgw : ¬ g = w.heap.size + 1 := by
    intro c
    obtain ⟨c2, h2⟩ := owns_typed hLW.hl (g := g) (by rw [HLV.out]; rfl)
    rw [c, hR3] at h2; simp at h2
  have hgw0 : g < w.heap.size := ((H.out.hl).lt g (by rw [HLV.out]; rfl)).2
  have hsw0 : s.b < w.heap.size := lt_of_heap H.out.hs
  have hn1 : s.L.length - 1 + 1 = s.L.length := Nat.sub_add_cancel (by omega)
  obtain ⟨ys, hgy3, hyl, hyt, -, -, -⟩ := ownsRow_whole (w := W3) (by have := hLW.hl; rw [HLV.out] at this; exact this)
  have hone : ∀ u ∈ ys.take ((s.L.length - 1 + 1) * 2), u.oneCell' = true := by rw [hn1, hyt]; exact H.out.one
  have hdel := deleteP_c (n := s.L.length - 1) hgy3 hyl (by omega) (by unfold maxLen; exact hc) (i := i) (by omega) hone
  rw [hn1] at hdel
  refine hdel.mono ?_
  rintro e w3 ⟨rfl, zs, hz, hzl, hzt, hK3⟩
  have m1 := hK3.heap hN3 (by omega)
  have m2 := hK3.heap hLW.hs (by omega)
  have m3 := hK3.heap hR3 (by omega)
  have m1a := cell_of_row w3 N 0 _ _ _ m1
  have m1b := cell_of_row w3 N 1 _ _ _ m1
  have m1c := cell_of_row w3 N 2 _ _ _ m1
  have m2a := cell_of_row w3 s.b 0 _ _ _ m2
  have m2f := frozen_of_row w3 s.b 0 _ _ m2
  have m3a := cell_of_row w3 (w.heap.size + 1) 0 _ _ _ m3
  have m3b := cell_of_row w3 (w.heap.size + 1) 1 _ _ _ m3
  have m3c := cell_of_row w3 (w.heap.size + 1) 2 _ _ _ m3
  have m3fa := frozen_of_row w3 (w.heap.size + 1) 0 _ _ m3
  have m3fb := frozen_of_row w3 (w.heap.size + 1) 1 _ _ m3
  have m3fc := frozen_of_row w3 (w.heap.size + 1) 2 _ _ m3
  simp at m1a m1b m1c m2a m3a m3b m3c
  have hsN : ¬ s.b = N := by omega
  have hsR : ¬ s.b = w.heap.size + 1 := by omega
  have hRN : ¬ w.heap.size + 1 = N := by omega
  have hsg : ¬ s.b = g := by omega
  have hK0 : Keeps (LFoot s) w w3 := (Keeps.of_ext hEw).trans' hK3 (fun k _ c => .inr (by rw [HLV.out, c]; rfl))
  have HZ := hid (And.intro hz (And.intro hzl hzt))
  have HK0 := hid hK0
  have M2 := hid m2
  have M3 := hid m3
  have Hyt := hid hyt
  have Hn1 := hid hn1
  clear hz hzl hzt hK3 hK0 m1 m2 m3 hgy3 hyl hyt hone hdel hLW hEw hE3 hN3 hR3 hW3 hN p0 p1 r0a r0b r0c c1' c2' f1' f2' rfa rfb rfc fs s0' hn1
  go_wp2_with fail
  obtain ⟨W4, hW4⟩ : ∃ W4, W4 = (((w3.setCell ⟨s.b, 0, none⟩ (.slice (some ⟨g, 0, none⟩) (s.L.length - 1) cap)).setCell ⟨w.heap.size + 1, 0, none⟩ (.slice ka key.length kcap)).setCell ⟨w.heap.size + 1, 1, none⟩ (.slice oa (s.L[i].val).length ocap)).setCell ⟨w.heap.size + 1, 2, none⟩ (.bool true) := ⟨_, rfl⟩
  have hR : W4.heap[w.heap.size + 1]? = some (.cells #[.slice ka key.length kcap, .slice oa (s.L[i].val).length ocap, .bool true] 167 (0, 0)) := by
    rw [hW4]
    exact heap_set (ys := [_, _, _]) (heap_set (ys := [_, _, _]) (heap_set (ys := [_, _, _]) (heap_ne M3.out (a := ⟨s.b, 0, none⟩) (.slice (some ⟨g, 0, none⟩) (s.L.length - 1) cap) (by simp; omega))))
  have hG : W4.heap[g]? = some (.cells zs.toArray 161 (0, 0)) := by
    rw [hW4]
    exact heap_ne (heap_ne (heap_ne (heap_ne HZ.out.1 (a := ⟨s.b, 0, none⟩) _ (by simp; omega)) (a := ⟨w.heap.size + 1, 0, none⟩) _ (by simp; omega)) (a := ⟨w.heap.size + 1, 1, none⟩) _ (by simp; omega)) (a := ⟨w.heap.size + 1, 2, none⟩) _ (by simp; omega)
  have hS : W4.heap[s.b]? = some (.cells #[.slice (some ⟨g, 0, none⟩) (s.L.length - 1) cap, s.gv, s.mv] 153 (0, 0)) := by
    rw [hW4]
    exact heap_ne (heap_ne (heap_ne (heap_set (ys := [_, _, _]) M2.out) (a := ⟨w.heap.size + 1, 0, none⟩) _ (by simp; omega)) (a := ⟨w.heap.size + 1, 1, none⟩) _ (by simp; omega)) (a := ⟨w.heap.size + 1, 2, none⟩) _ (by simp; omega)
  have hK : Keeps (LFoot s) w W4 := by
    rw [hW4]
    refine ((((HK0.out).setCell (fun _ => .inl rfl) _).setCell (fun c => ?_) _).setCell (fun c => ?_) _).setCell (fun c => ?_) _ <;> (simp at c; omega)
  rw [← hW4]
  refine bodyPost_ret (results_cell_row (P := Try.prog) (fn := Try.f107) (p := 6) (ty := 167) rfl _ W4 (w.heap.size + 1) 167 _ (0, 0) _ rfl hR Try.underlying167 rfl infoU1) rfl ?_
  have hL' : putL s.L ⟨.slice ka key.length kcap, vv, key, val⟩ false = s.L.take i ++ s.L.drop (i + 1) := by
    unfold putL; simp only [Hh.out, if_true, Bool.false_eq_true, if_false]; rw [← Hi.out]
  refine ⟨.slice (some ⟨g, 0, none⟩) (s.L.length - 1) cap, ?_, ?_, hK, fun k hk => .inl (by rw [HLV.out]; exact hk)⟩
  · rw [hofin.out, Hh.out]
  · refine SRep.upd H.out hK hS ?_ ?_ (putL_sorted _ _ H.out.so)
    · have hlen : (putL s.L ⟨.slice ka key.length kcap, vv, key, val⟩ false).length = s.L.length - 1 := by rw [hL']; simp; omega
      have hcells : ecells (s.L.take i ++ s.L.drop (i + 1)) = zs.take ((s.L.length - 1) * 2) := by
        rw [HZ.out.2.2, ecells_append, ← ecells_take, ← ecells_drop, ← Hyt.out, List.take_take, List.drop_take]
        congr 2 <;> omega
      rw [hlen, hL', hcells]
      exact ownsRow_of_whole hG HZ.out.2.1 (by omega) (by unfold maxLen; exact hc) (Nat.zero_le _)
    · intro x hx
      rcases putL_mem x hx with h | ⟨-, h⟩
      · exact H.out.keepsE hK x h
      · cases h

end Go.Proofs.Ytaidgkdebocenaa
