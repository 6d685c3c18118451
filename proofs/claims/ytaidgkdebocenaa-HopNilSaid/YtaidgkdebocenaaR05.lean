/- The document's store, jointureref05.Store: how it lies in memory, and what its functions answer.
   Conditions: fewer than 2^40 pairs and parts. -/
import Derived.Test.YtaidgkdebocenaaLive
namespace Go.Proofs.Ytaidgkdebocenaa
open Go Go.RowKit

structure RRow where
  v : Value
  L : List Ent
structure RG where
  b : Nat
  lv : Value
  wv : Value
  L : List Ent
  was : List RRow

def wcells (l : List RRow) : List Value := l.map RRow.v

structure RRep (w : World) (m : RG) : Prop where
  hs : w.heap[m.b]? = some (.cells #[m.lv, m.wv] 31 (0, 0))
  hl : w.ownsRow 0 157 2 m.lv m.L.length (ecells m.L)
  hw : w.ownsRow 0 28 1 m.wv m.was.length (wcells m.was)
  hr : ∀ r ∈ m.was, w.ownsRow 0 157 2 r.v r.L.length (ecells r.L)
  he : ∀ e ∈ m.L, OB w e.kv e.key ∧ OB w e.vv e.val
  hwe : ∀ r ∈ m.was, ∀ e ∈ r.L, OB w e.kv e.key ∧ OB w e.vv e.val

/-- A store as the document has it, on plain lists. -/
structure RS where
  M : List KV
  was : List (List KV)
def rabs (m : RG) : RS := ⟨absL m.L, m.was.map fun r => absL r.L⟩

/-- Blocks of none of the kinds that the document's store lies in. -/
def Far (w : World) (S : Nat → Prop) : Prop := ∀ k, S k → k < w.heap.size → ∃ c t fr, w.heap[k]? = some (.cells c t fr) ∧ t ≠ 31 ∧ t ≠ 157 ∧ t ≠ 28 ∧ t ≠ 5

theorem RRep.keeps {S : Nat → Prop} {w w' : World} {m : RG} (h : RRep w m) (hk : Keeps S w w') (hS : Far w S) : RRep w' m := by
  have far : ∀ {k : Nat} {c : Array Value} {t : TypeId} {fr : Nat × Nat}, w.heap[k]? = some (.cells c t fr) → (t = 31 ∨ t = 157 ∨ t = 28 ∨ t = 5) → ¬ S k := fun h1 h2 hs => by
    obtain ⟨c', t', fr', h3, h4, h5, h6, h7⟩ := hS _ hs (lt_of_heap h1)
    rw [h1] at h3
    simp only [Option.some.injEq, Obj.cells.injEq] at h3
    obtain ⟨-, rfl, -⟩ := h3
    rcases h2 with h2 | h2 | h2 | h2
    · exact h4 h2
    · exact h5 h2
    · exact h6 h2
    · exact h7 h2
  have hob : ∀ {v : Value} {xs : BS}, OB w v xs → OB w' v xs := fun h => h.keeps' hk fun g hg => by
    obtain ⟨c, hc⟩ := h.typed hg
    exact far hc (.inr (.inr (.inr rfl)))
  refine ⟨hk.heap h.hs (far h.hs (.inl rfl)), hk.ownsRow h.hl fun g hg => ?_, hk.ownsRow h.hw fun g hg => ?_, fun r hr => hk.ownsRow (h.hr r hr) fun g hg => ?_, fun e he => ⟨hob (h.he e he).1, hob (h.he e he).2⟩, fun r hr e he => ⟨hob (h.hwe r hr e he).1, hob (h.hwe r hr e he).2⟩⟩
  · obtain ⟨c, hc⟩ := owns_typed h.hl hg; exact far hc (.inr (.inl rfl))
  · obtain ⟨c, hc⟩ := owns_typed h.hw hg; exact far hc (.inr (.inr (.inl rfl)))
  · obtain ⟨c, hc⟩ := owns_typed (h.hr r hr) hg; exact far hc (.inr (.inl rfl))

theorem RRep.ext {w w' : World} {m : RG} (h : RRep w m) (hk : Ext w w') : RRep w' m := h.keeps hk fun _ c => c.elim

/-- The blocks that the document's store may write. -/
def RFoot (m : RG) (k : Nat) : Prop := k = m.b ∨ m.wv.ownBlock = some k

theorem SRep.far {w : World} {s : SG} (h : SRep w s) : Far w (Foot s) := by
  intro k hk _
  obtain ⟨c, t, hc, ht⟩ := h.typed hk
  refine ⟨c, t, _, hc, ?_⟩
  rcases ht with rfl | rfl | rfl | rfl <;> decide

theorem RRep.rtyped {w : World} {m : RG} (h : RRep w m) {k : Nat} (hk : RFoot m k) : ∃ c t, w.heap[k]? = some (.cells c t (0, 0)) ∧ (t = 31 ∨ t = 28) := by
  rcases hk with rfl | hk
  · exact ⟨_, _, h.hs, .inl rfl⟩
  · obtain ⟨c, hc⟩ := owns_typed h.hw hk; exact ⟨c, _, hc, .inr rfl⟩

/-- The program's store stays while the document's is turned. -/
theorem SRep.rkeeps {w w' : World} {s : SG} {m : RG} (h : SRep w s) (hm : RRep w m) (hk : Keeps (RFoot m) w w') : SRep w' s := by
  refine h.keeps hk (fun k hf hr => ?_) (fun k hr c fr hc => ?_)
  · obtain ⟨c1, t1, h1, ht1⟩ := h.typed hf
    obtain ⟨c2, t2, h2, ht2⟩ := hm.rtyped hr
    refine typed_ne h1 h2 ?_
    rcases ht1 with rfl | rfl | rfl | rfl <;> rcases ht2 with rfl | rfl <;> decide
  · obtain ⟨c2, t2, h2, ht2⟩ := hm.rtyped hr
    refine typed_ne hc h2 ?_
    rcases ht2 with rfl | rfl <;> decide

theorem RRep.rcells {w : World} {m : RG} (h : RRep w m) : w.cell? ⟨m.b, 0, none⟩ = some m.lv ∧ w.cell? ⟨m.b, 1, none⟩ = some m.wv ∧ w.frozen? ⟨m.b, 0, none⟩ = false ∧ w.frozen? ⟨m.b, 1, none⟩ = false := by
  simp [cell_of_row w _ _ _ _ _ h.hs, frozen_of_row w _ _ _ _ h.hs]

/-- The cells of a pair in a row of pairs, of either kind. -/
theorem rowPair {w : World} {t : TypeId} {v : Value} {L : List Ent} (h : w.ownsRow 0 t 2 v L.length (ecells L)) {i : Nat} (hi : i < L.length) :
    ∃ g cap, v = .slice (some ⟨g, 0, none⟩) L.length cap ∧ L.length ≤ cap ∧ cap ≤ maxLen ∧ w.cell? ⟨g, i * 2, none⟩ = some (L[i]).kv ∧ w.cell? ⟨g, i * 2 + 1, none⟩ = some (L[i]).vv := by
  rcases h.2 with ⟨-, h0⟩ | ⟨g, cap, cur, hv, -, hg, hn, hc, hsz, ht⟩
  · omega
  · refine ⟨g, cap, hv, hn, hc, ?_⟩
    have he := ecells_get L i hi
    rw [← ht] at he
    rw [List.getElem?_take_of_lt (by omega), List.getElem?_take_of_lt (by omega)] at he
    rw [Nat.mul_comm i 2, cell_of_row w g _ cur _ _ hg, cell_of_row w g _ cur _ _ hg]
    simpa using he

theorem owns_val {w : World} {base : Nat} {t : TypeId} {size : Nat} {v : Value} {n : Nat} {xs : List Value} (h : w.ownsRow base t size v n xs) : ∃ ao cap, v = .slice ao n cap ∧ n ≤ cap ∧ cap ≤ maxLen := by
  rcases h.2 with ⟨hv, h0⟩ | ⟨g, cap, cur, hv, -, hg, hn, hc, hsz, ht⟩
  · exact ⟨none, 0, by rw [hv, h0], by omega, by simp [maxLen]⟩
  · exact ⟨_, cap, hv, hn, hc⟩

/-! ### Set -/

def refStep (new : Ent) (is : Bool) (x : List Ent × Bool) (e : Ent) : List Ent × Bool :=
  let y := if x.2 = false ∧ lt new.key e.key = true then (x.1 ++ [new], true) else x
  if (e.key == new.key) = false then (y.1 ++ [e], y.2) else if is = true then (y.1 ++ [new], true) else y
def refSet (L : List Ent) (new : Ent) (is : Bool) : List Ent :=
  let r := L.foldl (refStep new is) ([], !is)
  if r.2 = true then r.1 else r.1 ++ [new]

theorem infoRP : (Try.prog.info? 157).map (fun i => (i.zero, i.size, i.bytes)) = some (some (.agg #[.slice none 0 0, .slice none 0 0]), 2, 48) := by kernel_rfl

theorem outApp {w0 wr : World} {oa : Option Addr} {oc n : Nat} {out : List Ent} {x : Ent} {ka va : Option Addr} {kl kc vl vc : Nat} (hE : Ext w0 wr) (hn : out.length = n) (hown : wr.ownsRow w0.heap.size 157 2 (.slice oa n oc) n (ecells out))
    (hk : x.kv = .slice ka kl kc) (hv : x.vv = .slice va vl vc) (hb : n ≤ 2199023255553) :
    ∃ oa' oc' w', (App #[28, 28] 28 #[.slice oa n oc, .slice (some ⟨wr.heap.size, 0, none⟩) 1 1]).run Try.prog (wr.alloc (.cells #[.slice ka kl kc, .slice va vl vc] 157)) = .ok (.slice oa' (n + 1) oc') w' ∧
      w'.ownsRow w0.heap.size 157 2 (.slice oa' (n + 1) oc') (n + 1) (ecells (out ++ [x])) ∧ Ext w0 w' := by
  have hE4 : Ext wr (wr.alloc (.cells #[.slice ka kl kc, .slice va vl vc] 157)) := (Ext.refl wr).alloc _
  have hM := heap_alloc_new wr (.cells #[.slice ka kl kc, .slice va vl vc] 157)
  have hown4 := Keeps.ownsRow hE4 hown fun _ _ c => c
  obtain ⟨o', w', hrun, hown5, hgrow, -⟩ := run_App (P := Try.prog) 28 28 157 2 48 (.agg #[.slice none 0 0, .slice none 0 0]) Try.underlying28 infoRP rfl (by decide) hown4 (m := 1) (c := 1) (news := [.slice ka kl kc, .slice va vl vc]) rfl (Src.row hM) (by simp [Value.oneCell']) (by unfold maxLen; omega) (by omega) (hE.trans hE4).size
  obtain ⟨oa', oc', rfl⟩ := owns_slice hown5
  refine ⟨oa', oc', w', hrun, ?_, ?_⟩
  · have e : ecells (out ++ [x]) = ecells out ++ [.slice ka kl kc, .slice va vl vc] := by rw [ecells, List.flatMap_append]; simp [ecells, Ent.cells, hk, hv]
    rw [e]; exact hown5
  · exact (hE.trans hE4).grown hgrow fun k hk' hlt => by
      have := (hown.lt k hk').1
      omega

theorem refStep_len (new : Ent) (is : Bool) (x : List Ent × Bool) (e : Ent) : (refStep new is x e).1.length ≤ x.1.length + 2 := by
  unfold refStep
  dsimp only
  split <;> split <;> (try split) <;> simp

/-- What the loop of Set has made of k pairs. -/
def OutAt (w : World) (L : List Ent) (new : Ent) (is : Bool) (k : Nat) (out : List Ent) (dn : Bool) (o : Value) (wr : World) : Prop :=
  k ≤ L.length ∧ (L.take k).foldl (refStep new is) ([], !is) = (out, dn) ∧ out.length ≤ 2 * k ∧ Ext w wr ∧ wr.ownsRow w.heap.size 157 2 o out.length (ecells out)

theorem OutAt.next {w wr wr' : World} {L : List Ent} {new : Ent} {is : Bool} {k : Nat} {out out' : List Ent} {dn dn' : Bool} {o o' : Value} (h : OutAt w L new is k out dn o wr) (hk : k < L.length) (hs : refStep new is (out, dn) (L[k]) = (out', dn')) (hE : Ext w wr') {n : Nat} (hn : out'.length = n)
    (ho : wr'.ownsRow w.heap.size 157 2 o' n (ecells out')) : OutAt w L new is (k + 1) out' dn' o' wr' := by
  subst hn
  refine ⟨hk, ?_, ?_, hE, ho⟩
  · rw [List.take_succ_eq_append_getElem hk, List.foldl_append, h.2.1]
    exact hs
  · have := refStep_len new is (out, dn) (L[k])
    rw [hs] at this
    have := h.2.2.1
    dsimp only at *
    omega

theorem refStep_false {new : Ent} {out : List Ent} {e : Ent} : (refStep new false (out, true) e).2 = true := by
  simp only [refStep, Bool.true_eq_false, false_and, if_false]
  split <;> rfl
theorem refFold_false' {new : Ent} : ∀ (L : List Ent) (x : List Ent × Bool), x.2 = true → (L.foldl (refStep new false) x).2 = true
  | [], _, h => h
  | e :: L, (o, d), h => by
    obtain rfl : d = true := h
    exact refFold_false' L _ refStep_false
theorem refFold_false {new : Ent} {L : List Ent} {out : List Ent} {dn : Bool} (h : L.foldl (refStep new false) ([], !false) = (out, dn)) : dn = true := by
  have := refFold_false' (new := new) L ([], !false) rfl
  rw [h] at this; exact this

theorem refStep_mem {new : Ent} {is : Bool} {x : List Ent × Bool} {e y : Ent} (h : y ∈ (refStep new is x e).1) : y ∈ x.1 ∨ y = new ∨ y = e := by
  unfold refStep at h
  dsimp only at h
  by_cases h1 : x.2 = false ∧ lt new.key e.key = true
  · rw [if_pos h1] at h
    by_cases h2 : (e.key == new.key) = false
    · rw [if_pos h2] at h
      rcases List.mem_append.1 h with h | h
      · rcases List.mem_append.1 h with h | h
        · exact .inl h
        · exact .inr (.inl (List.mem_singleton.1 h))
      · exact .inr (.inr (List.mem_singleton.1 h))
    · rw [if_neg h2] at h
      by_cases h3 : is = true
      · rw [if_pos h3] at h
        rcases List.mem_append.1 h with h | h
        · rcases List.mem_append.1 h with h | h
          · exact .inl h
          · exact .inr (.inl (List.mem_singleton.1 h))
        · exact .inr (.inl (List.mem_singleton.1 h))
      · rw [if_neg h3] at h
        rcases List.mem_append.1 h with h | h
        · exact .inl h
        · exact .inr (.inl (List.mem_singleton.1 h))
  · rw [if_neg h1] at h
    by_cases h2 : (e.key == new.key) = false
    · rw [if_pos h2] at h
      rcases List.mem_append.1 h with h | h
      · exact .inl h
      · exact .inr (.inr (List.mem_singleton.1 h))
    · rw [if_neg h2] at h
      by_cases h3 : is = true
      · rw [if_pos h3] at h
        rcases List.mem_append.1 h with h | h
        · exact .inl h
        · exact .inr (.inl (List.mem_singleton.1 h))
      · rw [if_neg h3] at h
        exact .inl h
theorem refFold_mem {new : Ent} {is : Bool} : ∀ (L : List Ent) (x : List Ent × Bool) {y : Ent}, y ∈ (L.foldl (refStep new is) x).1 → y ∈ x.1 ∨ y = new ∨ y ∈ L
  | [], _, _, h => .inl h
  | e :: L, x, y, h => by
    rcases refFold_mem L _ h with h | h | h
    · rcases refStep_mem h with h | h | h
      · exact .inl h
      · exact .inr (.inl h)
      · exact .inr (.inr (h ▸ List.mem_cons_self))
    · exact .inr (.inl h)
    · exact .inr (.inr (List.mem_cons_of_mem _ h))

theorem OutAt.mem {w wr : World} {m : RG} {new : Ent} {is : Bool} {k : Nat} {out : List Ent} {dn : Bool} {o : Value} (h : OutAt w m.L new is k out dn o wr) (hk : OB w new.kv new.key) (hv : OB w new.vv new.val) (hm : RRep w m) :
    ∀ x ∈ out, OB w x.kv x.key ∧ OB w x.vv x.val := by
  intro x hx
  have hf := h.2.1
  have : x ∈ ((m.L.take k).foldl (refStep new is) ([], !is)).1 := by rw [hf]; exact hx
  rcases refFold_mem _ _ this with h | rfl | h
  · exact nomatch h
  · exact ⟨hk, hv⟩
  · exact hm.he x (List.mem_of_mem_take h)

/-- The document's store with another row of pairs, in new memory. -/
theorem RRep.setL {w w1 : World} {m : RG} {lv' : Value} {L' : List Ent} {n : Nat} (h : RRep w m) (hE : Ext w w1) (hn : L'.length = n) (ho : w1.ownsRow w.heap.size 157 2 lv' n (ecells L')) (he : ∀ x ∈ L', OB w x.kv x.key ∧ OB w x.vv x.val) :
    RRep (w1.setCell ⟨m.b, 0, none⟩ lv') { m with lv := lv', L := L' } := by
  subst hn
  have h1 := h.ext hE
  have hK : Keeps (fun k => k = m.b) w1 (w1.setCell ⟨m.b, 0, none⟩ lv') := Keeps.one (a := ⟨m.b, 0, none⟩) (fun k => k = m.b) (fun _ => rfl) _
  have hml := lt_of_heap h.hs
  have hob : ∀ {v : Value} {xs : BS}, OB w1 v xs → OB (w1.setCell ⟨m.b, 0, none⟩ lv') v xs := fun ho => ho.keeps' hK fun g hg c => by
    obtain ⟨cur, hc⟩ := ho.typed hg
    exact typed_ne h1.hs (c ▸ hc) (by decide)
  have hpr : ∀ {base : Nat} {t : TypeId} {size : Nat} {v : Value} {n : Nat} {xs : List Value}, t ≠ 31 → w1.ownsRow base t size v n xs → (w1.setCell ⟨m.b, 0, none⟩ lv').ownsRow base t size v n xs := fun ht ho => hK.ownsRow ho fun g hg c => by
    obtain ⟨cur, hc⟩ := owns_typed ho hg
    exact typed_ne h1.hs (c ▸ hc) (Ne.symm ht)
  refine ⟨heap_set (ys := [_, _]) h1.hs, owns_base (hpr (by decide) ho) (Nat.zero_le _), hpr (by decide) h1.hw, fun r hr => hpr (by decide) (h1.hr r hr), fun e hx => ⟨hob ((he e hx).1.ext hE), hob ((he e hx).2.ext hE)⟩, fun r hr e hx => ⟨hob (h1.hwe r hr e hx).1, hob (h1.hwe r hr e hx).2⟩⟩

def SetPost (w : World) (m : RG) (new : Ent) (is : Bool) (e : Ending) (w' : World) : Prop :=
  e = .returned (.tuple #[]) ∧ ∃ lv', RRep w' { m with lv := lv', L := refSet m.L new is } ∧ Keeps (fun k => k = m.b) w w'

set_option maxRecDepth 100000 in
set_option maxHeartbeats 2000000 in
theorem r05set_t {w : World} {m : RG} {new : Ent} (h : RRep w m) (hk : OB w new.kv new.key) (hv : OB w new.vv new.val) (hb : m.L.length ≤ big) :
    Calls Try.prog 97 #[.pointer (some ⟨m.b, 0, none⟩), new.kv, new.vv, .bool true] w (SetPost w m new true) := by
  obtain ⟨ka, kcap, hka, -, -⟩ := hk.bv.val
  obtain ⟨va, vcap, hva, -, -⟩ := hv.bv.val
  obtain ⟨s0, -, f0, -⟩ := h.rcells
  obtain ⟨la, lcap, hla, hln, hlc⟩ := owns_val h.hl
  have hbb := hb
  rw [big_eq] at hbb
  have H := hid h
  have HK := hid hk
  have HV := hid hv
  have Hka := hid hka
  have Hva := hid hva
  have hml := lt_of_heap h.hs
  rw [hla] at s0
  have Hla := hid hla
  unfold maxLen at hlc
  rw [hka, hva]
  clear h hk hv hb hka hva hla
  go_enter Try.func97, Try.ntmps97
  go_wp2_with fail
  go_loopw [8, 9, 10] (fun o d i wr => ∃ (k : Nat) (out : List Ent) (dn : Bool), i = .int .i64 k ∧ d = .bool dn ∧ OutAt w m.L new true k out dn o wr) (fun _ _ i _ => m.L.length - (intOf i).toNat)
  case atStart => exact ⟨0, [], !true, rfl, rfl, Nat.zero_le _, rfl, Nat.le_refl _, Ext.refl _, World.ownsRow_nil _ _ _ _⟩
  case round =>
    obtain ⟨k, out, dn, rfl, rfl, hO⟩ := hrel
    have hO2 := hO
    have HO := hid hO2
    obtain ⟨hkn, hfold, holen, hEr, hown⟩ := hO
    have HFold := hid hfold
    have HEr := hid hEr
    have HOwn := hid hown
    obtain ⟨oa, oc, ho⟩ := owns_slice hown
    obtain ⟨on, hon⟩ : ∃ on, out.length = on := ⟨_, rfl⟩
    rw [hon] at ho holen HOwn
    subst ho
    have Hon := hid hon
    have s0r := hEr.cell s0
    have f0r := frozen_of_row wr m.b 0 _ _ (hEr.heap H.out.hs)
    have hmr : m.b < wr.heap.size := Nat.lt_of_lt_of_le hml hEr.size
    clear hO2 hEr hown hon hfold
    by_cases hk : k < m.L.length
    · have hki : (k : Int) < (m.L.length : Int) := by omega
      obtain ⟨g, cap, hv, -, -, c0, c1⟩ := rowPair H.out.hl hk
      rw [Hla.out] at hv
      obtain ⟨rfl, -, rfl⟩ : la = some ⟨g, 0, none⟩ ∧ True ∧ lcap = cap := by simpa using hv
      obtain ⟨e, he⟩ : ∃ e, e = m.L[k] := ⟨_, rfl⟩
      have hem := H.out.he e (by rw [he]; exact List.getElem_mem _)
      rw [← he] at c0 c1
      obtain ⟨ea, ecap, hea, -, -⟩ := hem.1.bv.val
      obtain ⟨fa, fcap, hfa, -, -⟩ := hem.2.bv.val
      rw [hea] at c0
      rw [hfa] at c1
      have c0r := HEr.out.cell c0
      have c1r := HEr.out.cell c1
      have HS := hid (fun (w' : World) (hE : Ext w w') => r01same_c (hem.1.bv.ext hE) (HK.out.bv.ext hE))
      have HL := hid (fun (w' : World) (hE : Ext w w') => r05less_c (HK.out.bv.ext hE) (hem.1.bv.ext hE))
      rw [hea, Hka.out] at HS HL
      have He := hid he
      have Hea := hid hea
      have Hfa := hid hfa
      clear hv hem he hea hfa
      cases dn with
      | true =>
        go_wp2_with fail
        refine (HS.out _ HEr.out).mono ?_
        rintro x w1 ⟨rfl, n1, hw1⟩
        have hE1 : Ext w w1 := by rw [hw1]; exact HEr.out.drewN n1
        have ho1 : w1.ownsRow w.heap.size 157 2 (.slice oa on oc) on (ecells out) := by rw [hw1]; exact Keeps.ownsRow (Ext.of_drewN _ n1) HOwn.out fun _ _ c => c
        have s01 := hE1.cell s0
        have c01 := hE1.cell (c0)
        have c11 := hE1.cell (c1)
        by_cases hs : (e.key == new.key) = true
        · obtain ⟨oa', oc', w2, hrun, hown2, hE2⟩ := outApp (x := new) hE1 Hon.out ho1 Hka.out Hva.out (by omega)
          have HN := hid (HO.out.next hk (out' := _) (dn' := true) (by rw [← He.out]; simp [refStep, hs]) hE2 (n := on + 1) (by simp only [List.length_append, List.length_cons, List.length_nil]; have := Hon.out; omega) hown2)
          clear hown2 hE2 hE1 ho1 hw1
          go_wp2_with fail
          exact ⟨⟨k + 1, _, true, by go_num, rfl, HN.out⟩, by simp [intOf]; omega⟩
        · have hs' : (e.key == new.key) = false := by simpa using hs
          obtain ⟨oa', oc', w2, hrun, hown2, hE2⟩ := outApp (x := e) hE1 Hon.out ho1 Hea.out Hfa.out (by omega)
          have HN := hid (HO.out.next hk (out' := _) (dn' := true) (by rw [← He.out]; simp [refStep, hs']) hE2 (n := on + 1) (by simp only [List.length_append, List.length_cons, List.length_nil]; have := Hon.out; omega) hown2)
          clear hown2 hE2 hE1 ho1 hw1 hs
          go_wp2_with fail
          exact ⟨⟨k + 1, _, true, by go_num, rfl, HN.out⟩, by simp [intOf]; omega⟩
      | false =>
        go_wp2_with fail
        refine (HL.out _ HEr.out).mono ?_
        rintro x w0 ⟨rfl, n0, hw0⟩
        have hE0 : Ext w w0 := by rw [hw0]; exact HEr.out.drewN n0
        have ho0 : w0.ownsRow w.heap.size 157 2 (.slice oa on oc) on (ecells out) := by rw [hw0]; exact Keeps.ownsRow (Ext.of_drewN _ n0) HOwn.out fun _ _ c => c
        have s00 := hE0.cell s0
        have c00 := hE0.cell c0
        by_cases hl : lt new.key e.key = true
        · obtain ⟨ob, od, w5, hrun5, hown5, hE5⟩ := outApp (x := new) hE0 Hon.out ho0 Hka.out Hva.out (by omega)
          have s05 := hE5.cell s0
          have c05 := hE5.cell c0
          have hon5 : (out ++ [new]).length = on + 1 := by simp [Hon.out]
          have Hon5 := hid hon5
          have HOwn5 := hid hown5
          have HE5 := hid hE5
          clear hE0 ho0 hw0 hown5 hE5 hon5
          go_wp2_with fail
          refine (HS.out _ HE5.out).mono ?_
          rintro x w1 ⟨rfl, n1, hw1⟩
          have hE1 : Ext w w1 := by rw [hw1]; exact HE5.out.drewN n1
          have ho1 : w1.ownsRow w.heap.size 157 2 (.slice ob (on + 1) od) (on + 1) (ecells (out ++ [new])) := by rw [hw1]; exact Keeps.ownsRow (Ext.of_drewN _ n1) HOwn5.out fun _ _ c => c
          have s01 := hE1.cell s0
          have c01 := hE1.cell (c0)
          have c11 := hE1.cell (c1)
          by_cases hs : (e.key == new.key) = true
          · obtain ⟨oa', oc', w2, hrun, hown2, hE2⟩ := outApp (x := new) hE1 Hon5.out ho1 Hka.out Hva.out (by omega)
            have HN := hid (HO.out.next hk (out' := _) (dn' := true) (by rw [← He.out]; simp [refStep, hs, hl]) hE2 (n := (on + 1) + 1) (by simp only [List.length_append, List.length_cons, List.length_nil]; have := Hon.out; omega) hown2)
            clear hown2 hE2 hE1 ho1 hw1
            go_wp2_with fail
            exact ⟨⟨k + 1, _, true, by go_num, rfl, HN.out⟩, by simp [intOf]; omega⟩
          · have hs' : (e.key == new.key) = false := by simpa using hs
            obtain ⟨oa', oc', w2, hrun, hown2, hE2⟩ := outApp (x := e) hE1 Hon5.out ho1 Hea.out Hfa.out (by omega)
            have HN := hid (HO.out.next hk (out' := _) (dn' := true) (by rw [← He.out]; simp [refStep, hs', hl]) hE2 (n := (on + 1) + 1) (by simp only [List.length_append, List.length_cons, List.length_nil]; have := Hon.out; omega) hown2)
            clear hown2 hE2 hE1 ho1 hw1 hs
            go_wp2_with fail
            exact ⟨⟨k + 1, _, true, by go_num, rfl, HN.out⟩, by simp [intOf]; omega⟩
        · have hl' : lt new.key e.key = false := by simpa using hl
          have HOwn0 := hid ho0
          have HE0 := hid hE0
          clear hE0 ho0 hw0 hl
          go_wp2_with fail
          refine (HS.out _ HE0.out).mono ?_
          rintro x w1 ⟨rfl, n1, hw1⟩
          have hE1 : Ext w w1 := by rw [hw1]; exact HE0.out.drewN n1
          have ho1 : w1.ownsRow w.heap.size 157 2 (.slice oa on oc) on (ecells out) := by rw [hw1]; exact Keeps.ownsRow (Ext.of_drewN _ n1) HOwn0.out fun _ _ c => c
          have s01 := hE1.cell s0
          have c01 := hE1.cell (c0)
          have c11 := hE1.cell (c1)
          by_cases hs : (e.key == new.key) = true
          · obtain ⟨oa', oc', w2, hrun, hown2, hE2⟩ := outApp (x := new) hE1 Hon.out ho1 Hka.out Hva.out (by omega)
            have HN := hid (HO.out.next hk (out' := _) (dn' := true) (by rw [← He.out]; simp [refStep, hs, hl']) hE2 (n := on + 1) (by simp only [List.length_append, List.length_cons, List.length_nil]; have := Hon.out; omega) hown2)
            clear hown2 hE2 hE1 ho1 hw1
            go_wp2_with fail
            exact ⟨⟨k + 1, _, true, by go_num, rfl, HN.out⟩, by simp [intOf]; omega⟩
          · have hs' : (e.key == new.key) = false := by simpa using hs
            obtain ⟨oa', oc', w2, hrun, hown2, hE2⟩ := outApp (x := e) hE1 Hon.out ho1 Hea.out Hfa.out (by omega)
            have HN := hid (HO.out.next hk (out' := _) (dn' := false) (by rw [← He.out]; simp [refStep, hs', hl']) hE2 (n := on + 1) (by simp only [List.length_append, List.length_cons, List.length_nil]; have := Hon.out; omega) hown2)
            clear hown2 hE2 hE1 ho1 hw1 hs
            go_wp2_with fail
            exact ⟨⟨k + 1, _, false, by go_num, rfl, HN.out⟩, by simp [intOf]; omega⟩
    · obtain rfl : k = m.L.length := by omega
      have hfin : refSet m.L new true = if dn = true then out else out ++ [new] := by
        have := HFold.out
        rw [List.take_length] at this
        simp only [refSet, this]
      cases dn with
      | true =>
        have hfin' : Hid (refSet m.L new true = out) := hid (by rw [hfin]; rfl)
        clear hfin
        go_wp2_with fail
        go_end0
        refine ⟨rfl, .slice oa on oc, ?_, (Keeps.of_ext HEr.out).trans' (Keeps.one (a := ⟨m.b, 0, none⟩) (fun k => k = m.b) (fun _ => rfl) _) (fun _ _ c => c)⟩
        rw [hfin'.out]
        exact H.out.setL HEr.out Hon.out HOwn.out (OutAt.mem HO.out HK.out HV.out H.out)
      | false =>
        have hfin' : Hid (refSet m.L new true = out ++ [new]) := hid (by rw [hfin]; rfl)
        obtain ⟨oa', oc', w2, hrun, hown2, hE2⟩ := outApp (x := new) HEr.out Hon.out HOwn.out Hka.out Hva.out (by omega)
        have HE2 := hid hE2
        have HOwn2 := hid hown2
        have hsz : m.b < w2.heap.size := Nat.lt_of_lt_of_le hml hE2.size
        have f02 := frozen_of_row w2 m.b 0 _ _ (hE2.heap H.out.hs)
        have s02 := hE2.cell s0
        clear hfin hE2 hown2
        go_wp2_with fail
        go_end0
        refine ⟨rfl, .slice oa' (on + 1) oc', ?_, (Keeps.of_ext HE2.out).trans' (Keeps.one (a := ⟨m.b, 0, none⟩) (fun k => k = m.b) (fun _ => rfl) _) (fun _ _ c => c)⟩
        rw [hfin'.out]
        refine H.out.setL HE2.out (by simp only [List.length_append, List.length_cons, List.length_nil]; have := Hon.out; omega) HOwn2.out ?_
        intro x hx
        rcases List.mem_append.1 hx with hx | hx
        · exact OutAt.mem HO.out HK.out HV.out H.out x hx
        · obtain rfl := List.mem_singleton.1 hx
          exact ⟨HK.out, HV.out⟩

set_option maxRecDepth 100000 in
set_option maxHeartbeats 2000000 in
theorem r05set_f {w : World} {m : RG} {new : Ent} (h : RRep w m) (hk : OB w new.kv new.key) (hv : OB w new.vv new.val) (hb : m.L.length ≤ big) :
    Calls Try.prog 97 #[.pointer (some ⟨m.b, 0, none⟩), new.kv, new.vv, .bool false] w (SetPost w m new false) := by
  obtain ⟨ka, kcap, hka, -, -⟩ := hk.bv.val
  obtain ⟨va, vcap, hva, -, -⟩ := hv.bv.val
  obtain ⟨s0, -, f0, -⟩ := h.rcells
  obtain ⟨la, lcap, hla, hln, hlc⟩ := owns_val h.hl
  have hbb := hb
  rw [big_eq] at hbb
  have H := hid h
  have HK := hid hk
  have HV := hid hv
  have Hka := hid hka
  have Hva := hid hva
  have hml := lt_of_heap h.hs
  rw [hla] at s0
  have Hla := hid hla
  unfold maxLen at hlc
  rw [hka, hva]
  clear h hk hv hb hka hva hla
  go_enter Try.func97, Try.ntmps97
  go_wp2_with fail
  go_loopw [8, 9, 10] (fun o d i wr => ∃ (k : Nat) (out : List Ent) (dn : Bool), i = .int .i64 k ∧ d = .bool dn ∧ OutAt w m.L new false k out dn o wr) (fun _ _ i _ => m.L.length - (intOf i).toNat)
  case atStart => exact ⟨0, [], !false, rfl, rfl, Nat.zero_le _, rfl, Nat.le_refl _, Ext.refl _, World.ownsRow_nil _ _ _ _⟩
  case round =>
    obtain ⟨k, out, dn, rfl, rfl, hO⟩ := hrel
    have hO2 := hO
    have HO := hid hO2
    obtain ⟨hkn, hfold, holen, hEr, hown⟩ := hO
    have HFold := hid hfold
    have HEr := hid hEr
    have HOwn := hid hown
    obtain ⟨oa, oc, ho⟩ := owns_slice hown
    obtain ⟨on, hon⟩ : ∃ on, out.length = on := ⟨_, rfl⟩
    rw [hon] at ho holen HOwn
    subst ho
    have Hon := hid hon
    have s0r := hEr.cell s0
    have f0r := frozen_of_row wr m.b 0 _ _ (hEr.heap H.out.hs)
    have hmr : m.b < wr.heap.size := Nat.lt_of_lt_of_le hml hEr.size
    clear hO2 hEr hown hon hfold
    by_cases hk : k < m.L.length
    · have hki : (k : Int) < (m.L.length : Int) := by omega
      obtain ⟨g, cap, hv, -, -, c0, c1⟩ := rowPair H.out.hl hk
      rw [Hla.out] at hv
      obtain ⟨rfl, -, rfl⟩ : la = some ⟨g, 0, none⟩ ∧ True ∧ lcap = cap := by simpa using hv
      obtain ⟨e, he⟩ : ∃ e, e = m.L[k] := ⟨_, rfl⟩
      have hem := H.out.he e (by rw [he]; exact List.getElem_mem _)
      rw [← he] at c0 c1
      obtain ⟨ea, ecap, hea, -, -⟩ := hem.1.bv.val
      obtain ⟨fa, fcap, hfa, -, -⟩ := hem.2.bv.val
      rw [hea] at c0
      rw [hfa] at c1
      have c0r := HEr.out.cell c0
      have c1r := HEr.out.cell c1
      have HS := hid (fun (w' : World) (hE : Ext w w') => r01same_c (hem.1.bv.ext hE) (HK.out.bv.ext hE))
      have HL := hid (fun (w' : World) (hE : Ext w w') => r05less_c (HK.out.bv.ext hE) (hem.1.bv.ext hE))
      rw [hea, Hka.out] at HS HL
      have He := hid he
      have Hea := hid hea
      have Hfa := hid hfa
      clear hv hem he hea hfa
      obtain rfl : dn = true := refFold_false HFold.out
      go_wp2_with fail
      refine (HS.out _ HEr.out).mono ?_
      rintro x w1 ⟨rfl, n1, hw1⟩
      have hE1 : Ext w w1 := by rw [hw1]; exact HEr.out.drewN n1
      have ho1 : w1.ownsRow w.heap.size 157 2 (.slice oa on oc) on (ecells out) := by rw [hw1]; exact Keeps.ownsRow (Ext.of_drewN _ n1) HOwn.out fun _ _ c => c
      have s01 := hE1.cell s0
      have c01 := hE1.cell (c0)
      have c11 := hE1.cell (c1)
      by_cases hs : (e.key == new.key) = true
      · have HN := hid (HO.out.next hk (out' := _) (dn' := true) (by rw [← He.out]; simp [refStep, hs]) hE1 (n := on) Hon.out ho1)
        clear hE1 ho1 hw1
        go_wp2_with fail
        exact ⟨⟨k + 1, _, true, by go_num, rfl, HN.out⟩, by simp [intOf]; omega⟩
      · have hs' : (e.key == new.key) = false := by simpa using hs
        obtain ⟨oa', oc', w2, hrun, hown2, hE2⟩ := outApp (x := e) hE1 Hon.out ho1 Hea.out Hfa.out (by omega)
        have HN := hid (HO.out.next hk (out' := _) (dn' := true) (by rw [← He.out]; simp [refStep, hs']) hE2 (n := on + 1) (by simp only [List.length_append, List.length_cons, List.length_nil]; have := Hon.out; omega) hown2)
        clear hown2 hE2 hE1 ho1 hw1 hs
        go_wp2_with fail
        exact ⟨⟨k + 1, _, true, by go_num, rfl, HN.out⟩, by simp [intOf]; omega⟩
    · obtain rfl : k = m.L.length := by omega
      have hfin : refSet m.L new false = if dn = true then out else out ++ [new] := by
        have := HFold.out
        rw [List.take_length] at this
        simp only [refSet, this]
      cases dn with
      | true =>
        have hfin' : Hid (refSet m.L new false = out) := hid (by rw [hfin]; rfl)
        clear hfin
        go_wp2_with fail
        go_end0
        refine ⟨rfl, .slice oa on oc, ?_, (Keeps.of_ext HEr.out).trans' (Keeps.one (a := ⟨m.b, 0, none⟩) (fun k => k = m.b) (fun _ => rfl) _) (fun _ _ c => c)⟩
        rw [hfin'.out]
        exact H.out.setL HEr.out Hon.out HOwn.out (OutAt.mem HO.out HK.out HV.out H.out)
      | false =>
        exact absurd (refFold_false HFold.out) (by simp)

theorem r05set_c {w : World} {m : RG} {new : Ent} {is : Bool} (h : RRep w m) (hk : OB w new.kv new.key) (hv : OB w new.vv new.val) (hb : m.L.length ≤ big) :
    Calls Try.prog 97 #[.pointer (some ⟨m.b, 0, none⟩), new.kv, new.vv, .bool is] w (SetPost w m new is) := by
  cases is
  · exact r05set_f h hk hv hb
  · exact r05set_t h hk hv hb

end Go.Proofs.Ytaidgkdebocenaa
