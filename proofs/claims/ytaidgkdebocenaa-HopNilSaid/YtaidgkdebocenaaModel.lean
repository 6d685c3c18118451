/- What a store's deeds do, on plain lists: pairs in order, a log of what was, marks.
   No conditions: definitions and lemmas. -/
import Derived.Test.YtaidgkdebocenaaDo
namespace Go.Proofs.Ytaidgkdebocenaa
open Go Go.RowKit

abbrev KV := BS × BS

def posM : List KV → BS → Nat
  | [], _ => 0
  | p :: l, k => if lt p.1 k = true then posM l k + 1 else 0
def hasM (M : List KV) (k : BS) : Bool := (M[posM M k]?.map fun p => p.1 == k).getD false
def getM (M : List KV) (k : BS) : BS := if hasM M k = true then ((M[posM M k]?).map Prod.snd).getD [] else []
def putM (M : List KV) (k v : BS) (is : Bool) : List KV :=
  if hasM M k = true then (if is = true then M.take (posM M k) ++ (k, v) :: M.drop (posM M k + 1) else M.take (posM M k) ++ M.drop (posM M k + 1))
  else if is = true then M.take (posM M k) ++ (k, v) :: M.drop (posM M k) else M

structure LU where
  key : BS
  val : BS
  was : Bool

structure AS where
  M : List KV
  log : List LU
  marks : List Nat

def doM (a : AS) (k v : BS) (is : Bool) : AS :=
  { a with M := putM a.M k v is, log := if a.marks = [] then a.log else a.log ++ [⟨k, getM a.M k, hasM a.M k⟩] }

def absL (L : List Ent) : List KV := L.map fun e => (e.key, e.val)
def absU (l : List Und) : List LU := l.map fun u => ⟨u.key, u.val, u.was⟩
def abs (s : SG) : AS := ⟨absL s.L, absU s.log, s.marks⟩

theorem posM_abs : ∀ (L : List Ent) (k : BS), posM (absL L) k = pos L k
  | [], _ => rfl
  | e :: l, k => by
    have ih := posM_abs l k
    simp only [absL, List.map_cons, posM, pos] at *
    rw [ih]
theorem hasM_abs (L : List Ent) (k : BS) : hasM (absL L) k = has L k := by
  unfold hasM has
  rw [posM_abs]
  simp [absL, Function.comp_def]
theorem getM_abs (L : List Ent) (k : BS) : getM (absL L) k = oldB L k := by
  unfold getM oldB
  rw [hasM_abs, posM_abs]
  simp [absL, Function.comp_def]
theorem putM_abs (L : List Ent) (e : Ent) (is : Bool) : absL (putL L e is) = putM (absL L) e.key e.val is := by
  unfold putL putM
  rw [hasM_abs, posM_abs]
  cases has L e.key <;> cases is <;> simp [absL, List.map_take, List.map_drop]

theorem abs_doG (s : SG) (e : Ent) (is : Bool) (lv gv : Value) : abs (doG s e is lv gv) = doM (abs s) e.key e.val is := by
  simp only [abs, doG, doM, putM_abs, getM_abs, hasM_abs]
  by_cases h : s.marks = []
  · simp [h]
  · simp [h, absU]

/-- The blocks of bytes that a store holds. -/
def Byt (s : SG) (k : Nat) : Prop :=
  (∃ e ∈ s.L, e.kv.ownBlock = some k ∨ e.vv.ownBlock = some k) ∨ (∃ u ∈ s.log, u.kv.ownBlock = some k ∨ u.vv.ownBlock = some k)

theorem oldV_byt {s : SG} {k : BS} {g : Nat} (h : (oldV s.L k).ownBlock = some g) : Byt s g := by
  unfold oldV at h
  by_cases hh : has s.L k = true
  · have hl := has_lt hh
    simp only [hh, if_true, List.getElem?_eq_getElem hl, Option.map_some, Option.getD_some] at h
    exact .inl ⟨_, List.getElem_mem hl, .inr h⟩
  · simp [hh, Value.ownBlock] at h

theorem byt_doG {s : SG} {e : Ent} {is : Bool} {lv gv : Value} {g : Nat} (h : Byt (doG s e is lv gv) g) : Byt s g ∨ e.kv.ownBlock = some g ∨ e.vv.ownBlock = some g := by
  rcases h with ⟨x, hx, h⟩ | ⟨u, hu, h⟩
  · rcases putL_mem x hx with hx | ⟨rfl, -⟩
    · exact .inl (.inl ⟨x, hx, h⟩)
    · exact .inr h
  · simp only [doG] at hu
    split at hu
    · exact .inl (.inr ⟨u, hu, h⟩)
    · rcases List.mem_append.1 hu with hu | hu
      · exact .inl (.inr ⟨u, hu, h⟩)
      · obtain rfl := List.mem_singleton.1 hu
        rcases h with h | h
        · exact .inr (.inl h)
        · exact .inl (oldV_byt h)

/-- What a call on a store leaves: the store is as a says; of old memory the store's own blocks alone may be turned; what it has besides is new. -/
structure Moved (w : World) (s : SG) (a : AS) (w' : World) (s' : SG) : Prop where
  rep : SRep w' s'
  b : s'.b = s.b
  abs : abs s' = a
  keeps : Keeps (Foot s) w w'
  foot : ∀ k, Foot s' k → Foot s k ∨ w.heap.size ≤ k
  byt : ∀ k, Byt s' k → Byt s k ∨ w.heap.size ≤ k

theorem SRep.byt_lt {w : World} {s : SG} (h : SRep w s) {k : Nat} (hk : Byt s k) : ∃ cur, w.heap[k]? = some (.cells cur 5 (0, 0)) := by
  rcases hk with ⟨e, he, hk⟩ | ⟨u, hu, hk⟩
  · rcases hk with hk | hk
    · exact (h.he e he).1.typed hk
    · exact (h.he e he).2.typed hk
  · rcases hk with hk | hk
    · exact (h.hu u hu).1.typed hk
    · exact (h.hu u hu).2.typed hk

theorem OB.keeps' {S : Nat → Prop} {w w' : World} {v : Value} {xs : BS} (h : OB w v xs) (hk : Keeps S w w') (hS : ∀ g, v.ownBlock = some g → ¬ S g) : OB w' v xs := hk.ownsRow h hS

/-- A store stays while other blocks are turned. -/
theorem SRep.keeps' {S : Nat → Prop} {w w' : World} {s : SG} (h : SRep w s) (hk : Keeps S w w') (hd : ∀ k, Foot s k → ¬ S k) (hb : ∀ k, Byt s k → ¬ S k) : SRep w' s where
  hs := hk.heap h.hs (hd _ (.inl rfl))
  hl := hk.ownsRow h.hl fun g hg => hd g (.inr (.inl hg))
  hg := hk.ownsRow h.hg fun g hg => hd g (.inr (.inr (.inl hg)))
  hm := hk.ownsRow h.hm fun g hg => hd g (.inr (.inr (.inr hg)))
  he := fun e he => ⟨(h.he e he).1.keeps' hk fun g hg => hb g (.inl ⟨e, he, .inl hg⟩), (h.he e he).2.keeps' hk fun g hg => hb g (.inl ⟨e, he, .inr hg⟩)⟩
  hu := fun u hu => ⟨(h.hu u hu).1.keeps' hk fun g hg => hb g (.inr ⟨u, hu, .inl hg⟩), (h.hu u hu).2.keeps' hk fun g hg => hb g (.inr ⟨u, hu, .inr hg⟩)⟩
  so := h.so

/-! ### Set, Delete -/

def small (s : SG) : Prop := s.L.length < big ∧ s.log.length < big ∧ s.marks.length < big

theorem Fresh.lt {w w' : World} {v : Value} {n : Nat} {xs : List Value} (h : w'.ownsRow w.heap.size 5 1 v n xs) {k : Nat} (hk : v.ownBlock = some k) : w.heap.size ≤ k := (h.lt k hk).1

set_option maxRecDepth 100000 in
set_option maxHeartbeats 400000 in
theorem set_c {w : World} {s : SG} {kv vv : Value} {key val : BS} (h : SRep w s) (hk : BV w kv key) (hv : BV w vv val) (hb : small s) (hkl : key.length ≤ big) (hvl : val.length ≤ big) :
    Calls Try.prog 36 #[.pointer (some ⟨s.b, 0, none⟩), kv, vv] w fun e w' => e = .returned (.tuple #[]) ∧ ∃ s', Moved w s (doM (abs s) key val true) w' s' := by
  have HC1 := hid (cloneB_c hk hkl)
  have H := hid h
  have HV := hid hv
  have HB := hid hb
  have Hvl := hid hvl
  clear h hk hv hb hkl hvl
  go_enter Try.func36, Try.ntmps36
  go_wp2_with fail
  refine HC1.out.mono ?_
  rintro e w1 ⟨k', rfl, hk', hE1⟩
  have HC2 := hid (cloneB_c (HV.out.ext hE1) Hvl.out)
  have Hk' := hid hk'
  have HE1 := hid hE1
  clear hk' hE1 HC1
  go_wp2_with fail
  refine HC2.out.mono ?_
  rintro e w2 ⟨v', rfl, hv', hE2⟩
  have hE : Ext w w2 := HE1.out.trans hE2
  have hkOB : OB w2 k' key := (OB.of_owns Hk'.out).ext hE2
  have HDo := hid (do_c (e := ⟨k', v', key, val⟩) (is := true) (H.out.ext hE) hkOB (OB.of_owns hv') (Nat.le_of_lt HB.out.1) HB.out.2.1)
  have hkf : ∀ g, k'.ownBlock = some g → w.heap.size ≤ g := fun g hg => (Hk'.out.lt g hg).1
  have hvf : ∀ g, v'.ownBlock = some g → w.heap.size ≤ g := fun g hg => Nat.le_trans HE1.out.size (hv'.lt g hg).1
  have HE := hid hE
  have HF := hid (And.intro hkf hvf)
  obtain ⟨ka, kcap, hka, -, -⟩ := hkOB.bv.val
  obtain ⟨va, vcap, hva, -, -⟩ := (OB.of_owns hv').bv.val
  subst hka hva
  clear hkOB hv' hE2 hE hkf hvf HC2 Hk'
  go_wp2_with fail
  refine HDo.out.mono ?_
  rintro e w3 ⟨rfl, lv', gv', hrep, hK, hft⟩
  have hM : Moved w s (doM (abs s) key val true) w3 (doG s ⟨.slice ka key.length kcap, .slice va val.length vcap, key, val⟩ true lv' gv') := by
    refine ⟨hrep, rfl, abs_doG _ _ _ _ _, (Keeps.of_ext HE.out).trans' hK (fun _ _ c => c), fun k hk => ?_, fun k hk => ?_⟩
    · rcases hft k hk with c | c
      · exact .inl c
      · exact .inr (Nat.le_trans HE.out.size c)
    · rcases byt_doG hk with c | c | c
      · exact .inl c
      · exact .inr (HF.out.1 k c)
      · exact .inr (HF.out.2 k c)
  have HM := hid hM
  clear hrep hK hft hM
  go_wp2_with fail
  go_end0
  exact ⟨rfl, _, HM.out⟩

set_option maxRecDepth 100000 in
set_option maxHeartbeats 400000 in
theorem delete_c {w : World} {s : SG} {kv : Value} {key : BS} (h : SRep w s) (hk : BV w kv key) (hb : small s) (hkl : key.length ≤ big) :
    Calls Try.prog 46 #[.pointer (some ⟨s.b, 0, none⟩), kv] w fun e w' => e = .returned (.tuple #[]) ∧ ∃ s', Moved w s (doM (abs s) key [] false) w' s' := by
  have HC1 := hid (cloneB_c hk hkl)
  have H := hid h
  have HB := hid hb
  clear h hk hb hkl
  go_enter Try.func46, Try.ntmps46
  go_wp2_with fail
  refine HC1.out.mono ?_
  rintro e w2 ⟨k', rfl, hk', hE⟩
  have hkOB : OB w2 k' key := OB.of_owns hk'
  have HDo := hid (do_c (e := ⟨k', .slice none 0 0, key, []⟩) (is := false) (H.out.ext hE) hkOB (OB.nil _) (Nat.le_of_lt HB.out.1) HB.out.2.1)
  have HF := hid (fun g (hg : k'.ownBlock = some g) => (hk'.lt g hg).1)
  have HE := hid hE
  obtain ⟨ka, kcap, hka, -, -⟩ := hkOB.bv.val
  subst hka
  clear hkOB hk' hE HC1
  go_wp2_with fail
  refine HDo.out.mono ?_
  rintro e w3 ⟨rfl, lv', gv', hrep, hK, hft⟩
  have hM : Moved w s (doM (abs s) key [] false) w3 (doG s ⟨.slice ka key.length kcap, .slice none 0 0, key, []⟩ false lv' gv') := by
    refine ⟨hrep, rfl, abs_doG _ _ _ _ _, (Keeps.of_ext HE.out).trans' hK (fun _ _ c => c), fun k hk => ?_, fun k hk => ?_⟩
    · rcases hft k hk with c | c
      · exact .inl c
      · exact .inr (Nat.le_trans HE.out.size c)
    · rcases byt_doG hk with c | c | c
      · exact .inl c
      · exact .inr (HF.out k c)
      · simp [Value.ownBlock] at c
  have HM := hid hM
  clear hrep hK hft hM
  go_wp2_with fail
  go_end0
  exact ⟨rfl, _, HM.out⟩

end Go.Proofs.Ytaidgkdebocenaa
