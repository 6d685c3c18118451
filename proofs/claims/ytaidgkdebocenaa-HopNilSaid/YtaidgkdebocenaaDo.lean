/- The contracts of (*Store).put, do, Set, Delete.
   Conditions: the store lies in memory as SRep says; fewer than 2^40 pairs and deeds; keys and values shorter than 2^40. -/
import Derived.Test.YtaidgkdebocenaaPut
namespace Go.Proofs.Ytaidgkdebocenaa
open Go Go.RowKit

set_option maxRecDepth 100000 in
set_option maxHeartbeats 1000000 in
theorem put_none {w : World} {s : SG} {e : Ent} {xa : Option Addr} {xn xcap : Nat} (h : SRep w s) (hk : OB w e.kv e.key) (hb : s.L.length ≤ big) (hh : has s.L e.key = false) :
    Calls Try.prog 107 #[.pointer (some ⟨s.b, 0, none⟩), .agg #[e.kv, .slice xa xn xcap], .bool false] w (PutPost w s e false) := by
  obtain ⟨kv, vv, key, val⟩ := e
  dsimp only at hk hh ⊢
  have hE : Ext w ((w.alloc (.cells #[kv, .slice xa xn xcap] 161)).alloc (.cells #[.slice none 0 0, .slice none 0 0, .bool false] 167)) := ((Ext.refl w).alloc _).alloc _
  have hfind := find_c (h.ext hE) (hk.bv.ext hE) hb
  rw [hh] at hfind
  have hofin : Hid (oldV s.L key = .slice none 0 0) := hid (by simp [oldV, hh])
  obtain ⟨i, hi⟩ : ∃ i, i = pos s.L key := ⟨_, rfl⟩
  rw [← hi] at hfind
  clear hi
  obtain ⟨ka, kcap, hkv, -, -⟩ := hk.bv.val
  subst hkv
  have HF := hid hfind
  have HE := hid hE
  have H := hid h
  have HK := hid hk
  have Hh := hid hh
  clear h hk hb hh hE hfind
  go_enter Try.func107, Try.ntmps107
  go_wp2_with fail
  refine HF.out.mono ?_
  rintro e w1 ⟨rfl, hE1⟩
  have HE1 : Hid (Ext w w1) := hid (HE.out.trans hE1)
  have p0 : w1.cell? ⟨w.heap.size, 0, none⟩ = some (.slice ka key.length kcap) := hE1.cell (by simp)
  have p1 : w1.cell? ⟨w.heap.size, 1, none⟩ = some (.slice xa xn xcap) := hE1.cell (by simp)
  have z1 := hE1.size
  simp at z1
  have hr := hE1.heap (k := w.heap.size + 1) (o := .cells #[.slice none 0 0, .slice none 0 0, .bool false] 167) (heap_alloc2_new w _ _)
  have r0a := cell_of_row w1 (w.heap.size + 1) 0 _ _ _ hr
  have r0b := cell_of_row w1 (w.heap.size + 1) 1 _ _ _ hr
  have r0c := cell_of_row w1 (w.heap.size + 1) 2 _ _ _ hr
  have rfa := frozen_of_row w1 (w.heap.size + 1) 0 _ _ hr
  have rfb := frozen_of_row w1 (w.heap.size + 1) 1 _ _ hr
  have rfc := frozen_of_row w1 (w.heap.size + 1) 2 _ _ hr
  simp at r0a r0b r0c
  have z2 : w.heap.size < w1.heap.size := by omega
  have z3 : w.heap.size + 1 < w1.heap.size := by omega
  have HR := hid hr
  clear hr hE1 z1 HF HE
  go_wp2_with fail
  obtain ⟨W4, hW4⟩ : ∃ W4, W4 = ((((w1.setCell ⟨w.heap.size + 1, 0, none⟩ (.slice ka key.length kcap)).setCell ⟨w.heap.size + 1, 1, none⟩ (.slice none 0 0)).setCell ⟨w.heap.size + 1, 2, none⟩ (.bool false)).alloc (.cells #[.slice ka key.length kcap, .slice none 0 0, .bool false] 167)) := ⟨_, rfl⟩
  have hR : W4.heap[w.heap.size + 1]? = some (.cells #[.slice ka key.length kcap, .slice none 0 0, .bool false] 167 (0, 0)) := by
    rw [hW4]
    exact Ext.heap ((Ext.refl _).alloc _) (heap_set (ys := [_, _, _]) (heap_set (ys := [_, _, _]) (heap_set (ys := [_, _, _]) HR.out)))
  have hK : Ext w W4 := by
    rw [hW4]
    refine ((((HE1.out).setCell (fun c => ?_) _).setCell (fun c => ?_) _).setCell (fun c => ?_) _).alloc _ <;> (simp at c; omega)
  rw [← hW4]
  refine bodyPost_ret (results_cell_row (P := Try.prog) (fn := Try.f107) (p := 6) (ty := 167) rfl _ W4 (w.heap.size + 1) 167 _ (0, 0) _ rfl hR Try.underlying167 rfl infoU1) rfl ?_
  have hL' : putL s.L ⟨.slice ka key.length kcap, vv, key, val⟩ false = s.L := by unfold putL; simp only [Hh.out, Bool.false_eq_true, if_false]
  refine ⟨s.lv, ?_, ?_, Keeps.of_ext hK, fun k hk => .inl hk⟩
  · rw [hofin.out, Hh.out]
  · rw [hL']
    exact H.out.ext hK

theorem put_c {w : World} {s : SG} {e : Ent} {is : Bool} (h : SRep w s) (hk : OB w e.kv e.key) (hv : OB w e.vv e.val) (hb : s.L.length ≤ big) :
    Calls Try.prog 107 #[.pointer (some ⟨s.b, 0, none⟩), .agg #[e.kv, e.vv], .bool is] w (PutPost w s e is) := by
  cases is with
  | true =>
    by_cases hh : has s.L e.key = true
    · exact put_set h hk hv hb hh
    · exact put_ins h hk hv hb (by simpa using hh)
  | false =>
    obtain ⟨va, vcap, hvv, -, -⟩ := hv.bv.val
    rw [hvv]
    by_cases hh : has s.L e.key = true
    · exact put_del h hk hb hh
    · exact put_none h hk hb (by simpa using hh)

/-! ### The store behind a deed on its log, on its marks -/

theorem typed_ne {w : World} {k : Nat} {c1 c2 : Array Value} {t1 t2 : TypeId} {f1 f2 : Nat × Nat} (h1 : w.heap[k]? = some (.cells c1 t1 f1)) (h2 : w.heap[k]? = some (.cells c2 t2 f2)) (hne : t1 ≠ t2) : False := by
  rw [h1] at h2
  simp only [Option.some.injEq, Obj.cells.injEq] at h2
  exact hne h2.2.1

def GFoot (s : SG) (k : Nat) : Prop := k = s.b ∨ s.gv.ownBlock = some k
def MFoot (s : SG) (k : Nat) : Prop := k = s.b ∨ s.mv.ownBlock = some k

theorem GFoot.foot {s : SG} {k : Nat} (h : GFoot s k) : Foot s k := by
  rcases h with h | h
  · exact .inl h
  · exact .inr (.inr (.inl h))
theorem MFoot.foot {s : SG} {k : Nat} (h : MFoot s k) : Foot s k := by
  rcases h with h | h
  · exact .inl h
  · exact .inr (.inr (.inr h))

theorem SRep.updG {w w' : World} {s : SG} {gv' : Value} {log' : List Und} (h : SRep w s) (hk : Keeps (GFoot s) w w') (hs : w'.heap[s.b]? = some (.cells #[s.lv, gv', s.mv] 153 (0, 0)))
    (hg : w'.ownsRow 0 167 3 gv' log'.length (ucells log')) (hu : ∀ e ∈ log', OB w' e.kv e.key ∧ OB w' e.vv e.val) : SRep w' { s with gv := gv', log := log' } where
  hs := hs
  hl := hk.ownsRow h.hl fun g hg c => by
    obtain ⟨c1, h1⟩ := owns_typed h.hl hg
    rcases c with rfl | c
    · exact typed_ne h.hs h1 (by decide)
    · obtain ⟨c2, h2⟩ := owns_typed h.hg c; exact typed_ne h1 h2 (by decide)
  hg := hg
  hm := hk.ownsRow h.hm fun g hg c => by
    obtain ⟨c1, h1⟩ := owns_typed h.hm hg
    rcases c with rfl | c
    · exact typed_ne h.hs h1 (by decide)
    · obtain ⟨c2, h2⟩ := owns_typed h.hg c; exact typed_ne h1 h2 (by decide)
  he := fun e he => ⟨(h.he e he).1.keeps hk fun k c => h.nb k c.foot, (h.he e he).2.keeps hk fun k c => h.nb k c.foot⟩
  hu := hu
  so := h.so

theorem SRep.updM {w w' : World} {s : SG} {mv' : Value} {marks' : List Nat} (h : SRep w s) (hk : Keeps (MFoot s) w w') (hs : w'.heap[s.b]? = some (.cells #[s.lv, s.gv, mv'] 153 (0, 0)))
    (hm : w'.ownsRow 0 3 1 mv' marks'.length (mcells marks')) : SRep w' { s with mv := mv', marks := marks' } where
  hs := hs
  hl := hk.ownsRow h.hl fun g hg c => by
    obtain ⟨c1, h1⟩ := owns_typed h.hl hg
    rcases c with rfl | c
    · exact typed_ne h.hs h1 (by decide)
    · obtain ⟨c2, h2⟩ := owns_typed h.hm c; exact typed_ne h1 h2 (by decide)
  hg := hk.ownsRow h.hg fun g hg c => by
    obtain ⟨c1, h1⟩ := owns_typed h.hg hg
    rcases c with rfl | c
    · exact typed_ne h.hs h1 (by decide)
    · obtain ⟨c2, h2⟩ := owns_typed h.hm c; exact typed_ne h1 h2 (by decide)
  hm := hm
  he := fun e he => ⟨(h.he e he).1.keeps hk fun k c => h.nb k c.foot, (h.he e he).2.keeps hk fun k c => h.nb k c.foot⟩
  hu := fun e he => ⟨(h.hu e he).1.keeps hk fun k c => h.nb k c.foot, (h.hu e he).2.keeps hk fun k c => h.nb k c.foot⟩
  so := h.so

theorem SRep.g_ne {w : World} {s : SG} (h : SRep w s) : s.gv.ownBlock ≠ some s.b := by
  intro c
  obtain ⟨c2, h2⟩ := owns_typed h.hg c
  exact typed_ne h.hs h2 (by decide)
theorem SRep.m_ne {w : World} {s : SG} (h : SRep w s) : s.mv.ownBlock ≠ some s.b := by
  intro c
  obtain ⟨c2, h2⟩ := owns_typed h.hm c
  exact typed_ne h.hs h2 (by decide)

theorem ucells_length (l : List Und) : (ucells l).length = l.length * 3 := by
  induction l with
  | nil => rfl
  | cons e l ih => simp only [ucells, List.flatMap_cons, List.length_append] at *; rw [ih]; simp [Und.cells]; omega

theorem SRep.gval {w : World} {s : SG} (h : SRep w s) : ∃ ao cap, s.gv = .slice ao s.log.length cap ∧ s.log.length ≤ cap ∧ cap ≤ maxLen := by
  rcases h.hg.2 with ⟨hv, h0⟩ | ⟨g, cap, cur, hv, -, hg, hn, hc, hsz, ht⟩
  · exact ⟨none, 0, by rw [hv, h0], by omega, by simp [maxLen]⟩
  · exact ⟨_, cap, hv, hn, hc⟩
theorem SRep.mval {w : World} {s : SG} (h : SRep w s) : ∃ ao cap, s.mv = .slice ao s.marks.length cap ∧ s.marks.length ≤ cap ∧ cap ≤ maxLen := by
  rcases h.hm.2 with ⟨hv, h0⟩ | ⟨g, cap, cur, hv, -, hg, hn, hc, hsz, ht⟩
  · exact ⟨none, 0, by rw [hv, h0], by omega, by simp [maxLen]⟩
  · exact ⟨_, cap, hv, hn, hc⟩

theorem oldV_ob {w : World} {s : SG} (h : SRep w s) (k : BS) : OB w (oldV s.L k) (oldB s.L k) := by
  unfold oldV oldB
  by_cases hh : has s.L k = true
  · have hl := has_lt hh
    simp only [hh, if_true, List.getElem?_eq_getElem hl, Option.map_some, Option.getD_some]
    exact (h.he _ (List.getElem_mem hl)).2
  · simp only [hh]
    exact OB.nil w

/-! ### do -/

def doG (s : SG) (e : Ent) (is : Bool) (lv' gv' : Value) : SG :=
  { s with lv := lv', L := putL s.L e is, gv := gv', log := if s.marks = [] then s.log else s.log ++ [⟨e.kv, oldV s.L e.key, e.key, oldB s.L e.key, has s.L e.key⟩] }

/-- What a deed leaves. -/
def DoPost (w : World) (s : SG) (e : Ent) (is : Bool) (x : Ending) (w' : World) : Prop :=
  x = .returned (.tuple #[]) ∧ ∃ lv' gv', SRep w' (doG s e is lv' gv') ∧ Keeps (Foot s) w w' ∧ (∀ k, Foot (doG s e is lv' gv') k → Foot s k ∨ w.heap.size ≤ k)

theorem infoU : (Try.prog.info? 167).map (fun i => (i.zero, i.size, i.bytes)) = some (some (.agg #[.slice none 0 0, .slice none 0 0, .bool false]), 3, 56) := by kernel_rfl

set_option maxRecDepth 100000 in
set_option maxHeartbeats 1000000 in
theorem do_c {w : World} {s : SG} {e : Ent} {is : Bool} (h : SRep w s) (hk : OB w e.kv e.key) (hv : OB w e.vv e.val) (hb : s.L.length ≤ big) (hg : s.log.length < big) :
    Calls Try.prog 103 #[.pointer (some ⟨s.b, 0, none⟩), .agg #[e.kv, e.vv], .bool is] w (DoPost w s e is) := by
  obtain ⟨kv, vv, key, val⟩ := e
  dsimp only at hk hv ⊢
  have hE : Ext w (w.alloc (.cells #[kv, vv] 161)) := (Ext.refl w).alloc _
  have hput := put_c (h.ext hE) (e := ⟨kv, vv, key, val⟩) (is := is) (hk.ext hE) (hv.ext hE) hb
  dsimp only at hput
  obtain ⟨ka, kcap, hkv, -, -⟩ := hk.bv.val
  obtain ⟨va, vcap, hvv, -, -⟩ := hv.bv.val
  subst hkv hvv
  have HP := hid hput
  have HE := hid hE
  have H := hid h
  have HK := hid hk
  have HG := hid hg
  clear h hk hv hb hg hE hput
  go_enter Try.func103, Try.ntmps103
  go_wp2_with fail
  refine HP.out.mono ?_
  rintro x w1 ⟨lv', rfl, hrep, hkp, hblk⟩
  have hkw : Keeps (LFoot s) w w1 := (Keeps.of_ext HE.out).trans' hkp (fun k _ c => c)
  have hE0 := HE.out.size
  obtain ⟨s0, s1, s2, -, -, -⟩ := hrep.scells
  obtain ⟨ma, mcap, hmv, hmn, hmc⟩ := H.out.mval
  obtain ⟨ga, gcap, hgv, hgn, hgc⟩ := H.out.gval
  have hob := (oldV_ob (H.out) key)
  obtain ⟨oa, ocap, hov, -, -⟩ := hob.bv.val
  dsimp only at hov s0 s1 s2 hblk ⊢
  rw [hov]
  rw [hmv] at s2
  rw [hgv] at s1
  unfold maxLen at hmc hgc
  have hsl : s.b < w1.heap.size := World.block_lt_of_cell? _ _ s1
  have HGV := hid hgv
  have HMV := hid hmv
  have HOV := hid hov
  have HOB := hid hob
  have HRep := hid hrep
  have HKW := hid hkw
  have HBlk := hid hblk
  have HE0 := hid hE0
  clear hgv hmv hov hob hrep hkw hblk hkp HP hE0
  by_cases hm : s.marks = []
  · have hm0 : s.marks.length = 0 := by rw [hm]; rfl
    rw [hm0] at s2 hmn
    have Hm := hid hm
    clear hm hm0
    go_wp2_with fail
    go_end0
    refine ⟨rfl, lv', s.gv, ?_, (HKW.out.mono fun k c => c.foot).ext ((Ext.refl w1).alloc _), ?_⟩
    · have : doG s ⟨.slice ka key.length kcap, .slice va val.length vcap, key, val⟩ is lv' s.gv = { s with lv := lv', L := putL s.L ⟨.slice ka key.length kcap, .slice va val.length vcap, key, val⟩ is } := by
        simp [doG, Hm.out]
      rw [this]
      exact HRep.out.ext ((Ext.refl w1).alloc _)
    · rintro k (c | c | c | c)
      · exact .inl (.inl c)
      · rcases HBlk.out k c with c | c
        · exact .inl (.inr (.inl c))
        · right; have := HE0.out; simp at c; omega
      · exact .inl (.inr (.inr (.inl c)))
      · exact .inl (.inr (.inr (.inr c)))
  · have hmp : 0 < s.marks.length := List.length_pos_iff.2 hm
    have Hm := hid hm
    clear hm
    obtain ⟨W3, hW3⟩ : ∃ W3, W3 = ((w1.alloc (.cells #[.slice ka key.length kcap, .slice oa (oldB s.L key).length ocap, .bool (has s.L key)] 167)).alloc (.cells #[.slice ka key.length kcap, .slice oa (oldB s.L key).length ocap, .bool (has s.L key)] 167)).drew := ⟨_, rfl⟩
    have hE3 : Ext w1 W3 := by rw [hW3]; exact (((Ext.refl w1).alloc _).alloc _).drew
    have hM3 : W3.heap[w1.heap.size + 1]? = some (.cells #[.slice ka key.length kcap, .slice oa (oldB s.L key).length ocap, .bool (has s.L key)] 167 (0, 0)) := by rw [hW3]; exact heap_alloc2_new w1 _ _
    have hR3 := HRep.out.ext hE3
    have hg3 := hR3.hg
    dsimp only at hg3
    have hgb := HG.out
    rw [big_eq] at hgb
    obtain ⟨gv', w4, hr, hown, hgrow, hbk⟩ := run_App (P := Try.prog) 150 150 167 3 56 (.agg #[.slice none 0 0, .slice none 0 0, .bool false]) Try.underlying150 infoU rfl (by decide) hg3 (m := 1) (c := 1) (news := [.slice ka key.length kcap, .slice oa (oldB s.L key).length ocap, .bool (has s.L key)]) rfl (Src.row hM3) (by simp [Value.oneCell']) (by unfold maxLen; omega) (by omega) (Nat.zero_le _)
    obtain ⟨ga', gcap', rfl⟩ := owns_slice hown
    rw [HGV.out, hW3] at hr
    have hK4 : Keeps (fun k => s.gv.ownBlock = some k) W3 w4 := (Keeps.refl _ W3).grown hgrow (fun k c _ => c)
    have hst4 := hK4.heap hR3.hs H.out.g_ne
    dsimp only at hst4
    have t1 := cell_of_row w4 s.b 1 _ _ _ hst4
    have f1 := frozen_of_row w4 s.b 1 _ _ hst4
    simp at t1
    have HFin := hid (And.intro hE3 (And.intro hR3 (And.intro hown (And.intro hK4 (And.intro hst4 hbk)))))
    clear hW3 hE3 hM3 hR3 hg3 hgb hown hgrow hbk hK4 hst4 hgc hgn
    have x1 : s.b < w1.heap.size + 1 := by omega
    go_wp2_with fail
    go_region
    go_wp2_with fail
    go_end0
    obtain ⟨hE3, hR3, hown, hK4, hst4, hbk⟩ := HFin.out
    have hnb := hR3.nb
    have hK5 : Keeps (fun k => k = s.b ∨ s.gv.ownBlock = some k) W3 (w4.setCell ⟨s.b, 1, none⟩ (.slice ga' (s.log.length + 1) gcap')) :=
      (hK4.mono fun k c => .inr c).setCell (fun _ => .inl rfl) _
    have hs5 : (w4.setCell ⟨s.b, 1, none⟩ (.slice ga' (s.log.length + 1) gcap')).heap[s.b]? = some (.cells #[lv', .slice ga' (s.log.length + 1) gcap', s.mv] 153 (0, 0)) := heap_set (ys := [_, _, _]) hst4
    have hown5 : (w4.setCell ⟨s.b, 1, none⟩ (.slice ga' (s.log.length + 1) gcap')).ownsRow 0 167 3 (.slice ga' (s.log.length + 1) gcap') (s.log.length + 1) (ucells (s.log ++ [⟨.slice ka key.length kcap, oldV s.L key, key, oldB s.L key, has s.L key⟩])) := by
      have e : ucells (s.log ++ [⟨.slice ka key.length kcap, oldV s.L key, key, oldB s.L key, has s.L key⟩]) = ucells s.log ++ [.slice ka key.length kcap, .slice oa (oldB s.L key).length ocap, .bool (has s.L key)] := by
        simp [ucells, Und.cells, HOV.out]
      rw [e]
      refine Keeps.ownsRow (S := fun k => k = s.b) ((Keeps.refl (fun k => k = s.b) w4).setCell (a := ⟨s.b, 1, none⟩) (fun _ => rfl) _) hown ?_
      intro k hk c
      obtain ⟨c2, h2⟩ := owns_typed hown hk
      subst c
      exact typed_ne hst4 h2 (by decide)
    have hall : Keeps (Foot s) w (w4.setCell ⟨s.b, 1, none⟩ (.slice ga' (s.log.length + 1) gcap')) :=
      ((HKW.out.mono fun k c => c.foot).ext hE3).trans' hK5 fun k _ c => by
        rcases c with c | c
        · exact .inl c
        · exact .inr (.inr (.inl c))
    refine ⟨rfl, lv', .slice ga' (s.log.length + 1) gcap', ?_, hall, ?_⟩
    · have hupd := SRep.updG (log' := s.log ++ [⟨.slice ka key.length kcap, oldV s.L key, key, oldB s.L key, has s.L key⟩]) hR3 hK5 hs5 (by simpa using hown5) (fun e he => by
        rcases List.mem_append.1 he with he | he
        · exact ⟨(hR3.hu e he).1.keeps hK5 (fun k c => hnb k (GFoot.foot c)), (hR3.hu e he).2.keeps hK5 (fun k c => hnb k (GFoot.foot c))⟩
        · obtain rfl := List.mem_singleton.1 he
          exact ⟨HK.out.keeps hall (fun k c => H.out.nb k c), HOB.out.keeps hall (fun k c => H.out.nb k c)⟩)
      have : doG s ⟨.slice ka key.length kcap, .slice va val.length vcap, key, val⟩ is lv' (.slice ga' (s.log.length + 1) gcap') =
          { b := s.b, lv := lv', gv := .slice ga' (s.log.length + 1) gcap', mv := s.mv, L := putL s.L ⟨.slice ka key.length kcap, .slice va val.length vcap, key, val⟩ is, log := s.log ++ [⟨.slice ka key.length kcap, oldV s.L key, key, oldB s.L key, has s.L key⟩], marks := s.marks } := by
        simp [doG, Hm.out]
      rw [this]
      exact hupd
    · have hz3 := hE3.size
      have hz0 := HE0.out
      have hz1 := HKW.out.size
      rintro k (c | c | c | c)
      · exact .inl (.inl c)
      · rcases HBlk.out k c with c | c
        · exact .inl (.inr (.inl c))
        · right; simp at c; omega
      · rcases hbk k c with c | c
        · exact .inl (.inr (.inr (.inl c)))
        · right; omega
      · exact .inl (.inr (.inr (.inr c)))

end Go.Proofs.Ytaidgkdebocenaa
