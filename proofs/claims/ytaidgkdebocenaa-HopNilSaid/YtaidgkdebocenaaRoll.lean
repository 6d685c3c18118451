/- The contracts of (*Store).Rollback, Copy.
   Conditions: the store lies in memory as SRep says; fewer than 2^40 pairs and deeds together. -/
import Derived.Test.YtaidgkdebocenaaBegin
import Derived.ScopeJumps
namespace Go.Proofs.Ytaidgkdebocenaa
open Go Go.RowKit

def undoM (M : List KV) (l : List LU) : List KV := l.foldr (fun u M => putM M u.key u.val u.was) M
def backTo (a : AS) (n : Nat) : AS := { M := undoM a.M (a.log.drop n), log := a.log.take n, marks := a.marks.dropLast }
def rollM (a : AS) : AS := if a.marks = [] then a else backTo a (lastM a)

theorem putM_length (M : List KV) (k v : BS) (is : Bool) : (putM M k v is).length ≤ M.length + 1 := by
  unfold putM
  split
  · split <;> simp <;> omega
  · split
    · simp; omega
    · omega

theorem undoM_length (M : List KV) (l : List LU) : (undoM M l).length ≤ M.length + l.length := by
  induction l with
  | nil => simp [undoM]
  | cons u l ih =>
    have := putM_length (undoM M l) u.key u.val u.was
    simp only [undoM, List.foldr_cons, List.length_cons] at *
    omega

theorem backTo_step (a : AS) (n : Nat) (u : LU) (h : a.log[n]? = some u) : backTo a n = { backTo a (n + 1) with M := putM (backTo a (n + 1)).M u.key u.val u.was, log := a.log.take n } := by
  have hd : a.log.drop n = u :: a.log.drop (n + 1) := by
    obtain ⟨hn, hu⟩ := List.getElem?_eq_some_iff.1 h
    rw [List.drop_eq_getElem_cons hn, hu]
  simp only [backTo, hd, undoM, List.foldr_cons]

theorem ucells_get : ∀ (l : List Und) (i : Nat) (h : i < l.length), (ucells l)[3 * i]? = some (l[i]).kv ∧ (ucells l)[3 * i + 1]? = some (l[i]).vv ∧ (ucells l)[3 * i + 2]? = some (.bool (l[i]).was)
  | [], i, h => by simp at h
  | e :: l, 0, _ => by simp [ucells, Und.cells]
  | e :: l, i + 1, h => by
    have := ucells_get l i (by simpa using h)
    simp only [ucells, List.flatMap_cons, Und.cells] at *
    rw [show 3 * (i + 1) = 3 * i + 1 + 1 + 1 by omega]
    simpa using this

theorem SRep.undoCell {w : World} {s : SG} (h : SRep w s) {i : Nat} (hi : i < s.log.length) :
    ∃ g cap, s.gv = .slice (some ⟨g, 0, none⟩) s.log.length cap ∧ s.log.length ≤ cap ∧ cap ≤ maxLen ∧
      w.cell? ⟨g, i * 3, none⟩ = some (s.log[i]).kv ∧ w.cell? ⟨g, i * 3 + 1, none⟩ = some (s.log[i]).vv ∧ w.cell? ⟨g, i * 3 + 2, none⟩ = some (.bool (s.log[i]).was) := by
  rcases h.hg.2 with ⟨-, h0⟩ | ⟨g, cap, cur, hv, -, hg, hn, hc, hsz, ht⟩
  · omega
  · refine ⟨g, cap, hv, hn, hc, ?_⟩
    have he := ucells_get s.log i hi
    rw [← ht] at he
    rw [List.getElem?_take_of_lt (by omega), List.getElem?_take_of_lt (by omega), List.getElem?_take_of_lt (by omega)] at he
    rw [Nat.mul_comm i 3]
    rw [cell_of_row w g _ cur _ _ hg, cell_of_row w g _ cur _ _ hg, cell_of_row w g _ cur _ _ hg]
    simpa using he

theorem ucells_take : ∀ (l : List Und) (i : Nat), (ucells l).take (i * 3) = ucells (l.take i)
  | [], i => by simp [ucells]
  | e :: l, 0 => by simp [ucells]
  | e :: l, i + 1 => by
    have := ucells_take l i
    simp only [ucells, List.flatMap_cons, Und.cells, List.take_succ_cons] at *
    rw [show (i + 1) * 3 = i * 3 + 1 + 1 + 1 by omega]
    simp [this]

/-- What holds at the label, m deeds being left. -/
def RollAt (w : World) (s : SG) (m : Nat) (w' : World) (s' : SG) : Prop :=
  m ≤ s.log.length ∧ (lastM (abs s) ≤ m ∨ m = s.log.length) ∧ s'.log.length = m ∧ Moved w s (backTo (abs s) m) w' s'

theorem wp_scope_jumps' {P : Program} {a : Go.Act} {w : World} {Q : Exit → Go.Act → World → Prop} {c X : Code} (l : Nat) (J : Go.Act → World → Prop) (μ : Go.Act → World → Nat) (hf : findLabel c l = some (Code.skip.seq X))
    (pass : ∀ a w, J a w → X.wp P (Exit.jump l (fun a' w' => J a' w' ∧ μ a' w' < μ a w) Q) a w)
    (first : (∀ a w, J a w → X.wp P (Exit.jump l J Q) a w) → c.wp P (Exit.jump l J Q) a w) : (Code.scope c).wp P Q a w := by
  refine wp_scope_jumps l J μ hf (first fun a w h => wp_mono (pass a w h) ?_) (fun a w h => wp_seq (wp_skip (pass a w h)))
  intro e a' w' hq
  cases e <;> first | exact hq | exact ⟨hq.1, hq.2.1⟩

def rollFrame (s : SG) (a' : Go.Act) : Prop :=
  ∃ u1 u5 u6 u7 u8 u9 u10 u11 u12 u13 u14 u15 u16 u17 u18 u19 u20 u21 u22 u23 u24 u25 u26 u27 u28 u29 u30 u31 u32 u33 u34 u35 u36 u37 u38 u39 u40 u41 u42 u43 u44 : Value, a' = { tmps := #[.pointer (some ⟨s.b, 0, none⟩), u1, .bool false, .int .i64 (lastM (abs s) : Nat), .bool true, u5, u6, u7, u8, u9, u10, u11, u12, u13, u14, u15, u16, u17, u18, u19, u20, u21, u22, u23, u24, u25, u26, u27, u28, u29, u30, u31, u32, u33, u34, u35, u36, u37, u38, u39, u40, u41, u42, u43, u44], defers := [] }

/-- How many deeds lie in a store's log, by the cell. -/
def logLen (b : Nat) (w : World) : Nat := match w.cell? ⟨b, 1, none⟩ with | some (.slice _ n _) => n | _ => 0

theorem logLen_eq {w : World} {s : SG} (h : SRep w s) : logLen s.b w = s.log.length := by
  obtain ⟨-, s1, -, -, -, -⟩ := h.scells
  obtain ⟨ga, gcap, hgv, -, -⟩ := h.gval
  unfold logLen
  rw [s1, hgv]

set_option maxRecDepth 100000 in
set_option maxHeartbeats 1000000 in
theorem rollback_c {w : World} {s : SG} (h : SRep w s) (hb : small s) (hb2 : s.L.length + s.log.length ≤ big) :
    Calls Try.prog 44 #[.pointer (some ⟨s.b, 0, none⟩)] w fun e w' => e = .returned (.bool (!decide (s.marks = []))) ∧ ∃ s', Moved w s (rollM (abs s)) w' s' := by
  have HE := hid (end_c h hb)
  by_cases hm : s.marks = []
  · have Hm := hid hm
    have he := HE.out
    rw [hm] at he
    have HE2 := hid he
    clear he hm HE h hb hb2
    go_enter Try.func44, Try.ntmps44
    go_wp2_with fail
    go_step3
    go_wp2_with fail
    refine HE2.out.mono ?_
    rintro e w1 ⟨rfl, s', hM⟩
    have HM := hid hM
    clear hM
    go_wp2_with fail
    rw [Exit.noGoto_ret]
    go_ret
    refine ⟨by simp [Hm.out], s', ?_⟩
    have e1 : endM (abs s) = abs s := by simp [endM, abs, Hm.out]
    have e2 : rollM (abs s) = abs s := by simp [rollM, abs, Hm.out]
    rw [e2, ← e1]; exact HM.out
  · have Hm := hid hm
    have he := HE.out
    have hd : (!decide (s.marks = [])) = true := by simp [hm]
    rw [hd] at he
    have HE2 := hid he
    have H := hid h
    have HB := hid (And.intro hb hb2)
    clear he hm HE h hb hd hb2
    go_enter Try.func44, Try.ntmps44
    go_wp2_with fail
    refine wp_scope_jumps' 0 (fun a' w' => rollFrame s a' ∧ ∃ m s', RollAt w s m w' s') (fun _ w' => logLen s.b w') rfl ?_ ?_
    · rintro a' w' ⟨⟨u1, u5, u6, u7, u8, u9, u10, u11, u12, u13, u14, u15, u16, u17, u18, u19, u20, u21, u22, u23, u24, u25, u26, u27, u28, u29, u30, u31, u32, u33, u34, u35, u36, u37, u38, u39, u40, u41, u42, u43, u44, rfl⟩, m, s', h1, h2, h3, h4⟩
      have hb' := h4.b
      obtain ⟨s0, s1, -, -, f1, -⟩ := h4.rep.scells
      obtain ⟨n, hn⟩ : ∃ n, n = lastM (abs s) := ⟨_, rfl⟩
      rw [← hn] at h2 ⊢
      rw [hb'] at s0 s1 f1
      have Hn := hid hn
      have HM := hid h4
      have H3 := hid h3
      have H2 := hid h2
      have hbb := HB.out.1.2.1
      rw [big_eq] at hbb
      have hsl : s.b < w'.heap.size := World.block_lt_of_cell? _ _ s1
      by_cases hlast : n < m
      · obtain ⟨i, rfl⟩ : ∃ i, m = i + 1 := ⟨m - 1, by omega⟩
        have hge : (n : Int) ≤ (i : Int) := by omega
        have hil : i < s'.log.length := by omega
        obtain ⟨g, gcap, hgv, hgn, hgc, c0, c1, c2⟩ := h4.rep.undoCell hil
        obtain ⟨u, hu⟩ : ∃ u, u = s'.log[i]'hil := ⟨_, rfl⟩
        have hut := h4.rep.hu u (by rw [hu]; exact List.getElem_mem _)
        rw [← hu] at c0 c1 c2
        obtain ⟨uk, uv, ukey, uval, uwas⟩ := u
        dsimp only at hut c0 c1 c2
        obtain ⟨ka, kcap, hka, -, -⟩ := hut.1.bv.val
        obtain ⟨va, vcap, hva, -, -⟩ := hut.2.bv.val
        rw [hgv, h3] at s1
        rw [h3] at hgn
        unfold maxLen at hgc
        have hgl : g < w'.heap.size := World.block_lt_of_cell? _ _ c0
        have hgb : ¬ s.b = g := by
          intro c; have := h4.rep.g_ne; rw [hgv, hb'] at this; simp [Value.ownBlock, c] at this
        subst hka hva
        have Hgv := hid hgv
        have Hu := hid hu
        have Hut := hid hut
        obtain ⟨W1, hW1⟩ : ∃ W1, W1 = (w'.setCell ⟨s.b, 1, none⟩ (.slice (some ⟨g, 0, none⟩) i gcap)).alloc (.cells #[.slice ka ukey.length kcap, .slice va uval.length vcap, .bool uwas] 167) := ⟨_, rfl⟩
        have hK0 : Keeps (fun k => k = s.b) w' W1 := by rw [hW1]; exact ((Keeps.refl (fun k => k = s.b) w').setCell (a := ⟨s.b, 1, none⟩) (fun _ => rfl) _).alloc _
        have hK1 : Keeps (GFoot s') w' W1 := hK0.mono fun k c => .inl (by rw [c, hb'])
        have hst := h4.rep.hs
        rw [hb'] at hst
        have hs1 : W1.heap[s'.b]? = some (.cells #[s'.lv, .slice (some ⟨g, 0, none⟩) i gcap, s'.mv] 153 (0, 0)) := by
          rw [hb', hW1]; exact Ext.heap ((Ext.refl _).alloc _) (heap_set (ys := [_, _, _]) hst)
        have hown := h4.rep.hg
        rw [hgv, h3] at hown
        have hown1 := owns_prefix hown (m := i) (by omega)
        rw [ucells_take] at hown1
        have hown2 : W1.ownsRow 0 167 3 (.slice (some ⟨g, 0, none⟩) i gcap) (s'.log.take i).length (ucells (s'.log.take i)) := by
          have e : (s'.log.take i).length = i := by rw [List.length_take]; omega
          rw [e]
          refine Keeps.ownsRow hK0 hown1 ?_
          intro k hk c
          simp only [Value.ownBlock, Option.some.injEq] at hk
          omega
        have hR1 := SRep.updG h4.rep hK1 hs1 hown2 (fun e he => ⟨(h4.rep.hu e (List.mem_of_mem_take he)).1.keeps hK1 (fun k c => h4.rep.nb k c.foot), (h4.rep.hu e (List.mem_of_mem_take he)).2.keeps hK1 (fun k c => h4.rep.nb k c.foot)⟩)
        have hbig : s'.L.length ≤ big := by
          have e1 := congrArg (fun a => a.M.length) h4.abs
          simp only [abs, absL, List.length_map, backTo] at e1
          rw [e1]
          have := undoM_length (absL s.L) ((absU s.log).drop (i + 1))
          have := HB.out.2
          simp only [absL, absU, List.length_map, List.length_drop] at *
          omega
        have hput := put_c (e := ⟨.slice ka ukey.length kcap, .slice va uval.length vcap, ukey, uval⟩) (is := uwas) hR1 (hut.1.keeps hK1 (fun k c => h4.rep.nb k c.foot)) (hut.2.keeps hK1 (fun k c => h4.rep.nb k c.foot)) hbig
        dsimp only at hput
        have hput2 : Calls Try.prog 107 #[.pointer (some ⟨s.b, 0, none⟩), .agg #[.slice ka ukey.length kcap, .slice va uval.length vcap], .bool uwas] W1 (PutPost W1 { s' with gv := .slice (some ⟨g, 0, none⟩) i gcap, log := s'.log.take i } ⟨.slice ka ukey.length kcap, .slice va uval.length vcap, ukey, uval⟩ uwas) := by rw [← hb']; exact hput
        rw [hW1] at hput2
        have HPut := hid hput2
        have HW1 := hid hW1
        have HK1 := hid hK1
        clear hput hput2 hW1 hR1 hbig hown2 hown1 hown hs1 hst hK1 hK0 hut hu hgv h4 h3 h2 hn
        go_wp2_with fail
        refine HPut.out.mono ?_
        rintro x w2 ⟨lv', rfl, hrep, hkp, hblk⟩
        have hM2 : Moved w' s' { M := putM (absL s'.L) ukey uval uwas, log := (absU s'.log).take i, marks := s'.marks } w2
            { s' with gv := .slice (some ⟨g, 0, none⟩) i gcap, log := s'.log.take i, lv := lv', L := putL s'.L ⟨.slice ka ukey.length kcap, .slice va uval.length vcap, ukey, uval⟩ uwas } := by
          rw [← HW1.out] at hkp hblk
          have hsz := HK1.out.size
          refine ⟨hrep, rfl, ?_, (HK1.out.mono fun k c => c.foot).trans' hkp (fun k _ c => Or.elim c (fun c => .inl c) (fun c => .inr (.inl c))), ?_, ?_⟩
          · have := putM_abs s'.L ⟨.slice ka ukey.length kcap, .slice va uval.length vcap, ukey, uval⟩ uwas
            simp only [abs, this]
            simp [absU, List.map_take]
          · rintro k (c | c | c | c)
            · exact .inl (.inl c)
            · rcases hblk k c with c | c
              · exact .inl (.inr (.inl c))
              · exact .inr (Nat.le_trans hsz c)
            · exact .inl (.inr (.inr (.inl (by rw [Hgv.out]; exact c))))
            · exact .inl (.inr (.inr (.inr c)))
          · rintro k (⟨x, hx, c⟩ | ⟨x, hx, c⟩)
            · rcases putL_mem x hx with hx | ⟨rfl, -⟩
              · exact .inl (.inl ⟨x, hx, c⟩)
              · exact .inl (.inr ⟨s'.log[i]'hil, List.getElem_mem _, by rw [← Hu.out]; exact c⟩)
            · exact .inl (.inr ⟨x, List.mem_of_mem_take hx, c⟩)
        have hM3 := HM.out.trans hM2
        have HM3 := hid hM3
        clear hM2 hM3 hrep hkp hblk
        go_wp2_with fail
        go_step3
        have hbs := HM.out.b
        have hl2 := logLen_eq HM3.out.rep
        have hl1 := logLen_eq HM.out.rep
        dsimp only at hl2
        rw [hbs] at hl1 hl2
        have h3 := H3.out
        rw [List.length_take] at hl2
        have hn := Hn.out
        subst hn
        have hex : ∃ m s2, RollAt w s m w2 s2 := by
          refine ⟨i, { s' with gv := .slice (some ⟨g, 0, none⟩) i gcap, log := s'.log.take i, lv := lv', L := putL s'.L ⟨.slice ka ukey.length kcap, .slice va uval.length vcap, ukey, uval⟩ uwas }, by omega, .inl (by omega), ?_, ?_⟩
          rotate_left
          · have e : backTo (abs s) i = { M := putM (absL s'.L) ukey uval uwas, log := (absU s'.log).take i, marks := s'.marks } := by
              have ha := HM.out.abs
              have e1 : absU s'.log = (absU s.log).take (i + 1) := congrArg AS.log ha
              have e2 : absL s'.L = (backTo (abs s) (i + 1)).M := congrArg AS.M ha
              have e3 : s'.marks = (backTo (abs s) (i + 1)).marks := congrArg AS.marks ha
              have e4 : (abs s).log[i]? = some ⟨ukey, uval, uwas⟩ := by
                have e5 : (absU s'.log)[i]? = some ⟨ukey, uval, uwas⟩ := by
                  simp only [absU, List.getElem?_map, List.getElem?_eq_getElem hil, Option.map_some, ← Hu.out]
                rw [e1, List.getElem?_take_of_lt (by omega)] at e5
                exact e5
              rw [backTo_step _ _ _ e4, e1, e2, e3, List.take_take, show min i (i + 1) = i by omega]
              rfl
            rw [e]
            exact HM3.out
          · show (s'.log.take i).length = i
            rw [List.length_take]; omega
        exact ⟨rfl, ⟨⟨_, _, _, _, _, _, _, _, _, _, _, _, _, _, _, _, _, _, _, _, _, _, _, _, _, _, _, _, _, _, _, _, _, _, _, _, _, _, _, _, _, rfl⟩, hex⟩, by show logLen s.b w2 < logLen s.b w'; omega⟩
      · obtain ⟨ga, gcap, hgv, hgn, hgc⟩ := h4.rep.gval
        rw [hgv, h3] at s1
        have hge : ¬ (n : Int) ≤ (m : Int) - 1 := by omega
        clear hgv h4 h3 h2 hn hb'
        unfold maxLen at hgc
        go_wp2_with fail
        simp only [Exit.jump]
        go_ret
        refine ⟨by simp [Hm.out], s', ?_⟩
        have e1 : backTo (abs s) m = rollM (abs s) := by
          have c1 : ¬ (abs s).marks = [] := Hm.out
          unfold rollM
          rw [if_neg c1, ← Hn.out]
          rcases H2.out with c | c
          · rw [show m = n by omega]
          · have c2 : (abs s).log.length ≤ m := by simp [abs, absU]; omega
            have c3 : (abs s).log.length ≤ n := by omega
            simp only [backTo, List.drop_eq_nil_of_le c2, List.drop_eq_nil_of_le c3, List.take_of_length_le c2, List.take_of_length_le c3]
        rw [← e1]
        exact HM.out
    · intro hpass
      go_wp2_with fail
      refine HE2.out.mono ?_
      rintro e w1 ⟨rfl, s', hM⟩
      have HM := hid hM
      have Hp := hid hpass
      clear hM hpass
      go_wp2_with fail
      go_step3
      rename_i hK
      refine hK _ _ (Hp.out _ _ ⟨⟨_, _, _, _, _, _, _, _, _, _, _, _, _, _, _, _, _, _, _, _, _, _, _, _, _, _, _, _, _, _, _, _, _, _, _, _, _, _, _, _, _, rfl⟩, s.log.length, s', Nat.le_refl _, .inr rfl, ?_, ?_⟩)
      · have := congrArg (fun a => a.log.length) HM.out.abs
        simpa [abs, endM, absU] using this
      · have e1 : backTo (abs s) s.log.length = endM (abs s) := by
          have c2 : (abs s).log.length ≤ s.log.length := by simp [abs, absU]
          simp only [backTo, endM, List.drop_eq_nil_of_le c2, List.take_of_length_le c2, undoM, List.foldr_nil]
        rw [e1]; exact HM.out

/-! ### Copy -/

def copyG (s : SG) (b : Nat) (lv : Value) : SG := ⟨b, lv, .slice none 0 0, .slice none 0 0, s.L, [], []⟩

/-- What a copy leaves: a store of its own, over the same bytes. -/
def CopyPost (w : World) (s : SG) (e : Ending) (w' : World) : Prop :=
  ∃ b lv, e = .returned (.pointer (some ⟨b, 0, none⟩)) ∧ SRep w' (copyG s b lv) ∧ Ext w w' ∧ (∀ k, Foot (copyG s b lv) k → w.heap.size ≤ k)

set_option maxRecDepth 100000 in
set_option maxHeartbeats 400000 in
theorem copy_c {w : World} {s : SG} (h : SRep w s) (hb : s.L.length ≤ big) :
    Calls Try.prog 43 #[.pointer (some ⟨s.b, 0, none⟩)] w (CopyPost w s) := by
  obtain ⟨s0, -, -, -, -, -⟩ := h.scells
  obtain ⟨ao, cap, hlv, -, -⟩ := h.lval
  have hl := h.hl
  rw [hlv] at s0 hl
  have HC := hid (cloneP_c hl h.one hb)
  have H := hid h
  clear h hlv hl hb
  go_enter Try.func43, Try.ntmps43
  go_wp2_with fail
  refine HC.out.mono ?_
  rintro e w1 ⟨v', rfl, hv, hE⟩
  have HV := hid hv
  have HE := hid hE
  obtain ⟨va, vcap, rfl⟩ := owns_slice hv
  clear hv hE HC
  go_wp2_with fail
  go_ret
  have hE2 : Ext w1 (w1.alloc (.cells #[.slice va s.L.length vcap, .slice none 0 0, .slice none 0 0] 153)) := (Ext.refl w1).alloc _
  have hEE := HE.out.trans hE2
  refine ⟨w1.heap.size, .slice va s.L.length vcap, rfl, ⟨heap_alloc_new w1 _, ?_, World.ownsRow_nil _ _ _ _, World.ownsRow_nil _ _ _ _, ?_, (fun _ h => nomatch h), H.out.so⟩, hEE, ?_⟩
  · have := Keeps.ownsRow hE2 HV.out fun _ _ c => c
    exact ⟨this.1, this.2.imp id fun ⟨g, cap, cur, h1, h2, h3⟩ => ⟨g, cap, cur, h1, Nat.zero_le _, h3⟩⟩
  · exact fun e he => ⟨(H.out.he e he).1.ext hEE, (H.out.he e he).2.ext hEE⟩
  · rintro k (c | c | c | c)
    · rw [c]; exact HE.out.size
    · exact (HV.out.lt k c).1
    · simp [copyG, Value.ownBlock] at c
    · simp [copyG, Value.ownBlock] at c

end Go.Proofs.Ytaidgkdebocenaa
