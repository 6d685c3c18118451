/- The contracts of (*Store).Begin, end, Commit, Copy.
   Conditions: the store lies in memory as SRep says; fewer than 2^40 pairs, deeds, marks. -/
import Derived.Test.YtaidgkdebocenaaStore2
namespace Go.Proofs.Ytaidgkdebocenaa
open Go Go.RowKit

def beginM (a : AS) : AS := { a with marks := a.marks ++ [a.log.length] }

theorem infoI : (Try.prog.info? 3).map (fun i => (i.zero, i.size, i.bytes)) = some (some (.int .i64 0), 1, 8) := by kernel_rfl

set_option maxRecDepth 100000 in
set_option maxHeartbeats 1000000 in
theorem begin_c {w : World} {s : SG} (h : SRep w s) (hb : small s) :
    Calls Try.prog 39 #[.pointer (some ⟨s.b, 0, none⟩)] w fun e w' => e = .returned (.tuple #[]) ∧ ∃ s', Moved w s (beginM (abs s)) w' s' := by
  obtain ⟨s0, s1, s2, -, -, -⟩ := h.scells
  obtain ⟨ma, mcap, hmv, hmn, hmc⟩ := h.mval
  obtain ⟨ga, gcap, hgv, hgn, hgc⟩ := h.gval
  rw [hmv] at s2
  rw [hgv] at s1
  unfold maxLen at hmc hgc
  have hsl : s.b < w.heap.size := World.block_lt_of_cell? _ _ s1
  obtain ⟨W3, hW3⟩ : ∃ W3, W3 = (w.alloc (.cells #[.int .i64 s.log.length] 3)).drew := ⟨_, rfl⟩
  have hE3 : Ext w W3 := by rw [hW3]; exact ((Ext.refl w).alloc _).drew
  have hM3 : W3.heap[w.heap.size]? = some (.cells #[.int .i64 s.log.length] 3 (0, 0)) := by rw [hW3]; exact heap_alloc_new w _
  have hR3 := h.ext hE3
  have hg3 := hR3.hm
  have hgb := hb.2.2
  rw [big_eq] at hgb
  obtain ⟨mv', w4, hr, hown, hgrow, hbk⟩ := run_App (P := Try.prog) 151 151 3 1 8 (.int .i64 0) Try.underlying151 infoI rfl (by decide) hg3 (m := 1) (c := 1) (news := [.int .i64 s.log.length]) rfl (Src.row hM3) (by simp [Value.oneCell']) (by unfold maxLen; omega) (by omega) (Nat.zero_le _)
  obtain ⟨ma', mcap', rfl⟩ := owns_slice hown
  rw [hmv, hW3] at hr
  have hK4 : Keeps (fun k => s.mv.ownBlock = some k) W3 w4 := (Keeps.refl _ W3).grown hgrow (fun k c _ => c)
  have hst4 := hK4.heap hR3.hs h.m_ne
  have t1 := cell_of_row w4 s.b 2 _ _ _ hst4
  have f1 := frozen_of_row w4 s.b 2 _ _ hst4
  simp at t1
  have HFin := hid (And.intro hE3 (And.intro hR3 (And.intro hown (And.intro hK4 (And.intro hst4 hbk)))))
  clear hW3 hE3 hM3 hR3 hg3 hgb hown hgrow hbk hK4 hst4 hgc hgn hmv hgv h hb
  go_enter Try.func39, Try.ntmps39
  go_wp2_with fail
  go_region
  go_wp2_with fail
  go_end0
  obtain ⟨hE3, hR3, hown, hK4, hst4, hbk⟩ := HFin.out
  have hK5 : Keeps (MFoot s) W3 (w4.setCell ⟨s.b, 2, none⟩ (.slice ma' (s.marks.length + 1) mcap')) :=
    (hK4.mono fun k c => .inr c).setCell (fun _ => .inl rfl) _
  have hs5 : (w4.setCell ⟨s.b, 2, none⟩ (.slice ma' (s.marks.length + 1) mcap')).heap[s.b]? = some (.cells #[s.lv, s.gv, .slice ma' (s.marks.length + 1) mcap'] 153 (0, 0)) := heap_set (ys := [_, _, _]) hst4
  have hown5 : (w4.setCell ⟨s.b, 2, none⟩ (.slice ma' (s.marks.length + 1) mcap')).ownsRow 0 3 1 (.slice ma' (s.marks.length + 1) mcap') (s.marks.length + 1) (mcells (s.marks ++ [s.log.length])) := by
    have e : mcells (s.marks ++ [s.log.length]) = mcells s.marks ++ [.int .i64 s.log.length] := by simp [mcells]
    rw [e]
    refine Keeps.ownsRow (S := fun k => k = s.b) ((Keeps.refl (fun k => k = s.b) w4).setCell (a := ⟨s.b, 2, none⟩) (fun _ => rfl) _) hown ?_
    intro k hk c
    obtain ⟨c2, h2⟩ := owns_typed hown hk
    subst c
    exact typed_ne hst4 h2 (by decide)
  have hall : Keeps (Foot s) w (w4.setCell ⟨s.b, 2, none⟩ (.slice ma' (s.marks.length + 1) mcap')) :=
    (Keeps.of_ext hE3).trans' hK5 fun k _ c => c.foot
  refine ⟨rfl, { s with mv := .slice ma' (s.marks.length + 1) mcap', marks := s.marks ++ [s.log.length] }, SRep.updM hR3 hK5 hs5 (by simpa using hown5), rfl, ?_, hall, ?_, ?_⟩
  · simp [abs, beginM, absU]
  · have hz3 := hE3.size
    rintro k (c | c | c | c)
    · exact .inl (.inl c)
    · exact .inl (.inr (.inl c))
    · exact .inl (.inr (.inr (.inl c)))
    · rcases hbk k c with c | c
      · exact .inl (.inr (.inr (.inr c)))
      · right; omega
  · exact fun k c => .inl c

/-! ### end -/

def endM (a : AS) : AS := { a with marks := a.marks.dropLast }
def lastM (a : AS) : Nat := (a.marks.getLast?).getD 0

theorem mcells_get (l : List Nat) (i : Nat) (h : i < l.length) : (mcells l)[i]? = some (.int .i64 (l[i] : Int)) := by simp [mcells, h]
theorem mcells_length (l : List Nat) : (mcells l).length = l.length := by simp [mcells]

theorem SRep.markCell {w : World} {s : SG} (h : SRep w s) {i : Nat} (hi : i < s.marks.length) :
    ∃ g cap, s.mv = .slice (some ⟨g, 0, none⟩) s.marks.length cap ∧ s.marks.length ≤ cap ∧ cap ≤ maxLen ∧ w.cell? ⟨g, i, none⟩ = some (.int .i64 (s.marks[i] : Int)) ∧ w.frozen? ⟨g, i, none⟩ = false := by
  rcases h.hm.2 with ⟨-, h0⟩ | ⟨g, cap, cur, hv, -, hg, hn, hc, hsz, ht⟩
  · omega
  · refine ⟨g, cap, hv, hn, hc, ?_⟩
    have he := mcells_get s.marks i hi
    rw [← ht] at he
    rw [List.getElem?_take_of_lt (by omega)] at he
    rw [cell_of_row w g _ cur _ _ hg, frozen_of_row w g _ cur _ hg]
    simpa using he

theorem Keeps.one (S : Nat → Prop) {w : World} {a : Addr} (hs : a.block < w.heap.size → S a.block) (v : Value) : Keeps S w (w.setCell a v) := (Keeps.refl S w).setCell hs v

theorem owns_prefix {w : World} {base : Nat} {e : TypeId} {size : Nat} {g n cap m : Nat} {xs : List Value} (h : w.ownsRow base e size (.slice (some ⟨g, 0, none⟩) n cap) n xs) (hm : m ≤ n) :
    w.ownsRow base e size (.slice (some ⟨g, 0, none⟩) m cap) m (xs.take (m * size)) := by
  have h1 := h.1
  have hms : m * size ≤ n * size := Nat.mul_le_mul_right _ hm
  refine ⟨by simp [h1, Nat.min_eq_left hms], .inr ?_⟩
  rcases h.2 with ⟨h0, -⟩ | ⟨g', cap', cur, hv, hb, hg, hn, hc, hsz, ht⟩
  · cases h0
  · cases hv
    refine ⟨g, cap, cur, rfl, hb, hg, by omega, hc, hsz, ?_⟩
    rw [← ht, List.take_take, Nat.min_eq_left hms]

set_option maxRecDepth 100000 in
set_option maxHeartbeats 400000 in
theorem end_c {w : World} {s : SG} (h : SRep w s) (hb : small s) :
    Calls Try.prog 104 #[.pointer (some ⟨s.b, 0, none⟩)] w fun e w' => e = .returned (.tuple #[.int .i64 (lastM (abs s)), .bool (!decide (s.marks = []))]) ∧ ∃ s', Moved w s (endM (abs s)) w' s' := by
  have HD := hid (depth_c h)
  by_cases hm : s.marks = []
  · have hm0 : s.marks.length = 0 := by rw [hm]; rfl
    have HD' := HD.out
    rw [hm0] at HD'
    have HD2 := hid HD'
    have H := hid h
    have Hm := hid hm
    clear HD HD' hm hm0 h hb
    go_enter Try.func104, Try.ntmps104
    go_wp2_with fail
    refine HD2.out.mono ?_
    rintro e w1 ⟨rfl, rfl⟩
    go_wp2_with fail
    go_ret2
    have hlast : lastM (abs s) = 0 := by simp [lastM, abs, Hm.out]
    have hend : endM (abs s) = abs s := by simp [endM, abs, Hm.out]
    refine ⟨by rw [hlast, Hm.out]; rfl, s, ?_⟩
    rw [hend]
    exact Moved.refl H.out
  · obtain ⟨l, x, hl⟩ : ∃ l x, s.marks = l ++ [x] := ⟨s.marks.dropLast, s.marks.getLast hm, (List.dropLast_concat_getLast hm).symm⟩
    have hlen : s.marks.length = l.length + 1 := by rw [hl]; simp
    obtain ⟨g, cap, hmv, hmn, hmc, c1, -⟩ := h.markCell (i := l.length) (by omega)
    have hx : s.marks[l.length]'(by omega) = x := by simp [hl]
    rw [hx] at c1
    obtain ⟨s0, s1, s2, -, -, f2⟩ := h.scells
    rw [hmv, hlen] at s2
    rw [hlen] at hmn
    have HD' := HD.out
    rw [hlen] at HD'
    have HD2 := hid HD'
    have hbb := hb.2.2
    rw [big_eq, hlen] at hbb
    unfold maxLen at hmc
    have H := hid h
    have Hm := hid hm
    have Hl := hid hl
    have Hmv := hid hmv
    have Hhead := hid h.hm
    clear HD HD' hm h hb hl hx hlen hmv
    go_enter Try.func104, Try.ntmps104
    go_wp2_with fail
    refine HD2.out.mono ?_
    rintro e w1 ⟨rfl, rfl⟩
    go_wp2_with fail
    go_ret2
    have hK : Keeps (MFoot s) w (w.setCell ⟨s.b, 2, none⟩ (.slice (some ⟨g, 0, none⟩) l.length cap)) := Keeps.one _ (fun _ => .inl rfl) _
    have hh := Hhead.out
    rw [Hmv.out, Hl.out] at hh
    simp only [List.length_append, List.length_cons, List.length_nil] at hh
    have hp := owns_prefix hh (m := l.length) (by omega)
    have hlast : lastM (abs s) = x := by simp [lastM, abs, Hl.out]
    have hne : (!decide (s.marks = [])) = true := by simp [Hm.out]
    rw [hlast, hne]
    refine ⟨rfl, { s with mv := .slice (some ⟨g, 0, none⟩) l.length cap, marks := l }, SRep.updM H.out hK (heap_set (ys := [_, _, _]) H.out.hs) ?_, rfl, ?_, hK.mono fun k c => c.foot, ?_, fun k c => .inl c⟩
    · have e : (mcells (l ++ [x])).take (l.length * 1) = mcells l := by simp [mcells]
      rw [e] at hp
      refine Keeps.ownsRow (Keeps.one (fun k => k = s.b) (fun _ => rfl) _) hp ?_
      intro k hk c
      subst c
      refine H.out.m_ne ?_
      rw [Hmv.out]
      exact hk
    · simp [abs, endM, Hl.out]
    · rintro k (c | c | c | c)
      · exact .inl (.inl c)
      · exact .inl (.inr (.inl c))
      · exact .inl (.inr (.inr (.inl c)))
      · exact .inl (.inr (.inr (.inr (by rw [Hmv.out]; exact c))))

theorem small.endM {w w' : World} {s s' : SG} (hb : small s) (h : Moved w s (endM (Go.Proofs.Ytaidgkdebocenaa.abs s)) w' s') : small s' := by
  have e := h.abs
  have e1 := congrArg (fun a => a.M.length) e
  have e2 := congrArg (fun a => a.log.length) e
  have e3 := congrArg (fun a => a.marks.length) e
  simp [Go.Proofs.Ytaidgkdebocenaa.abs, absL, absU, Go.Proofs.Ytaidgkdebocenaa.endM] at e1 e2 e3
  have := hb.1; have := hb.2.1; have := hb.2.2
  refine ⟨?_, ?_, ?_⟩ <;> omega

/-! ### Commit -/

def commitM (a : AS) : AS := let b := endM a; if ¬ a.marks = [] ∧ b.marks = [] then { b with log := [] } else b

set_option maxRecDepth 100000 in
set_option maxHeartbeats 400000 in
theorem commit_c {w : World} {s : SG} (h : SRep w s) (hb : small s) :
    Calls Try.prog 40 #[.pointer (some ⟨s.b, 0, none⟩)] w fun e w' => e = .returned (.bool (!decide (s.marks = []))) ∧ ∃ s', Moved w s (commitM (abs s)) w' s' := by
  have HE := hid (end_c h hb)
  by_cases hm : s.marks = []
  · have Hm := hid hm
    have he := HE.out
    rw [hm] at he
    have HE2 := hid he
    clear he hm HE h hb
    go_enter Try.func40, Try.ntmps40
    go_wp2_with fail
    refine HE2.out.mono ?_
    rintro e w1 ⟨rfl, s', hM⟩
    have HM := hid hM
    clear hM
    go_wp2_with fail
    go_ret
    refine ⟨by rw [Hm.out]; rfl, s', ?_⟩
    have : commitM (abs s) = endM (abs s) := by simp [commitM, abs, Hm.out]
    rw [this]; exact HM.out
  · have Hm := hid hm
    have he := HE.out
    have hd : (!decide (s.marks = [])) = true := by simp [hm]
    rw [hd] at he
    have HE2 := hid he
    have H := hid h
    have HB := hid hb
    clear he hm HE h hb hd
    go_enter Try.func40, Try.ntmps40
    go_wp2_with fail
    refine HE2.out.mono ?_
    rintro e w1 ⟨rfl, s', hM⟩
    have HM := hid hM
    have HD := depth_c hM.rep
    have hb' := hM.b
    have hmk : Hid (s'.marks = s.marks.dropLast) := hid (congrArg AS.marks hM.abs)
    rw [hb'] at HD
    by_cases hm' : s'.marks = []
    · have hl : s'.marks.length = 0 := by rw [hm']; rfl
      rw [hl] at HD
      have HD2 := hid HD
      obtain ⟨-, s1, -, -, f1, -⟩ := hM.rep.scells
      rw [hb'] at s1 f1
      obtain ⟨ga, gcap, hgv, -, -⟩ := hM.rep.gval
      rw [hgv] at s1
      have Hm' := hid hm'
      clear HD hm' hl hM hgv hb'
      go_wp2_with fail
      refine HD2.out.mono ?_
      rintro e w2 ⟨rfl, rfl⟩
      go_wp2_with fail
      go_ret
      refine ⟨by simp [Hm.out], { s' with gv := .slice none 0 0, log := [] }, ?_⟩
      have hb' := HM.out.b
      have hK : Keeps (GFoot s') w1 (w1.setCell ⟨s.b, 1, none⟩ (.slice none 0 0)) := Keeps.one _ (fun _ => .inl (by rw [hb'])) _
      have hR := HM.out.rep
      have hst := hR.hs
      rw [hb'] at hst
      have hM2 : Moved w1 s' (commitM (abs s)) (w1.setCell ⟨s.b, 1, none⟩ (.slice none 0 0)) { s' with gv := .slice none 0 0, log := [] } := by
        refine ⟨SRep.updG hR hK (by rw [hb']; exact heap_set (ys := [_, _, _]) hst) (World.ownsRow_nil _ _ _ _) (fun _ h => nomatch h), rfl, ?_, hK.mono fun k c => c.foot, ?_, ?_⟩
        · have e1 := HM.out.abs
          have : commitM (abs s) = { endM (abs s) with log := [] } := by
            unfold commitM
            have c1 : ¬ (abs s).marks = [] := Hm.out
            have c2 : (endM (abs s)).marks = [] := by rw [← e1]; exact Hm'.out
            simp only [c1, c2, not_false_eq_true, and_self, if_true]
          rw [this, ← e1]
          rfl
        · rintro k (c | c | c | c)
          · exact .inl (.inl c)
          · exact .inl (.inr (.inl c))
          · simp [Value.ownBlock] at c
          · exact .inl (.inr (.inr (.inr c)))
        · rintro k (c | ⟨u, hu, -⟩)
          · exact .inl (.inl c)
          · exact nomatch hu
      exact HM.out.trans hM2
    · have hl : 0 < s'.marks.length := List.length_pos_iff.2 hm'
      have HD2 := hid HD
      have Hm' := hid hm'
      clear HD hm' hM hb'
      go_wp2_with fail
      refine HD2.out.mono ?_
      rintro e w2 ⟨rfl, rfl⟩
      go_wp2_with fail
      go_ret
      refine ⟨by simp [Hm.out], s', ?_⟩
      have : commitM (abs s) = endM (abs s) := by
        unfold commitM
        have c2 : ¬ (endM (abs s)).marks = [] := by rw [← HM.out.abs]; exact Hm'.out
        simp only [c2, and_false, if_false]
      rw [this]; exact HM.out

end Go.Proofs.Ytaidgkdebocenaa
