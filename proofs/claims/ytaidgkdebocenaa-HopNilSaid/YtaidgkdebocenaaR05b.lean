/- jointureref05.Store: Begin, End.
   Conditions: fewer than 2^40 parts. -/
import Derived.Test.YtaidgkdebocenaaR05
namespace Go.Proofs.Ytaidgkdebocenaa
open Go Go.RowKit

theorem infoRPs : (Try.prog.info? 28).map (fun i => (i.zero, i.size, i.bytes)) = some (some (.slice none 0 0), 1, 24) := by kernel_rfl

theorem RRep.w_ne {w : World} {m : RG} (h : RRep w m) : m.wv.ownBlock ≠ some m.b := by
  intro c
  obtain ⟨c2, h2⟩ := owns_typed h.hw c
  exact typed_ne h.hs h2 (by decide)

/-- The document's store with another pair of rows. -/
theorem RRep.upd {w w' : World} {m m' : RG} (h : RRep w m) (hk : Keeps (RFoot m) w w') (hb : m'.b = m.b) (hs : w'.heap[m.b]? = some (.cells #[m'.lv, m'.wv] 31 (0, 0)))
    (hl : (m'.lv = m.lv ∧ m'.L = m.L) ∨ ∃ r ∈ m.was, m'.lv = r.v ∧ m'.L = r.L) (hw : w'.ownsRow 0 28 1 m'.wv m'.was.length (wcells m'.was)) (hr : ∀ r ∈ m'.was, r ∈ m.was ∨ (r.v = m.lv ∧ r.L = m.L)) : RRep w' m' := by
  have hrow : ∀ {v : Value} {L : List Ent}, w.ownsRow 0 157 2 v L.length (ecells L) → w'.ownsRow 0 157 2 v L.length (ecells L) := fun ho => hk.ownsRow ho fun g hg c => by
    obtain ⟨c1, h1⟩ := owns_typed ho hg
    obtain ⟨c2, t2, h2, ht2⟩ := h.rtyped c
    refine typed_ne h1 h2 ?_
    rcases ht2 with rfl | rfl <;> decide
  have hob : ∀ {v : Value} {xs : BS}, OB w v xs → OB w' v xs := fun ho => ho.keeps' hk fun g hg c => by
    obtain ⟨c1, h1⟩ := ho.typed hg
    obtain ⟨c2, t2, h2, ht2⟩ := h.rtyped c
    refine typed_ne h1 h2 ?_
    rcases ht2 with rfl | rfl <;> decide
  refine ⟨by rw [hb]; exact hs, ?_, hw, fun r hr' => ?_, ?_, fun r hr' => ?_⟩
  · rcases hl with ⟨e1, e2⟩ | ⟨r, hr, e1, e2⟩
    · rw [e1, e2]; exact hrow h.hl
    · rw [e1, e2]; exact hrow (h.hr r hr)
  · rcases hr r hr' with c | ⟨e1, e2⟩
    · exact hrow (h.hr r c)
    · rw [e1, e2]; exact hrow h.hl
  · rcases hl with ⟨e1, e2⟩ | ⟨r, hr, e1, e2⟩
    · rw [e2]; exact fun e he => ⟨hob (h.he e he).1, hob (h.he e he).2⟩
    · rw [e2]; exact fun e he => ⟨hob (h.hwe r hr e he).1, hob (h.hwe r hr e he).2⟩
  · rcases hr r hr' with c | ⟨e1, e2⟩
    · exact fun e he => ⟨hob (h.hwe r c e he).1, hob (h.hwe r c e he).2⟩
    · rw [e2]; exact fun e he => ⟨hob (h.he e he).1, hob (h.he e he).2⟩

/-- What a call on the document's store leaves. -/
structure RMoved (w : World) (m : RG) (a : RS) (w' : World) (m' : RG) : Prop where
  rep : RRep w' m'
  b : m'.b = m.b
  abs : rabs m' = a
  keeps : Keeps (RFoot m) w w'
  foot : ∀ k, RFoot m' k → RFoot m k ∨ w.heap.size ≤ k

set_option maxRecDepth 100000 in
set_option maxHeartbeats 1000000 in
theorem r05begin_c {w : World} {m : RG} (h : RRep w m) (hb : m.was.length < big) :
    Calls Try.prog 98 #[.pointer (some ⟨m.b, 0, none⟩)] w fun e w' => e = .returned (.tuple #[]) ∧ ∃ m', RMoved w m ⟨(rabs m).M, (rabs m).was ++ [(rabs m).M]⟩ w' m' := by
  obtain ⟨s0, s1, -, -⟩ := h.rcells
  obtain ⟨la, lcap, hlv, -, -⟩ := owns_val h.hl
  obtain ⟨wa, wcap, hwv, hwn, hwc⟩ := owns_val h.hw
  rw [hlv] at s0
  rw [hwv] at s1
  unfold maxLen at hwc
  have hsl := lt_of_heap h.hs
  obtain ⟨W3, hW3⟩ : ∃ W3, W3 = (w.alloc (.cells #[.slice la m.L.length lcap] 28)).drew := ⟨_, rfl⟩
  have hE3 : Ext w W3 := by rw [hW3]; exact ((Ext.refl w).alloc _).drew
  have hM3 : W3.heap[w.heap.size]? = some (.cells #[.slice la m.L.length lcap] 28 (0, 0)) := by rw [hW3]; exact heap_alloc_new w _
  have hR3 := h.ext hE3
  have hg3 := hR3.hw
  have hgb := hb
  rw [big_eq] at hgb
  obtain ⟨wv', w4, hr, hown, hgrow, hbk⟩ := run_App (P := Try.prog) 29 29 28 1 24 (.slice none 0 0) Try.underlying29 infoRPs rfl (by decide) hg3 (m := 1) (c := 1) (news := [.slice la m.L.length lcap]) rfl (Src.row hM3) (by simp [Value.oneCell']) (by unfold maxLen; omega) (by omega) (Nat.zero_le _)
  obtain ⟨wa', wcap', rfl⟩ := owns_slice hown
  rw [hwv, hW3] at hr
  have hK4 : Keeps (fun k => m.wv.ownBlock = some k) W3 w4 := (Keeps.refl _ W3).grown hgrow (fun k c _ => c)
  have hst4 := hK4.heap hR3.hs h.w_ne
  have t1 := cell_of_row w4 m.b 1 _ _ _ hst4
  have f1 := frozen_of_row w4 m.b 1 _ _ hst4
  simp at t1
  have Hlv := hid hlv
  have H := hid h
  have HFin := hid (And.intro hE3 (And.intro hR3 (And.intro hown (And.intro hK4 (And.intro hst4 hbk)))))
  clear hW3 hE3 hM3 hR3 hg3 hgb hown hgrow hbk hK4 hst4 hwv hlv h hb
  go_enter Try.func98, Try.ntmps98
  go_wp2_with fail
  go_region
  go_wp2_with fail
  go_end0
  obtain ⟨hE3, hR3, hown, hK4, hst4, hbk⟩ := HFin.out
  have hK5 : Keeps (RFoot m) w (w4.setCell ⟨m.b, 1, none⟩ (.slice wa' (m.was.length + 1) wcap')) :=
    (Keeps.of_ext hE3).trans' ((hK4.mono fun k c => .inr c).setCell (S := RFoot m) (fun _ => .inl rfl) _) fun _ _ c => c
  have hs5 : (w4.setCell ⟨m.b, 1, none⟩ (.slice wa' (m.was.length + 1) wcap')).heap[m.b]? = some (.cells #[m.lv, .slice wa' (m.was.length + 1) wcap'] 31 (0, 0)) := heap_set (ys := [_, _]) hst4
  refine ⟨rfl, { m with wv := .slice wa' (m.was.length + 1) wcap', was := m.was ++ [⟨m.lv, m.L⟩] }, RRep.upd H.out hK5 rfl hs5 (.inl ⟨rfl, rfl⟩) ?_ ?_, rfl, ?_, hK5, ?_⟩
  · have e : wcells (m.was ++ [⟨m.lv, m.L⟩]) = wcells m.was ++ [.slice la m.L.length lcap] := by simp [wcells, Hlv.out]
    have e2 : (m.was ++ [(⟨m.lv, m.L⟩ : RRow)]).length = m.was.length + 1 := by simp
    show World.ownsRow _ 0 28 1 (.slice wa' (m.was.length + 1) wcap') (m.was ++ [(⟨m.lv, m.L⟩ : RRow)]).length _
    rw [e, e2]
    refine Keeps.ownsRow (S := fun k => k = m.b) (Keeps.one (a := ⟨m.b, 1, none⟩) (fun k => k = m.b) (fun _ => rfl) _) hown ?_
    intro k hk c
    obtain ⟨c2, h2⟩ := owns_typed hown hk
    subst c
    exact typed_ne hst4 h2 (by decide)
  · intro r hr
    rcases List.mem_append.1 hr with hr | hr
    · exact .inl hr
    · obtain rfl := List.mem_singleton.1 hr
      exact .inr ⟨rfl, rfl⟩
  · simp [rabs]
  · have hz3 := hE3.size
    rintro k (c | c)
    · exact .inl (.inl c)
    · rcases hbk k c with c | c
      · exact .inl (.inr c)
      · right; omega

def endR (stay : Bool) (a : RS) : RS := { M := if stay = true then a.M else (a.was.getLast?).getD a.M, was := a.was.dropLast }

theorem RRep.wasCell {w : World} {m : RG} (h : RRep w m) {i : Nat} (hi : i < m.was.length) :
    ∃ g cap, m.wv = .slice (some ⟨g, 0, none⟩) m.was.length cap ∧ m.was.length ≤ cap ∧ cap ≤ maxLen ∧ w.cell? ⟨g, i, none⟩ = some (m.was[i]).v := by
  rcases h.hw.2 with ⟨-, h0⟩ | ⟨g, cap, cur, hv, -, hg, hn, hc, hsz, ht⟩
  · omega
  · refine ⟨g, cap, hv, hn, hc, ?_⟩
    have he : (wcells m.was)[i]? = some (m.was[i]).v := by simp [wcells, hi]
    rw [← ht, List.getElem?_take_of_lt (by omega)] at he
    rw [cell_of_row w g _ cur _ _ hg]
    simpa using he

set_option maxRecDepth 100000 in
set_option maxHeartbeats 1000000 in
theorem r05end_c {w : World} {m : RG} {stay : Bool} (h : RRep w m) (hb : m.was.length < big) :
    Calls Try.prog 99 #[.pointer (some ⟨m.b, 0, none⟩), .bool stay] w fun e w' => e = .returned (.bool (!decide (m.was = []))) ∧ ∃ m', RMoved w m (endR stay (rabs m)) w' m' := by
  by_cases hm : m.was = []
  · obtain ⟨s0, s1, -, -⟩ := h.rcells
    obtain ⟨wa, wcap, hwv, -, -⟩ := owns_val h.hw
    rw [hwv, hm] at s1
    have H := hid h
    have Hm := hid hm
    simp only [List.length_nil] at s1
    clear h hb hm hwv
    go_enter Try.func99, Try.ntmps99
    go_wp2_with fail
    go_ret
    refine ⟨by simp [Hm.out], m, H.out, rfl, ?_, Keeps.refl _ _, fun k c => .inl c⟩
    simp [endR, rabs, Hm.out]
  · obtain ⟨l, r, hl⟩ : ∃ l r, m.was = l ++ [r] := ⟨m.was.dropLast, m.was.getLast hm, (List.dropLast_concat_getLast hm).symm⟩
    have hlen : m.was.length = l.length + 1 := by rw [hl]; simp
    obtain ⟨g, cap, hwv, hwn, hwc, c1⟩ := h.wasCell (i := l.length) (by omega)
    have hx : m.was[l.length]'(by omega) = r := by simp [hl]
    rw [hx] at c1
    obtain ⟨s0, s1, f0, f1⟩ := h.rcells
    rw [hwv, hlen] at s1
    rw [hlen] at hwn
    have hrm : r ∈ m.was := by rw [hl]; simp
    obtain ⟨ra, rcap, hrv, -, -⟩ := owns_val (h.hr r hrm)
    rw [hrv] at c1
    have hbb := hb
    rw [big_eq, hlen] at hbb
    unfold maxLen at hwc
    have hsl := lt_of_heap h.hs
    have hgb : ¬ g = m.b := by
      intro c; have := h.w_ne; rw [hwv] at this; simp [Value.ownBlock, c] at this
    have hp := h.hw
    rw [hwv, hlen] at hp
    have hp2 := owns_prefix hp (m := l.length) (by omega)
    have hcells : (wcells m.was).take (l.length * 1) = wcells l := by rw [hl]; simp [wcells]
    rw [hcells] at hp2
    have H := hid h
    have Hm := hid hm
    have Hl := hid hl
    have Hwv := hid hwv
    have Hrv := hid hrv
    have HP := hid hp2
    have Hrm := hid hrm
    clear h hb hm hl hx hlen hwv hrv hp hp2 hcells hrm
    cases stay with
    | true =>
      go_enter Try.func99, Try.ntmps99
      go_wp2_with fail
      go_ret
      have hK : Keeps (fun k => k = m.b) w (w.setCell ⟨m.b, 1, none⟩ (.slice (some ⟨g, 0, none⟩) l.length cap)) := Keeps.one (a := ⟨m.b, 1, none⟩) (fun k => k = m.b) (fun _ => rfl) _
      refine ⟨by simp [Hm.out], { m with wv := .slice (some ⟨g, 0, none⟩) l.length cap, was := l }, RRep.upd H.out (hK.mono fun k c => .inl c) rfl (heap_set (ys := [_, _]) H.out.hs) (.inl ⟨rfl, rfl⟩) ?_ ?_, rfl, ?_, hK.mono fun k c => .inl c, ?_⟩
      · refine hK.ownsRow HP.out fun k hk c => ?_
        simp only [Value.ownBlock, Option.some.injEq] at hk
        omega
      · intro x hx
        exact .inl (by rw [Hl.out]; exact List.mem_append_left _ hx)
      · simp [endR, rabs, Hl.out]
      · rintro k (c | c)
        · exact .inl (.inl c)
        · exact .inl (.inr (by rw [Hwv.out]; exact c))
    | false =>
      go_enter Try.func99, Try.ntmps99
      go_wp2_with fail
      go_ret
      have hK : Keeps (fun k => k = m.b) w ((w.setCell ⟨m.b, 0, none⟩ (.slice ra r.L.length rcap)).setCell ⟨m.b, 1, none⟩ (.slice (some ⟨g, 0, none⟩) l.length cap)) :=
        (Keeps.one (a := ⟨m.b, 0, none⟩) (fun k => k = m.b) (fun _ => rfl) _).setCell (a := ⟨m.b, 1, none⟩) (fun _ => rfl) _
      refine ⟨by simp [Hm.out], { m with lv := r.v, L := r.L, wv := .slice (some ⟨g, 0, none⟩) l.length cap, was := l }, RRep.upd H.out (hK.mono fun k c => .inl c) rfl ?_ (.inr ⟨r, Hrm.out, rfl, rfl⟩) ?_ ?_, rfl, ?_, hK.mono fun k c => .inl c, ?_⟩
      · rw [Hrv.out]
        exact heap_set (ys := [_, _]) (heap_set (ys := [_, _]) H.out.hs)
      · refine hK.ownsRow HP.out fun k hk c => ?_
        simp only [Value.ownBlock, Option.some.injEq] at hk
        omega
      · intro x hx
        exact .inl (by rw [Hl.out]; exact List.mem_append_left _ hx)
      · simp [endR, rabs, Hl.out]
      · rintro k (c | c)
        · exact .inl (.inl c)
        · exact .inl (.inr (by rw [Hwv.out]; exact c))

end Go.Proofs.Ytaidgkdebocenaa
