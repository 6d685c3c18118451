/- jointureref13.Line: the walks of Set, Remove.
   Conditions: the records are in order; at most a thousand. -/
import Derived.Test.YtaidgkdebocenaaR13c
namespace Go.Proofs.Ytaidgkdebocenaa
open Go Go.RowKit

def REditPost (w0 w : World) (bm i : Nat) (ls : List RL) (x : RL) (b : Bool) (L' : List It) (e : Ending) (w' : World) : Prop :=
  e = .returned (.bool b) ∧ ∃ x', R13 w0 w' bm (ls.set i x') ∧ x'.L = L' ∧ x'.c = x.c ∧ TK T13 w w'

set_option maxRecDepth 100000 in
set_option maxHeartbeats 1000000 in
theorem r13Set_c {w0 w : World} {bm : Nat} {ls : List RL} {i d n : Nat} {pv : Value} {p : BS} (h : R13 w0 w bm ls) (hi : i < ls.length) (hd : d < W64) (hn : n < W64) (hp : OB w pv p) (hs : SortedI (ls[i]).L) :
    Calls Try.prog 114 #[.pointer (some ⟨bm, i * 2, none⟩), .int .u64 (d : Int), .int .u64 (n : Int), pv] w (REditPost w0 w bm i ls (ls[i]) (hasIt (ls[i]).L d n) (setIt (ls[i]).L d n p)) := by
  have HF := hid (r13find_c h hi hd hn)
  obtain ⟨s0, -, -, -⟩ := h.cells hi
  have hrow := h.row _ (List.getElem_mem hi)
  obtain ⟨x, hx⟩ : ∃ x, x = ls[i] := ⟨_, rfl⟩
  rw [← hx] at s0 hrow HF hs ⊢
  obtain ⟨pa, pc, rfl, -, -⟩ := hp.bv.val
  have HX := hid (And.intro h (And.intro hx (And.intro hp hs)))
  have hhas := findIt_hasIt x.L d n
  cases hfi : findIt x.L d n with
  | none =>
    rw [hfi] at hhas
    have hf := HF.out
    rw [hfi] at hf
    have HF2 := hid hf
    have HE := hid (And.intro (setIt_no (p := p) hfi) hhas)
    unfold idxV at HF2
    clear h hx hrow hp hs hhas hfi hf HF s0
    go_enter Try.func114, Try.ntmps114
    go_wp2_with fail
    refine HF2.out.mono ?_
    rintro e w1 ⟨rfl, rfl⟩
    go_wp2_with fail
    go_ret
    refine ⟨by rw [← HE.out.2]; rfl, x, ?_, HE.out.1.symm, rfl, TK.refl _ _⟩
    obtain ⟨h, hx, hp, hs⟩ := HX.out
    rw [hx, List.set_getElem_self]
    exact h
  | some k =>
    obtain ⟨hk, hse⟩ := setIt_at (p := p) hs hfi
    have hkr : k < x.rs.length := by simpa [RL.L] using hk
    rw [hfi] at hhas
    have hf := HF.out
    rw [hfi] at hf
    have HF2 := hid hf
    obtain ⟨g, cap, hlv, hlc1, hlc2, hgb, hgl, hcell⟩ := rowCell IV.cells_len hrow hkr
    have c2 := (hcell 2 (by decide)).1
    have f2 := (hcell 2 (by decide)).2
    simp only [IV.cells, List.getElem?_cons_zero, List.getElem?_cons_succ] at c2
    rw [hlv] at s0
    have hki : (k : Int) < (x.rs.length : Int) := by omega
    have hk0 : ¬ (k : Int) < 0 := by omega
    unfold maxLen at hlc2
    have HE := hid (And.intro hse (And.intro hhas (And.intro hlv hkr)))
    unfold idxV at HF2
    obtain ⟨m, hm⟩ : ∃ m, m = x.rs.length := ⟨_, rfl⟩
    rw [← hm] at s0 hki hlc1
    obtain ⟨ov, hov⟩ : ∃ ov, ov = (x.rs[k]).v := ⟨_, rfl⟩
    rw [← hov] at c2
    clear h hx hrow hp hs hhas hfi hf HF hcell hse hlv hm hov hkr
    go_enter Try.func114, Try.ntmps114
    go_wp2_with fail
    refine HF2.out.mono ?_
    rintro e w1 ⟨rfl, rfl⟩
    go_wp2_with fail
    go_ret
    obtain ⟨h, hx, hp, hs⟩ := HX.out
    obtain ⟨hse, hhas, hlv, hkr⟩ := HE.out
    have hnew := R13.edit h hi hx.symm hlv hkr hp
    obtain ⟨cg, hcg⟩ := owns_typed (h.row x (by rw [hx]; exact List.getElem_mem hi)) (g := g) (by rw [hlv]; rfl)
    refine ⟨by rw [← hhas]; rfl, _, hnew, ?_, rfl, ?_⟩
    · rw [hse]
      simp [RL.L, List.map_set]
    · exact Keeps.one (a := ⟨g, k * 3 + 2, none⟩) _ (fun e => ⟨_, _, _, hcg, .inr rfl⟩) _

/-- append of a part of a row to a row in new memory. -/
theorem rowCut {t e : TypeId} {s bytes : Nat} {z : Value} (ht : Try.prog.underlying t = some (.slice e)) (hinfo : (Try.prog.info? e).map (fun i => (i.zero, i.size, i.bytes)) = some (some z, s, bytes)) (hzs : z.cells.size = s) (hsz : 0 < s)
    (hby : bytes ≤ 10000) {w0 wr : World} {oa a : Option Addr} {oc n m c : Nat} {xs news : List Value} (hE : Ext w0 wr) (hown : wr.ownsRow w0.heap.size e s (.slice oa n oc) n xs) (hl : news.length = m * s) (hsrc : Src wr a m c news) (h1 : ∀ u ∈ news, u.oneCell' = true) (hb : n + m ≤ 1000000) :
    ∃ oa' oc' w', (App #[t, t] t #[.slice oa n oc, .slice a m c]).run Try.prog wr = .ok (.slice oa' (n + m) oc') w' ∧ w'.ownsRow w0.heap.size e s (.slice oa' (n + m) oc') (n + m) (xs ++ news) ∧ Ext w0 w' := by
  have hbb : (n + m) * bytes ≤ 140737488355328 := Nat.le_trans (Nat.mul_le_mul hb hby) (by omega)
  obtain ⟨o', w', hrun, hown5, hgrow, -⟩ := run_App (P := Try.prog) t t e s bytes z ht hinfo hzs hsz hown (m := m) (c := c) (news := news) hl hsrc h1 (by unfold maxLen; omega) hbb hE.size
  obtain ⟨oa', oc', rfl⟩ := owns_slice hown5
  refine ⟨oa', oc', w', hrun, hown5, hE.grown hgrow fun k hk' hlt => ?_⟩
  have := (hown.lt k hk').1
  omega

theorem icells_one (rs : List IV) (h : ∀ r ∈ rs, r.v.oneCell' = true) : ∀ u ∈ rs.flatMap IV.cells, u.oneCell' = true := by
  intro u hu
  obtain ⟨r, hr, hu⟩ := List.mem_flatMap.1 hu
  simp only [IV.cells, List.mem_cons, List.not_mem_nil, or_false] at hu
  rcases hu with rfl | rfl | rfl
  · rfl
  · rfl
  · exact h r hr

set_option maxRecDepth 100000 in
set_option maxHeartbeats 2000000 in
theorem r13Remove_c {w0 w : World} {bm : Nat} {ls : List RL} {i d n : Nat} (h : R13 w0 w bm ls) (hi : i < ls.length) (hd : d < W64) (hn : n < W64) (hs : SortedI (ls[i]).L) (hlen : (ls[i]).rs.length ≤ 1000) :
    Calls Try.prog 115 #[.pointer (some ⟨bm, i * 2, none⟩), .int .u64 (d : Int), .int .u64 (n : Int)] w (REditPost w0 w bm i ls (ls[i]) (hasIt (ls[i]).L d n) (delIt (ls[i]).L d n)) := by
  have HF := hid (r13find_c h hi hd hn)
  obtain ⟨s0, -, f0, -⟩ := h.cells hi
  have hrow := h.row _ (List.getElem_mem hi)
  have hbyt := h.byt _ (List.getElem_mem hi)
  obtain ⟨x, hx⟩ : ∃ x, x = ls[i] := ⟨_, rfl⟩
  rw [← hx] at s0 hrow HF hs hlen hbyt ⊢
  have HX := hid (And.intro h (And.intro hx hs))
  have hhas := findIt_hasIt x.L d n
  cases hfi : findIt x.L d n with
  | none =>
    rw [hfi] at hhas
    have hf := HF.out
    rw [hfi] at hf
    have HF2 := hid hf
    have HE := hid (And.intro (delIt_no hfi) hhas)
    unfold idxV at HF2
    clear h hx hrow hs hhas hfi hf HF s0 hbyt hlen
    go_enter Try.func115, Try.ntmps115
    go_wp2_with fail
    refine HF2.out.mono ?_
    rintro e w1 ⟨rfl, rfl⟩
    go_wp2_with fail
    go_ret
    refine ⟨by rw [← HE.out.2]; rfl, x, ?_, HE.out.1.symm, rfl, TK.refl _ _⟩
    obtain ⟨h, hx, hs⟩ := HX.out
    rw [hx, List.set_getElem_self]
    exact h
  | some k =>
    obtain ⟨hk, hse⟩ := delIt_at hs hfi
    have hkr : k < x.rs.length := by simpa [RL.L] using hk
    rw [hfi] at hhas
    have hf := HF.out
    rw [hfi] at hf
    have HF2 := hid hf
    obtain ⟨g, cap, hlv, hlc1, hlc2, hgb, hgl, -⟩ := rowCell IV.cells_len hrow hkr
    rw [hlv] at s0 hrow
    unfold maxLen at hlc2
    have hone := icells_one x.rs fun r hr => by
      obtain ⟨a, c, h1⟩ := owns_slice (hbyt r hr)
      rw [h1]; rfl
    have hbm := lt_of_heap h.hb
    have hfl := flat_length IV.cells_len x.rs
    -- the first part
    obtain ⟨oa1, oc1, w1, hr1, ho1, hE1⟩ := rowCut (t := 64) (e := 182) (s := 3) Try.underlying64 infoRItem rfl (by decide) (by decide) (Ext.refl w) (World.ownsRow_nil _ _ _ _) (m := k) (c := cap) (news := (x.rs.take k).flatMap IV.cells)
      (by rw [flat_length IV.cells_len, List.length_take]; congr 1; omega) (by have := rowSrc (o := 0) (m := k) (c' := cap) (k := k * 3) hrow; rwa [List.drop_zero, flat_take IV.cells_len] at this)
      (fun u hu => hone u (by rw [← flat_take IV.cells_len] at hu; exact List.mem_of_mem_take hu)) (by omega)
    rw [List.nil_append, Nat.zero_add] at ho1
    rw [Nat.zero_add] at hr1
    have hrow1 := Keeps.ownsRow hE1 hrow fun _ _ c => c
    have t0 := hE1.cell s0
    obtain ⟨m, hm⟩ : ∃ m, m = x.rs.length := ⟨_, rfl⟩
    have hsrc : ∀ a c, (a = some ⟨g, (k + 1) * 3, none⟩ ∨ m - (k + 1) = 0 ∧ ∃ b, a = some b) → Src w1 a (m - (k + 1)) c ((x.rs.drop (k + 1)).flatMap IV.cells) := by
      intro a c ha
      rcases ha with rfl | ⟨h0, b, rfl⟩
      · have := rowSrc (o := (k + 1) * 3) (m := m - (k + 1)) (c' := c) (k := x.rs.length * 3) hrow1
        rwa [flat_drop IV.cells_len, List.take_of_length_le (by rw [flat_length IV.cells_len, List.length_drop]; exact Nat.mul_le_mul_right 3 (Nat.sub_le _ _))] at this
      · have he : x.rs.drop (k + 1) = [] := List.drop_eq_nil_of_le (by omega)
        rw [he]
        exact ⟨(fun e => nomatch e), fun a ha j u hu => by simp at hu⟩
    have hcut := fun a c ha => rowCut (t := 64) (e := 182) (s := 3) Try.underlying64 infoRItem rfl (by decide) (by decide) hE1 ho1 (m := m - (k + 1)) (c := c) (news := (x.rs.drop (k + 1)).flatMap IV.cells)
      (by rw [flat_length IV.cells_len, List.length_drop, hm]) (hsrc a c ha) (fun u hu => hone u (by rw [← flat_drop IV.cells_len] at hu; exact List.mem_of_mem_drop hu)) (by omega)
    have hfin : ∀ (q : Nat) (v : Value) (w9 : World), q = k + (m - (k + 1)) → w9.ownsRow w.heap.size 182 3 v q ((x.rs.take k).flatMap IV.cells ++ (x.rs.drop (k + 1)).flatMap IV.cells) → Ext w w9 →
        ∃ x', R13 w0 (w9.setCell ⟨bm, i * 2, none⟩ v) bm (ls.set i x') ∧ x'.L = delIt x.L d n ∧ x'.c = x.c ∧ TK T13 w (w9.setCell ⟨bm, i * 2, none⟩ v) := by
      intro q v w9 hq ho hE
      have hK9 : Keeps (fun k => k = bm) w (w9.setCell ⟨bm, i * 2, none⟩ v) := (Keeps.of_ext hE).trans (Keeps.one (a := ⟨bm, i * 2, none⟩) (fun k => k = bm) (fun _ => rfl) _)
      have hw9 := hE.heap h.hb
      refine ⟨⟨v, x.rs.take k ++ x.rs.drop (k + 1), x.c⟩, ?_, ?_, rfl, hK9.mono fun k e => ⟨_, _, _, e ▸ h.hb, .inl rfl⟩⟩
      · refine h.put hi hK9 ?_ ?_ ?_
        · have e2 : (ls.flatMap RL.cells).set (i * 2 + 0) v = (ls.set i ⟨v, x.rs.take k ++ x.rs.drop (k + 1), x.c⟩).flatMap RL.cells :=
            flat_set RL.cells_len _ i _ 0 _ hi (by decide) fun y hy => by rw [List.getElem?_eq_getElem hi, ← hx] at hy; cases hy; rfl
          rw [heap_set hw9, ← e2]
          rfl
        · have hl : (x.rs.take k ++ x.rs.drop (k + 1)).length = q := by rw [List.length_append, List.length_take, List.length_drop]; omega
          dsimp only
          rw [hl, List.flatMap_append]
          refine Keeps.ownsRow (S := fun k => k = bm) (Keeps.one (a := ⟨bm, i * 2, none⟩) (fun k => k = bm) (fun _ => rfl) _) ho fun g hg e => ?_
          obtain ⟨c2, h2⟩ := owns_typed ho hg
          subst e
          exact typed_ne hw9 h2 (by decide)
        · intro r hr
          have hr2 : r ∈ x.rs := by
            rcases List.mem_append.1 hr with hr | hr
            · exact List.mem_of_mem_take hr
            · exact List.mem_of_mem_drop hr
          refine (hbyt r hr2).keeps' hK9 fun g hg e => ?_
          obtain ⟨c2, h2⟩ := owns_typed (hbyt r hr2) hg
          subst e
          exact typed_ne h.hb h2 (by decide)
      · show (x.rs.take k ++ x.rs.drop (k + 1)).map IV.it = _
        rw [hse, List.map_append, List.map_take, List.map_drop]
        rfl
    have HFin := hid hfin
    have f01 := frozen_of_row w1 bm (i * 2) _ _ (hE1.heap h.hb)
    have hb1 : bm < w1.heap.size := Nat.lt_of_lt_of_le hbm hE1.size
    have hw1 := hE1.heap h.hb
    have HW1 := hid (And.intro hE1 hw1)
    rw [← hm] at s0 t0 hlc1 hlen
    have hki : (k : Int) < (m : Int) := by omega
    have hk1m : (k : Int) + 1 ≤ (m : Int) := by omega
    have hkc : (k : Int) + 1 ≤ (cap : Int) := by omega
    have hkc0 : (k : Int) ≤ (cap : Int) := by omega
    have hk0 : ¬ (k : Int) < 0 := by omega
    have HHas := hid hhas
    unfold idxV at HF2
    by_cases hcap : k + 1 = cap
    · obtain ⟨oa2, oc2, w2, hr2, ho2, hE2⟩ := hcut (some ⟨g, 0, none⟩) 0 (.inr ⟨by omega, _, rfl⟩)
      subst hcap
      obtain rfl : m = k + 1 := by omega
      rw [Nat.sub_self, Nat.add_zero] at hr2 ho2
      have f02 := frozen_of_row w2 bm (i * 2) _ _ (hE2.heap h.hb)
      have hb2 : bm < w2.heap.size := Nat.lt_of_lt_of_le hbm hE2.size
      have t02 := hE2.cell s0
      have HO2 := hid (And.intro ho2 hE2)
      clear h hx hrow hs hfi hf HF hlv hbyt hone hfl ho1 hrow1 hm hsrc hcut hfin hw1 ho2 hE1 hE2 hse hhas
      go_enter Try.func115, Try.ntmps115
      go_wp2_with fail
      refine HF2.out.mono ?_
      rintro e w1' ⟨rfl, rfl⟩
      go_wp2_with fail
      go_ret
      exact ⟨by rw [← HHas.out]; rfl, HFin.out k _ _ (by omega) HO2.out.1 HO2.out.2⟩
    · have hkc1 : (k : Int) + 1 < (cap : Int) := by omega
      obtain ⟨oa2, oc2, w2, hr2, ho2, hE2⟩ := hcut (some ⟨g, (k + 1) * 3, none⟩) (cap - (k + 1)) (.inl rfl)
      have f02 := frozen_of_row w2 bm (i * 2) _ _ (hE2.heap h.hb)
      have hb2 : bm < w2.heap.size := Nat.lt_of_lt_of_le hbm hE2.size
      have c02 := cell_of_row w2 bm (i * 2) _ _ _ (hE2.heap h.hb)
      have t02 := hE2.cell s0
      have HO2 := hid (And.intro ho2 hE2)
      clear h hx hrow hs hfi hf HF hlv hbyt hone hfl ho1 hrow1 hm hsrc hcut hfin hw1 ho2 hE1 hE2 hse hhas c02
      go_enter Try.func115, Try.ntmps115
      go_wp2_with fail
      refine HF2.out.mono ?_
      rintro e w1' ⟨rfl, rfl⟩
      go_wp2_with fail
      go_ret
      exact ⟨by rw [← HHas.out]; rfl, HFin.out _ _ _ rfl HO2.out.1 HO2.out.2⟩

end Go.Proofs.Ytaidgkdebocenaa
