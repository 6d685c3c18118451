/- jointureref13.Line: Add.
   Conditions: at most a thousand records; fewer than 2^62 were added. -/
import Derived.Test.YtaidgkdebocenaaR13
namespace Go.Proofs.Ytaidgkdebocenaa
open Go Go.RowKit

theorem infoRItem : (Try.prog.info? 182).map (fun i => (i.zero, i.size, i.bytes)) = some (some (.agg #[.int .u64 0, .int .u64 0, .slice none 0 0]), 3, 40) := by kernel_rfl

/-- One line anew, its row in new memory. -/
theorem R13.put {w0 w w' : World} {bm i : Nat} {ls : List RL} {x : RL} (h : R13 w0 w bm ls) (hi : i < ls.length) (hk : Keeps (fun k => k = bm) w w') (hb : w'.heap[bm]? = some (.cells ((ls.set i x).flatMap RL.cells).toArray 67 (0, 0)))
    (hr : w'.ownsRow w.heap.size 182 3 x.lv x.rs.length (x.rs.flatMap IV.cells)) (hby : ∀ r ∈ x.rs, OB w' r.v r.it.p) : R13 w0 w' bm (ls.set i x) := by
  have hrow : ∀ y ∈ ls, w'.ownsRow w0.heap.size 182 3 y.lv y.rs.length (y.rs.flatMap IV.cells) := fun y hy => hk.ownsRow (h.row y hy) fun g hg e => by
    obtain ⟨c2, h2⟩ := owns_typed (h.row y hy) hg
    subst e
    exact typed_ne h.hb h2 (by decide)
  have hbyt : ∀ y ∈ ls, ∀ r ∈ y.rs, OB w' r.v r.it.p := fun y hy r hr => (h.byt y hy r hr).keeps' hk fun g hg e => by
    obtain ⟨c2, h2⟩ := owns_typed (h.byt y hy r hr) hg
    subst e
    exact typed_ne h.hb h2 (by decide)
  refine ⟨hb, by rw [List.length_set]; exact h.len, fun y hy => ?_, fun y hy => ?_, ?_, h.new, ?_⟩
  · rcases List.mem_or_eq_of_mem_set hy with hy | rfl
    · exact hrow y hy
    · exact owns_base hr h.ext.size
  · rcases List.mem_or_eq_of_mem_set hy with hy | rfl
    · exact hbyt y hy
    · exact hby
  · have hold : ∀ y ∈ ls, ∀ g, y.lv.ownBlock = some g → x.lv.ownBlock ≠ some g := fun y hy g hg hx => by
      have := ((h.row y hy).lt g hg).2
      have := (hr.lt g hx).1
      omega
    rw [List.pairwise_iff_getElem] at *
    have hd := h.dis
    rw [List.pairwise_iff_getElem] at hd
    intro a b ha hb' hab
    rw [List.length_set] at ha hb'
    rw [List.getElem_set, List.getElem_set]
    split
    · split
      · omega
      · intro g hg hy
        exact hold _ (List.getElem_mem hb') g hy hg
    · split
      · intro g hg
        exact hold _ (List.getElem_mem ha) g hg
      · exact hd a b ha hb' hab
  · exact h.ext.trans' hk fun k hk' e => by have := h.new; omega

def RAddPost (w0 w : World) (bm i : Nat) (ls : List RL) (x : RL) (due : Nat) (p : BS) (e : Ending) (w' : World) : Prop :=
  e = .returned (.int .u64 ((x.c + 1 : Nat) : Int)) ∧ ∃ x', R13 w0 w' bm (ls.set i x') ∧ x'.L = insIt x.L ⟨due, x.c + 1, p⟩ ∧ x'.c = x.c + 1 ∧ TK T13 w w'

theorem insIt_by (L : List It) (y : It) : insIt L y = insBy (fun x => decide (y.due < x.due)) y L := by
  induction L with
  | nil => rfl
  | cons x L ih => rw [insIt, insBy, ih]; simp

/-- What the loop of Add has made of k records. -/
def AddAt (w wr : World) (p : IV → Bool) (nv : IV) (rs : List IV) (k : Nat) (o d : Value) : Prop :=
  k ≤ rs.length ∧ d = .bool ((rs.take k).any p) ∧ ∃ n, (insTo p nv (rs.take k)).length = n ∧ n ≤ k + 1 ∧ wr.ownsRow w.heap.size 182 3 o n ((insTo p nv (rs.take k)).flatMap IV.cells) ∧ Ext w wr

set_option maxRecDepth 100000 in
set_option maxHeartbeats 2000000 in
theorem r13Add_c {w0 w : World} {bm : Nat} {ls : List RL} {i due : Nat} {pv : Value} {p : BS} (h : R13 w0 w bm ls) (hi : i < ls.length) (hd : due < W64) (hp : OB w pv p) (hc : (ls[i]).c < 4611686018427387904) (hlen : (ls[i]).rs.length ≤ 1000) :
    Calls Try.prog 113 #[.pointer (some ⟨bm, i * 2, none⟩), .int .u64 (due : Int), pv] w (RAddPost w0 w bm i ls (ls[i]) due p) := by
  obtain ⟨s0, s1, f0, f1⟩ := h.cells hi
  have hrow := h.row _ (List.getElem_mem hi)
  have hbyt := h.byt _ (List.getElem_mem hi)
  obtain ⟨x, hx⟩ : ∃ x, x = ls[i] := ⟨_, rfl⟩
  have hxi : ls[i]? = some x := by rw [hx, List.getElem?_eq_getElem hi]
  rw [← hx] at s0 s1 hrow hbyt hc hlen ⊢
  obtain ⟨la, lc, hlv, hlc1, hlc2⟩ := row_len hrow
  rw [hlv] at s0 hrow
  obtain ⟨pa, pc, rfl, -, -⟩ := hp.bv.val
  obtain ⟨c, hcc⟩ : ∃ c, c = x.c := ⟨_, rfl⟩
  rw [← hcc] at s1 hc
  obtain ⟨W, hW⟩ : ∃ W, W = w.setCell ⟨bm, i * 2 + 1, none⟩ (.int .u64 ((c : Int) + 1)) := ⟨_, rfl⟩
  have hKW : Keeps (fun k => k = bm) w W := by rw [hW]; exact Keeps.one (a := ⟨bm, i * 2 + 1, none⟩) (fun k => k = bm) (fun _ => rfl) _
  have hbW : W.heap[bm]? = some (.cells (((ls.flatMap RL.cells).set (i * 2 + 1) (.int .u64 ((c : Int) + 1)))).toArray 67 (0, 0)) := by rw [hW]; exact heap_set h.hb
  have hbm := lt_of_heap h.hb
  have hrowW : W.ownsRow w0.heap.size 182 3 (.slice la x.rs.length lc) x.rs.length (x.rs.flatMap IV.cells) := hKW.ownsRow hrow fun g hg e => by
    obtain ⟨c2, h2⟩ := owns_typed hrow hg
    subst e
    exact typed_ne h.hb h2 (by decide)
  have hWsz : W.heap.size = w.heap.size := by rw [hW]; simp [World.setCell]
  have hfl := flat_length RL.cells_len ls
  have hi3 := h.len
  have t0 : W.cell? ⟨bm, i * 2, none⟩ = some (.slice la x.rs.length lc) := by
    rw [cell_of_row W bm _ _ _ _ hbW, ← s0, cell_of_row w bm _ _ _ _ h.hb]
    simp only [List.getElem?_toArray]
    rw [List.getElem?_set_ne (by omega)]
  have t1 : W.cell? ⟨bm, i * 2 + 1, none⟩ = some (.int .u64 ((c : Int) + 1)) := by
    rw [cell_of_row W bm _ _ _ _ hbW]
    simp only [List.getElem?_toArray]
    rw [List.getElem?_set_self (by omega)]
  have g0 : W.frozen? ⟨bm, i * 2, none⟩ = false := frozen_of_row W _ _ _ _ hbW
  obtain ⟨m, hm⟩ : ∃ m, m = x.rs.length := ⟨_, rfl⟩
  rw [← hm] at s0 t0 hlc1 hlen
  have Hm := hid hm
  have HRowW := hid hrowW
  have HX := hid (And.intro h (And.intro hxi (And.intro hlv (And.intro hcc (And.intro hbyt hp)))))
  have HW := hid (And.intro hW (And.intro hKW (And.intro hbW hWsz)))
  obtain ⟨nv, hnv⟩ : ∃ nv : IV, nv = ⟨.slice pa p.length pc, ⟨due, c + 1, p⟩⟩ := ⟨_, rfl⟩
  have Hnv := hid hnv
  have hci : (c : Int) + 1 ≤ 4611686018427387904 := by omega
  have HD := hid hd
  clear h hx hxi hrow hbyt hlv hcc hW hKW hbW hrowW hWsz hfl hi3 hm hp hnv hd
  have hfin : ∀ (n : Nat) (v : Value) (w9 : World), (insBy (fun r => decide (due < r.it.due)) nv x.rs).length = n → w9.ownsRow W.heap.size 182 3 v n ((insBy (fun r => decide (due < r.it.due)) nv x.rs).flatMap IV.cells) → Ext W w9 →
      ∃ x', R13 w0 (w9.setCell ⟨bm, i * 2, none⟩ v) bm (ls.set i x') ∧ x'.L = insIt x.L ⟨due, x.c + 1, p⟩ ∧ x'.c = x.c + 1 ∧ TK T13 w (w9.setCell ⟨bm, i * 2, none⟩ v) := by
    intro n v w9 hn ho hE
    obtain ⟨h, hxi, hlv, hcc, hbyt, hp⟩ := HX.out
    obtain ⟨hW, hKW, hbW, hWsz⟩ := HW.out
    have hK9 : Keeps (fun k => k = bm) w (w9.setCell ⟨bm, i * 2, none⟩ v) := (hKW.ext hE).trans (Keeps.one (a := ⟨bm, i * 2, none⟩) (fun k => k = bm) (fun _ => rfl) _)
    have hw9 := hE.heap hbW
    refine ⟨⟨v, insBy (fun r => decide (due < r.it.due)) nv x.rs, c + 1⟩, ?_, ?_, by rw [← hcc], hK9.mono fun k e => ⟨_, _, _, e ▸ h.hb, .inl rfl⟩⟩
    · refine h.put hi hK9 ?_ ?_ ?_
      · have e1 : (ls.flatMap RL.cells).set (i * 2 + 1) (.int .u64 ((c : Int) + 1)) = (ls.set i { x with c := c + 1 }).flatMap RL.cells :=
          flat_set RL.cells_len ls i _ 1 _ hi (by decide) fun y hy => by rw [hxi] at hy; cases hy; rfl
        have e2 : ((ls.set i { x with c := c + 1 }).flatMap RL.cells).set (i * 2 + 0) v = ((ls.set i { x with c := c + 1 }).set i ⟨v, insBy (fun r => decide (due < r.it.due)) nv x.rs, c + 1⟩).flatMap RL.cells :=
          flat_set RL.cells_len _ i _ 0 _ (by rw [List.length_set]; exact hi) (by decide) fun y hy => by rw [List.getElem?_set_self hi] at hy; cases hy; rfl
        rw [List.set_set] at e2
        rw [heap_set hw9, e1, ← e2]
        rfl
      · rw [← hWsz]
        dsimp only
        rw [hn]
        refine Keeps.ownsRow (S := fun k => k = bm) (Keeps.one (a := ⟨bm, i * 2, none⟩) (fun k => k = bm) (fun _ => rfl) _) ho fun g hg e => ?_
        obtain ⟨c2, h2⟩ := owns_typed ho hg
        subst e
        exact typed_ne hw9 h2 (by decide)
      · intro r hr
        have keep : ∀ {u : Value} {xs : BS}, OB w u xs → OB (w9.setCell ⟨bm, i * 2, none⟩ v) u xs := fun ho => ho.keeps' hK9 fun g hg e => by
          obtain ⟨c2, h2⟩ := ho.typed hg
          subst e
          exact typed_ne h.hb h2 (by decide)
        rcases insBy_mem hr with rfl | hr
        · rw [Hnv.out]; exact keep hp
        · exact keep (hbyt r hr)
    · show (insBy (fun r => decide (due < r.it.due)) nv x.rs).map IV.it = _
      rw [insIt_by, insBy_map IV.it (q := fun z => decide (due < z.due)) (fun _ => rfl), Hnv.out, ← hcc]
      rfl
  have HFin := hid hfin
  clear hfin
  go_enter Try.func113, Try.ntmps113
  go_wp2_with fail
  rw [← HW.out.1]
  go_loopw [7, 8, 9] (fun o d j wr => ∃ k : Nat, j = .int .i64 k ∧ AddAt W wr (fun r => decide (due < r.it.due)) nv x.rs k o d) (fun _ _ j _ => m - (intOf j).toNat)
  case atStart => exact ⟨0, rfl, Nat.zero_le _, rfl, 0, rfl, Nat.zero_le _, World.ownsRow_nil _ _ _ _, Ext.refl _⟩
  case round =>
    obtain ⟨k, rfl, hk, hdn, n, hnl, hnk, hown, hE⟩ := hrel
    obtain ⟨oa, oc, rfl⟩ := owns_slice hown
    have t0r := hE.cell t0
    have t1r := hE.cell t1
    have g0r := frozen_of_row wr bm (i * 2) _ _ (hE.heap HW.out.2.2.1)
    have hbr : bm < wr.heap.size := Nat.lt_of_lt_of_le (by rw [HW.out.2.2.2]; exact hbm) hE.size
    have HO := hid (And.intro hnl (And.intro hown hE))
    obtain ⟨dn, hdd⟩ : ∃ dn, dn = (x.rs.take k).any (fun r => decide (due < r.it.due)) := ⟨_, rfl⟩
    rw [← hdd] at hdn
    subst hdn
    have Hdd := hid hdd
    clear hnl hown hE hdd
    by_cases hlt : k < m
    · have hki : (k : Int) < (m : Int) := by omega
      have hkr : k < x.rs.length := by rw [← Hm.out]; exact hlt
      obtain ⟨g, cap, hv, -, -, -, -, hcell⟩ := rowCell IV.cells_len (Keeps.ownsRow HO.out.2.2 HRowW.out fun _ _ c => c) hkr
      rw [← Hm.out] at hv
      cases hv
      obtain ⟨qa, qc, hqv, -, -⟩ := (HX.out.2.2.2.2.1 _ (List.getElem_mem hkr)).bv.val
      have c0 := (hcell 0 (by decide)).1
      have c1 := (hcell 1 (by decide)).1
      have c2 := (hcell 2 (by decide)).1
      simp only [IV.cells, List.getElem?_cons_zero, List.getElem?_cons_succ, Nat.add_zero, hqv] at c0 c1 c2
      obtain ⟨d1, hd1⟩ : ∃ d1, d1 = (x.rs[k]).it.due := ⟨_, rfl⟩
      obtain ⟨n1, hn1⟩ : ∃ n1, n1 = (x.rs[k]).it.no := ⟨_, rfl⟩
      obtain ⟨ql, hql⟩ : ∃ ql, ql = (x.rs[k]).it.p.length := ⟨_, rfl⟩
      rw [← hd1] at c0
      rw [← hn1] at c1
      rw [← hql] at c2 hqv
      have hcs : IV.cells (x.rs[k]) = [.int .u64 (d1 : Int), .int .u64 (n1 : Int), .slice qa ql qc] := by simp only [IV.cells, hqv, hd1, hn1]
      have HIt := hid (And.intro hd1 (And.intro hcs hkr))
      clear hcell hqv hd1 hn1 hql hcs
      cases dn with
      | true =>
        obtain ⟨oa', oc', w6, hrun, hlen6, hown6, hE6, -⟩ := rowApp (f := IV.cells) (l := insTo (fun r => decide (due < r.it.due)) nv (x.rs.take k)) (x := x.rs[k]) (cs := [.int .u64 (d1 : Int), .int .u64 (n1 : Int), .slice qa ql qc]) Try.underlying64 infoRItem rfl (by decide) (by decide) HO.out.2.2 HO.out.1 HO.out.2.1 HIt.out.2.1 rfl (by simp [Value.oneCell']) (by omega)
        rw [insTo_succ_t hkr Hdd.out.symm] at hlen6 hown6
        have hany : true = (x.rs.take (k + 1)).any (fun r => decide (due < r.it.due)) := by rw [any_succ hkr, ← Hdd.out]; rfl
        have H6 := hid (And.intro hlen6 (And.intro hown6 (And.intro hE6 hany)))
        clear hlen6 hown6 hE6 hany
        go_wp2_with fail
        exact ⟨⟨k + 1, by go_num, hkr, by rw [← H6.out.2.2.2], n + 1, H6.out.1, by omega, H6.out.2.1, H6.out.2.2.1⟩, by simp [intOf]; omega⟩
      | false =>
        have hnk2 : n ≤ k := by
          have := HO.out.1
          rw [insTo_none Hdd.out.symm, List.length_take] at this
          omega
        by_cases hlt2 : due < d1
        · have tl : (due : Int) < (d1 : Int) := by omega
          obtain ⟨oa5, oc5, w5, hrun5, hlen5, hown5, hE5, hK5⟩ := rowApp (f := IV.cells) (l := insTo (fun r => decide (due < r.it.due)) nv (x.rs.take k)) (x := nv) (cs := [.int .u64 (due : Int), .int .u64 ((c : Int) + 1), .slice pa p.length pc]) Try.underlying64 infoRItem rfl (by decide) (by decide) HO.out.2.2 HO.out.1 HO.out.2.1 (by rw [Hnv.out]; rfl) rfl (by simp [Value.oneCell']) (by omega)
          obtain ⟨oa', oc', w6, hrun, hlen6, hown6, hE6, -⟩ := rowApp (f := IV.cells) (l := insTo (fun r => decide (due < r.it.due)) nv (x.rs.take k) ++ [nv]) (x := x.rs[k]) (cs := [.int .u64 (d1 : Int), .int .u64 (n1 : Int), .slice qa ql qc]) Try.underlying64 infoRItem rfl (by decide) (by decide) hE5 hlen5 hown5 HIt.out.2.1 rfl (by simp [Value.oneCell']) (by omega)
          have hp : decide (due < (x.rs[k]).it.due) = true := by simp only [← HIt.out.1, hlt2, decide_true]
          rw [insTo_succ_p hkr Hdd.out.symm hp] at hlen6 hown6
          have hany : true = (x.rs.take (k + 1)).any (fun r => decide (due < r.it.due)) := by rw [any_succ hkr, hp, Bool.or_true]
          have t05 := hE5.cell t0
          obtain ⟨g5, cap5, hv5, -, -, -, -, hcell5⟩ := rowCell IV.cells_len (Keeps.ownsRow hE5 HRowW.out fun _ _ c => c) hkr
          rw [← Hm.out] at hv5
          cases hv5
          have e0 := (hcell5 0 (by decide)).1
          have e1 := (hcell5 1 (by decide)).1
          have e2 := (hcell5 2 (by decide)).1
          rw [HIt.out.2.1] at e0 e1 e2
          simp only [List.getElem?_cons_zero, List.getElem?_cons_succ, Nat.add_zero] at e0 e1 e2
          have H6 := hid (And.intro hlen6 (And.intro hown6 (And.intro hE6 hany)))
          clear hlen6 hown6 hE6 hany hlen5 hown5 hE5 hK5 hcell5 hp
          go_wp2_with fail
          exact ⟨⟨k + 1, by go_num, hkr, by rw [← H6.out.2.2.2], n + 1 + 1, H6.out.1, by omega, H6.out.2.1, H6.out.2.2.1⟩, by simp [intOf]; omega⟩
        · have tl : ¬ (due : Int) < (d1 : Int) := by omega
          obtain ⟨oa', oc', w6, hrun, hlen6, hown6, hE6, -⟩ := rowApp (f := IV.cells) (l := insTo (fun r => decide (due < r.it.due)) nv (x.rs.take k)) (x := x.rs[k]) (cs := [.int .u64 (d1 : Int), .int .u64 (n1 : Int), .slice qa ql qc]) Try.underlying64 infoRItem rfl (by decide) (by decide) HO.out.2.2 HO.out.1 HO.out.2.1 HIt.out.2.1 rfl (by simp [Value.oneCell']) (by omega)
          have hp : decide (due < (x.rs[k]).it.due) = false := by simp only [← HIt.out.1, hlt2, decide_false]
          rw [insTo_succ_f hkr Hdd.out.symm hp] at hlen6 hown6
          have hany : false = (x.rs.take (k + 1)).any (fun r => decide (due < r.it.due)) := by rw [any_succ hkr, hp, ← Hdd.out]; rfl
          have H6 := hid (And.intro hlen6 (And.intro hown6 (And.intro hE6 hany)))
          clear hlen6 hown6 hE6 hany hp
          go_wp2_with fail
          exact ⟨⟨k + 1, by go_num, hkr, by rw [← H6.out.2.2.2], n + 1, H6.out.1, by omega, H6.out.2.1, H6.out.2.2.1⟩, by simp [intOf]; omega⟩
    · have hkm : k ≤ m := by rw [Hm.out]; exact hk
      obtain rfl : k = m := by omega
      have hdd := Hdd.out
      rw [List.take_of_length_le (by rw [← Hm.out]; omega)] at hdd
      have hO := HO.out
      rw [List.take_of_length_le (by rw [← Hm.out]; omega)] at hO
      cases dn with
      | true =>
        rw [insTo_over_t hdd.symm] at hO
        have HO2 := hid hO
        clear hO hdd HO
        go_wp2_with fail
        go_ret
        exact ⟨by rw [← HX.out.2.2.2.1]; rfl, HFin.out _ _ _ HO2.out.1 HO2.out.2.1 HO2.out.2.2⟩
      | false =>
        obtain ⟨oa5, oc5, w5, hrun5, hlen5, hown5, hE5, hK5⟩ := rowApp (f := IV.cells) (l := insTo (fun r => decide (due < r.it.due)) nv x.rs) (x := nv) (cs := [.int .u64 (due : Int), .int .u64 ((c : Int) + 1), .slice pa p.length pc]) Try.underlying64 infoRItem rfl (by decide) (by decide) hO.2.2 hO.1 hO.2.1 (by rw [Hnv.out]; rfl) rfl (by simp [Value.oneCell']) (by omega)
        rw [insTo_over_f hdd.symm] at hlen5 hown5
        have t05 := hE5.cell t0
        have t15 := hE5.cell t1
        have g05 := frozen_of_row w5 bm (i * 2) _ _ (hE5.heap HW.out.2.2.1)
        have hb5 : bm < w5.heap.size := Nat.lt_of_lt_of_le (by rw [HW.out.2.2.2]; exact hbm) hE5.size
        have H5 := hid (And.intro hlen5 (And.intro hown5 hE5))
        clear hO hdd HO hlen5 hown5 hE5 hK5
        go_wp2_with fail
        go_ret
        exact ⟨by rw [← HX.out.2.2.2.1]; rfl, HFin.out _ _ _ H5.out.1 H5.out.2.1 H5.out.2.2⟩

end Go.Proofs.Ytaidgkdebocenaa
