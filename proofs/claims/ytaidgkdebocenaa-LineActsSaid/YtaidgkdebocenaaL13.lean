/- jointureref13.Line.Ripe, jointureref13.Same, jointurelaw13.items, near.
   Conditions: at most a thousand records or deeds. -/
import Derived.Test.YtaidgkdebocenaaR13d
import Derived.Test.YtaidgkdebocenaaArg13
import Derived.StillTailTactics
import Derived.Deep.QuietTactic
import Derived.BigQuiet
import Derived.Deep.RegionHeld3
namespace Go.Proofs.Ytaidgkdebocenaa
open Go Go.RowKit

theorem countP_take_succ {α : Type} (p : α → Bool) (l : List α) (k : Nat) (h : k < l.length) : (l.take (k + 1)).countP p = (l.take k).countP p + if p l[k] = true then 1 else 0 := by
  rw [List.take_succ_eq_append_getElem h, List.countP_append, List.countP_singleton]

set_option maxRecDepth 100000 in
set_option maxHeartbeats 1000000 in
theorem r13Ripe_c {w0 w : World} {bm : Nat} {ls : List RL} {i now : Nat} (h : R13 w0 w bm ls) (hi : i < ls.length) (hlen : (ls[i]).rs.length ≤ 1000) :
    Calls Try.prog 56 #[.pointer (some ⟨bm, i * 2, none⟩), .int .u64 (now : Int)] w fun e w' => e = .returned (.int .i64 (((ls[i]).L.countP fun x => decide (x.due ≤ now) : Nat) : Int)) ∧ w = w' := by
  obtain ⟨s0, -, -, -⟩ := h.cells hi
  have hrow := h.row _ (List.getElem_mem hi)
  obtain ⟨x, hx⟩ : ∃ x, x = ls[i] := ⟨_, rfl⟩
  rw [← hx] at s0 hrow hlen ⊢
  obtain ⟨la, lc, hlv, hlc1, hlc2⟩ := row_len hrow
  rw [hlv] at s0 hrow
  have HRow := hid hrow
  obtain ⟨m, hm⟩ : ∃ m, m = x.rs.length := ⟨_, rfl⟩
  rw [← hm] at s0 hlc1 hlen
  have Hm := hid hm
  have hLl : x.L.length = m := by rw [hm]; simp [RL.L]
  have HL := hid hLl
  clear h hx hlv hrow hm hLl
  go_enter Try.func56, Try.ntmps56
  go_wp2_with fail
  go_loopw [5, 6] (fun c j wr => ∃ k q : Nat, k ≤ m ∧ j = .int .i64 k ∧ c = .int .i64 q ∧ (x.L.take k).countP (fun x => decide (x.due ≤ now)) = q ∧ q ≤ k ∧ w = wr) (fun _ j _ => m - (intOf j).toNat)
  case atStart => exact ⟨0, 0, Nat.zero_le _, rfl, rfl, rfl, Nat.le_refl _, rfl⟩
  case round =>
    obtain ⟨k, q, hk, rfl, rfl, hq, hqk, rfl⟩ := hrel
    have HQ := hid hq
    clear hq
    have hqi : (q : Int) ≤ 1000 := by omega
    by_cases hlt : k < m
    · have hki : (k : Int) < (m : Int) := by omega
      have hkr : k < x.rs.length := by rw [← Hm.out]; exact hlt
      have hkL : k < x.L.length := by rw [HL.out]; exact hlt
      have hit : x.L[k] = (x.rs[k]).it := by simp [RL.L]
      obtain ⟨g, cap, hv, -, -, -, -, hcell⟩ := rowCell IV.cells_len HRow.out hkr
      rw [← Hm.out] at hv
      cases hv
      have c0 := (hcell 0 (by decide)).1
      simp only [IV.cells, List.getElem?_cons_zero, Nat.add_zero] at c0
      obtain ⟨d1, hd1⟩ : ∃ d1, d1 = (x.rs[k]).it.due := ⟨_, rfl⟩
      rw [← hd1] at c0
      have hst := countP_take_succ (fun x => decide (x.due ≤ now)) x.L k hkL
      rw [HQ.out, hit, ← hd1] at hst
      have HSt := hid hst
      clear hcell hit hd1 hst
      by_cases h1 : d1 ≤ now
      · have t1 : (d1 : Int) ≤ (now : Int) := by omega
        go_wp2_with fail
        exact ⟨⟨k + 1, q + 1, hlt, by go_num, by go_num, by rw [HSt.out]; simp [h1], by omega, by first | rfl | trivial⟩, by simp [intOf]; omega⟩
      · have t1 : ¬ (d1 : Int) ≤ (now : Int) := by omega
        go_wp2_with fail
        exact ⟨⟨k + 1, q, hlt, by go_num, by first | rfl | go_num, by rw [HSt.out]; simp [h1], by omega, by first | rfl | trivial⟩, by simp [intOf]; omega⟩
    · obtain rfl : k = m := by omega
      go_wp2_with fail
      go_ret
      refine ⟨?_, rfl⟩
      rw [← HQ.out, List.take_of_length_le (by rw [HL.out]; omega)]
      rfl

/-- Records as the document has them, in memory. -/
def RI (w : World) (v : Value) (rs : List IV) : Prop := w.ownsRow 0 182 3 v rs.length (rs.flatMap IV.cells) ∧ ∀ r ∈ rs, BV w r.v r.it.p
theorem RI.ext {w w' : World} {v : Value} {rs : List IV} (h : RI w v rs) (hE : Ext w w') : RI w' v rs := ⟨Keeps.ownsRow hE h.1 fun _ _ c => c, fun r hr => (h.2 r hr).ext hE⟩

set_option maxRecDepth 100000 in
set_option maxHeartbeats 2000000 in
theorem r13Same_c {w : World} {a b : Value} {rs qs : List IV} (ha : RI w a rs) (hb : RI w b qs) (he : rs.map IV.it = qs.map IV.it) :
    Calls Try.prog 54 #[a, b] w fun e w' => e = .returned (.bool true) ∧ Ext w w' := by
  obtain ⟨aa, ac, rfl, hac1, hac2⟩ := row_len ha.1
  obtain ⟨ba, bc, rfl, hbc1, hbc2⟩ := row_len hb.1
  have hl : qs.length = rs.length := by have := congrArg List.length he; simpa using this.symm
  have HA := hid ha
  have HB := hid hb
  have HE := hid (And.intro he hl)
  rw [hl] at hbc1 ⊢
  obtain ⟨m, hm⟩ : ∃ m, m = rs.length := ⟨_, rfl⟩
  rw [← hm] at hac1 hbc1 ⊢
  have Hm := hid hm
  clear ha hb he hl hm
  go_enter Try.func54, Try.ntmps54
  go_wp2_with fail
  go_loopw [5] (fun j wr => ∃ k : Nat, k ≤ m ∧ j = .int .i64 k ∧ Ext w wr) (fun j _ => m - (intOf j).toNat)
  case atStart => exact ⟨0, Nat.zero_le _, rfl, Ext.refl _⟩
  case round =>
    obtain ⟨k, hk, rfl, hEr⟩ := hrel
    by_cases hlt : k < m
    · have hki : (k : Int) < (m : Int) := by omega
      have hkr : k < rs.length := by rw [← Hm.out]; exact hlt
      have hkq : k < qs.length := by rw [HE.out.2]; exact hkr
      obtain ⟨g, cap, hv, -, -, -, -, hcell⟩ := rowCell IV.cells_len (HA.out.ext hEr).1 hkr
      obtain ⟨g2, cap2, hv2, -, -, -, -, hcell2⟩ := rowCell IV.cells_len (HB.out.ext hEr).1 hkq
      rw [← Hm.out] at hv
      rw [HE.out.2, ← Hm.out] at hv2
      cases hv
      cases hv2
      have hit : (qs[k]).it = (rs[k]).it := by
        have : (qs.map IV.it)[k]? = (rs.map IV.it)[k]? := by rw [HE.out.1]
        simpa [hkr, hkq] using this
      obtain ⟨pa, pc, hpv, -, -⟩ := (HA.out.2 _ (List.getElem_mem hkr)).val
      obtain ⟨qa, qc, hqv, -, -⟩ := (HB.out.2 _ (List.getElem_mem hkq)).val
      have c0 := (hcell 0 (by decide)).1
      have c1 := (hcell 1 (by decide)).1
      have c2 := (hcell 2 (by decide)).1
      have e0 := (hcell2 0 (by decide)).1
      have e1 := (hcell2 1 (by decide)).1
      have e2 := (hcell2 2 (by decide)).1
      rw [hit] at hqv
      simp only [IV.cells, List.getElem?_cons_zero, List.getElem?_cons_succ, Nat.add_zero, hpv, hqv, hit] at c0 c1 c2 e0 e1 e2
      have hs := fun n => r01same_c (((HA.out.2 _ (List.getElem_mem hkr)).ext hEr).ext (Ext.of_drewN wr n)) (((HB.out.2 _ (List.getElem_mem hkq)).ext hEr).ext (Ext.of_drewN wr n))
      rw [hit, hpv, hqv] at hs
      simp only [beq_self_eq_true] at hs
      obtain ⟨d1, hd1⟩ : ∃ d1, d1 = (rs[k]).it.due := ⟨_, rfl⟩
      obtain ⟨n1, hn1⟩ : ∃ n1, n1 = (rs[k]).it.no := ⟨_, rfl⟩
      obtain ⟨pl, hpl⟩ : ∃ pl, pl = (rs[k]).it.p.length := ⟨_, rfl⟩
      rw [← hd1] at c0 e0
      rw [← hn1] at c1 e1
      rw [← hpl] at c2 e2 hs
      have HS := hid hs
      have HEr := hid hEr
      clear hcell hcell2 hit hpv hqv hs hd1 hn1 hpl hEr
      go_wp2_with fail
      go_quiet ((go_at_call 32; with_reducible exact Calls.quiet_of (HS.out _)))
      go_wp2_with fail
      exact ⟨⟨k + 1, hlt, by go_num, HEr.out.trans (Ext.of_drewN _ _)⟩, by simp [intOf]; omega⟩
    · obtain rfl : k = m := by omega
      have HEr := hid hEr
      clear hEr
      go_wp2_with fail
      go_ret
      exact ⟨rfl, HEr.out⟩

def ItemsPost (w : World) (rs : List IV) (e : Ending) (w' : World) : Prop := ∃ v, e = .returned v ∧ RI w' v rs ∧ Ext w w'

set_option maxRecDepth 100000 in
set_option maxHeartbeats 2000000 in
theorem items_c {w : World} {base : Nat} {v : Value} {rs : List IV} (h : Items w base v rs) (hlen : rs.length ≤ 10000) :
    Calls Try.prog 55 #[v] w (ItemsPost w rs) := by
  obtain ⟨aa, ac, rfl, hac1, hac2⟩ := row_len h.1
  have H := hid h
  obtain ⟨m, hm⟩ : ∃ m, m = rs.length := ⟨_, rfl⟩
  rw [← hm] at hac1 hlen ⊢
  have Hm := hid hm
  clear h hm
  go_enter Try.func55, Try.ntmps55
  go_wp2_with fail
  go_loopw [3, 4] (fun o j wr => ∃ k : Nat, k ≤ m ∧ j = .int .i64 k ∧ (rs.take k).length = k ∧ wr.ownsRow w.heap.size 182 3 o k ((rs.take k).flatMap IV.cells) ∧ Ext w wr) (fun _ j _ => m - (intOf j).toNat)
  case atStart => exact ⟨0, Nat.zero_le _, rfl, rfl, World.ownsRow_nil _ _ _ _, Ext.refl _⟩
  case round =>
    obtain ⟨k, hk, rfl, hl, hown, hEr⟩ := hrel
    obtain ⟨oa, oc, rfl⟩ := owns_slice hown
    have HO := hid (And.intro hl (And.intro hown hEr))
    clear hl hown hEr
    by_cases hlt : k < m
    · have hki : (k : Int) < (m : Int) := by omega
      have hkr : k < rs.length := by rw [← Hm.out]; exact hlt
      obtain ⟨g, cap, hv, -, -, -, -, hcell⟩ := rowCell IV.cells_len (H.out.ext HO.out.2.2).1 hkr
      rw [← Hm.out] at hv
      cases hv
      obtain ⟨pa, pc, hpv, -, -⟩ := row_len (H.out.2 _ (List.getElem_mem hkr))
      have c0 := (hcell 0 (by decide)).1
      have c1 := (hcell 1 (by decide)).1
      have c2 := (hcell 2 (by decide)).1
      have hcs : IV.cells rs[k] = [.int .u64 ((rs[k]).it.due : Int), .int .u64 ((rs[k]).it.no : Int), .slice pa (rs[k]).it.p.length pc] := by simp only [IV.cells, hpv]
      rw [hcs] at c0 c1 c2
      simp only [List.getElem?_cons_zero, List.getElem?_cons_succ, Nat.add_zero] at c0 c1 c2
      obtain ⟨d1, hd1⟩ : ∃ d1, d1 = (rs[k]).it.due := ⟨_, rfl⟩
      obtain ⟨n1, hn1⟩ : ∃ n1, n1 = (rs[k]).it.no := ⟨_, rfl⟩
      obtain ⟨pl, hpl⟩ : ∃ pl, pl = (rs[k]).it.p.length := ⟨_, rfl⟩
      rw [← hd1] at c0 hcs
      rw [← hn1] at c1 hcs
      rw [← hpl] at c2 hcs
      obtain ⟨oa', oc', w6, hrun, hlen6, hown6, hE6, hK6⟩ := rowAppD (f := IV.cells) (wr := wr) (l := rs.take k) (x := rs[k]) (cs := [.int .u64 (d1 : Int), .int .u64 (n1 : Int), .slice pa pl pc]) Try.underlying64 infoRItem rfl (by decide) (by decide) HO.out.2.2 HO.out.1 HO.out.2.1 hcs rfl (by simp [Value.oneCell']) (by omega)
      rw [← List.take_succ_eq_append_getElem hkr] at hlen6 hown6
      have hne : ¬ (Value.slice oa k oc).ownBlock = some g := fun e => by
        obtain ⟨c1, h1⟩ := owns_typed HO.out.2.1 e
        obtain ⟨c2, h2⟩ := owns_typed (H.out.ext HO.out.2.2).1 (g := g) rfl
        exact typed_ne h1 h2 (by decide)
      have k0 := hK6.cell c0 hne
      have k1 := hK6.cell c1 hne
      have k2 := hK6.cell c2 hne
      have H6 := hid (And.intro hlen6 (And.intro hown6 hE6))
      have HC := hid hcs
      clear hcell hpv hd1 hn1 hpl hlen6 hown6 hE6 hcs hK6 hne
      go_wp2_with fail
      go_region_held3 (fun w' => w'.cell? ⟨g, k * 3, none⟩ = some (.int .u64 (d1 : Int)) ∧ w'.cell? ⟨g, k * 3 + 1, none⟩ = some (.int .u64 (n1 : Int)) ∧ w'.cell? ⟨g, k * 3 + 2, none⟩ = some (.slice pa pl pc)) (go_keep) (fail)
      go_wp2_with fail
      exact ⟨⟨k + 1, hlt, by go_num, H6.out.1, H6.out.2.1, H6.out.2.2⟩, by simp [intOf]; omega⟩
    · obtain rfl : k = m := by omega
      have hO := HO.out
      rw [List.take_of_length_le (by rw [← Hm.out]; omega)] at hO
      have HO2 := hid hO
      clear HO hO
      go_wp2_with fail
      go_ret
      refine ⟨.slice oa k oc, rfl, ⟨?_, fun r hr => ?_⟩, HO2.out.2.2⟩
      · rw [HO2.out.1]; exact owns_base HO2.out.2.1 (Nat.zero_le _)
      · exact (BV.of_owns (H.out.2 r hr)).ext HO2.out.2.2

end Go.Proofs.Ytaidgkdebocenaa
