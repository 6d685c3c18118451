/- The contract of (*Store).Keys.
   Conditions: the store lies in memory as SRep says; fewer than 2^40 pairs; keys shorter than 2^40. -/
import Derived.Test.YtaidgkdebocenaaRoll
namespace Go.Proofs.Ytaidgkdebocenaa
open Go Go.RowKit

def keysM (M : List KV) (p : BS) : List BS := ((M.drop (posM M p)).map Prod.fst).takeWhile fun k => pre p k

theorem owns_base {w : World} {b b' : Nat} {e : TypeId} {size : Nat} {v : Value} {n : Nat} {xs : List Value} (h : w.ownsRow b e size v n xs) (hb : b' ≤ b) : w.ownsRow b' e size v n xs :=
  ⟨h.1, h.2.imp id fun ⟨g, cap, cur, h1, h2, h3⟩ => ⟨g, cap, cur, h1, Nat.le_trans hb h2, h3⟩⟩

structure KRow where
  v : Value
  xs : BS

/-- Rows of bytes, in new memory. -/
def Rows (w : World) (base : Nat) (v : Value) (rs : List KRow) : Prop :=
  w.ownsRow base 33 1 v rs.length (rs.map KRow.v) ∧ ∀ r ∈ rs, w.ownsRow base 5 1 r.v r.xs.length (bcells r.xs)

theorem Rows.ext {w w' : World} {base : Nat} {v : Value} {rs : List KRow} (h : Rows w base v rs) (hE : Ext w w') : Rows w' base v rs :=
  ⟨Keeps.ownsRow hE h.1 fun _ _ c => c, fun r hr => Keeps.ownsRow hE (h.2 r hr) fun _ _ c => c⟩
theorem Rows.base {w : World} {b b' : Nat} {v : Value} {rs : List KRow} (h : Rows w b v rs) (hb : b' ≤ b) : Rows w b' v rs :=
  ⟨owns_base h.1 hb, fun r hr => owns_base (h.2 r hr) hb⟩

def KeysPost (w : World) (ks : List BS) (e : Ending) (w' : World) : Prop :=
  ∃ v rs, e = .returned v ∧ Rows w' w.heap.size v rs ∧ rs.map KRow.xs = ks ∧ Ext w w'

theorem infoB : (Try.prog.info? 33).map (fun i => (i.zero, i.size, i.bytes)) = some (some (.slice none 0 0), 1, 24) := by kernel_rfl

theorem takeWhile_split {α : Type} (p : α → Bool) : ∀ (k : Nat) (l : List α) (h : k < l.length), l.takeWhile p = l.take k ++ (l.drop k).takeWhile p → p (l[k]) = true → l.takeWhile p = l.take (k + 1) ++ (l.drop (k + 1)).takeWhile p := by
  intro k l h h1 h2
  rw [h1, List.drop_eq_getElem_cons h, List.takeWhile_cons, h2, if_pos rfl, List.take_succ_eq_append_getElem h, List.append_assoc]
  rfl

theorem takeWhile_stop {α : Type} (p : α → Bool) (k : Nat) (l : List α) (h : k < l.length) (h1 : l.takeWhile p = l.take k ++ (l.drop k).takeWhile p) (h2 : p (l[k]) = false) : l.takeWhile p = l.take k := by
  rw [h1, List.drop_eq_getElem_cons h, List.takeWhile_cons, h2]
  simp

set_option maxRecDepth 100000 in
set_option maxHeartbeats 1000000 in
theorem keys_c {w : World} {s : SG} {pv : Value} {p : BS} (h : SRep w s) (hp : BV w pv p) (hb : s.L.length ≤ big) (hk : ∀ e ∈ s.L, e.key.length ≤ big) :
    Calls Try.prog 30 #[.pointer (some ⟨s.b, 0, none⟩), pv] w (KeysPost w (keysM (absL s.L) p)) := by
  have HF := hid (find_c h hp hb)
  have hpl := pos_le s.L p
  obtain ⟨i, hi⟩ : ∃ i, i = pos s.L p := ⟨_, rfl⟩
  obtain ⟨r, hr⟩ : ∃ r, s.L.length = i + r := ⟨s.L.length - i, by omega⟩
  have hks : Hid (keysM (absL s.L) p = ((s.L.drop i).map Ent.key).takeWhile fun k => pre p k) := hid (by
    unfold keysM; rw [posM_abs, ← hi]; simp [absL, List.map_drop, Function.comp_def])
  obtain ⟨pa, pcap, rfl, -, -⟩ := hp.val
  have hf := HF.out
  rw [← hi] at hf
  have HF2 := hid hf
  have H := hid h
  have HP := hid hp
  have HK := hid hk
  have hbb := hb
  rw [big_eq] at hbb
  clear hf HF h hp hk hi hpl
  by_cases hr0 : r = 0
  · subst hr0
    go_enter Try.func30, Try.ntmps30
    go_wp2_with fail
    refine HF2.out.mono ?_
    rintro e w1 ⟨rfl, hE1⟩
    obtain ⟨s0, -, -, -, -, -⟩ := (H.out.ext hE1).scells
    obtain ⟨ao, cap, hlv, hcn, hcc⟩ := H.out.lval
    rw [hlv, hr] at s0
    rw [hr] at hcn
    unfold maxLen at hcc
    have HE1 := hid hE1
    have hs0 : (i : Int) ≤ (i : Int) + (0 : Nat) := by omega
    simp only [Nat.add_zero] at s0 hcn
    clear hE1 hlv
    go_wp2_with fail
    all_goals
      refine wp_loop_once ?_
      go_wp2
      go_ret
      refine ⟨_, [], rfl, ⟨World.ownsRow_nil _ _ _ _, fun _ h => nomatch h⟩, ?_, HE1.out⟩
      rw [hks.out]
      have : s.L.drop i = [] := List.drop_eq_nil_of_le (by omega)
      rw [this]; rfl
  · have hir : i < s.L.length := by omega
    go_enter Try.func30, Try.ntmps30
    go_wp2_with fail
    refine HF2.out.mono ?_
    rintro e w1 ⟨rfl, hE1⟩
    have hR1 := H.out.ext hE1
    obtain ⟨s0, -, -, -, -, -⟩ := hR1.scells
    obtain ⟨g, cap, hlv, hcn, hcc, -, -, -, -⟩ := hR1.pairCells hir
    rw [hlv, hr] at s0
    rw [hr] at hcn
    unfold maxLen at hcc
    have hcells : Hid (∀ (k : Nat) (hk : i + k < s.L.length), w1.cell? ⟨g, i * 2 + k * 2, none⟩ = some (s.L[i + k]).kv ∧ w1.cell? ⟨g, i * 2 + k * 2 + 1, none⟩ = some (s.L[i + k]).vv) := hid fun k hk => by
      obtain ⟨g', cap', hlv', -, -, c1, c2, -, -⟩ := hR1.pairCells hk
      rw [hlv] at hlv'
      cases hlv'
      have : 2 * (i + k) = i * 2 + k * 2 := by omega
      rw [this] at c1 c2
      exact ⟨c1, c2⟩
    have hR := hid hR1
    have HE1 := hid hE1
    have hs0 : (i : Int) ≤ (i : Int) + (r : Int) := by omega
    have hci : ¬ cap = i := by omega
    clear hE1 hlv hR1
    go_wp2_with fail
    go_loopw [5, 25] (fun o j wr => ∃ (k : Nat) (rs : List KRow), k ≤ r ∧ j = .int .i64 k ∧ rs.length = k ∧ Rows wr w1.heap.size o rs ∧ Ext w1 wr ∧ rs.map KRow.xs = ((s.L.drop i).map Ent.key).take k ∧
        ((s.L.drop i).map Ent.key).takeWhile (fun k => pre p k) = ((s.L.drop i).map Ent.key).take k ++ (((s.L.drop i).map Ent.key).drop k).takeWhile (fun k => pre p k)) (fun _ j _ => r - (intOf j).toNat)
    case atStart => exact ⟨0, [], Nat.zero_le _, rfl, rfl, ⟨World.ownsRow_nil _ _ _ _, fun _ h => nomatch h⟩, Ext.refl _, by simp, by simp⟩
    case round =>
      obtain ⟨k, rs, hkr, rfl, hrl, hrows, hEr, hxs, htw⟩ := hrel
      have HEr := hid hEr
      have HRows := hid hrows
      have HXs := hid hxs
      have HTw := hid htw
      have HRl := hid hrl
      obtain ⟨oa, ocap, ho⟩ := owns_slice hrows.1
      rw [hrl] at ho
      subst ho
      clear hEr hrows hxs htw hrl
      by_cases hk : k < r
      · have hki : (k : Int) < (r : Int) := by omega
        have hkl : i + k < s.L.length := by omega
        have hce := hcells.out k hkl
        have c0 := HEr.out.cell hce.1
        have c1 := HEr.out.cell hce.2
        obtain ⟨e, he⟩ : ∃ e, e = s.L[i + k] := ⟨_, rfl⟩
        have hmem : e ∈ s.L := by rw [he]; exact List.getElem_mem _
        rw [← he] at c0 c1
        have hkey : Hid (((s.L.drop i).map Ent.key)[k]'(by simp; omega) = e.key) := hid (by simp [he])
        have hkv := ((hR.out.ext HEr.out).he e hmem).1.bv
        have hvv := ((hR.out.ext HEr.out).he e hmem).2.bv
        have hkb := HK.out e hmem
        obtain ⟨ev, evv, ek, evl⟩ := e
        dsimp only at c0 c1 hkey hkv hvv hkb
        obtain ⟨ka, kcap, rfl, -, -⟩ := hkv.val
        obtain ⟨va, vcap, rfl, -, -⟩ := hvv.val
        obtain ⟨W2, hW2⟩ : ∃ W2, W2 = wr.alloc (.cells #[.slice ka ek.length kcap, .slice va evl.length vcap] 161) := ⟨_, rfl⟩
        have hE2 : Ext wr W2 := by rw [hW2]; exact (Ext.refl wr).alloc _
        have HPre := hid (bprefix_c (hkv.ext hE2) (HP.out.ext ((HE1.out.trans HEr.out).trans hE2)))
        have HCl := hid (cloneB_c (hkv.ext hE2) hkb)
        have HE2 := hid hE2
        have hc2 : W2.cell? ⟨wr.heap.size, 0, none⟩ = some (.slice ka ek.length kcap) := by rw [hW2]; simp
        have HW2 := hid hW2
        clear hce he hmem hkv hvv hkb hE2 hW2
        by_cases hpre : pre p ek = true
        · have hp2 := HPre.out
          rw [hpre] at hp2
          have HP2 := hid hp2
          have Hpre := hid hpre
          clear hp2 HPre hpre
          go_wp2_with fail
          rw [← HW2.out]
          refine HP2.out.mono ?_
          rintro e wx ⟨rfl, rfl⟩
          go_wp2_with fail
          refine HCl.out.mono ?_
          rintro e w3 ⟨v', rfl, hv', hE3⟩
          obtain ⟨va', vcap', rfl⟩ := owns_slice hv'
          obtain ⟨W4, hW4⟩ : ∃ W4, W4 = w3.alloc (.cells #[.slice va' ek.length vcap'] 33) := ⟨_, rfl⟩
          have hE4 : Ext w3 W4 := by rw [hW4]; exact (Ext.refl w3).alloc _
          have hM4 : W4.heap[w3.heap.size]? = some (.cells #[.slice va' ek.length vcap'] 33 (0, 0)) := by rw [hW4]; exact heap_alloc_new w3 _
          have hE24 : Ext wr W4 := (HE2.out.trans hE3).trans hE4
          have hsz4 : w1.heap.size ≤ W4.heap.size := (HEr.out.trans hE24).size
          have hown4 := Keeps.ownsRow hE24 HRows.out.1 (fun _ _ c => c)
          rw [HRl.out] at hown4
          obtain ⟨o', w5, hrun, hown5, hgrow, -⟩ := run_App (P := Try.prog) 37 37 33 1 24 (.slice none 0 0) Try.underlying37 infoB rfl (by decide) hown4 (m := 1) (c := 1) (news := [.slice va' ek.length vcap']) rfl (Src.row hM4) (by simp [Value.oneCell']) (by unfold maxLen; omega) (by omega) hsz4
          obtain ⟨oa', ocap', rfl⟩ := owns_slice hown5
          rw [hW4] at hrun
          have hK5 : Keeps (fun b => (Value.slice oa k ocap).ownBlock = some b) W4 w5 := (Keeps.refl _ W4).grown hgrow (fun _ c _ => c)
          have hFin := hid (And.intro hv' (And.intro hE3 (And.intro hE4 (And.intro hown5 hK5))))
          clear hv' hE3 hW4 hE4 hM4 hE24 hsz4 hown4 hown5 hgrow hK5 HCl HP2
          go_wp2_with fail
          obtain ⟨hv', hE3, hE4, hown5, hK5⟩ := hFin.out
          have hE13 : Ext w1 w3 := (HEr.out.trans HE2.out).trans hE3
          have hE24 : Ext wr W4 := (HE2.out.trans hE3).trans hE4
          have hob : ∀ b, (Value.slice oa k ocap).ownBlock = some b → w1.heap.size ≤ b ∧ b < wr.heap.size := fun b hb => HRows.out.1.lt b hb
          have hty : ∀ b, (Value.slice oa k ocap).ownBlock = some b → ∃ c, W4.heap[b]? = some (.cells c 33 (0, 0)) := fun b hb => by
            obtain ⟨c, hc⟩ := owns_typed HRows.out.1 hb
            exact ⟨c, hE24.heap hc⟩
          have hkeep : ∀ {base : Nat} {v : Value} {xs : BS}, W4.ownsRow base 5 1 v xs.length (bcells xs) → w5.ownsRow base 5 1 v xs.length (bcells xs) := fun h => by
            refine Keeps.ownsRow hK5 h fun b hb hc => ?_
            obtain ⟨c1, h1⟩ := owns_typed h hb
            obtain ⟨c2, h2⟩ := hty b hc
            exact typed_ne h1 h2 (by decide)
          have hxs : (rs ++ [(⟨.slice va' ek.length vcap', ek⟩ : KRow)]).map KRow.xs = ((s.L.drop i).map Ent.key).take (k + 1) := by
            rw [List.take_succ_eq_append_getElem (by simp; omega), ← HXs.out, hkey.out, List.map_append]
            rfl
          refine ⟨⟨k + 1, rs ++ [⟨.slice va' ek.length vcap', ek⟩], hk, by go_num, by simp [HRl.out], ⟨?_, ?_⟩, ?_, hxs, ?_⟩, by simp [intOf]; omega⟩
          · have e : (rs ++ [(⟨.slice va' ek.length vcap', ek⟩ : KRow)]).length = k + 1 := by simp [HRl.out]
            rw [e, List.map_append]
            exact hown5
          · intro r hr
            rcases List.mem_append.1 hr with hr | hr
            · exact hkeep (Keeps.ownsRow hE24 (HRows.out.2 r hr) fun _ _ c => c)
            · obtain rfl := List.mem_singleton.1 hr
              exact owns_base (hkeep (Keeps.ownsRow hE4 hv' fun _ _ c => c)) (HEr.out.trans HE2.out).size
          · exact (HEr.out.trans hE24).trans' hK5 fun b hb c => absurd (hob b c).1 (by omega)
          · exact takeWhile_split _ k _ (by simp; omega) HTw.out (by rw [hkey.out]; exact Hpre.out)
        · have hpre' : pre p ek = false := by simpa using hpre
          have hp2 := HPre.out
          rw [hpre'] at hp2
          have HP2 := hid hp2
          have Hpre := hid hpre'
          clear hp2 HPre hpre hpre' HCl
          go_wp2_with fail
          rw [← HW2.out]
          refine HP2.out.mono ?_
          rintro e wx ⟨rfl, rfl⟩
          go_wp2_with fail
          go_ret
          refine ⟨_, rs, rfl, (HRows.out.ext HE2.out).base HE1.out.size, ?_, (HE1.out.trans HEr.out).trans HE2.out⟩
          rw [HXs.out, hks.out]
          exact (takeWhile_stop _ k _ (by simp; omega) HTw.out (by rw [hkey.out]; exact Hpre.out)).symm
      · obtain rfl : k = r := by omega
        go_wp2
        go_ret
        refine ⟨_, rs, rfl, HRows.out.base HE1.out.size, ?_, HE1.out.trans HEr.out⟩
        have hlen : ((s.L.drop i).map Ent.key).length ≤ k := by simp; omega
        rw [HXs.out, hks.out, HTw.out, List.drop_eq_nil_of_le hlen]
        simp

end Go.Proofs.Ytaidgkdebocenaa
