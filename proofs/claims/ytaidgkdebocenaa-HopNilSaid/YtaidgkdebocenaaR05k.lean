/- jointureref05.Store: Keys.
   Conditions: fewer than 2^40 pairs. -/
import Derived.Test.YtaidgkdebocenaaR05b
namespace Go.Proofs.Ytaidgkdebocenaa
open Go Go.RowKit

/-- Rows of bytes, in a row in new memory. -/
def Rows2 (w : World) (base : Nat) (v : Value) (rs : List KRow) : Prop :=
  w.ownsRow base 33 1 v rs.length (rs.map KRow.v) ∧ ∀ r ∈ rs, OB w r.v r.xs

theorem Rows.two {w : World} {base : Nat} {v : Value} {rs : List KRow} (h : Rows w base v rs) : Rows2 w base v rs := ⟨h.1, fun r hr => OB.of_owns (h.2 r hr)⟩
theorem Rows2.ext {w w' : World} {base : Nat} {v : Value} {rs : List KRow} (h : Rows2 w base v rs) (hE : Ext w w') : Rows2 w' base v rs :=
  ⟨Keeps.ownsRow hE h.1 fun _ _ c => c, fun r hr => (h.2 r hr).ext hE⟩
theorem Rows2.cell {w : World} {base : Nat} {v : Value} {rs : List KRow} (h : Rows2 w base v rs) {i : Nat} (hi : i < rs.length) :
    ∃ g cap, v = .slice (some ⟨g, 0, none⟩) rs.length cap ∧ rs.length ≤ cap ∧ cap ≤ maxLen ∧ w.cell? ⟨g, i, none⟩ = some (rs[i]).v ∧ OB w (rs[i]).v (rs[i]).xs := by
  rcases h.1.2 with ⟨-, h0⟩ | ⟨g, cap, cur, hv, -, hg, hn, hc, hsz, ht⟩
  · omega
  · refine ⟨g, cap, hv, hn, hc, ?_, h.2 _ (List.getElem_mem hi)⟩
    have he : (rs.map KRow.v)[i]? = some (rs[i]).v := by simp [hi]
    rw [← ht, List.getElem?_take_of_lt (by omega)] at he
    rw [cell_of_row w g _ cur _ _ hg]
    simpa using he

def RKeysPost (w : World) (ks : List BS) (e : Ending) (w' : World) : Prop :=
  ∃ v rs, e = .returned v ∧ Rows2 w' w.heap.size v rs ∧ rs.map KRow.xs = ks ∧ Ext w w'

theorem bytesApp {w0 wr : World} {oa : Option Addr} {oc n : Nat} {rs : List KRow} {ka : Option Addr} {kl kc : Nat} {k : BS} (hE : Ext w0 wr) (hn : rs.length = n) (hown : Rows2 wr w0.heap.size (.slice oa n oc) rs)
    (hk : OB wr (.slice ka kl kc) k) (hb : n ≤ 1099511627776) :
    ∃ oa' oc' w', (App #[37, 37] 37 #[.slice oa n oc, .slice (some ⟨wr.heap.size, 0, none⟩) 1 1]).run Try.prog (wr.alloc (.cells #[.slice ka kl kc] 33)) = .ok (.slice oa' (n + 1) oc') w' ∧
      Rows2 w' w0.heap.size (.slice oa' (n + 1) oc') (rs ++ [⟨.slice ka kl kc, k⟩]) ∧ Ext w0 w' := by
  have hE4 : Ext wr (wr.alloc (.cells #[.slice ka kl kc] 33)) := (Ext.refl wr).alloc _
  have hM := heap_alloc_new wr (.cells #[.slice ka kl kc] 33)
  have hown4 := Keeps.ownsRow hE4 hown.1 fun _ _ c => c
  rw [hn] at hown4
  obtain ⟨o', w', hrun, hown5, hgrow, -⟩ := run_App (P := Try.prog) 37 37 33 1 24 (.slice none 0 0) Try.underlying37 infoB rfl (by decide) hown4 (m := 1) (c := 1) (news := [.slice ka kl kc]) rfl (Src.row hM) (by simp [Value.oneCell']) (by unfold maxLen; omega) (by omega) (hE.trans hE4).size
  obtain ⟨oa', oc', rfl⟩ := owns_slice hown5
  have hK : Keeps (fun b => (Value.slice oa n oc).ownBlock = some b) wr w' := (Keeps.of_ext hE4).grown hgrow fun b hb _ => hb
  have hob : ∀ {v : Value} {xs : BS}, OB wr v xs → OB w' v xs := fun h => h.keeps' hK fun g hg c => by
    obtain ⟨c1, h1⟩ := h.typed hg
    obtain ⟨c2, h2⟩ := owns_typed hown.1 c
    exact typed_ne h1 h2 (by decide)
  refine ⟨oa', oc', w', hrun, ⟨?_, ?_⟩, ?_⟩
  · have e : (rs ++ [(⟨.slice ka kl kc, k⟩ : KRow)]).length = n + 1 := by simp [hn]
    rw [e, List.map_append]
    exact hown5
  · intro r hr
    rcases List.mem_append.1 hr with hr | hr
    · exact hob (hown.2 r hr)
    · obtain rfl := List.mem_singleton.1 hr
      exact hob hk
  · exact (hE.trans hE4).grown hgrow fun b hb hlt => by
      have := (hown.1.lt b hb).1
      omega

set_option maxRecDepth 100000 in
set_option maxHeartbeats 2000000 in
theorem r05keys_c {w : World} {m : RG} {pv : Value} {p : BS} (h : RRep w m) (hp : BV w pv p) (hb : m.L.length ≤ big) :
    Calls Try.prog 31 #[.pointer (some ⟨m.b, 0, none⟩), pv] w (RKeysPost w (((absL m.L).map Prod.fst).filter fun k => pre p k)) := by
  obtain ⟨pa, pcap, hpa, hpn, hpc⟩ := hp.val
  subst hpa
  obtain ⟨s0, -, -, -⟩ := h.rcells
  obtain ⟨la, lcap, hla, hln, hlc⟩ := owns_val h.hl
  have hbb := hb
  rw [big_eq] at hbb
  have H := hid h
  have HP := hid hp
  have Hla := hid hla
  have hks : Hid ((absL m.L).map Prod.fst = m.L.map Ent.key) := hid (by simp [absL, Function.comp_def])
  rw [hla] at s0
  unfold maxLen at hlc
  clear h hp hb hla
  go_enter Try.func31, Try.ntmps31
  go_wp2_with fail
  go_loopw [5, 6] (fun o i wr => ∃ (k : Nat) (rs : List KRow), k ≤ m.L.length ∧ i = .int .i64 k ∧ rs.length ≤ k ∧ Rows2 wr w.heap.size o rs ∧ Ext w wr ∧ rs.map KRow.xs = ((m.L.map Ent.key).take k).filter fun k => pre p k) (fun _ i _ => m.L.length - (intOf i).toNat)
  case atStart => exact ⟨0, [], Nat.zero_le _, rfl, Nat.le_refl _, ⟨World.ownsRow_nil _ _ _ _, fun _ h => nomatch h⟩, Ext.refl _, rfl⟩
  case round =>
    obtain ⟨k, rs, hkn, rfl, hrl, hrows, hEr, hxs⟩ := hrel
    have HEr := hid hEr
    have HRows := hid hrows
    have HXs := hid hxs
    obtain ⟨oa, oc, ho⟩ := owns_slice hrows.1
    obtain ⟨on, hon⟩ : ∃ on, rs.length = on := ⟨_, rfl⟩
    rw [hon] at ho hrl
    subst ho
    have Hon := hid hon
    have s0r := hEr.cell s0
    clear hEr hrows hxs hon
    by_cases hk : k < m.L.length
    · have hki : (k : Int) < (m.L.length : Int) := by omega
      obtain ⟨g, cap, hv, -, -, c0, -⟩ := rowPair H.out.hl hk
      rw [Hla.out] at hv
      obtain ⟨rfl, -, rfl⟩ : la = some ⟨g, 0, none⟩ ∧ True ∧ lcap = cap := by simpa using hv
      obtain ⟨e, he⟩ : ∃ e, e = m.L[k] := ⟨_, rfl⟩
      have hem := H.out.he e (by rw [he]; exact List.getElem_mem _)
      have htake : Hid ((m.L.map Ent.key).take (k + 1) = (m.L.map Ent.key).take k ++ [e.key]) := hid (by
        rw [List.take_succ_eq_append_getElem (by simpa using hk)]; simp [he])
      rw [← he] at c0
      have hbv := hem.1.bv
      obtain ⟨ea, ecap, hea, hen, hec⟩ := hbv.val
      rw [hea] at c0
      have c0r := HEr.out.cell c0
      have Hem := hid hem
      have Hea := hid hea
      obtain ⟨ek, hek⟩ : ∃ ek, ek = e.key := ⟨_, rfl⟩
      rw [← hek] at c0 c0r hen
      have Hek := hid hek
      clear hv hem he hbv c0 hea hek
      by_cases hlen : p.length ≤ ek.length
      · have hl2 : (p.length : Int) ≤ (ek.length : Int) := by omega
        have HS := hid (r01same_c (BV.take (m := p.length) (by rw [← Hea.out]; exact Hem.out.1.bv.ext HEr.out : BV wr (.slice ea e.key.length ecap) e.key) (by rw [← Hek.out]; exact hlen)) (HP.out.ext HEr.out))
        have hob := Hem.out.1.ext HEr.out
        rw [Hea.out] at hob
        go_wp2_with fail
        refine HS.out.mono ?_
        rintro x w1 ⟨rfl, n1, hw1⟩
        have hE1 : Ext wr w1 := by rw [hw1]; exact Ext.of_drewN _ n1
        have hpre : pre p e.key = (e.key.take p.length == p) := by
          unfold pre
          rw [decide_eq_true (by rw [← Hek.out]; exact hlen), Bool.true_and]
        by_cases hs : (e.key.take p.length == p) = true
        · rw [hs] at hpre
          obtain ⟨oa', oc', w2, hrun, hown2, hE2⟩ := bytesApp (HEr.out.trans hE1) Hon.out (HRows.out.ext hE1) (hob.ext hE1) (by omega)
          rw [← Hek.out] at hrun hown2
          have HOwn2 := hid hown2
          have HE2 := hid hE2
          have Hpre := hid hpre
          clear hE1 hown2 hE2 hpre hw1 hob
          go_wp2_with fail
          refine ⟨⟨k + 1, rs ++ [⟨.slice ea ek.length ecap, e.key⟩], hk, by go_num, by simp only [List.length_append, List.length_cons, List.length_nil]; have := Hon.out; omega, ?_, HE2.out, ?_⟩, by simp [intOf]; omega⟩
          · have := HOwn2.out
            rw [Hek.out] at this ⊢
            exact this
          · rw [htake.out, List.filter_append, ← HXs.out, List.map_append]
            simp [Hpre.out]
        · have hs' : (e.key.take p.length == p) = false := by simpa using hs
          rw [hs'] at hpre
          have Hpre := hid hpre
          have HE1 := hid hE1
          clear hE1 hpre hw1 hob hs
          go_wp2_with fail
          refine ⟨⟨k + 1, rs, hk, by go_num, by have := Hon.out; omega, ?_, HEr.out.trans HE1.out, ?_⟩, by simp [intOf]; omega⟩
          · exact HRows.out.ext HE1.out
          · rw [htake.out, List.filter_append, ← HXs.out]
            simp [Hpre.out]
      · have hl2 : ¬ (p.length : Int) ≤ (ek.length : Int) := by omega
        have hpre : Hid (pre p e.key = false) := hid (by
          unfold pre
          rw [decide_eq_false (by rw [← Hek.out]; exact hlen), Bool.false_and])
        go_wp2_with fail
        refine ⟨⟨k + 1, rs, hk, by go_num, by have := Hon.out; omega, HRows.out, HEr.out, ?_⟩, by simp [intOf]; omega⟩
        rw [htake.out, List.filter_append, ← HXs.out]
        simp [hpre.out]
    · obtain rfl : k = m.L.length := by omega
      go_wp2_with fail
      go_ret
      refine ⟨_, rs, rfl, HRows.out, ?_, HEr.out⟩
      rw [HXs.out, hks.out, List.take_of_length_le (by simp)]

end Go.Proofs.Ytaidgkdebocenaa
