/- hop.Entries: an entry after the other. (Printed by gen14.py.)
   Conditions: at most 9000 pairs in the store. · hop.Hops: a hop after the other. (Printed by gen14.py.)
   Conditions: at most 9000 pairs in the store. · hop: the functions over a line of records. (Printed by gen14.py.)
   Conditions: at most 8000 pairs in the store. · hop: the functions over a line of records. (Printed by gen14.py.)
   Conditions: at most 8000 pairs in the store. -/
import Derived.Test.YtaidgkdebocenaaHopRec
import Derived.Test.YtaidgkdebocenaaLineAll
import Derived.Test.YtaidgkdebocenaaLineAdds
import Derived.Deep.RegionHeld3

namespace Go.Proofs.Ytaidgkdebocenaa
open Go Go.RowKit

def En.it (e : En) : It := ⟨e.due, e.no, e.bs⟩
theorem infoEn : (Try.prog.info? 81).map (fun i => (i.zero, i.size, i.bytes)) = some (some (.agg #[.int .u64 0, .int .u8 0, .int .u8 0, .int .u64 0, .int .u64 0, .int .u64 0, .int .u64 0, .int .u64 0, .int .u64 0, .int .u64 0, .int .u64 0, .int .u64 0, .int .u64 0]), 13, 96) := by kernel_rfl

def EnsPost (w : World) (es : List En) (x : Ending) (w' : World) : Prop :=
  ∃ a c, x = .returned (.slice a es.length c) ∧ w'.ownsRow w.heap.size 81 13 (.slice a es.length c) es.length (es.flatMap En.cells) ∧ Ext w w'

set_option maxRecDepth 100000 in
set_option maxHeartbeats 4000000 in
theorem eachE_c {w0 w : World} {b : Nat} {M : List KV} {es : List En} (h : St w0 w b M) (hm : M.length ≤ 9000) (hL : sub M [119, 101] = recs 101 (es.map En.it)) (hok : ∀ e ∈ es, e.Ok) (hl9 : es.length ≤ 9000) :
    Calls Try.prog 118 #[.pointer (some ⟨b, 0, none⟩), .int .u8 101, .func (.func 119) #[] #[]] w (EnsPost w es) := by
  have hois : okIts (es.map En.it) := fun x hx => by
    obtain ⟨e, he, rfl⟩ := List.mem_map.1 hx
    have := hok e he
    exact ⟨by unfold W64; exact this.2.2.1, by unfold W64; exact this.1⟩
  have HA := hid (lineAll_c h hm hL hois)
  rw [show (((101 : UInt8).toNat : Nat) : Int) = 101 from rfl] at HA
  have HO := hid hok
  clear h hm hL hois hok
  go_enter Try.func118, Try.ntmps118
  go_wp2_with fail
  refine HA.out.mono ?_
  rintro x w1 ⟨v, rs, rfl, hI, hrm, hE⟩
  obtain ⟨la, lc, hlv, hlc1, hlc2⟩ := row_len hI.1
  have hrl : rs.length = es.length := by
    have := congrArg List.length hrm
    simpa using this
  obtain ⟨n, hn⟩ : ∃ n, n = es.length := ⟨_, rfl⟩
  rw [hrl, ← hn] at hlv hlc1
  subst hlv
  have hn9 : n ≤ 9000 := by omega
  have H1 := hid (And.intro hI (And.intro hrm (And.intro hE (And.intro hn hrl))))
  clear hI hrm hE hn hrl HA
  go_wp2_with fail
  go_loopw [7, 14] (fun l i wr => ∃ (k : Nat) (oa : Option Addr) (oc : Nat), k ≤ n ∧ i = .int .i64 k ∧ l = .slice oa k oc ∧ wr.ownsRow w1.heap.size 81 13 (.slice oa k oc) k ((es.take k).flatMap En.cells) ∧ Ext w1 wr) (fun _ i _ => n - (intOf i).toNat)
  case atStart => exact ⟨0, none, 0, Nat.zero_le _, rfl, rfl, World.ownsRow_nil _ _ _ _, Ext.refl _⟩
  case round =>
    obtain ⟨k, oa, oc, hk, rfl, rfl, hown, hEr⟩ := hrel
    by_cases hlt : k < n
    · have hki : (k : Int) < (n : Int) := by omega
      obtain ⟨hI, hrm, hE, hn, hrl⟩ := H1.out
      have hkr : k < rs.length := by omega
      have hke : k < es.length := by omega
      obtain ⟨e, he⟩ : ∃ e, e = es[k] := ⟨_, rfl⟩
      have hit : (rs[k]).it = e.it := by
        have : (rs.map IV.it)[k]? = (es.map En.it)[k]? := by rw [hrm]
        simpa [hkr, hke, ← he] using this
      have heo : e.Ok := by rw [he]; exact HO.out _ (List.getElem_mem hke)
      obtain ⟨g, cap, hv, -, -, -, hgl, hcell⟩ := rowCell IV.cells_len (hI.ext hEr).1 hkr
      rw [hrl, ← hn] at hv
      cases hv
      have hp0 := (hI.ext hEr).2 _ (List.getElem_mem hkr)
      obtain ⟨pa, pc, hpv, -, -⟩ := row_len hp0
      rw [hpv, hit] at hp0
      have c0 := (hcell 0 (by decide)).1
      have c1 := (hcell 1 (by decide)).1
      have c2 := (hcell 2 (by decide)).1
      simp only [IV.cells, List.getElem?_cons_zero, List.getElem?_cons_succ, hpv, hit] at c0 c1 c2
      obtain ⟨pl, hpl⟩ : ∃ pl, pl = e.it.p.length := ⟨_, rfl⟩
      rw [← hpl] at c2 hp0
      rw [Nat.add_zero] at c0
      have c0' : wr.cell? ⟨g, k * 3, none⟩ = some (.int .u64 (e.due : Int)) := c0
      have c1' : wr.cell? ⟨g, k * 3 + 1, none⟩ = some (.int .u64 (e.no : Int)) := c1
      obtain ⟨W1, hW1⟩ : ∃ W1, W1 = wr.alloc (.cells #[.int .u64 (e.due : Int), .int .u64 (e.no : Int), .slice pa pl pc] 61) := ⟨_, rfl⟩
      have hEW : Ext wr W1 := by rw [hW1]; exact (Ext.refl wr).alloc _
      have hbv : BV W1 (.slice pa pl pc) e.bs := by
        rw [hpl] at hp0 ⊢
        exact (BV.of_owns hp0).ext hEW
      have HT := hid (takeEntry_c e heo hbv)
      unfold En.V En.cells at HT
      have hts : es.take (k + 1) = es.take k ++ [e] := by rw [List.take_succ_eq_append_getElem hke, he]
      have htl : (es.take k).length = k := by rw [List.length_take]; omega
      have HO1 := hid (And.intro hown (And.intro hEr (And.intro hEW (And.intro hts htl))))
      have HW1 := hid hW1
      clear hI hrm hE hn hrl hkr hke hit heo hcell hp0 hpv c0 c1 hpl hEW hbv hown hEr he hW1 hts htl
      go_wp2_with fail
      rw [← HW1.out]
      go_wp2_with fail
      refine HT.out.mono ?_
      rintro x w2 ⟨rfl, hE2⟩
      obtain ⟨hown, hEr, hEW, hts, htl⟩ := HO1.out
      have hE12 := hEW.trans hE2
      obtain ⟨oa', oc', w6, hrun, hlen6, hown6, hE6, -⟩ := rowApp (f := En.cells) (wr := w2) (l := es.take k) (x := e) (cs := [.int .u64 (e.no : Int), .int .u8 (e.ow.toNat : Int), .int .u8 (e.va.toNat : Int), .int .u64 (e.made : Int), .int .u64 (e.due : Int), .int .u64 (limb e.fi 0 : Nat), .int .u64 (limb e.fi 1 : Nat), .int .u64 (limb e.fi 2 : Nat), .int .u64 (limb e.fi 3 : Nat), .int .u64 (limb e.nw 0 : Nat), .int .u64 (limb e.nw 1 : Nat), .int .u64 (limb e.nw 2 : Nat), .int .u64 (limb e.nw 3 : Nat)]) Try.underlying86 infoEn rfl (by decide) (by decide) (hEr.trans hE12) htl (Keeps.ownsRow hE12 hown fun _ _ c => c) rfl rfl (by simp [Value.oneCell']) (by omega)
      rw [← hts] at hown6
      have HO2 := hid (And.intro hown6 hE6)
      clear hown hEr hEW hts htl hE12 hlen6 hown6 hE6 hE2 HT
      go_wp2_with fail
      exact ⟨⟨k + 1, oa', oc', hlt, by go_num, rfl, HO2.out.1, HO2.out.2⟩, by simp [intOf]; omega⟩
    · obtain rfl : k = n := by omega
      have HO1 := hid (And.intro hown hEr)
      clear hown hEr
      go_wp2_with fail
      go_ret
      obtain ⟨hI, hrm, hE, hn, hrl⟩ := H1.out
      obtain ⟨hown, hEr⟩ := HO1.out
      rw [List.take_of_length_le (by omega)] at hown
      refine ⟨oa, oc, by rw [← hn]; rfl, ?_, hE.trans hEr⟩
      rw [← hn]
      exact owns_low hown hE.size

end Go.Proofs.Ytaidgkdebocenaa

namespace Go.Proofs.Ytaidgkdebocenaa
open Go Go.RowKit

def Hp.it (e : Hp) : It := ⟨e.due, e.no, e.bs⟩
theorem infoHp : (Try.prog.info? 83).map (fun i => (i.zero, i.size, i.bytes)) = some (some (.agg #[.int .u64 0, .int .u8 0, .int .u8 0, .int .u8 0, .int .u64 0, .int .u64 0, .int .u64 0, .int .u64 0, .int .u64 0, .int .u64 0, .int .u64 0, .int .u64 0, .int .u64 0, .int .u64 0]), 14, 96) := by kernel_rfl

def HpsPost (w : World) (es : List Hp) (x : Ending) (w' : World) : Prop :=
  ∃ a c, x = .returned (.slice a es.length c) ∧ w'.ownsRow w.heap.size 83 14 (.slice a es.length c) es.length (es.flatMap Hp.cells) ∧ Ext w w'

set_option maxRecDepth 100000 in
set_option maxHeartbeats 4000000 in
theorem eachH_c {w0 w : World} {b : Nat} {M : List KV} {es : List Hp} (h : St w0 w b M) (hm : M.length ≤ 9000) (hL : sub M [119, 104] = recs 104 (es.map Hp.it)) (hok : ∀ e ∈ es, e.Ok) (hl9 : es.length ≤ 9000) :
    Calls Try.prog 120 #[.pointer (some ⟨b, 0, none⟩), .int .u8 104, .func (.func 121) #[] #[]] w (HpsPost w es) := by
  have hois : okIts (es.map Hp.it) := fun x hx => by
    obtain ⟨e, he, rfl⟩ := List.mem_map.1 hx
    have := hok e he
    exact ⟨by unfold W64; exact this.2.2.1, by unfold W64; exact this.1⟩
  have HA := hid (lineAll_c h hm hL hois)
  rw [show (((104 : UInt8).toNat : Nat) : Int) = 104 from rfl] at HA
  have HO := hid hok
  clear h hm hL hois hok
  go_enter Try.func120, Try.ntmps120
  go_wp2_with fail
  refine HA.out.mono ?_
  rintro x w1 ⟨v, rs, rfl, hI, hrm, hE⟩
  obtain ⟨la, lc, hlv, hlc1, hlc2⟩ := row_len hI.1
  have hrl : rs.length = es.length := by
    have := congrArg List.length hrm
    simpa using this
  obtain ⟨n, hn⟩ : ∃ n, n = es.length := ⟨_, rfl⟩
  rw [hrl, ← hn] at hlv hlc1
  subst hlv
  have hn9 : n ≤ 9000 := by omega
  have H1 := hid (And.intro hI (And.intro hrm (And.intro hE (And.intro hn hrl))))
  clear hI hrm hE hn hrl HA
  go_wp2_with fail
  go_loopw [7, 14] (fun l i wr => ∃ (k : Nat) (oa : Option Addr) (oc : Nat), k ≤ n ∧ i = .int .i64 k ∧ l = .slice oa k oc ∧ wr.ownsRow w1.heap.size 83 14 (.slice oa k oc) k ((es.take k).flatMap Hp.cells) ∧ Ext w1 wr) (fun _ i _ => n - (intOf i).toNat)
  case atStart => exact ⟨0, none, 0, Nat.zero_le _, rfl, rfl, World.ownsRow_nil _ _ _ _, Ext.refl _⟩
  case round =>
    obtain ⟨k, oa, oc, hk, rfl, rfl, hown, hEr⟩ := hrel
    by_cases hlt : k < n
    · have hki : (k : Int) < (n : Int) := by omega
      obtain ⟨hI, hrm, hE, hn, hrl⟩ := H1.out
      have hkr : k < rs.length := by omega
      have hke : k < es.length := by omega
      obtain ⟨e, he⟩ : ∃ e, e = es[k] := ⟨_, rfl⟩
      have hit : (rs[k]).it = e.it := by
        have : (rs.map IV.it)[k]? = (es.map Hp.it)[k]? := by rw [hrm]
        simpa [hkr, hke, ← he] using this
      have heo : e.Ok := by rw [he]; exact HO.out _ (List.getElem_mem hke)
      obtain ⟨g, cap, hv, -, -, -, hgl, hcell⟩ := rowCell IV.cells_len (hI.ext hEr).1 hkr
      rw [hrl, ← hn] at hv
      cases hv
      have hp0 := (hI.ext hEr).2 _ (List.getElem_mem hkr)
      obtain ⟨pa, pc, hpv, -, -⟩ := row_len hp0
      rw [hpv, hit] at hp0
      have c0 := (hcell 0 (by decide)).1
      have c1 := (hcell 1 (by decide)).1
      have c2 := (hcell 2 (by decide)).1
      simp only [IV.cells, List.getElem?_cons_zero, List.getElem?_cons_succ, hpv, hit] at c0 c1 c2
      obtain ⟨pl, hpl⟩ : ∃ pl, pl = e.it.p.length := ⟨_, rfl⟩
      rw [← hpl] at c2 hp0
      rw [Nat.add_zero] at c0
      have c0' : wr.cell? ⟨g, k * 3, none⟩ = some (.int .u64 (e.due : Int)) := c0
      have c1' : wr.cell? ⟨g, k * 3 + 1, none⟩ = some (.int .u64 (e.no : Int)) := c1
      obtain ⟨W1, hW1⟩ : ∃ W1, W1 = wr.alloc (.cells #[.int .u64 (e.due : Int), .int .u64 (e.no : Int), .slice pa pl pc] 61) := ⟨_, rfl⟩
      have hEW : Ext wr W1 := by rw [hW1]; exact (Ext.refl wr).alloc _
      have hbv : BV W1 (.slice pa pl pc) e.bs := by
        rw [hpl] at hp0 ⊢
        exact (BV.of_owns hp0).ext hEW
      have HT := hid (takeHop_c e heo hbv)
      unfold Hp.V Hp.cells at HT
      have hts : es.take (k + 1) = es.take k ++ [e] := by rw [List.take_succ_eq_append_getElem hke, he]
      have htl : (es.take k).length = k := by rw [List.length_take]; omega
      have HO1 := hid (And.intro hown (And.intro hEr (And.intro hEW (And.intro hts htl))))
      have HW1 := hid hW1
      clear hI hrm hE hn hrl hkr hke hit heo hcell hp0 hpv c0 c1 hpl hEW hbv hown hEr he hW1 hts htl
      go_wp2_with fail
      rw [← HW1.out]
      go_wp2_with fail
      refine HT.out.mono ?_
      rintro x w2 ⟨rfl, hE2⟩
      obtain ⟨hown, hEr, hEW, hts, htl⟩ := HO1.out
      have hE12 := hEW.trans hE2
      obtain ⟨oa', oc', w6, hrun, hlen6, hown6, hE6, -⟩ := rowApp (f := Hp.cells) (wr := w2) (l := es.take k) (x := e) (cs := [.int .u64 (e.no : Int), .int .u8 (e.ow.toNat : Int), .int .u8 (e.fr.toNat : Int), .int .u8 (e.to.toNat : Int), .int .u64 (e.made : Int), .int .u64 (e.due : Int), .int .u64 (limb e.fi 0 : Nat), .int .u64 (limb e.fi 1 : Nat), .int .u64 (limb e.fi 2 : Nat), .int .u64 (limb e.fi 3 : Nat), .int .u64 (limb e.sh 0 : Nat), .int .u64 (limb e.sh 1 : Nat), .int .u64 (limb e.sh 2 : Nat), .int .u64 (limb e.sh 3 : Nat)]) Try.underlying88 infoHp rfl (by decide) (by decide) (hEr.trans hE12) htl (Keeps.ownsRow hE12 hown fun _ _ c => c) rfl rfl (by simp [Value.oneCell']) (by omega)
      rw [← hts] at hown6
      have HO2 := hid (And.intro hown6 hE6)
      clear hown hEr hEW hts htl hE12 hlen6 hown6 hE6 hE2 HT
      go_wp2_with fail
      exact ⟨⟨k + 1, oa', oc', hlt, by go_num, rfl, HO2.out.1, HO2.out.2⟩, by simp [intOf]; omega⟩
    · obtain rfl : k = n := by omega
      have HO1 := hid (And.intro hown hEr)
      clear hown hEr
      go_wp2_with fail
      go_ret
      obtain ⟨hI, hrm, hE, hn, hrl⟩ := H1.out
      obtain ⟨hown, hEr⟩ := HO1.out
      rw [List.take_of_length_le (by omega)] at hown
      refine ⟨oa, oc, by rw [← hn]; rfl, ?_, hE.trans hEr⟩
      rw [← hn]
      exact owns_low hown hE.size

end Go.Proofs.Ytaidgkdebocenaa

namespace Go.Proofs.Ytaidgkdebocenaa
open Go Go.RowKit

set_option maxRecDepth 100000 in
theorem hopEntries_c {w0 w : World} {b c : Nat} {M : List KV} {es : List En} (h : St w0 w b M) (hl : LineOk M 101 (es.map En.it) c) (hm : M.length ≤ 9000) (hok : ∀ e ∈ es, e.Ok) (hl9 : es.length ≤ 9000) :
    Calls Try.prog 61 #[.pointer (some ⟨b, 0, none⟩)] w (EnsPost w es) := by
  have HC := hid (eachE_c h hm hl.sub hok hl9)
  clear h hl hok
  go_enter Try.func61, Try.ntmps61
  go_wp2_with fail
  refine HC.out.mono ?_
  rintro x w1 ⟨oa, oc, rfl, hown, hE⟩
  have HO := hid (And.intro hown hE)
  clear hown hE HC
  go_wp2_with fail
  go_ret
  exact ⟨oa, oc, rfl, HO.out⟩

set_option maxRecDepth 100000 in
set_option maxHeartbeats 2000000 in
theorem hopLeave_c {w0 w : World} {b c : Nat} {M : List KV} {L : List It} (e : En) (h : St w0 w b M) (hl : LineOk M 101 L c) (hm : M.length ≤ 8000) (hc : c < 4611686018427387904) (he : e.Ok) :
    Calls Try.prog 59 #[.pointer (some ⟨b, 0, none⟩), e.V] w fun x w' => x = .returned (.int .u64 ((c + 1 : Nat) : Int)) ∧ St w0 w' b (addM M 101 c e.due e.bs) ∧ LineOk (addM M 101 c e.due e.bs) 101 (insIt L ⟨e.due, c + 1, e.bs⟩) (c + 1) ∧
      (addM M 101 c e.due e.bs).length ≤ M.length + 2 ∧ TK StT w w' ∧ SortedM M := by
  obtain ⟨W1, hW1⟩ : ∃ W1, W1 = w.alloc (.cells #[.int .u64 (e.no : Int), .int .u8 (e.ow.toNat : Int), .int .u8 (e.va.toNat : Int), .int .u64 (e.made : Int), .int .u64 (e.due : Int), .int .u64 (limb e.fi 0 : Nat), .int .u64 (limb e.fi 1 : Nat), .int .u64 (limb e.fi 2 : Nat), .int .u64 (limb e.fi 3 : Nat), .int .u64 (limb e.nw 0 : Nat), .int .u64 (limb e.nw 1 : Nat), .int .u64 (limb e.nw 2 : Nat), .int .u64 (limb e.nw 3 : Nat)] 81) := ⟨_, rfl⟩
  have hE1 : Ext w W1 := by rw [hW1]; exact (Ext.refl w).alloc _
  have hb : W1.heap[w.heap.size]? = some (.cells #[.int .u64 (e.no : Int), .int .u8 (e.ow.toNat : Int), .int .u8 (e.va.toNat : Int), .int .u64 (e.made : Int), .int .u64 (e.due : Int), .int .u64 (limb e.fi 0 : Nat), .int .u64 (limb e.fi 1 : Nat), .int .u64 (limb e.fi 2 : Nat), .int .u64 (limb e.fi 3 : Nat), .int .u64 (limb e.nw 0 : Nat), .int .u64 (limb e.nw 1 : Nat), .int .u64 (limb e.nw 2 : Nat), .int .u64 (limb e.nw 3 : Nat)] 81 (0, 0)) := by rw [hW1]; exact heap_alloc_new w _
  have hbD : W1.drew.heap[w.heap.size]? = _ := hb
  have HB := hid (fun (w' : World) (hx : w'.heap[w.heap.size]? = some (.cells #[.int .u64 (e.no : Int), .int .u8 (e.ow.toNat : Int), .int .u8 (e.va.toNat : Int), .int .u64 (e.made : Int), .int .u64 (e.due : Int), .int .u64 (limb e.fi 0 : Nat), .int .u64 (limb e.fi 1 : Nat), .int .u64 (limb e.fi 2 : Nat), .int .u64 (limb e.fi 3 : Nat), .int .u64 (limb e.nw 0 : Nat), .int .u64 (limb e.nw 1 : Nat), .int .u64 (limb e.nw 2 : Nat), .int .u64 (limb e.nw 3 : Nat)] 81 (0, 0))) => (⟨by rw [cell_of_row w' _ 0 _ _ _ hx]; rfl, by rw [cell_of_row w' _ 1 _ _ _ hx]; rfl, by rw [cell_of_row w' _ 2 _ _ _ hx]; rfl, by rw [cell_of_row w' _ 3 _ _ _ hx]; rfl, by rw [cell_of_row w' _ 4 _ _ _ hx]; rfl, by rw [cell_of_row w' _ 5 _ _ _ hx]; rfl, by rw [cell_of_row w' _ 6 _ _ _ hx]; rfl, by rw [cell_of_row w' _ 7 _ _ _ hx]; rfl, by rw [cell_of_row w' _ 8 _ _ _ hx]; rfl, by rw [cell_of_row w' _ 9 _ _ _ hx]; rfl, by rw [cell_of_row w' _ 10 _ _ _ hx]; rfl, by rw [cell_of_row w' _ 11 _ _ _ hx]; rfl, by rw [cell_of_row w' _ 12 _ _ _ hx]; rfl⟩ : w'.cell? ⟨w.heap.size, 0, none⟩ = some (.int .u64 (e.no : Int)) ∧ w'.cell? ⟨w.heap.size, 1, none⟩ = some (.int .u8 (e.ow.toNat : Int)) ∧ w'.cell? ⟨w.heap.size, 2, none⟩ = some (.int .u8 (e.va.toNat : Int)) ∧ w'.cell? ⟨w.heap.size, 3, none⟩ = some (.int .u64 (e.made : Int)) ∧ w'.cell? ⟨w.heap.size, 4, none⟩ = some (.int .u64 (e.due : Int)) ∧ w'.cell? ⟨w.heap.size, 5, none⟩ = some (.int .u64 (limb e.fi 0 : Nat)) ∧ w'.cell? ⟨w.heap.size, 6, none⟩ = some (.int .u64 (limb e.fi 1 : Nat)) ∧ w'.cell? ⟨w.heap.size, 7, none⟩ = some (.int .u64 (limb e.fi 2 : Nat)) ∧ w'.cell? ⟨w.heap.size, 8, none⟩ = some (.int .u64 (limb e.fi 3 : Nat)) ∧ w'.cell? ⟨w.heap.size, 9, none⟩ = some (.int .u64 (limb e.nw 0 : Nat)) ∧ w'.cell? ⟨w.heap.size, 10, none⟩ = some (.int .u64 (limb e.nw 1 : Nat)) ∧ w'.cell? ⟨w.heap.size, 11, none⟩ = some (.int .u64 (limb e.nw 2 : Nat)) ∧ w'.cell? ⟨w.heap.size, 12, none⟩ = some (.int .u64 (limb e.nw 3 : Nat))))
  obtain ⟨d1_0, d1_1, d1_2, d1_3, d1_4, d1_5, d1_6, d1_7, d1_8, d1_9, d1_10, d1_11, d1_12⟩ := HB.out _ hbD
  have hL := layEntry_c (w := W1.drew) e he
  unfold En.V En.cells at hL
  have HL := hid hL
  have HA := hid (fun (w2 : World) (pv : Value) (hE : Ext w w2) (hp : SB w0 w2 pv e.bs) => adds_add (due := e.due) (h.ext hE) hl hm (by unfold W64; exact he.2.2.1) hc hp (by have := e.bs_le; omega))
  rw [show (((101 : UInt8).toNat : Nat) : Int) = 101 from rfl] at HA
  have HE := hid (And.intro hE1 hb)
  have HW1 := hid hW1
  unfold En.V En.cells
  clear h hl hE1 hb hbD hL he hW1
  go_enter Try.func59, Try.ntmps59
  go_wp2_with fail
  rw [← HW1.out]
  go_region_held3 (fun w' => w'.cell? ⟨w.heap.size, 0, none⟩ = some (.int .u64 (e.no : Int)) ∧ w'.cell? ⟨w.heap.size, 1, none⟩ = some (.int .u8 (e.ow.toNat : Int)) ∧ w'.cell? ⟨w.heap.size, 2, none⟩ = some (.int .u8 (e.va.toNat : Int)) ∧ w'.cell? ⟨w.heap.size, 3, none⟩ = some (.int .u64 (e.made : Int)) ∧ w'.cell? ⟨w.heap.size, 4, none⟩ = some (.int .u64 (e.due : Int)) ∧ w'.cell? ⟨w.heap.size, 5, none⟩ = some (.int .u64 (limb e.fi 0 : Nat)) ∧ w'.cell? ⟨w.heap.size, 6, none⟩ = some (.int .u64 (limb e.fi 1 : Nat)) ∧ w'.cell? ⟨w.heap.size, 7, none⟩ = some (.int .u64 (limb e.fi 2 : Nat)) ∧ w'.cell? ⟨w.heap.size, 8, none⟩ = some (.int .u64 (limb e.fi 3 : Nat)) ∧ w'.cell? ⟨w.heap.size, 9, none⟩ = some (.int .u64 (limb e.nw 0 : Nat)) ∧ w'.cell? ⟨w.heap.size, 10, none⟩ = some (.int .u64 (limb e.nw 1 : Nat)) ∧ w'.cell? ⟨w.heap.size, 11, none⟩ = some (.int .u64 (limb e.nw 2 : Nat)) ∧ w'.cell? ⟨w.heap.size, 12, none⟩ = some (.int .u64 (limb e.nw 3 : Nat))) (go_keep)
    (first
      | (go_at_call 116; (with_reducible refine HL.out.mono ?_); rintro x w2 ⟨a, cc, rfl, ho, hE2⟩; obtain ⟨d2_0, d2_1, d2_2, d2_3, d2_4, d2_5, d2_6, d2_7, d2_8, d2_9, d2_10, d2_11, d2_12⟩ := HB.out _ (hE2.heap (show W1.drew.heap[w.heap.size]? = _ from HE.out.2)); have H2 := hid (And.intro ho hE2); clear ho hE2)
      | (go_at_call 49; (with_reducible refine (HA.out w2 _ (HE.out.1.drew.trans H2.out.2) (SB.own (OB.of_owns H2.out.1))).mono ?_); rintro x w3 ⟨rfl, hS, hLn, hml, hT, hso⟩; obtain ⟨d3_0, d3_1, d3_2, d3_3, d3_4, d3_5, d3_6, d3_7, d3_8, d3_9, d3_10, d3_11, d3_12⟩ := HB.out _ (TK.heap hT (H2.out.2.heap (show W1.drew.heap[w.heap.size]? = _ from HE.out.2)) (by unfold StT; decide)); have H3 := hid (And.intro hS (And.intro hLn (And.intro hml (And.intro hT hso)))); clear hS hLn hml hT hso))
  go_wp2_with fail
  go_ret
  exact ⟨rfl, H3.out.1, H3.out.2.1, H3.out.2.2.1, TK.trans (TK.of_ext (HE.out.1.drew.trans H2.out.2)) H3.out.2.2.2.1, H3.out.2.2.2.2⟩

theorem hopDropEntry_c {w0 w : World} {b c : Nat} {M : List KV} {L : List It} (e : En) (h : St w0 w b M) (hl : LineOk M 101 L c) (hm : M.length ≤ 8000) (he : e.Ok) :
    Calls Try.prog 75 #[.pointer (some ⟨b, 0, none⟩), e.V] w fun x w' => x = .returned (.bool (hasIt L e.due e.no)) ∧ St w0 w' b (delLM M 101 e.due e.no) ∧ LineOk (delLM M 101 e.due e.no) 101 (delIt L e.due e.no) c ∧
      (delLM M 101 e.due e.no).length ≤ M.length + 1 ∧ TK StT w w' ∧ SortedM M := by
  obtain ⟨W1, hW1⟩ : ∃ W1, W1 = w.alloc (.cells #[.int .u64 (e.no : Int), .int .u8 (e.ow.toNat : Int), .int .u8 (e.va.toNat : Int), .int .u64 (e.made : Int), .int .u64 (e.due : Int), .int .u64 (limb e.fi 0 : Nat), .int .u64 (limb e.fi 1 : Nat), .int .u64 (limb e.fi 2 : Nat), .int .u64 (limb e.fi 3 : Nat), .int .u64 (limb e.nw 0 : Nat), .int .u64 (limb e.nw 1 : Nat), .int .u64 (limb e.nw 2 : Nat), .int .u64 (limb e.nw 3 : Nat)] 81) := ⟨_, rfl⟩
  have hE1 : Ext w W1 := by rw [hW1]; exact (Ext.refl w).alloc _
  have hb : W1.heap[w.heap.size]? = some (.cells #[.int .u64 (e.no : Int), .int .u8 (e.ow.toNat : Int), .int .u8 (e.va.toNat : Int), .int .u64 (e.made : Int), .int .u64 (e.due : Int), .int .u64 (limb e.fi 0 : Nat), .int .u64 (limb e.fi 1 : Nat), .int .u64 (limb e.fi 2 : Nat), .int .u64 (limb e.fi 3 : Nat), .int .u64 (limb e.nw 0 : Nat), .int .u64 (limb e.nw 1 : Nat), .int .u64 (limb e.nw 2 : Nat), .int .u64 (limb e.nw 3 : Nat)] 81 (0, 0)) := by rw [hW1]; exact heap_alloc_new w _
  have c0 : W1.cell? ⟨w.heap.size, 0, none⟩ = some (.int .u64 (e.no : Int)) := by rw [cell_of_row W1 _ 0 _ _ _ (hb)]; rfl
  have c4 : W1.cell? ⟨w.heap.size, 4, none⟩ = some (.int .u64 (e.due : Int)) := by rw [cell_of_row W1 _ 4 _ _ _ (hb)]; rfl
  have hd : e.due < W64 := by unfold W64; exact he.2.2.1
  have hn : e.no < W64 := by unfold W64; exact he.1
  have HA := hid (lineRemove_c (κ := 101) (h.ext hE1) (by omega : M.length ≤ 9000) hd hn)
  rw [show (((101 : UInt8).toNat : Nat) : Int) = 101 from rfl] at HA
  have HE := hid (And.intro hE1 (And.intro (hl.del h.so hd hn) (And.intro (hl.has hd hn) h.so)))
  have HW1 := hid hW1
  unfold En.V En.cells
  clear h hl hE1 hb he hW1 hd hn
  go_enter Try.func75, Try.ntmps75
  go_wp2_with fail
  rw [← HW1.out]
  go_wp2_with fail
  refine HA.out.mono ?_
  rintro x w2 ⟨rfl, hS, hT⟩
  have H2 := hid (And.intro hS hT)
  clear hS hT HA
  go_wp2_with fail
  go_ret
  refine ⟨?_, H2.out.1, HE.out.2.1, delLM_length _ _ _ _, TK.trans (TK.of_ext HE.out.1) H2.out.2, HE.out.2.2.2⟩
  rw [← HE.out.2.2.1]
  rfl

set_option maxRecDepth 100000 in
set_option maxHeartbeats 2000000 in
theorem hopSetEntry_c {w0 w : World} {b c : Nat} {M : List KV} {L : List It} (e : En) (h : St w0 w b M) (hl : LineOk M 101 L c) (hm : M.length ≤ 8000) (he : e.Ok) :
    Calls Try.prog 74 #[.pointer (some ⟨b, 0, none⟩), e.V] w fun x w' => x = .returned (.bool (hasIt L e.due e.no)) ∧ St w0 w' b (setLM M 101 e.due e.no e.bs) ∧ LineOk (setLM M 101 e.due e.no e.bs) 101 (setIt L e.due e.no e.bs) c ∧
      (setLM M 101 e.due e.no e.bs).length ≤ M.length + 1 ∧ TK StT w w' ∧ SortedM M := by
  obtain ⟨W1, hW1⟩ : ∃ W1, W1 = w.alloc (.cells #[.int .u64 (e.no : Int), .int .u8 (e.ow.toNat : Int), .int .u8 (e.va.toNat : Int), .int .u64 (e.made : Int), .int .u64 (e.due : Int), .int .u64 (limb e.fi 0 : Nat), .int .u64 (limb e.fi 1 : Nat), .int .u64 (limb e.fi 2 : Nat), .int .u64 (limb e.fi 3 : Nat), .int .u64 (limb e.nw 0 : Nat), .int .u64 (limb e.nw 1 : Nat), .int .u64 (limb e.nw 2 : Nat), .int .u64 (limb e.nw 3 : Nat)] 81) := ⟨_, rfl⟩
  have hE1 : Ext w W1 := by rw [hW1]; exact (Ext.refl w).alloc _
  have hb : W1.heap[w.heap.size]? = some (.cells #[.int .u64 (e.no : Int), .int .u8 (e.ow.toNat : Int), .int .u8 (e.va.toNat : Int), .int .u64 (e.made : Int), .int .u64 (e.due : Int), .int .u64 (limb e.fi 0 : Nat), .int .u64 (limb e.fi 1 : Nat), .int .u64 (limb e.fi 2 : Nat), .int .u64 (limb e.fi 3 : Nat), .int .u64 (limb e.nw 0 : Nat), .int .u64 (limb e.nw 1 : Nat), .int .u64 (limb e.nw 2 : Nat), .int .u64 (limb e.nw 3 : Nat)] 81 (0, 0)) := by rw [hW1]; exact heap_alloc_new w _
  have hbD : W1.drew.heap[w.heap.size]? = _ := hb
  have HB := hid (fun (w' : World) (hx : w'.heap[w.heap.size]? = some (.cells #[.int .u64 (e.no : Int), .int .u8 (e.ow.toNat : Int), .int .u8 (e.va.toNat : Int), .int .u64 (e.made : Int), .int .u64 (e.due : Int), .int .u64 (limb e.fi 0 : Nat), .int .u64 (limb e.fi 1 : Nat), .int .u64 (limb e.fi 2 : Nat), .int .u64 (limb e.fi 3 : Nat), .int .u64 (limb e.nw 0 : Nat), .int .u64 (limb e.nw 1 : Nat), .int .u64 (limb e.nw 2 : Nat), .int .u64 (limb e.nw 3 : Nat)] 81 (0, 0))) => (⟨by rw [cell_of_row w' _ 0 _ _ _ hx]; rfl, by rw [cell_of_row w' _ 1 _ _ _ hx]; rfl, by rw [cell_of_row w' _ 2 _ _ _ hx]; rfl, by rw [cell_of_row w' _ 3 _ _ _ hx]; rfl, by rw [cell_of_row w' _ 4 _ _ _ hx]; rfl, by rw [cell_of_row w' _ 5 _ _ _ hx]; rfl, by rw [cell_of_row w' _ 6 _ _ _ hx]; rfl, by rw [cell_of_row w' _ 7 _ _ _ hx]; rfl, by rw [cell_of_row w' _ 8 _ _ _ hx]; rfl, by rw [cell_of_row w' _ 9 _ _ _ hx]; rfl, by rw [cell_of_row w' _ 10 _ _ _ hx]; rfl, by rw [cell_of_row w' _ 11 _ _ _ hx]; rfl, by rw [cell_of_row w' _ 12 _ _ _ hx]; rfl⟩ : w'.cell? ⟨w.heap.size, 0, none⟩ = some (.int .u64 (e.no : Int)) ∧ w'.cell? ⟨w.heap.size, 1, none⟩ = some (.int .u8 (e.ow.toNat : Int)) ∧ w'.cell? ⟨w.heap.size, 2, none⟩ = some (.int .u8 (e.va.toNat : Int)) ∧ w'.cell? ⟨w.heap.size, 3, none⟩ = some (.int .u64 (e.made : Int)) ∧ w'.cell? ⟨w.heap.size, 4, none⟩ = some (.int .u64 (e.due : Int)) ∧ w'.cell? ⟨w.heap.size, 5, none⟩ = some (.int .u64 (limb e.fi 0 : Nat)) ∧ w'.cell? ⟨w.heap.size, 6, none⟩ = some (.int .u64 (limb e.fi 1 : Nat)) ∧ w'.cell? ⟨w.heap.size, 7, none⟩ = some (.int .u64 (limb e.fi 2 : Nat)) ∧ w'.cell? ⟨w.heap.size, 8, none⟩ = some (.int .u64 (limb e.fi 3 : Nat)) ∧ w'.cell? ⟨w.heap.size, 9, none⟩ = some (.int .u64 (limb e.nw 0 : Nat)) ∧ w'.cell? ⟨w.heap.size, 10, none⟩ = some (.int .u64 (limb e.nw 1 : Nat)) ∧ w'.cell? ⟨w.heap.size, 11, none⟩ = some (.int .u64 (limb e.nw 2 : Nat)) ∧ w'.cell? ⟨w.heap.size, 12, none⟩ = some (.int .u64 (limb e.nw 3 : Nat))))
  obtain ⟨d1_0, d1_1, d1_2, d1_3, d1_4, d1_5, d1_6, d1_7, d1_8, d1_9, d1_10, d1_11, d1_12⟩ := HB.out _ hbD
  have hd : e.due < W64 := by unfold W64; exact he.2.2.1
  have hn : e.no < W64 := by unfold W64; exact he.1
  have hL := layEntry_c (w := W1.drew) e he
  unfold En.V En.cells at hL
  have HL := hid hL
  have HA := hid (fun (w2 : World) (pv : Value) (hE : Ext w w2) (hp : SB w0 w2 pv e.bs) => lineSet_c (κ := 101) (h.ext hE) (by omega : M.length ≤ 9000) hd hn hp (by have := e.bs_le; omega))
  rw [show (((101 : UInt8).toNat : Nat) : Int) = 101 from rfl] at HA
  have HE := hid (And.intro hE1 (And.intro hb (And.intro (hl.set (p := e.bs) h.so hd hn) (And.intro (hl.has hd hn) h.so))))
  have HW1 := hid hW1
  unfold En.V En.cells
  clear h hl hE1 hb hbD hL he hW1 hd hn
  go_enter Try.func74, Try.ntmps74
  go_wp2_with fail
  rw [← HW1.out]
  go_region_held3 (fun w' => w'.cell? ⟨w.heap.size, 0, none⟩ = some (.int .u64 (e.no : Int)) ∧ w'.cell? ⟨w.heap.size, 1, none⟩ = some (.int .u8 (e.ow.toNat : Int)) ∧ w'.cell? ⟨w.heap.size, 2, none⟩ = some (.int .u8 (e.va.toNat : Int)) ∧ w'.cell? ⟨w.heap.size, 3, none⟩ = some (.int .u64 (e.made : Int)) ∧ w'.cell? ⟨w.heap.size, 4, none⟩ = some (.int .u64 (e.due : Int)) ∧ w'.cell? ⟨w.heap.size, 5, none⟩ = some (.int .u64 (limb e.fi 0 : Nat)) ∧ w'.cell? ⟨w.heap.size, 6, none⟩ = some (.int .u64 (limb e.fi 1 : Nat)) ∧ w'.cell? ⟨w.heap.size, 7, none⟩ = some (.int .u64 (limb e.fi 2 : Nat)) ∧ w'.cell? ⟨w.heap.size, 8, none⟩ = some (.int .u64 (limb e.fi 3 : Nat)) ∧ w'.cell? ⟨w.heap.size, 9, none⟩ = some (.int .u64 (limb e.nw 0 : Nat)) ∧ w'.cell? ⟨w.heap.size, 10, none⟩ = some (.int .u64 (limb e.nw 1 : Nat)) ∧ w'.cell? ⟨w.heap.size, 11, none⟩ = some (.int .u64 (limb e.nw 2 : Nat)) ∧ w'.cell? ⟨w.heap.size, 12, none⟩ = some (.int .u64 (limb e.nw 3 : Nat))) (go_keep)
    (first
      | (go_at_call 116; (with_reducible refine HL.out.mono ?_); rintro x w2 ⟨a, cc, rfl, ho, hE2⟩; obtain ⟨d2_0, d2_1, d2_2, d2_3, d2_4, d2_5, d2_6, d2_7, d2_8, d2_9, d2_10, d2_11, d2_12⟩ := HB.out _ (hE2.heap (show W1.drew.heap[w.heap.size]? = _ from HE.out.2.1)); have H2 := hid (And.intro ho hE2); clear ho hE2)
      | (go_at_call 58; (with_reducible refine (HA.out w2 _ (HE.out.1.drew.trans H2.out.2) (SB.own (OB.of_owns H2.out.1))).mono ?_); rintro x w3 ⟨rfl, hS, hT⟩; obtain ⟨d3_0, d3_1, d3_2, d3_3, d3_4, d3_5, d3_6, d3_7, d3_8, d3_9, d3_10, d3_11, d3_12⟩ := HB.out _ (TK.heap hT (H2.out.2.heap (show W1.drew.heap[w.heap.size]? = _ from HE.out.2.1)) (by unfold StT; decide)); have H3 := hid (And.intro hS hT); clear hS hT))
  go_wp2_with fail
  go_ret
  refine ⟨?_, H3.out.1, HE.out.2.2.1, setLM_length _ _ _ _ _, TK.trans (TK.of_ext (HE.out.1.drew.trans H2.out.2)) H3.out.2, HE.out.2.2.2.2⟩
  rw [← HE.out.2.2.2.1]
  rfl

end Go.Proofs.Ytaidgkdebocenaa

namespace Go.Proofs.Ytaidgkdebocenaa
open Go Go.RowKit

set_option maxRecDepth 100000 in
theorem hopHops_c {w0 w : World} {b c : Nat} {M : List KV} {es : List Hp} (h : St w0 w b M) (hl : LineOk M 104 (es.map Hp.it) c) (hm : M.length ≤ 9000) (hok : ∀ e ∈ es, e.Ok) (hl9 : es.length ≤ 9000) :
    Calls Try.prog 62 #[.pointer (some ⟨b, 0, none⟩)] w (HpsPost w es) := by
  have HC := hid (eachH_c h hm hl.sub hok hl9)
  clear h hl hok
  go_enter Try.func62, Try.ntmps62
  go_wp2_with fail
  refine HC.out.mono ?_
  rintro x w1 ⟨oa, oc, rfl, hown, hE⟩
  have HO := hid (And.intro hown hE)
  clear hown hE HC
  go_wp2_with fail
  go_ret
  exact ⟨oa, oc, rfl, HO.out⟩

set_option maxRecDepth 100000 in
set_option maxHeartbeats 2000000 in
theorem hopJump_c {w0 w : World} {b c : Nat} {M : List KV} {L : List It} (e : Hp) (h : St w0 w b M) (hl : LineOk M 104 L c) (hm : M.length ≤ 8000) (hc : c < 4611686018427387904) (he : e.Ok) :
    Calls Try.prog 60 #[.pointer (some ⟨b, 0, none⟩), e.V] w fun x w' => x = .returned (.int .u64 ((c + 1 : Nat) : Int)) ∧ St w0 w' b (addM M 104 c e.due e.bs) ∧ LineOk (addM M 104 c e.due e.bs) 104 (insIt L ⟨e.due, c + 1, e.bs⟩) (c + 1) ∧
      (addM M 104 c e.due e.bs).length ≤ M.length + 2 ∧ TK StT w w' ∧ SortedM M := by
  obtain ⟨W1, hW1⟩ : ∃ W1, W1 = w.alloc (.cells #[.int .u64 (e.no : Int), .int .u8 (e.ow.toNat : Int), .int .u8 (e.fr.toNat : Int), .int .u8 (e.to.toNat : Int), .int .u64 (e.made : Int), .int .u64 (e.due : Int), .int .u64 (limb e.fi 0 : Nat), .int .u64 (limb e.fi 1 : Nat), .int .u64 (limb e.fi 2 : Nat), .int .u64 (limb e.fi 3 : Nat), .int .u64 (limb e.sh 0 : Nat), .int .u64 (limb e.sh 1 : Nat), .int .u64 (limb e.sh 2 : Nat), .int .u64 (limb e.sh 3 : Nat)] 83) := ⟨_, rfl⟩
  have hE1 : Ext w W1 := by rw [hW1]; exact (Ext.refl w).alloc _
  have hb : W1.heap[w.heap.size]? = some (.cells #[.int .u64 (e.no : Int), .int .u8 (e.ow.toNat : Int), .int .u8 (e.fr.toNat : Int), .int .u8 (e.to.toNat : Int), .int .u64 (e.made : Int), .int .u64 (e.due : Int), .int .u64 (limb e.fi 0 : Nat), .int .u64 (limb e.fi 1 : Nat), .int .u64 (limb e.fi 2 : Nat), .int .u64 (limb e.fi 3 : Nat), .int .u64 (limb e.sh 0 : Nat), .int .u64 (limb e.sh 1 : Nat), .int .u64 (limb e.sh 2 : Nat), .int .u64 (limb e.sh 3 : Nat)] 83 (0, 0)) := by rw [hW1]; exact heap_alloc_new w _
  have hbD : W1.drew.heap[w.heap.size]? = _ := hb
  have HB := hid (fun (w' : World) (hx : w'.heap[w.heap.size]? = some (.cells #[.int .u64 (e.no : Int), .int .u8 (e.ow.toNat : Int), .int .u8 (e.fr.toNat : Int), .int .u8 (e.to.toNat : Int), .int .u64 (e.made : Int), .int .u64 (e.due : Int), .int .u64 (limb e.fi 0 : Nat), .int .u64 (limb e.fi 1 : Nat), .int .u64 (limb e.fi 2 : Nat), .int .u64 (limb e.fi 3 : Nat), .int .u64 (limb e.sh 0 : Nat), .int .u64 (limb e.sh 1 : Nat), .int .u64 (limb e.sh 2 : Nat), .int .u64 (limb e.sh 3 : Nat)] 83 (0, 0))) => (⟨by rw [cell_of_row w' _ 0 _ _ _ hx]; rfl, by rw [cell_of_row w' _ 1 _ _ _ hx]; rfl, by rw [cell_of_row w' _ 2 _ _ _ hx]; rfl, by rw [cell_of_row w' _ 3 _ _ _ hx]; rfl, by rw [cell_of_row w' _ 4 _ _ _ hx]; rfl, by rw [cell_of_row w' _ 5 _ _ _ hx]; rfl, by rw [cell_of_row w' _ 6 _ _ _ hx]; rfl, by rw [cell_of_row w' _ 7 _ _ _ hx]; rfl, by rw [cell_of_row w' _ 8 _ _ _ hx]; rfl, by rw [cell_of_row w' _ 9 _ _ _ hx]; rfl, by rw [cell_of_row w' _ 10 _ _ _ hx]; rfl, by rw [cell_of_row w' _ 11 _ _ _ hx]; rfl, by rw [cell_of_row w' _ 12 _ _ _ hx]; rfl, by rw [cell_of_row w' _ 13 _ _ _ hx]; rfl⟩ : w'.cell? ⟨w.heap.size, 0, none⟩ = some (.int .u64 (e.no : Int)) ∧ w'.cell? ⟨w.heap.size, 1, none⟩ = some (.int .u8 (e.ow.toNat : Int)) ∧ w'.cell? ⟨w.heap.size, 2, none⟩ = some (.int .u8 (e.fr.toNat : Int)) ∧ w'.cell? ⟨w.heap.size, 3, none⟩ = some (.int .u8 (e.to.toNat : Int)) ∧ w'.cell? ⟨w.heap.size, 4, none⟩ = some (.int .u64 (e.made : Int)) ∧ w'.cell? ⟨w.heap.size, 5, none⟩ = some (.int .u64 (e.due : Int)) ∧ w'.cell? ⟨w.heap.size, 6, none⟩ = some (.int .u64 (limb e.fi 0 : Nat)) ∧ w'.cell? ⟨w.heap.size, 7, none⟩ = some (.int .u64 (limb e.fi 1 : Nat)) ∧ w'.cell? ⟨w.heap.size, 8, none⟩ = some (.int .u64 (limb e.fi 2 : Nat)) ∧ w'.cell? ⟨w.heap.size, 9, none⟩ = some (.int .u64 (limb e.fi 3 : Nat)) ∧ w'.cell? ⟨w.heap.size, 10, none⟩ = some (.int .u64 (limb e.sh 0 : Nat)) ∧ w'.cell? ⟨w.heap.size, 11, none⟩ = some (.int .u64 (limb e.sh 1 : Nat)) ∧ w'.cell? ⟨w.heap.size, 12, none⟩ = some (.int .u64 (limb e.sh 2 : Nat)) ∧ w'.cell? ⟨w.heap.size, 13, none⟩ = some (.int .u64 (limb e.sh 3 : Nat))))
  obtain ⟨d1_0, d1_1, d1_2, d1_3, d1_4, d1_5, d1_6, d1_7, d1_8, d1_9, d1_10, d1_11, d1_12, d1_13⟩ := HB.out _ hbD
  have hL := layHop_c (w := W1.drew) e he
  unfold Hp.V Hp.cells at hL
  have HL := hid hL
  have HA := hid (fun (w2 : World) (pv : Value) (hE : Ext w w2) (hp : SB w0 w2 pv e.bs) => adds_add (due := e.due) (h.ext hE) hl hm (by unfold W64; exact he.2.2.1) hc hp (by have := e.bs_le; omega))
  rw [show (((104 : UInt8).toNat : Nat) : Int) = 104 from rfl] at HA
  have HE := hid (And.intro hE1 hb)
  have HW1 := hid hW1
  unfold Hp.V Hp.cells
  clear h hl hE1 hb hbD hL he hW1
  go_enter Try.func60, Try.ntmps60
  go_wp2_with fail
  rw [← HW1.out]
  go_region_held3 (fun w' => w'.cell? ⟨w.heap.size, 0, none⟩ = some (.int .u64 (e.no : Int)) ∧ w'.cell? ⟨w.heap.size, 1, none⟩ = some (.int .u8 (e.ow.toNat : Int)) ∧ w'.cell? ⟨w.heap.size, 2, none⟩ = some (.int .u8 (e.fr.toNat : Int)) ∧ w'.cell? ⟨w.heap.size, 3, none⟩ = some (.int .u8 (e.to.toNat : Int)) ∧ w'.cell? ⟨w.heap.size, 4, none⟩ = some (.int .u64 (e.made : Int)) ∧ w'.cell? ⟨w.heap.size, 5, none⟩ = some (.int .u64 (e.due : Int)) ∧ w'.cell? ⟨w.heap.size, 6, none⟩ = some (.int .u64 (limb e.fi 0 : Nat)) ∧ w'.cell? ⟨w.heap.size, 7, none⟩ = some (.int .u64 (limb e.fi 1 : Nat)) ∧ w'.cell? ⟨w.heap.size, 8, none⟩ = some (.int .u64 (limb e.fi 2 : Nat)) ∧ w'.cell? ⟨w.heap.size, 9, none⟩ = some (.int .u64 (limb e.fi 3 : Nat)) ∧ w'.cell? ⟨w.heap.size, 10, none⟩ = some (.int .u64 (limb e.sh 0 : Nat)) ∧ w'.cell? ⟨w.heap.size, 11, none⟩ = some (.int .u64 (limb e.sh 1 : Nat)) ∧ w'.cell? ⟨w.heap.size, 12, none⟩ = some (.int .u64 (limb e.sh 2 : Nat)) ∧ w'.cell? ⟨w.heap.size, 13, none⟩ = some (.int .u64 (limb e.sh 3 : Nat))) (go_keep)
    (first
      | (go_at_call 117; (with_reducible refine HL.out.mono ?_); rintro x w2 ⟨a, cc, rfl, ho, hE2⟩; obtain ⟨d2_0, d2_1, d2_2, d2_3, d2_4, d2_5, d2_6, d2_7, d2_8, d2_9, d2_10, d2_11, d2_12, d2_13⟩ := HB.out _ (hE2.heap (show W1.drew.heap[w.heap.size]? = _ from HE.out.2)); have H2 := hid (And.intro ho hE2); clear ho hE2)
      | (go_at_call 49; (with_reducible refine (HA.out w2 _ (HE.out.1.drew.trans H2.out.2) (SB.own (OB.of_owns H2.out.1))).mono ?_); rintro x w3 ⟨rfl, hS, hLn, hml, hT, hso⟩; obtain ⟨d3_0, d3_1, d3_2, d3_3, d3_4, d3_5, d3_6, d3_7, d3_8, d3_9, d3_10, d3_11, d3_12, d3_13⟩ := HB.out _ (TK.heap hT (H2.out.2.heap (show W1.drew.heap[w.heap.size]? = _ from HE.out.2)) (by unfold StT; decide)); have H3 := hid (And.intro hS (And.intro hLn (And.intro hml (And.intro hT hso)))); clear hS hLn hml hT hso))
  go_wp2_with fail
  go_ret
  exact ⟨rfl, H3.out.1, H3.out.2.1, H3.out.2.2.1, TK.trans (TK.of_ext (HE.out.1.drew.trans H2.out.2)) H3.out.2.2.2.1, H3.out.2.2.2.2⟩

theorem hopDropHop_c {w0 w : World} {b c : Nat} {M : List KV} {L : List It} (e : Hp) (h : St w0 w b M) (hl : LineOk M 104 L c) (hm : M.length ≤ 8000) (he : e.Ok) :
    Calls Try.prog 76 #[.pointer (some ⟨b, 0, none⟩), e.V] w fun x w' => x = .returned (.bool (hasIt L e.due e.no)) ∧ St w0 w' b (delLM M 104 e.due e.no) ∧ LineOk (delLM M 104 e.due e.no) 104 (delIt L e.due e.no) c ∧
      (delLM M 104 e.due e.no).length ≤ M.length + 1 ∧ TK StT w w' ∧ SortedM M := by
  obtain ⟨W1, hW1⟩ : ∃ W1, W1 = w.alloc (.cells #[.int .u64 (e.no : Int), .int .u8 (e.ow.toNat : Int), .int .u8 (e.fr.toNat : Int), .int .u8 (e.to.toNat : Int), .int .u64 (e.made : Int), .int .u64 (e.due : Int), .int .u64 (limb e.fi 0 : Nat), .int .u64 (limb e.fi 1 : Nat), .int .u64 (limb e.fi 2 : Nat), .int .u64 (limb e.fi 3 : Nat), .int .u64 (limb e.sh 0 : Nat), .int .u64 (limb e.sh 1 : Nat), .int .u64 (limb e.sh 2 : Nat), .int .u64 (limb e.sh 3 : Nat)] 83) := ⟨_, rfl⟩
  have hE1 : Ext w W1 := by rw [hW1]; exact (Ext.refl w).alloc _
  have hb : W1.heap[w.heap.size]? = some (.cells #[.int .u64 (e.no : Int), .int .u8 (e.ow.toNat : Int), .int .u8 (e.fr.toNat : Int), .int .u8 (e.to.toNat : Int), .int .u64 (e.made : Int), .int .u64 (e.due : Int), .int .u64 (limb e.fi 0 : Nat), .int .u64 (limb e.fi 1 : Nat), .int .u64 (limb e.fi 2 : Nat), .int .u64 (limb e.fi 3 : Nat), .int .u64 (limb e.sh 0 : Nat), .int .u64 (limb e.sh 1 : Nat), .int .u64 (limb e.sh 2 : Nat), .int .u64 (limb e.sh 3 : Nat)] 83 (0, 0)) := by rw [hW1]; exact heap_alloc_new w _
  have c0 : W1.cell? ⟨w.heap.size, 0, none⟩ = some (.int .u64 (e.no : Int)) := by rw [cell_of_row W1 _ 0 _ _ _ (hb)]; rfl
  have c5 : W1.cell? ⟨w.heap.size, 5, none⟩ = some (.int .u64 (e.due : Int)) := by rw [cell_of_row W1 _ 5 _ _ _ (hb)]; rfl
  have hd : e.due < W64 := by unfold W64; exact he.2.2.1
  have hn : e.no < W64 := by unfold W64; exact he.1
  have HA := hid (lineRemove_c (κ := 104) (h.ext hE1) (by omega : M.length ≤ 9000) hd hn)
  rw [show (((104 : UInt8).toNat : Nat) : Int) = 104 from rfl] at HA
  have HE := hid (And.intro hE1 (And.intro (hl.del h.so hd hn) (And.intro (hl.has hd hn) h.so)))
  have HW1 := hid hW1
  unfold Hp.V Hp.cells
  clear h hl hE1 hb he hW1 hd hn
  go_enter Try.func76, Try.ntmps76
  go_wp2_with fail
  rw [← HW1.out]
  go_wp2_with fail
  refine HA.out.mono ?_
  rintro x w2 ⟨rfl, hS, hT⟩
  have H2 := hid (And.intro hS hT)
  clear hS hT HA
  go_wp2_with fail
  go_ret
  refine ⟨?_, H2.out.1, HE.out.2.1, delLM_length _ _ _ _, TK.trans (TK.of_ext HE.out.1) H2.out.2, HE.out.2.2.2⟩
  rw [← HE.out.2.2.1]
  rfl

end Go.Proofs.Ytaidgkdebocenaa
