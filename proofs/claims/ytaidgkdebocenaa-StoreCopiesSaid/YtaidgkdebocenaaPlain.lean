/- jointurelaw05.plain: the deeds that end no part, in new memory; a deed on a store, beside a document's store that is just made.
   Conditions: at most 1000 deeds. -/
import Derived.Test.YtaidgkdebocenaaStays
namespace Go.Proofs.Ytaidgkdebocenaa
open Go Go.RowKit

def ActV.cells (a : ActV) : List Value := [.int .u8 (a.d.toNat : Int), a.kv, a.vv]
def acells (l : List ActV) : List Value := l.flatMap ActV.cells
theorem acells_append (a b : List ActV) : acells (a ++ b) = acells a ++ acells b := by simp [acells]
theorem acells_length (l : List ActV) : (acells l).length = l.length * 3 := by
  induction l with
  | nil => rfl
  | cons e l ih => simp only [acells, List.flatMap_cons, List.length_append] at *; rw [ih]; simp [ActV.cells]; omega
theorem acells_get : ∀ (l : List ActV) (i : Nat) (h : i < l.length), (acells l)[i * 3]? = some (.int .u8 ((l[i]).d.toNat : Int)) ∧ (acells l)[i * 3 + 1]? = some (l[i]).kv ∧ (acells l)[i * 3 + 2]? = some (l[i]).vv
  | [], i, h => by simp at h
  | e :: l, 0, _ => by simp [acells, ActV.cells]
  | e :: l, i + 1, h => by
    have := acells_get l i (by simpa using h)
    simp only [acells, List.flatMap_cons, ActV.cells] at *
    rw [show (i + 1) * 3 = i * 3 + 1 + 1 + 1 by omega]
    simpa using this

theorem ActsV.of_owns {w : World} {base : Nat} {v : Value} {l : List ActV} (h : w.ownsRow base 35 3 v l.length (acells l)) (hb : ∀ a ∈ l, BV w a.kv a.key ∧ BV w a.vv a.val) : ActsV w v l := by
  rcases h.2 with ⟨rfl, h0⟩ | ⟨g, cap, cur, rfl, -, hg, hn, hc, hs, ht⟩
  · have : l = [] := List.eq_nil_of_length_eq_zero h0
    subst this
    exact ⟨none, 0, rfl, Nat.le_refl _, Nat.zero_le _, .inl rfl, hb⟩
  · refine ⟨_, cap, rfl, hn, hc, .inr ⟨g, 0, rfl, lt_of_heap hg, fun i hi => ?_⟩, hb⟩
    have he := acells_get l i hi
    rw [← ht] at he
    rw [List.getElem?_take_of_lt (by omega), List.getElem?_take_of_lt (by omega), List.getElem?_take_of_lt (by omega)] at he
    rw [Nat.zero_add, cell_of_row w g _ cur _ _ hg, cell_of_row w g _ cur _ _ hg, cell_of_row w g _ cur _ _ hg]
    simpa using he

def plainL (l : List ActV) : List ActV := l.filter fun a => decide (a.d.toNat % 8 < 4)

theorem plainL_succ (l : List ActV) (k : Nat) (h : k < l.length) : plainL (l.take (k + 1)) = plainL (l.take k) ++ if (l[k]).d.toNat % 8 < 4 then [l[k]] else [] := by
  rw [List.take_succ_eq_append_getElem h, plainL, List.filter_append]
  by_cases c : (l[k]).d.toNat % 8 < 4 <;> simp [plainL, c]

theorem infoAct : (Try.prog.info? 35).map (fun i => (i.zero, i.size, i.bytes)) = some (some (.agg #[.int .u8 0, .slice none 0 0, .slice none 0 0]), 3, 56) := by kernel_rfl

theorem actApp {w0 wr : World} {oa : Option Addr} {oc n : Nat} {out : List ActV} {x : ActV} {d : Nat} {ka va : Option Addr} {kl kc vl vc : Nat} (hE : Ext w0 wr) (hn : out.length = n) (hown : wr.ownsRow w0.heap.size 35 3 (.slice oa n oc) n (acells out))
    (hd : x.d.toNat = d) (hk : x.kv = .slice ka kl kc) (hv : x.vv = .slice va vl vc) (hb : n ≤ 2199023255553) :
    ∃ oa' oc' w', (App #[22, 22] 22 #[.slice oa n oc, .slice (some ⟨wr.heap.size, 0, none⟩) 1 1]).run Try.prog (wr.alloc (.cells #[.int .u8 (d : Int), .slice ka kl kc, .slice va vl vc] 35)) = .ok (.slice oa' (n + 1) oc') w' ∧
      w'.ownsRow w0.heap.size 35 3 (.slice oa' (n + 1) oc') (n + 1) (acells (out ++ [x])) ∧ Ext w0 w' := by
  have hE4 : Ext wr (wr.alloc (.cells #[.int .u8 (d : Int), .slice ka kl kc, .slice va vl vc] 35)) := (Ext.refl wr).alloc _
  have hM := heap_alloc_new wr (.cells #[.int .u8 (d : Int), .slice ka kl kc, .slice va vl vc] 35)
  have hown4 := Keeps.ownsRow hE4 hown fun _ _ c => c
  obtain ⟨o', w', hrun, hown5, hgrow, -⟩ := run_App (P := Try.prog) 22 22 35 3 56 (.agg #[.int .u8 0, .slice none 0 0, .slice none 0 0]) Try.underlying22 infoAct rfl (by decide) hown4 (m := 1) (c := 1) (news := [.int .u8 (d : Int), .slice ka kl kc, .slice va vl vc]) rfl (Src.row hM) (by simp [Value.oneCell']) (by unfold maxLen; omega) (by omega) (hE.trans hE4).size
  obtain ⟨oa', oc', rfl⟩ := owns_slice hown5
  refine ⟨oa', oc', w', hrun, ?_, ?_⟩
  · have e : acells (out ++ [x]) = acells out ++ [.int .u8 (d : Int), .slice ka kl kc, .slice va vl vc] := by rw [acells_append]; simp [acells, ActV.cells, hd, hk, hv]
    rw [e]; exact hown5
  · exact (hE.trans hE4).grown hgrow fun k hk' hlt => by
      have := (hown.lt k hk').1
      omega

def PlainPost (w : World) (l : List ActV) (e : Ending) (w' : World) : Prop := ∃ a c, e = .returned (.slice a (plainL l).length c) ∧ w'.ownsRow 0 35 3 (.slice a (plainL l).length c) (plainL l).length (acells (plainL l)) ∧ Ext w w'

set_option maxRecDepth 100000 in
set_option maxHeartbeats 1000000 in
theorem plain5_c {w : World} {v : Value} {l : List ActV} (h : ActsV w v l) (hl : l.length ≤ 1000) :
    Calls Try.prog 45 #[v] w (PlainPost w l) := by
  obtain ⟨ao, cap, rfl, hlc, hcm⟩ := h.val
  unfold maxLen at hcm
  have H := hid h
  clear h
  go_enter Try.func45, Try.ntmps45
  go_wp2_with fail
  go_loopw [3, 4] (fun o j wr => ∃ (k n : Nat), k ≤ l.length ∧ j = .int .i64 k ∧ (plainL (l.take k)).length = n ∧ n ≤ k ∧ wr.ownsRow w.heap.size 35 3 o n (acells (plainL (l.take k))) ∧ Ext w wr) (fun _ j _ => l.length - (intOf j).toNat)
  case atStart => exact ⟨0, 0, Nat.zero_le _, rfl, rfl, Nat.le_refl _, World.ownsRow_nil _ _ _ _, Ext.refl _⟩
  case round =>
    obtain ⟨k, n, hk, rfl, hn, hnk, hown, hE⟩ := hrel
    obtain ⟨oa, oc, rfl⟩ := owns_slice hown
    have HO := hid (And.intro hn (And.intro hown hE))
    clear hn hown hE
    by_cases hlt : k < l.length
    · have hki : (k : Int) < (l.length : Int) := by omega
      obtain ⟨g, off, cap', ka, kcap, va, vcap, hv, -, -, -, hkv, hvv, c0, c1, c2⟩ := (H.out.ext HO.out.2.2).at hlt
      obtain ⟨rfl, -, rfl⟩ : ao = some ⟨g, off, none⟩ ∧ True ∧ cap = cap' := by simpa using hv
      obtain ⟨kl, hkl⟩ : ∃ kl, kl = (l[k]).key.length := ⟨_, rfl⟩
      obtain ⟨vl, hvl⟩ : ∃ vl, vl = (l[k]).val.length := ⟨_, rfl⟩
      obtain ⟨d, hd⟩ : ∃ d, d = (l[k]).d.toNat := ⟨_, rfl⟩
      have hsu := plainL_succ l k hlt
      rw [← hd] at c0 hsu
      rw [← hkl] at c1 hkv
      rw [← hvl] at c2 hvv
      by_cases h4 : d % 8 < 4
      · have t4 : (d : Int) % 8 < 4 := by omega
        rw [if_pos h4] at hsu
        obtain ⟨oa', oc', w', hrun, hown', hE'⟩ := actApp (x := l[k]) HO.out.2.2 HO.out.1 HO.out.2.1 hd.symm hkv hvv (by omega)
        rw [← hsu] at hown'
        have hlen : (plainL (l.take (k + 1))).length = n + 1 := by rw [hsu]; simp [HO.out.1]
        have HN := hid (And.intro hlen (And.intro hown' hE'))
        clear hlen hown' hE' hsu hv hkv hvv hkl hvl hd
        go_wp2_with fail
        exact ⟨⟨k + 1, n + 1, hlt, by go_num, HN.out.1, by omega, HN.out.2.1, HN.out.2.2⟩, by simp [intOf]; omega⟩
      · have t4 : ¬ (d : Int) % 8 < 4 := by omega
        rw [if_neg h4, List.append_nil] at hsu
        have HS := hid hsu
        clear hsu hv hkv hvv hkl hvl hd
        go_wp2_with fail
        exact ⟨⟨k + 1, n, hlt, by go_num, by rw [HS.out]; exact HO.out.1, by omega, by rw [HS.out]; exact HO.out.2.1, HO.out.2.2⟩, by simp [intOf]; omega⟩
    · obtain rfl : k = l.length := by omega
      have hO := HO.out
      rw [List.take_length] at hO
      obtain ⟨rfl, hown, hE⟩ := hO
      have HN := hid (And.intro hown hE)
      clear hown hE HO
      go_wp2_with fail
      go_ret
      exact ⟨_, _, rfl, owns_base HN.out.1 (Nat.zero_le _), HN.out.2⟩

/-- One deed on a store, beside a document's store that is just made: what may be turned is the store's own. -/
theorem doesP {w0 w : World} {b n : Nat} {s : SG} {d : UInt8} {kv vv : Value} {key val : BS} (hE : Ext w0 w) (h : Has w0 w b n s) (hn : n ≤ 1000) (hk : BV w kv key) (hv : BV w vv val) (hkl : key.length ≤ 100) (hvl : val.length ≤ 100) :
    Calls Try.prog 28 #[.pointer (some ⟨b, 0, none⟩), .pointer (some ⟨w.heap.size, 0, none⟩), .agg #[.int .u8 d.toNat, kv, vv]] (w.alloc (.cells #[.slice none 0 0, .slice none 0 0] 31)) fun e w' => (∃ x, e = .returned (.bool x)) ∧ ∃ s', Has w0 w' b (n + 1) s' ∧ abs s' = stepA d.toNat key val (abs s) ∧ Ext w0 w' ∧ Keeps (Foot s) w w' ∧ ∀ k, Foot s' k → Foot s k ∨ w.heap.size ≤ k := by
  obtain ⟨W, hW⟩ : ∃ W, W = w.alloc (.cells #[.slice none 0 0, .slice none 0 0] 31) := ⟨_, rfl⟩
  have hE2 : Ext w W := by rw [hW]; exact (Ext.refl w).alloc _
  have hm : RRep W (rnew w.heap.size) := rnew_rep (by rw [hW]; exact heap_alloc_new w _)
  rw [← hW]
  have h' := h.ext hE2
  have hf := h'.bnd.fit hn
  have := does5_c (d := d) h'.rs hm (hk.ext hE2) (hv.ext hE2) hf List.Pairwise.nil (Nat.zero_le _) (by simp [rabs, rnew, big_eq]) (le_big (by omega)) (le_big (by omega))
  rw [h'.hb] at this
  refine this.mono ?_
  rintro e w' ⟨rfl, s', m', hB⟩
  have hrf : ∀ k, RFoot (rnew w.heap.size) k → k = w.heap.size := by
    rintro k (c | c)
    · exact c
    · simp [rnew, Value.ownBlock] at c
  have hkp : Keeps (Foot s) w w' := (Keeps.of_ext hE2).trans' hB.keeps fun k hk c => c.elim id fun c => by have := hrf k c; omega
  have hft : ∀ k, Foot s' k → Foot s k ∨ w.heap.size ≤ k := fun k hk => (hB.fs k hk).imp id (Nat.le_trans hE2.size)
  refine ⟨⟨_, rfl⟩, s', ⟨hB.rs, hB.bs.trans h'.hb, by rw [hB.as_]; exact h'.bnd.step hkl hvl _, fun k hk => (hft k hk).elim (h.new k) (Nat.le_trans hE.size)⟩, hB.as_, ?_, hkp, hft⟩
  exact hE.trans' hkp fun k hk c => absurd (h.new k c) (by omega)

end Go.Proofs.Ytaidgkdebocenaa
