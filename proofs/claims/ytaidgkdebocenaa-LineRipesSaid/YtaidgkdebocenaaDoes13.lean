/- jointurelaw13.does: one deed of both, answered alike.
   Conditions: at most a thousand deeds before. -/
import Derived.Test.YtaidgkdebocenaaNear13
import Derived.Test.YtaidgkdebocenaaLineNumbers
import Derived.Test.YtaidgkdebocenaaL13
import Derived.Deep.CutRange
namespace Go.Proofs.Ytaidgkdebocenaa
open Go Go.RowKit

/-- A store and the document's three lines, alike, behind n deeds. -/
structure Both13 (w0 w : World) (b bm n : Nat) (M : List KV) (ls : List RL) : Prop where
  st : St w0 w b M
  r : R13 w0 w bm ls
  ln : ∀ i (h : i < ls.length), LineOk M (UInt8.ofNat i) (ls[i]).L (ls[i]).c
  len : M.length ≤ 2 * n
  cnt : ∀ i (h : i < ls.length), (ls[i]).c ≤ n ∧ (ls[i]).rs.length ≤ n

theorem Both13.ext {w0 w w' : World} {b bm n : Nat} {M : List KV} {ls : List RL} (h : Both13 w0 w b bm n M ls) (hE : Ext w w') : Both13 w0 w' b bm n M ls :=
  ⟨h.st.ext hE, h.r.ext' hE, h.ln, h.len, h.cnt⟩

theorem ofNat_ne {i j : Nat} (hi : i < 3) (hj : j < 3) (h : i ≠ j) : UInt8.ofNat i ≠ UInt8.ofNat j := by
  intro c
  have := congrArg UInt8.toNat c
  simp at this
  omega
theorem ofNat_i {i : Nat} (hi : i < 3) : ((UInt8.ofNat i).toNat : Int) = (i : Int) := by simp; omega

theorem stT_13 : ∀ t, StT t → ¬ T13 t ∧ t ≠ 5 := by
  rintro t (rfl | rfl | rfl | rfl) <;> unfold T13 <;> decide
theorem t13_st : ∀ t, T13 t → ¬ StT t ∧ t ≠ 5 := by
  rintro t (rfl | rfl) <;> unfold StT <;> decide

theorem ins_len (rs : List IV) (L : List It) (y : It) (h : rs.map IV.it = insIt L y) : rs.length = L.length + 1 := by
  have := congrArg List.length h
  rw [insIt_length, List.length_map] at this
  exact this

/-- Both behind a deed: the store's pairs and one line are other ones. -/
theorem Both13.next {w0 w w1 w2 w3 : World} {b bm n i : Nat} {M M' : List KV} {ls : List RL} {x' : RL} (h : Both13 w0 w b bm n M ls) (hi : i < ls.length) (hS : St w0 w1 b M') (hE : Ext w1 w2) (hR : R13 w0 w3 bm (ls.set i x')) (hT : TK T13 w2 w3)
    (hln : LineOk M' (UInt8.ofNat i) x'.L x'.c) (hlo : ∀ j (hj : j < ls.length), j ≠ i → LineOk M' (UInt8.ofNat j) (ls[j]).L (ls[j]).c) (hl : M'.length ≤ M.length + 2) (hc : x'.c ≤ n + 1) (hr : x'.rs.length ≤ n + 1) : Both13 w0 w3 b bm (n + 1) M' (ls.set i x') := by
  refine ⟨(hS.ext hE).keep hT hR.ext t13_st, hR, fun j hj => ?_, by have := h.len; omega, fun j hj => ?_⟩
  · rw [List.length_set] at hj
    by_cases e : i = j
    · subst e; rw [List.getElem_set_self]; exact hln
    · rw [List.getElem_set_ne e]; exact hlo j hj fun c => e c.symm
  · rw [List.length_set] at hj
    by_cases e : i = j
    · subst e; rw [List.getElem_set_self]; exact ⟨hc, hr⟩
    · rw [List.getElem_set_ne e]
      have := h.cnt j hj
      exact ⟨by omega, by omega⟩

theorem set_line {w0 w : World} {b : Nat} {M : List KV} {κ : UInt8} {L : List It} {c d n : Nat} {pv : Value} {p : BS} (h : St w0 w b M) (hl : LineOk M κ L c) (hm : M.length ≤ 8000) (hd : d < W64) (hn : n < W64) (hp : SB w0 w pv p) (hpl : p.length ≤ 1000) :
    Calls Try.prog 58 #[.pointer (some ⟨b, 0, none⟩), .int .u8 (κ.toNat : Int), .agg #[.int .u64 (d : Int), .int .u64 (n : Int), pv]] w fun e w' => e = .returned (.bool (hasIt L d n)) ∧ St w0 w' b (setLM M κ d n p) ∧ LineOk (setLM M κ d n p) κ (setIt L d n p) c ∧
      (setLM M κ d n p).length ≤ M.length + 1 ∧ TK StT w w' ∧ SortedM M := by
  refine (lineSet_c h (by omega) hd hn hp hpl).mono ?_
  rintro e w' ⟨rfl, h1, h2⟩
  exact ⟨by rw [hl.has hd hn], h1, hl.set h.so hd hn, setLM_length _ _ _ _ _, h2, h.so⟩
theorem del_line {w0 w : World} {b : Nat} {M : List KV} {κ : UInt8} {L : List It} {c d n : Nat} (h : St w0 w b M) (hl : LineOk M κ L c) (hm : M.length ≤ 8000) (hd : d < W64) (hn : n < W64) :
    Calls Try.prog 51 #[.pointer (some ⟨b, 0, none⟩), .int .u8 (κ.toNat : Int), .int .u64 (d : Int), .int .u64 (n : Int)] w fun e w' => e = .returned (.bool (hasIt L d n)) ∧ St w0 w' b (delLM M κ d n) ∧ LineOk (delLM M κ d n) κ (delIt L d n) c ∧
      (delLM M κ d n).length ≤ M.length + 1 ∧ TK StT w w' ∧ SortedM M := by
  refine (rem_line h hl hm hd hn rfl).mono ?_
  rintro e w' ⟨rfl, h1, h2, h3, h4⟩
  exact ⟨rfl, h1, h2, h3, h4, h.so⟩

theorem set_len {rs : List IV} {L : List It} {d n : Nat} {p : BS} (h : rs.map IV.it = setIt L d n p) : rs.length = L.length := by
  have := congrArg List.length h
  simpa [setIt] using this
theorem del_len {rs : List IV} {L : List It} {d n : Nat} (h : rs.map IV.it = delIt L d n) : rs.length ≤ L.length := by
  have := congrArg List.length h
  rw [List.length_map] at this
  rw [this]
  exact List.length_filter_le _ _

def T2 (t : TypeId) : Prop := StT t ∨ T13 t

def Does13Post (w0 w : World) (b bm n : Nat) (e : Ending) (w' : World) : Prop := e = .returned (.bool true) ∧ TK T2 w w' ∧ ∃ M' ls', Both13 w0 w' b bm (n + 1) M' ls'

set_option maxRecDepth 100000 in
set_option maxHeartbeats 8000000 in
theorem does13_c {w0 w : World} {b bm n : Nat} {M : List KV} {ls : List RL} {d κ : UInt8} {due no : Nat} {pv : Value} {p : BS} (h : Both13 w0 w b bm n M ls) (hn : n ≤ 1000) (hp : BV w0 pv p) (hd : due < W64) (hno : no < W64) (hpl : p.length ≤ 100) :
    Calls Try.prog 53 #[.pointer (some ⟨b, 0, none⟩), .pointer (some ⟨bm, 0, none⟩), .agg #[.int .u8 (d.toNat : Int), .int .u8 (κ.toNat : Int), .int .u64 (due : Int), .int .u64 (no : Int), pv]] w (Does13Post w0 w b bm n) := by
  obtain ⟨pa, pc, rfl, -, -⟩ := hp.val
  obtain ⟨W, hW⟩ : ∃ W, W = w.alloc (.cells #[.int .u8 (d.toNat : Int), .int .u8 (κ.toNat : Int), .int .u64 (due : Int), .int .u64 (no : Int), .slice pa p.length pc] 57) := ⟨_, rfl⟩
  have hE : Ext w W := by rw [hW]; exact (Ext.refl w).alloc _
  have hB := h.ext hE
  have hbx : W.heap[w.heap.size]? = some (.cells #[.int .u8 (d.toNat : Int), .int .u8 (κ.toNat : Int), .int .u64 (due : Int), .int .u64 (no : Int), .slice pa p.length pc] 57 (0, 0)) := by rw [hW]; exact heap_alloc_new w _
  obtain ⟨dn, hdn⟩ : ∃ dn, dn = d.toNat := ⟨_, rfl⟩
  obtain ⟨kn, hkn⟩ : ∃ kn, kn = κ.toNat := ⟨_, rfl⟩
  obtain ⟨pl, hpl'⟩ : ∃ pl, pl = p.length := ⟨_, rfl⟩
  rw [← hdn, ← hkn, ← hpl'] at hbx hW ⊢
  have c0 : W.cell? ⟨w.heap.size, 0, none⟩ = some (.int .u8 (dn : Int)) := by rw [cell_of_row W _ 0 _ _ _ hbx]; rfl
  have c1 : W.cell? ⟨w.heap.size, 1, none⟩ = some (.int .u8 (kn : Int)) := by rw [cell_of_row W _ 1 _ _ _ hbx]; rfl
  have hd256 : dn < 256 := by rw [hdn]; exact d.toNat_lt
  obtain ⟨i, hi⟩ : ∃ i, i = kn % 3 := ⟨_, rfl⟩
  have hi3 : i < 3 := by omega
  have HB := hid hB
  have HE := hid hE
  have HBx := hid hbx
  have HW := hid hW
  have HP := hid (And.intro hp hpl')
  clear h hE hB hW hbx hp hdn hkn hpl'
  go_enter Try.func53, Try.ntmps53
  go_upto_region 1 with fail
  go_cut [7] from 9 to 14 (fun v7 wx => v7 = .pointer (some ⟨bm, i * 2, none⟩) ∧ Ext W wx)
  case first =>
    rw [← HW.out]
    have h3 : kn % 3 = 0 ∨ kn % 3 = 1 ∨ kn % 3 = 2 := by omega
    rcases h3 with h3 | h3 | h3
    · have r3 : (kn : Int) % 3 = 0 := by omega
      rw [h3] at hi
      subst hi
      clear h3
      go_quiet (fail)
      go_wp2_with fail
      go_meet
      exact ⟨rfl, Ext.of_drewN _ _⟩
    · have r3 : (kn : Int) % 3 = 1 := by omega
      rw [h3] at hi
      subst hi
      clear h3
      go_quiet (fail)
      go_wp2_with fail
      go_meet
      exact ⟨rfl, Ext.of_drewN _ _⟩
    · have r3 : (kn : Int) % 3 = 2 := by omega
      rw [h3] at hi
      subst hi
      clear h3
      go_quiet (fail)
      go_wp2_with fail
      go_meet
      exact ⟨rfl, Ext.of_drewN _ _⟩
  case rest =>
    obtain ⟨rfl, hEc⟩ := hcut
    have R3 := hid (show (kn : Int) % 3 = (i : Int) by omega)
    have hB := HB.out.ext hEc
    have hbc := hEc.heap HBx.out
    have e0 := cell_of_row wc w.heap.size 0 _ _ _ hbc
    have e1 := cell_of_row wc w.heap.size 1 _ _ _ hbc
    have e2 := cell_of_row wc w.heap.size 2 _ _ _ hbc
    have e3 := cell_of_row wc w.heap.size 3 _ _ _ hbc
    have e4 := cell_of_row wc w.heap.size 4 _ _ _ hbc
    simp only [List.getElem?_toArray, List.getElem?_cons_zero, List.getElem?_cons_succ] at e0 e1 e2 e3 e4
    have hil : i < ls.length := by rw [hB.r.len]; exact hi3
    have HBc := hid (And.intro hB hbc)
    have HTK := hid (fun (w1 w2 w3 : World) (h1 : TK StT wc.drew w1) (h2 : Ext w1 w2) (h3 : TK T13 w2 w3) => (TK.trans (TK.of_ext ((HE.out.trans hEc).trans (Ext.drewOne wc))) (TK.trans (TK.ext (h1.mono fun _ => .inl) h2) (h3.mono fun _ => .inr)) : TK T2 w w3))
    clear hB hbc hEc c0 c1 hi
    have h6 : dn % 6 = 0 ∨ dn % 6 = 1 ∨ dn % 6 = 2 ∨ dn % 6 = 3 ∨ dn % 6 = 4 ∨ dn % 6 = 5 := by omega
    have HJ : Hid (∀ w', Ext w0 w' → Calls Try.prog 35 #[.slice pa pl pc, .slice none 0 0] w' fun e w'' => ∃ ja jc, e = .returned (.slice ja pl jc) ∧ OB w'' (.slice ja pl jc) p ∧ Ext w' w'') := hid (by
      intro w' hE
      have := joined HP.out.1 (le_big (by omega)) w' hE
      rw [← HP.out.2] at this
      exact this.mono fun e w'' ⟨a, c, h1, h2, _, h4⟩ => ⟨a, c, h1, h2, h4⟩)
    have HBox := hid (fun (T : TypeId → Prop) (w1 w2 : World) (h1 : w1.heap[w.heap.size]? = some (.cells #[.int .u8 (dn : Int), .int .u8 (kn : Int), .int .u64 (due : Int), .int .u64 (no : Int), .slice pa pl pc] 57 (0, 0))) (hT : TK T w1 w2) (ht : ¬ T 57) =>
      (⟨TK.heap hT h1 ht, by rw [cell_of_row w2 _ 2 _ _ _ (TK.heap hT h1 ht)]; rfl, by rw [cell_of_row w2 _ 3 _ _ _ (TK.heap hT h1 ht)]; rfl, by rw [cell_of_row w2 _ 4 _ _ _ (TK.heap hT h1 ht)]; rfl⟩ :
        w2.heap[w.heap.size]? = some (.cells #[.int .u8 (dn : Int), .int .u8 (kn : Int), .int .u64 (due : Int), .int .u64 (no : Int), .slice pa pl pc] 57 (0, 0)) ∧ w2.cell? ⟨w.heap.size, 2, none⟩ = some (.int .u64 (due : Int)) ∧ w2.cell? ⟨w.heap.size, 3, none⟩ = some (.int .u64 (no : Int)) ∧ w2.cell? ⟨w.heap.size, 4, none⟩ = some (.slice pa pl pc)))
    obtain ⟨x, hx⟩ : ∃ x, x = ls[i] := ⟨_, rfl⟩
    obtain ⟨c, hc⟩ : ∃ c, c = x.c := ⟨_, rfl⟩
    have hD : Both13 w0 wc.drew b bm n M ls := HBc.out.1.ext (Ext.drewOne wc)
    have hbD := (Ext.drewOne wc).heap HBc.out.2
    have hcn := hD.cnt i hil
    have hln := hD.ln i hil
    rw [← hx] at hcn hln
    rw [← hc] at hcn hln
    have HD := hid (And.intro hD (And.intro hbD (And.intro hcn (And.intro hln (And.intro hx hc)))))
    have hcc : (c : Int) ≤ 1000 := by omega
    clear hD hbD hcn hln hx hc
    have HR : Hid (∀ (w2 : World) (v : Value), R13 w0 w2 bm ls → OB w2 v p → Calls Try.prog 113 #[.pointer (some ⟨bm, i * 2, none⟩), .int .u64 (due : Int), v] w2 fun e w' => e = .returned (.int .u64 ((c + 1 : Nat) : Int)) ∧ ∃ x', R13 w0 w' bm (ls.set i x') ∧ x'.L = insIt x.L ⟨due, c + 1, p⟩ ∧ x'.c = c + 1 ∧ TK T13 w2 w') := hid (by
      intro w2 v hr ho
      obtain ⟨hD, hbD, hcn, hln, hx, hc⟩ := HD.out
      have := r13Add_c hr hil hd ho (by rw [← hx, ← hc]; omega) (by rw [← hx]; omega)
      rw [← hx] at this
      unfold RAddPost at this
      rw [← hc] at this
      exact this)
    rcases h6 with h6 | h6 | h6 | h6 | h6 | h6
    · have r6 : (dn : Int) % 6 = 0 := by omega
      have hA := adds_add (due := due) HD.out.1.st HD.out.2.2.2.1 (by have := HD.out.1.len; omega) hd (by omega) (SB.old HP.out.1) (by omega)
      rw [ofNat_i hi3, ← R3.out, ← HP.out.2] at hA
      have HA := hid hA
      clear hA h6
      go_wp2_with fail
      go_region_held3 (fun w' => w'.cell? ⟨w.heap.size, 2, none⟩ = some (.int .u64 (due : Int)) ∧ w'.cell? ⟨w.heap.size, 4, none⟩ = some (.slice pa pl pc)) (go_keep)
        (first
          | (go_at_call 49; with_reducible refine HA.out.mono ?_; rintro e w1 ⟨rfl, hS1, hL1, hl1, hT1, hs0⟩; have HS1 := hid (And.intro hS1 (And.intro hL1 (And.intro hl1 (And.intro hT1 hs0)))); obtain ⟨hb1, q2, q3, q4⟩ := HBox.out StT _ _ HD.out.2.1 hT1 (by unfold StT; decide); have HB1 := hid hb1; clear hS1 hL1 hl1 hT1 hs0 hb1)
          | (go_at_call 35; with_reducible refine (HJ.out _ HS1.out.1.base).mono ?_; rintro e w2 ⟨ja, jc, rfl, hj, hE2⟩; have p2 := hE2.cell q2; have p4 := hE2.cell q4; have H2 := hid (And.intro hj hE2); clear hj hE2)
          | (go_at_call 113; with_reducible refine (HR.out _ _ ((HD.out.1.r.keep HS1.out.2.2.2.1 HS1.out.1.base stT_13).ext' H2.out.2) H2.out.1).mono ?_; rintro e w3 ⟨rfl, x', hR3, hx3, hc3, hT3⟩; obtain ⟨hb3, u2, u3, u4⟩ := HBox.out T13 _ _ (H2.out.2.heap HB1.out) hT3 (by unfold T13; decide); have H3 := hid (And.intro hR3 (And.intro hx3 (And.intro hc3 hT3))); clear hR3 hx3 hc3 hT3 hb3))
      go_wp2_with fail
      go_ret
      refine ⟨rfl, HTK.out _ _ _ HS1.out.2.2.2.1 H2.out.2 H3.out.2.2.2, _, _, HD.out.1.next hil HS1.out.1 H2.out.2 H3.out.1 H3.out.2.2.2 ?_ (fun j hj hne => ?_) HS1.out.2.2.1 ?_ ?_⟩
      · rw [H3.out.2.1, H3.out.2.2.1]; exact HS1.out.2.1
      · exact (HD.out.1.ln j hj).addO HS1.out.2.2.2.2 (ofNat_ne (by rw [HD.out.1.r.len] at hj; exact hj) hi3 hne)
      · rw [H3.out.2.2.1]; have := HD.out.2.2.1.1; omega
      · have h1 := ins_len x'.rs x.L _ H3.out.2.1
        have h2 : x.L.length = x.rs.length := List.length_map _
        have := HD.out.2.2.1.2
        omega
    · have r6 : (dn : Int) % 6 = 1 := by omega
      have hA := adds_add (due := due) HD.out.1.st HD.out.2.2.2.1 (by have := HD.out.1.len; omega) hd (by omega) (SB.old HP.out.1) (by omega)
      rw [ofNat_i hi3, ← R3.out, ← HP.out.2] at hA
      have HA := hid hA
      clear hA h6
      go_wp2_with fail
      go_region_held3 (fun w' => w'.cell? ⟨w.heap.size, 2, none⟩ = some (.int .u64 (due : Int)) ∧ w'.cell? ⟨w.heap.size, 4, none⟩ = some (.slice pa pl pc)) (go_keep)
        (first
          | (go_at_call 49; with_reducible refine HA.out.mono ?_; rintro e w1 ⟨rfl, hS1, hL1, hl1, hT1, hs0⟩; have HS1 := hid (And.intro hS1 (And.intro hL1 (And.intro hl1 (And.intro hT1 hs0)))); obtain ⟨hb1, q2, q3, q4⟩ := HBox.out StT _ _ HD.out.2.1 hT1 (by unfold StT; decide); have HB1 := hid hb1; clear hS1 hL1 hl1 hT1 hs0 hb1)
          | (go_at_call 35; with_reducible refine (HJ.out _ HS1.out.1.base).mono ?_; rintro e w2 ⟨ja, jc, rfl, hj, hE2⟩; have p2 := hE2.cell q2; have p4 := hE2.cell q4; have H2 := hid (And.intro hj hE2); clear hj hE2)
          | (go_at_call 113; with_reducible refine (HR.out _ _ ((HD.out.1.r.keep HS1.out.2.2.2.1 HS1.out.1.base stT_13).ext' H2.out.2) H2.out.1).mono ?_; rintro e w3 ⟨rfl, x', hR3, hx3, hc3, hT3⟩; obtain ⟨hb3, u2, u3, u4⟩ := HBox.out T13 _ _ (H2.out.2.heap HB1.out) hT3 (by unfold T13; decide); have H3 := hid (And.intro hR3 (And.intro hx3 (And.intro hc3 hT3))); clear hR3 hx3 hc3 hT3 hb3))
      go_wp2_with fail
      go_ret
      refine ⟨rfl, HTK.out _ _ _ HS1.out.2.2.2.1 H2.out.2 H3.out.2.2.2, _, _, HD.out.1.next hil HS1.out.1 H2.out.2 H3.out.1 H3.out.2.2.2 ?_ (fun j hj hne => ?_) HS1.out.2.2.1 ?_ ?_⟩
      · rw [H3.out.2.1, H3.out.2.2.1]; exact HS1.out.2.1
      · exact (HD.out.1.ln j hj).addO HS1.out.2.2.2.2 (ofNat_ne (by rw [HD.out.1.r.len] at hj; exact hj) hi3 hne)
      · rw [H3.out.2.2.1]; have := HD.out.2.2.1.1; omega
      · have h1 := ins_len x'.rs x.L _ H3.out.2.1
        have h2 : x.L.length = x.rs.length := List.length_map _
        have := HD.out.2.2.1.2
        omega
    · have r6 : (dn : Int) % 6 = 2 := by omega
      have hA := adds_add (due := due) HD.out.1.st HD.out.2.2.2.1 (by have := HD.out.1.len; omega) hd (by omega) (SB.old HP.out.1) (by omega)
      rw [ofNat_i hi3, ← R3.out, ← HP.out.2] at hA
      have HA := hid hA
      clear hA h6
      go_wp2_with fail
      go_region_held3 (fun w' => w'.cell? ⟨w.heap.size, 2, none⟩ = some (.int .u64 (due : Int)) ∧ w'.cell? ⟨w.heap.size, 4, none⟩ = some (.slice pa pl pc)) (go_keep)
        (first
          | (go_at_call 49; with_reducible refine HA.out.mono ?_; rintro e w1 ⟨rfl, hS1, hL1, hl1, hT1, hs0⟩; have HS1 := hid (And.intro hS1 (And.intro hL1 (And.intro hl1 (And.intro hT1 hs0)))); obtain ⟨hb1, q2, q3, q4⟩ := HBox.out StT _ _ HD.out.2.1 hT1 (by unfold StT; decide); have HB1 := hid hb1; clear hS1 hL1 hl1 hT1 hs0 hb1)
          | (go_at_call 35; with_reducible refine (HJ.out _ HS1.out.1.base).mono ?_; rintro e w2 ⟨ja, jc, rfl, hj, hE2⟩; have p2 := hE2.cell q2; have p4 := hE2.cell q4; have H2 := hid (And.intro hj hE2); clear hj hE2)
          | (go_at_call 113; with_reducible refine (HR.out _ _ ((HD.out.1.r.keep HS1.out.2.2.2.1 HS1.out.1.base stT_13).ext' H2.out.2) H2.out.1).mono ?_; rintro e w3 ⟨rfl, x', hR3, hx3, hc3, hT3⟩; obtain ⟨hb3, u2, u3, u4⟩ := HBox.out T13 _ _ (H2.out.2.heap HB1.out) hT3 (by unfold T13; decide); have H3 := hid (And.intro hR3 (And.intro hx3 (And.intro hc3 hT3))); clear hR3 hx3 hc3 hT3 hb3))
      go_wp2_with fail
      go_ret
      refine ⟨rfl, HTK.out _ _ _ HS1.out.2.2.2.1 H2.out.2 H3.out.2.2.2, _, _, HD.out.1.next hil HS1.out.1 H2.out.2 H3.out.1 H3.out.2.2.2 ?_ (fun j hj hne => ?_) HS1.out.2.2.1 ?_ ?_⟩
      · rw [H3.out.2.1, H3.out.2.2.1]; exact HS1.out.2.1
      · exact (HD.out.1.ln j hj).addO HS1.out.2.2.2.2 (ofNat_ne (by rw [HD.out.1.r.len] at hj; exact hj) hi3 hne)
      · rw [H3.out.2.2.1]; have := HD.out.2.2.1.1; omega
      · have h1 := ins_len x'.rs x.L _ H3.out.2.1
        have h2 : x.L.length = x.rs.length := List.length_map _
        have := HD.out.2.2.1.2
        omega
    · have r6 : (dn : Int) % 6 = 3 := by omega
      have hA := set_line (d := due) (n := no) HD.out.1.st HD.out.2.2.2.1 (by have := HD.out.1.len; omega) hd hno (SB.old HP.out.1) (by omega)
      rw [ofNat_i hi3, ← R3.out, ← HP.out.2] at hA
      have HRS : Hid (∀ (w2 : World) (v : Value), R13 w0 w2 bm ls → OB w2 v p → Calls Try.prog 114 #[.pointer (some ⟨bm, i * 2, none⟩), .int .u64 (due : Int), .int .u64 (no : Int), v] w2 fun e w' => e = .returned (.bool (hasIt x.L due no)) ∧ ∃ x', R13 w0 w' bm (ls.set i x') ∧ x'.L = setIt x.L due no p ∧ x'.c = x.c ∧ TK T13 w2 w') := hid (by
        intro w2 v hr ho
        obtain ⟨hD, hbD, hcn, hln, hx, hc⟩ := HD.out
        have := r13Set_c hr hil hd hno ho (by rw [← hx]; exact hln.so)
        rw [← hx] at this
        exact this)
      obtain ⟨hb, hhb⟩ : ∃ hb, hb = hasIt x.L due no := ⟨_, rfl⟩
      rw [← hhb] at hA HRS
      have HA := hid hA
      clear hA h6 HR hhb
      go_wp2_with fail
      go_region_held3 (fun w' => w'.cell? ⟨w.heap.size, 2, none⟩ = some (.int .u64 (due : Int)) ∧ w'.cell? ⟨w.heap.size, 3, none⟩ = some (.int .u64 (no : Int)) ∧ w'.cell? ⟨w.heap.size, 4, none⟩ = some (.slice pa pl pc)) (go_keep)
        (first
          | (go_at_call 58; with_reducible refine HA.out.mono ?_; rintro e w1 ⟨rfl, hS1, hL1, hl1, hT1, hs0⟩; have HS1 := hid (And.intro hS1 (And.intro hL1 (And.intro hl1 (And.intro hT1 hs0)))); obtain ⟨hb1, q2, q3, q4⟩ := HBox.out StT _ _ HD.out.2.1 hT1 (by unfold StT; decide); have HB1 := hid hb1; clear hS1 hL1 hl1 hT1 hs0 hb1)
          | (go_at_call 35; with_reducible refine (HJ.out _ HS1.out.1.base).mono ?_; rintro e w2 ⟨ja, jc, rfl, hj, hE2⟩; have p2 := hE2.cell q2; have p3 := hE2.cell q3; have p4 := hE2.cell q4; have H2 := hid (And.intro hj hE2); clear hj hE2)
          | (go_at_call 114; with_reducible refine (HRS.out _ _ ((HD.out.1.r.keep HS1.out.2.2.2.1 HS1.out.1.base stT_13).ext' H2.out.2) H2.out.1).mono ?_; rintro e w3 ⟨rfl, x', hR3, hx3, hc3, hT3⟩; obtain ⟨hb3, u2, u3, u4⟩ := HBox.out T13 _ _ (H2.out.2.heap HB1.out) hT3 (by unfold T13; decide); have H3 := hid (And.intro hR3 (And.intro hx3 (And.intro hc3 hT3))); clear hR3 hx3 hc3 hT3 hb3))
      go_wp2_with fail
      go_ret
      refine ⟨by cases hb <;> rfl, HTK.out _ _ _ HS1.out.2.2.2.1 H2.out.2 H3.out.2.2.2, _, _, HD.out.1.next hil HS1.out.1 H2.out.2 H3.out.1 H3.out.2.2.2 ?_ (fun j hj hne => ?_) (Nat.le_succ_of_le HS1.out.2.2.1) ?_ ?_⟩
      · rw [H3.out.2.1, H3.out.2.2.1, ← HD.out.2.2.2.2.2]; exact HS1.out.2.1
      · exact (HD.out.1.ln j hj).setO HS1.out.2.2.2.2 (ofNat_ne (by rw [HD.out.1.r.len] at hj; exact hj) hi3 hne)
      · rw [H3.out.2.2.1]; rw [← HD.out.2.2.2.2.2]; have := HD.out.2.2.1.1; omega
      · have h1 := set_len (rs := x'.rs) H3.out.2.1
        have h2 : x.L.length = x.rs.length := List.length_map _
        have := HD.out.2.2.1.2
        omega
    · have r6 : (dn : Int) % 6 = 4 := by omega
      have hA := del_line (d := due) (n := no) HD.out.1.st HD.out.2.2.2.1 (by have := HD.out.1.len; omega) hd hno
      rw [ofNat_i hi3, ← R3.out] at hA
      have HRS : Hid (∀ (w2 : World), R13 w0 w2 bm ls → Calls Try.prog 115 #[.pointer (some ⟨bm, i * 2, none⟩), .int .u64 (due : Int), .int .u64 (no : Int)] w2 fun e w' => e = .returned (.bool (hasIt x.L due no)) ∧ ∃ x', R13 w0 w' bm (ls.set i x') ∧ x'.L = delIt x.L due no ∧ x'.c = x.c ∧ TK T13 w2 w') := hid (by
        intro w2 hr
        obtain ⟨hD, hbD, hcn, hln, hx, hc⟩ := HD.out
        have := r13Remove_c hr hil hd hno (by rw [← hx]; exact hln.so) (by rw [← hx]; omega)
        rw [← hx] at this
        exact this)
      obtain ⟨hb, hhb⟩ : ∃ hb, hb = hasIt x.L due no := ⟨_, rfl⟩
      rw [← hhb] at hA HRS
      have HA := hid hA
      clear hA h6 HR hhb HJ
      go_wp2_with fail
      go_region_held3 (fun w' => w'.cell? ⟨w.heap.size, 2, none⟩ = some (.int .u64 (due : Int)) ∧ w'.cell? ⟨w.heap.size, 3, none⟩ = some (.int .u64 (no : Int))) (go_keep)
        (first
          | (go_at_call 51; with_reducible refine HA.out.mono ?_; rintro e w1 ⟨rfl, hS1, hL1, hl1, hT1, hs0⟩; have HS1 := hid (And.intro hS1 (And.intro hL1 (And.intro hl1 (And.intro hT1 hs0)))); obtain ⟨hb1, q2, q3, q4⟩ := HBox.out StT _ _ HD.out.2.1 hT1 (by unfold StT; decide); have HB1 := hid hb1; clear hS1 hL1 hl1 hT1 hs0 hb1)
          | (go_at_call 115; with_reducible refine (HRS.out _ (HD.out.1.r.keep HS1.out.2.2.2.1 HS1.out.1.base stT_13)).mono ?_; rintro e w3 ⟨rfl, x', hR3, hx3, hc3, hT3⟩; obtain ⟨hb3, u2, u3, u4⟩ := HBox.out T13 _ _ HB1.out hT3 (by unfold T13; decide); have H3 := hid (And.intro hR3 (And.intro hx3 (And.intro hc3 hT3))); clear hR3 hx3 hc3 hT3 hb3))
      go_wp2_with fail
      go_ret
      refine ⟨by cases hb <;> rfl, HTK.out _ _ _ HS1.out.2.2.2.1 (Ext.refl _) H3.out.2.2.2, _, _, HD.out.1.next hil HS1.out.1 (Ext.refl _) H3.out.1 H3.out.2.2.2 ?_ (fun j hj hne => ?_) (Nat.le_succ_of_le HS1.out.2.2.1) ?_ ?_⟩
      · rw [H3.out.2.1, H3.out.2.2.1, ← HD.out.2.2.2.2.2]; exact HS1.out.2.1
      · exact (HD.out.1.ln j hj).delO HS1.out.2.2.2.2 (ofNat_ne (by rw [HD.out.1.r.len] at hj; exact hj) hi3 hne)
      · rw [H3.out.2.2.1]; rw [← HD.out.2.2.2.2.2]; have := HD.out.2.2.1.1; omega
      · have h1 := del_len (rs := x'.rs) H3.out.2.1
        have h2 : x.L.length = x.rs.length := List.length_map _
        have := HD.out.2.2.1.2
        omega
    · have r6 : (dn : Int) % 6 = 5 := by omega
      have hA := del_line (d := due) (n := no) HD.out.1.st HD.out.2.2.2.1 (by have := HD.out.1.len; omega) hd hno
      rw [ofNat_i hi3, ← R3.out] at hA
      have HRS : Hid (∀ (w2 : World), R13 w0 w2 bm ls → Calls Try.prog 115 #[.pointer (some ⟨bm, i * 2, none⟩), .int .u64 (due : Int), .int .u64 (no : Int)] w2 fun e w' => e = .returned (.bool (hasIt x.L due no)) ∧ ∃ x', R13 w0 w' bm (ls.set i x') ∧ x'.L = delIt x.L due no ∧ x'.c = x.c ∧ TK T13 w2 w') := hid (by
        intro w2 hr
        obtain ⟨hD, hbD, hcn, hln, hx, hc⟩ := HD.out
        have := r13Remove_c hr hil hd hno (by rw [← hx]; exact hln.so) (by rw [← hx]; omega)
        rw [← hx] at this
        exact this)
      obtain ⟨hb, hhb⟩ : ∃ hb, hb = hasIt x.L due no := ⟨_, rfl⟩
      rw [← hhb] at hA HRS
      have HA := hid hA
      clear hA h6 HR hhb HJ
      go_wp2_with fail
      go_region_held3 (fun w' => w'.cell? ⟨w.heap.size, 2, none⟩ = some (.int .u64 (due : Int)) ∧ w'.cell? ⟨w.heap.size, 3, none⟩ = some (.int .u64 (no : Int))) (go_keep)
        (first
          | (go_at_call 51; with_reducible refine HA.out.mono ?_; rintro e w1 ⟨rfl, hS1, hL1, hl1, hT1, hs0⟩; have HS1 := hid (And.intro hS1 (And.intro hL1 (And.intro hl1 (And.intro hT1 hs0)))); obtain ⟨hb1, q2, q3, q4⟩ := HBox.out StT _ _ HD.out.2.1 hT1 (by unfold StT; decide); have HB1 := hid hb1; clear hS1 hL1 hl1 hT1 hs0 hb1)
          | (go_at_call 115; with_reducible refine (HRS.out _ (HD.out.1.r.keep HS1.out.2.2.2.1 HS1.out.1.base stT_13)).mono ?_; rintro e w3 ⟨rfl, x', hR3, hx3, hc3, hT3⟩; obtain ⟨hb3, u2, u3, u4⟩ := HBox.out T13 _ _ HB1.out hT3 (by unfold T13; decide); have H3 := hid (And.intro hR3 (And.intro hx3 (And.intro hc3 hT3))); clear hR3 hx3 hc3 hT3 hb3))
      go_wp2_with fail
      go_ret
      refine ⟨by cases hb <;> rfl, HTK.out _ _ _ HS1.out.2.2.2.1 (Ext.refl _) H3.out.2.2.2, _, _, HD.out.1.next hil HS1.out.1 (Ext.refl _) H3.out.1 H3.out.2.2.2 ?_ (fun j hj hne => ?_) (Nat.le_succ_of_le HS1.out.2.2.1) ?_ ?_⟩
      · rw [H3.out.2.1, H3.out.2.2.1, ← HD.out.2.2.2.2.2]; exact HS1.out.2.1
      · exact (HD.out.1.ln j hj).delO HS1.out.2.2.2.2 (ofNat_ne (by rw [HD.out.1.r.len] at hj; exact hj) hi3 hne)
      · rw [H3.out.2.2.1]; rw [← HD.out.2.2.2.2.2]; have := HD.out.2.2.1.1; omega
      · have h1 := del_len (rs := x'.rs) H3.out.2.1
        have h2 : x.L.length = x.rs.length := List.length_map _
        have := HD.out.2.2.1.2
        omega

end Go.Proofs.Ytaidgkdebocenaa
