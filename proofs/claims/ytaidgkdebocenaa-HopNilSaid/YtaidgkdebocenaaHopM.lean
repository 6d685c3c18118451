/- hop: the state of a store that holds entries and hops, and what each function makes of it.
   Conditions: at most 1000 deeds. · law14's example.
   No conditions. -/
import Derived.Test.YtaidgkdebocenaaHopC
import Derived.Test.YtaidgkdebocenaaIns

namespace Go.Proofs.Ytaidgkdebocenaa
open Go Go.RowKit

def insE (es : List En) (e : En) : List En := insBy (fun x => decide (e.due < x.due)) e es
def atE (e x : En) : Bool := decide (x.due = e.due ∧ x.no = e.no)
def hasE (es : List En) (e : En) : Bool := es.any (atE e)
def editE (es : List En) (e : En) : List En := es.map fun x => if atE e x = true then e else x
def dropE (es : List En) (e : En) : List En := es.filter fun x => !(atE e x)
def insH (es : List Hp) (e : Hp) : List Hp := insBy (fun x => decide (e.due < x.due)) e es
def atH (e x : Hp) : Bool := decide (x.due = e.due ∧ x.no = e.no)
def hasH (es : List Hp) (e : Hp) : Bool := es.any (atH e)
def dropH (es : List Hp) (e : Hp) : List Hp := es.filter fun x => !(atH e x)

theorem insE_it (es : List En) (e : En) (c : Nat) : (insE es { e with no := c }).map En.it = insIt (es.map En.it) ⟨e.due, c, e.bs⟩ := by
  rw [insIt_by]
  exact insBy_map En.it (p := fun x => decide (e.due < x.due)) (q := fun z => decide (e.due < z.due)) (fun _ => rfl) _ es
theorem insH_it (es : List Hp) (e : Hp) (c : Nat) : (insH es { e with no := c }).map Hp.it = insIt (es.map Hp.it) ⟨e.due, c, e.bs⟩ := by
  rw [insIt_by]
  exact insBy_map Hp.it (p := fun x => decide (e.due < x.due)) (q := fun z => decide (e.due < z.due)) (fun _ => rfl) _ es
theorem hasE_it (es : List En) (e : En) : hasIt (es.map En.it) e.due e.no = hasE es e := by
  unfold hasIt hasE
  rw [List.any_map]
  rfl
theorem hasH_it (es : List Hp) (e : Hp) : hasIt (es.map Hp.it) e.due e.no = hasH es e := by
  unfold hasIt hasH
  rw [List.any_map]
  rfl
theorem editE_it (es : List En) (e : En) : (editE es e).map En.it = setIt (es.map En.it) e.due e.no e.bs := by
  unfold editE setIt
  rw [List.map_map, List.map_map]
  refine List.map_congr_left fun x _ => ?_
  show (if atE e x = true then e else x).it = if atE e x = true then { x.it with p := e.bs } else x.it
  by_cases h : atE e x = true
  · rw [if_pos h, if_pos h]
    unfold atE at h
    rw [decide_eq_true_eq] at h
    unfold En.it
    rw [h.1, h.2]
  · rw [if_neg h, if_neg h]
theorem dropE_it (es : List En) (e : En) : (dropE es e).map En.it = delIt (es.map En.it) e.due e.no := by
  unfold dropE delIt
  rw [List.filter_map]
  rfl
theorem dropH_it (es : List Hp) (e : Hp) : (dropH es e).map Hp.it = delIt (es.map Hp.it) e.due e.no := by
  unfold dropH delIt
  rw [List.filter_map]
  rfl

/-- A store that holds es and hs, after at most n deeds. -/
structure HState (w0 w : World) (b : Nat) (es : List En) (ce : Nat) (hs : List Hp) (ch n : Nat) : Prop where
  ex : ∃ M, St w0 w b M ∧ LineOk M 101 (es.map En.it) ce ∧ LineOk M 104 (hs.map Hp.it) ch ∧ M.length ≤ 2 * n
  eok : ∀ e ∈ es, e.Ok
  hok : ∀ e ∈ hs, e.Ok
  ce : ce ≤ n
  ch : ch ≤ n
  el : es.length ≤ n
  hl : hs.length ≤ n

theorem HState.ext {w0 w w' : World} {b ce ch n : Nat} {es : List En} {hs : List Hp} (h : HState w0 w b es ce hs ch n) (hE : Ext w w') : HState w0 w' b es ce hs ch n := by
  obtain ⟨M, h1, h2⟩ := h.ex
  exact ⟨⟨M, h1.ext hE, h2⟩, h.eok, h.hok, h.ce, h.ch, h.el, h.hl⟩
theorem HState.keep {T : TypeId → Prop} {w0 w w' : World} {b ce ch n : Nat} {es : List En} {hs : List Hp} (h : HState w0 w b es ce hs ch n) (hk : TK T w w') (hE : Ext w0 w') (hT : ∀ t, T t → ¬ StT t ∧ t ≠ 5) : HState w0 w' b es ce hs ch n := by
  obtain ⟨M, h1, h2⟩ := h.ex
  exact ⟨⟨M, h1.keep hk hE hT, h2⟩, h.eok, h.hok, h.ce, h.ch, h.el, h.hl⟩
theorem HState.base {w0 w : World} {b ce ch n : Nat} {es : List En} {hs : List Hp} (h : HState w0 w b es ce hs ch n) : Ext w0 w := by
  obtain ⟨M, h1, h2⟩ := h.ex
  exact h1.base
theorem HState.new {w0 w : World} {b : Nat} (h : St w0 w b []) : HState w0 w b [] 0 [] 0 0 :=
  ⟨⟨[], h, LineOk.new 101, LineOk.new 104, Nat.le_refl _⟩, (fun _ h => nomatch h), (fun _ h => nomatch h), Nat.le_refl _, Nat.le_refl _, Nat.le_refl _, Nat.le_refl _⟩

section
variable {w0 w : World} {b ce ch n : Nat} {es : List En} {hs : List Hp}

theorem HState.leave (h : HState w0 w b es ce hs ch n) (e : En) (hn : n ≤ 1000) (he : e.Ok) :
    Calls Try.prog 59 #[.pointer (some ⟨b, 0, none⟩), e.V] w fun x w' => x = .returned (.int .u64 ((ce + 1 : Nat) : Int)) ∧ HState w0 w' b (insE es { e with no := ce + 1 }) (ce + 1) hs ch (n + 1) ∧ TK StT w w' := by
  obtain ⟨M, h1, h2, h3, h4⟩ := h.ex
  have hc := h.ce
  refine (hopLeave_c e h1 h2 (by omega) (by omega) he).mono ?_
  rintro x w' ⟨rfl, hS, hL, hm, hT, hso⟩
  rw [← insE_it] at hL
  have ho := h3.addO (κ := 101) (c := ce) (due := e.due) (p := e.bs) hso (by decide)
  refine ⟨rfl, ⟨⟨_, hS, hL, ho, by omega⟩, fun y hy => ?_, h.hok, by omega, Nat.le_succ_of_le h.ch, ?_, Nat.le_succ_of_le h.hl⟩, hT⟩
  · rcases insBy_mem hy with rfl | hy
    · exact ⟨by show ce + 1 < _; omega, he.2⟩
    · exact h.eok _ hy
  · have := insBy_length (fun x : En => decide (e.due < x.due)) { e with no := ce + 1 } es
    have h5 := h.el
    show (insBy _ _ _).length ≤ _
    rw [this]; omega
theorem HState.jump (h : HState w0 w b es ce hs ch n) (e : Hp) (hn : n ≤ 1000) (he : e.Ok) :
    Calls Try.prog 60 #[.pointer (some ⟨b, 0, none⟩), e.V] w fun x w' => x = .returned (.int .u64 ((ch + 1 : Nat) : Int)) ∧ HState w0 w' b es ce (insH hs { e with no := ch + 1 }) (ch + 1) (n + 1) ∧ TK StT w w' := by
  obtain ⟨M, h1, h2, h3, h4⟩ := h.ex
  have hc := h.ch
  refine (hopJump_c e h1 h3 (by omega) (by omega) he).mono ?_
  rintro x w' ⟨rfl, hS, hL, hm, hT, hso⟩
  rw [← insH_it] at hL
  have ho := h2.addO (κ := 104) (c := ch) (due := e.due) (p := e.bs) hso (by decide)
  refine ⟨rfl, ⟨⟨_, hS, ho, hL, by omega⟩, h.eok, fun y hy => ?_, Nat.le_succ_of_le h.ce, by omega, Nat.le_succ_of_le h.el, ?_⟩, hT⟩
  · rcases insBy_mem hy with rfl | hy
    · exact ⟨by show ch + 1 < _; omega, he.2⟩
    · exact h.hok _ hy
  · have := insBy_length (fun x : Hp => decide (e.due < x.due)) { e with no := ch + 1 } hs
    have h5 := h.hl
    show (insBy _ _ _).length ≤ _
    rw [this]; omega
theorem HState.edit (h : HState w0 w b es ce hs ch n) (e : En) (hn : n ≤ 1000) (he : e.Ok) :
    Calls Try.prog 74 #[.pointer (some ⟨b, 0, none⟩), e.V] w fun x w' => x = .returned (.bool (hasE es e)) ∧ HState w0 w' b (editE es e) ce hs ch (n + 1) ∧ TK StT w w' := by
  obtain ⟨M, h1, h2, h3, h4⟩ := h.ex
  refine (hopSetEntry_c e h1 h2 (by omega) he).mono ?_
  rintro x w' ⟨rfl, hS, hL, hm, hT, hso⟩
  rw [← editE_it] at hL
  have ho := h3.setO (κ := 101) (d := e.due) (n := e.no) (p := e.bs) hso (by decide)
  refine ⟨by rw [hasE_it], ⟨⟨_, hS, hL, ho, by omega⟩, fun y hy => ?_, h.hok, Nat.le_succ_of_le h.ce, Nat.le_succ_of_le h.ch, ?_, Nat.le_succ_of_le h.hl⟩, hT⟩
  · obtain ⟨z, hz, hzy⟩ := List.mem_map.1 hy
    by_cases ha : atE e z = true
    · rw [if_pos ha] at hzy; rw [← hzy]; exact he
    · rw [if_neg ha] at hzy; rw [← hzy]; exact h.eok _ hz
  · unfold editE; rw [List.length_map]; exact Nat.le_succ_of_le h.el
theorem HState.drop (h : HState w0 w b es ce hs ch n) (e : En) (hn : n ≤ 1000) (he : e.Ok) :
    Calls Try.prog 75 #[.pointer (some ⟨b, 0, none⟩), e.V] w fun x w' => x = .returned (.bool (hasE es e)) ∧ HState w0 w' b (dropE es e) ce hs ch (n + 1) ∧ TK StT w w' := by
  obtain ⟨M, h1, h2, h3, h4⟩ := h.ex
  refine (hopDropEntry_c e h1 h2 (by omega) he).mono ?_
  rintro x w' ⟨rfl, hS, hL, hm, hT, hso⟩
  rw [← dropE_it] at hL
  have ho := h3.delO (κ := 101) (d := e.due) (n := e.no) hso (by decide)
  have hle : (dropE es e).length ≤ es.length := List.length_filter_le _ _
  have := h.el
  exact ⟨by rw [hasE_it], ⟨⟨_, hS, hL, ho, by omega⟩, fun y hy => h.eok _ (List.mem_filter.1 hy).1, h.hok, Nat.le_succ_of_le h.ce, Nat.le_succ_of_le h.ch, by omega, Nat.le_succ_of_le h.hl⟩, hT⟩
theorem HState.dropH (h : HState w0 w b es ce hs ch n) (e : Hp) (hn : n ≤ 1000) (he : e.Ok) :
    Calls Try.prog 76 #[.pointer (some ⟨b, 0, none⟩), e.V] w fun x w' => x = .returned (.bool (hasH hs e)) ∧ HState w0 w' b es ce (dropH hs e) ch (n + 1) ∧ TK StT w w' := by
  obtain ⟨M, h1, h2, h3, h4⟩ := h.ex
  refine (hopDropHop_c e h1 h3 (by omega) he).mono ?_
  rintro x w' ⟨rfl, hS, hL, hm, hT, hso⟩
  rw [← dropH_it] at hL
  have ho := h2.delO (κ := 104) (d := e.due) (n := e.no) hso (by decide)
  have hle : (Go.Proofs.Ytaidgkdebocenaa.dropH hs e).length ≤ hs.length := List.length_filter_le _ _
  have := h.hl
  exact ⟨by rw [hasH_it], ⟨⟨_, hS, ho, hL, by omega⟩, h.eok, fun y hy => h.hok _ (List.mem_filter.1 hy).1, Nat.le_succ_of_le h.ce, Nat.le_succ_of_le h.ch, Nat.le_succ_of_le h.el, by omega⟩, hT⟩
theorem HState.entries (h : HState w0 w b es ce hs ch n) (hn : n ≤ 1000) : Calls Try.prog 61 #[.pointer (some ⟨b, 0, none⟩)] w (EnsPost w es) := by
  obtain ⟨M, h1, h2, h3, h4⟩ := h.ex
  have := h.el
  exact hopEntries_c h1 h2 (by omega) h.eok (by omega)
theorem HState.hops (h : HState w0 w b es ce hs ch n) (hn : n ≤ 1000) : Calls Try.prog 62 #[.pointer (some ⟨b, 0, none⟩)] w (HpsPost w hs) := by
  obtain ⟨M, h1, h2, h3, h4⟩ := h.ex
  have := h.hl
  exact hopHops_c h1 h3 (by omega) h.hok (by omega)
theorem HState.leaving (h : HState w0 w b es ce hs ch n) (hn : n ≤ 1000) (o v : UInt8) :
    Calls Try.prog 68 #[.pointer (some ⟨b, 0, none⟩), .int .u8 (o.toNat : Int), .int .u8 (v.toNat : Int)] w fun x w' => x = .returned (.int .i64 ((es.countP (isLeaving o v) : Nat) : Int)) ∧ Ext w w' := by
  obtain ⟨M, h1, h2, h3, h4⟩ := h.ex
  have := h.el
  exact hopLeaving_of o v (fun w' hE => hopEntries_c (h1.ext hE) h2 (by omega) h.eok (by omega)) (by omega)
theorem HState.jumping (h : HState w0 w b es ce hs ch n) (hn : n ≤ 1000) (o f t : UInt8) :
    Calls Try.prog 70 #[.pointer (some ⟨b, 0, none⟩), .int .u8 (o.toNat : Int), .int .u8 (f.toNat : Int), .int .u8 (t.toNat : Int)] w fun x w' => x = .returned (.int .i64 ((hs.countP (isJumping o f t) : Nat) : Int)) ∧ Ext w w' := by
  obtain ⟨M, h1, h2, h3, h4⟩ := h.ex
  have := h.hl
  exact hopJumping_of o f t (fun w' hE => hopHops_c (h1.ext hE) h3 (by omega) h.hok (by omega)) (by omega)
theorem HState.came (h : HState w0 w b es ce hs ch n) (hn : n ≤ 1000) (o t : UInt8) (now : Nat) :
    Calls Try.prog 72 #[.pointer (some ⟨b, 0, none⟩), .int .u8 (o.toNat : Int), .int .u8 (t.toNat : Int), .int .u64 (now : Int)] w fun x w' => x = .returned (.bool (hs.any (isCame o t now))) ∧ Ext w w' := by
  obtain ⟨M, h1, h2, h3, h4⟩ := h.ex
  have := h.hl
  exact hopCame_of o t now (fun w' hE => hopHops_c (h1.ext hE) h3 (by omega) h.hok (by omega)) (by omega)
end

end Go.Proofs.Ytaidgkdebocenaa

namespace Go.Proofs.Ytaidgkdebocenaa
open Go Go.RowKit

def eA : En := ⟨0, 0, 0, 0, 3, 0, 0⟩
def eB : En := ⟨0, 5, 0, 0, 3, 0, 0⟩
def eB2 : En := ⟨2, 5, 0, 0, 3, 0, 0⟩
def eD : En := ⟨1, 0, 0, 0, 3, 0, 0⟩
def hA : Hp := ⟨0, 0, 0, 0, 0, 9, 0, 0⟩
theorem eA_V : eA.V = .agg #[.int .u64 0, .int .u8 0, .int .u8 0, .int .u64 0, .int .u64 3, .int .u64 0, .int .u64 0, .int .u64 0, .int .u64 0, .int .u64 0, .int .u64 0, .int .u64 0, .int .u64 0] := by simp [En.V, En.cells, limb, eA]
theorem eB_V : eB.V = .agg #[.int .u64 0, .int .u8 5, .int .u8 0, .int .u64 0, .int .u64 3, .int .u64 0, .int .u64 0, .int .u64 0, .int .u64 0, .int .u64 0, .int .u64 0, .int .u64 0, .int .u64 0] := by simp [En.V, En.cells, limb, eB]
theorem eD_V : eD.V = .agg #[.int .u64 1, .int .u8 0, .int .u8 0, .int .u64 0, .int .u64 3, .int .u64 0, .int .u64 0, .int .u64 0, .int .u64 0, .int .u64 0, .int .u64 0, .int .u64 0, .int .u64 0] := by simp [En.V, En.cells, limb, eD]
theorem hA_V : hA.V = .agg #[.int .u64 0, .int .u8 0, .int .u8 0, .int .u8 0, .int .u64 0, .int .u64 9, .int .u64 0, .int .u64 0, .int .u64 0, .int .u64 0, .int .u64 0, .int .u64 0, .int .u64 0, .int .u64 0] := by simp [Hp.V, Hp.cells, limb, hA]
theorem eA_ok : eA.Ok := by simp [En.Ok, eA]
theorem eB_ok : eB.Ok := by simp [En.Ok, eB]
theorem eB2_ok : eB2.Ok := by simp [En.Ok, eB2]
theorem eD_ok : eD.Ok := by simp [En.Ok, eD]
theorem hA_ok : hA.Ok := by simp [Hp.Ok, hA]

theorem leaves_1 : insE [] { eA with no := 0 + 1 } = [eD] := rfl
theorem leaves_2 : insE [eD] { eB with no := 0 + 1 + 1 } = [eD, eB2] := rfl
theorem leaves_3 : hasE [eD, eB2] eD = true := rfl
theorem leaves_4 : dropE [eD, eB2] eD = [eB2] := rfl
theorem leaves_5 : ([eB2].countP (isLeaving 5 0)) = 1 := rfl

set_option maxRecDepth 100000 in
set_option maxHeartbeats 4000000 in
theorem leaves_c (w : World) : Calls Try.prog 63 #[] w fun e w' => e = .returned (.bool true) ∧ Ext w w' := by
  have HN := hid (St.new (Ext.refl w))
  go_enter Try.func63, Try.ntmps63
  go_wp2_with fail
  refine HN.out.mono ?_
  rintro e w1 ⟨b, rfl, hS, -, -⟩
  have h1 := (HState.new hS).leave eA (by decide) eA_ok
  rw [eA_V, leaves_1] at h1
  have H1 := hid h1
  clear h1 hS HN
  go_wp2_with fail
  refine H1.out.mono ?_
  rintro x w2 ⟨rfl, hS2, -⟩
  have h2 := hS2.leave eB (by decide) eB_ok
  rw [eB_V, leaves_2] at h2
  have H2 := hid h2
  clear h2 hS2 H1
  go_wp2_with fail
  refine H2.out.mono ?_
  rintro x w3 ⟨rfl, hS3, -⟩
  have h3 := hS3.drop eD (by decide) eD_ok
  rw [eD_V, leaves_3, leaves_4] at h3
  have H3 := hid h3
  clear h3 hS3 H2
  go_wp2_with fail
  refine H3.out.mono ?_
  rintro x w4 ⟨rfl, hS4, -⟩
  have H4 := hid (hS4.entries (by decide))
  have HS := hid hS4
  clear hS4 H3
  go_wp2_with fail
  refine H4.out.mono ?_
  rintro x w5 ⟨oa, oc, rfl, hown, hE5⟩
  have hown' := hown
  obtain ⟨g, cap, hv, -, -, -, hgl, hcell⟩ := rowCell (i := 0) En.cells_len hown' (by decide)
  cases hv
  have c0 : w5.cell? ⟨g, 0, none⟩ = some (.int .u64 2) := (hcell 0 (by decide)).1
  have c1 : w5.cell? ⟨g, 1, none⟩ = some (.int .u8 5) := (hcell 1 (by decide)).1
  have h5 := (HS.out.ext hE5).leaving (by decide) 5 0
  rw [leaves_5] at h5
  have H5 := hid h5
  have HS5 := hid (HS.out.ext hE5)
  clear hown hown' hE5 hcell H4 h5
  go_wp2_with fail
  refine H5.out.mono ?_
  rintro x w6 ⟨rfl, hE6⟩
  have h6 := (HS5.out.ext hE6).jump hA (by decide) hA_ok
  rw [hA_V] at h6
  have H6 := hid h6
  clear h6 hE6 H5
  go_wp2_with fail
  refine H6.out.mono ?_
  rintro x w7 ⟨rfl, hS7, -⟩
  have HS7 := hid hS7.base
  clear hS7 H6
  go_wp2_with fail
  go_ret
  exact ⟨rfl, HS7.out⟩

end Go.Proofs.Ytaidgkdebocenaa
