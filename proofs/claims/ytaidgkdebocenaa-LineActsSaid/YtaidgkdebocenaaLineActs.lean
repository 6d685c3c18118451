/- jointurelaw13.LineActs answers true, and turns nothing that was there.
   No conditions but that the arguments lie in memory. -/
import Derived.Test.YtaidgkdebocenaaDoes13
namespace Go.Proofs.Ytaidgkdebocenaa
open Go Go.RowKit

/-- Deeds that lie in memory, and stay there whatever stores and lines do. -/
def Stays13 (w wx : World) (v : Value) (l : List A13) : Prop :=
  (∃ a c, v = .slice a l.length c ∧ l.length ≤ c ∧ c ≤ 9223372036854775807) ∧ (∀ wr, TK T2 wx wr → Ext w wr → Acts13 wr v l) ∧ (∀ a ∈ l, A13.ok w a ∧ a.p.length ≤ 60) ∧ l.length ≤ 40 ∧ Ext w wx

theorem Stays13.of {w wx : World} {v : Value} {l : List A13} (h : Acts13 w v l) (hf : few13 l = true) (hE : Ext w wx) : Stays13 w wx v l := by
  obtain ⟨h40, hs⟩ := few13_at hf
  exact ⟨ArgV.val h, fun wr _ hEr => h.ext hEr, fun a ha => ⟨h.mem a ha, hs a ha⟩, h40, hE⟩
theorem Stays13.near {w w1 wx : World} {a : Option Addr} {c : Nat} {v : Value} {l : List A13} (h : Acts13 w v l) (hf : few13 l = true) (hE1 : Ext w w1) (ho : wx.ownsRow w1.heap.size 57 5 (.slice a l.length c) l.length ((l.map nearA).flatMap A13.cells)) (hE : Ext w1 wx) : Stays13 w wx (.slice a l.length c) (l.map nearA) := by
  obtain ⟨h40, hs⟩ := few13_at hf
  have hok : ∀ a ∈ l.map nearA, A13.ok w a ∧ a.p.length ≤ 60 := by
    intro a ha
    obtain ⟨b, hb, rfl⟩ := List.mem_map.1 ha
    exact ⟨A13.near_ok (h.mem b hb), hs b hb⟩
  have hl : (l.map nearA).length = l.length := List.length_map _
  refine ⟨?_, fun wr hT hEr => ?_, hok, by rw [hl]; exact h40, hE1.trans hE⟩
  · rw [hl]
    obtain ⟨a', c', hv, h1, h2⟩ := row_len ho
    exact ⟨a', c', hv, h1, h2⟩
  · have := TK.owns hT ho (by unfold T2 StT T13; decide)
    rw [← hl] at this ⊢
    exact ArgV.of_owns A13.cells_len this fun a ha => (A13.ok_ext hEr a (hok a ha).1)

theorem u8_in (z : Nat) (h : z < 256) : IntKind.u8.wrap (z : Int) = (z : Int) := by
  unfold IntKind.wrap
  have e1 : IntKind.u8.bits = 8 := rfl
  have e2 : IntKind.u8.signed = false := rfl
  rw [e1, e2]
  simp only [Bool.false_and, Bool.false_eq_true, if_false]
  omega

def r13new : List RL := [⟨.slice none 0 0, [], 0⟩, ⟨.slice none 0 0, [], 0⟩, ⟨.slice none 0 0, [], 0⟩]

theorem Both13.new {w0 w : World} {b : Nat} (h : St w0 w b []) : Both13 w0 (w.alloc (.cells #[.slice none 0 0, .int .u64 0, .slice none 0 0, .int .u64 0, .slice none 0 0, .int .u64 0] 67)) b w.heap.size 0 [] r13new := by
  have hE : Ext w (w.alloc (.cells #[.slice none 0 0, .int .u64 0, .slice none 0 0, .int .u64 0, .slice none 0 0, .int .u64 0] 67)) := (Ext.refl w).alloc _
  have hx : ∀ x ∈ r13new, x = ⟨.slice none 0 0, [], 0⟩ := by
    intro x hx
    simp only [r13new, List.mem_cons, List.not_mem_nil, or_false, or_self] at hx
    exact hx
  have hi : ∀ i (h : i < r13new.length), r13new[i] = ⟨.slice none 0 0, [], 0⟩ := fun i h => hx _ (List.getElem_mem h)
  refine ⟨h.ext hE, ⟨heap_alloc_new w _, rfl, fun x h => ?_, fun x h r hr => ?_, ?_, h.base.size, h.base.trans hE⟩, fun i h => ?_, Nat.le_refl _, fun i h => ?_⟩
  · rw [hx x h]; exact World.ownsRow_nil _ _ _ _
  · rw [hx x h] at hr; exact nomatch hr
  · rw [List.pairwise_iff_getElem]
    intro i j h1 h2 _ g hg
    rw [hi i h1] at hg
    simp [Value.ownBlock] at hg
  · rw [hi i h]; exact LineOk.new _
  · rw [hi i h]; exact ⟨Nat.le_refl _, Nat.le_refl _⟩

set_option maxRecDepth 100000 in
set_option maxHeartbeats 8000000 in
theorem lineActs_c {w : World} {v : Value} {l : List A13} {small : Bool} (h : Acts13 w v l) :
    Calls Try.prog 12 #[v, .bool small] w fun e w' => e = .returned (.bool true) ∧ Ext w w' := by
  obtain ⟨ao, cap, rfl, hlc, hcm⟩ := ArgV.val h
  have HR := hid (adds13_c w)
  have H := hid h
  clear h
  by_cases hf : few13 l = true
  · have Hf := hid hf
    have h40 := (few13_at hf).1
    clear hf
    go_enter Try.func12, Try.ntmps12
    go_wp2_with fail
    refine HR.out.mono ?_
    rintro e w1 ⟨rfl, hE1⟩
    have hF := few13_c (H.out.ext hE1)
    rw [Hf.out] at hF
    have HF := hid hF
    have HE1 := hid hE1
    clear hE1 hF HR
    go_wp2_with fail
    refine HF.out.mono ?_
    rintro e wx ⟨rfl, rfl⟩
    go_upto_if 17 with fail
    go_cut [0] from 18 to 19 (fun v wx => ∃ l', Stays13 w wx v l')
    case first =>
      cases small with
      | false =>
        go_wp2_with fail
        go_meet
        exact ⟨l, Stays13.of H.out Hf.out HE1.out⟩
      | true =>
        have HN := hid (near13_c (H.out.ext HE1.out) (by omega))
        go_wp2_with fail
        refine HN.out.mono ?_
        rintro e w2 ⟨a, c, rfl, ho, hE2⟩
        have HO := hid (And.intro ho hE2)
        clear ho hE2 HN
        go_wp2_with fail
        go_meet
        exact ⟨_, Stays13.near H.out Hf.out HE1.out HO.out.1 HO.out.2⟩
    case rest =>
      obtain ⟨l', hl'⟩ := hcut
      obtain ⟨⟨a, c, rfl, hlc', hcm'⟩, hst, hok, hl40, hEx⟩ := hl'
      have HSt := hid (And.intro hst hok)
      have HN := hid (St.new (w0 := w) hEx)
      clear hst hok hEx HF
      go_wp2_with fail
      refine HN.out.mono ?_
      rintro e w2 ⟨b, rfl, hS, hE2, -⟩
      have hB := Both13.new hS
      have HB := hid (And.intro hB hE2)
      obtain ⟨bm, hbm⟩ : ∃ bm, bm = w2.heap.size := ⟨_, rfl⟩
      rw [← hbm] at HB
      obtain ⟨W3, hW3⟩ : ∃ W3, W3 = w2.alloc (.cells #[.slice none 0 0, .int .u64 0, .slice none 0 0, .int .u64 0, .slice none 0 0, .int .u64 0] 67) := ⟨_, rfl⟩
      rw [← hW3] at HB
      have HE3 : Hid (Ext w2 W3) := hid (by rw [hW3]; exact (Ext.refl w2).alloc _)
      have HW3 := hid (And.intro hbm hW3)
      clear hS hE2 hB HN hbm hW3
      go_wp2_with fail
      rw [← HW3.out.1, ← HW3.out.2]
      go_loopw [7] (fun j wr => ∃ (k : Nat) (M : List KV) (ls : List RL), k ≤ l'.length ∧ j = .int .i64 k ∧ Both13 w wr b bm k M ls ∧ TK T2 wc wr) (fun j _ => l'.length - (intOf j).toNat)
      case atStart => exact ⟨0, _, _, Nat.zero_le _, rfl, HB.out.1, TK.of_ext (HB.out.2.trans HE3.out)⟩
      case round =>
        obtain ⟨k, M, ls, hk, rfl, hB, hT⟩ := hrel
        have HBr := hid (And.intro hB hT)
        clear hB hT
        by_cases hlt : k < l'.length
        · have hki : (k : Int) < (l'.length : Int) := by omega
          have hA := HSt.out.1 wr HBr.out.2 HBr.out.1.st.base
          obtain ⟨g, off, cap', pa, pc, hv, -, -, -, hpv, hok, c0, c1, c2, c3, c4⟩ := hA.at hlt
          cases hv
          have hw := HSt.out.2 _ (List.getElem_mem hlt)
          have hD := does13_c (d := (l'[k]).d) (κ := (l'[k]).κ) HBr.out.1 (by omega) hw.1.1 hw.1.2.1 hw.1.2.2 (by omega)
          rw [hpv] at hD
          have HD := hid hD
          obtain ⟨d0, hd0⟩ : ∃ d0, d0 = (l'[k]).d.toNat := ⟨_, rfl⟩
          obtain ⟨kk, hkk⟩ : ∃ kk, kk = (l'[k]).κ.toNat := ⟨_, rfl⟩
          obtain ⟨du, hdu⟩ : ∃ du, du = (l'[k]).due := ⟨_, rfl⟩
          obtain ⟨no, hno⟩ : ∃ no, no = (l'[k]).no := ⟨_, rfl⟩
          obtain ⟨pl, hpl⟩ : ∃ pl, pl = (l'[k]).p.length := ⟨_, rfl⟩
          rw [← hd0] at c0 HD
          rw [← hkk] at c1 HD
          rw [← hdu] at c2 HD
          rw [← hno] at c3 HD
          rw [← hpl] at c4 HD
          clear hA hpv hok hw hD hd0 hkk hdu hno hpl
          go_wp2_with fail
          refine HD.out.mono ?_
          rintro e w4 ⟨rfl, hT4, M', ls', hB4⟩
          have H4 := hid (And.intro hB4 (HBr.out.2.trans hT4))
          clear hT4 hB4 HD c0 c1 c2 c3 c4
          go_wp2_with fail
          go_loopw [8] (fun q wr2 => ∃ z : Nat, z ≤ 3 ∧ q = .int .i64 z ∧ Ext w4 wr2) (fun q _ => 3 - (intOf q).toNat)
          case atStart => exact ⟨0, Nat.zero_le _, rfl, Ext.refl _⟩
          case round =>
            obtain ⟨z, hz, rfl, hEr⟩ := hrel
            by_cases hz3 : z < 3
            · have hzi : (z : Int) < 3 := by omega
              have hz0 : (0 : Int) ≤ (z : Int) := by omega
              have hBz := H4.out.1.ext hEr
              have hzl : z < ls'.length := by rw [hBz.r.len]; exact hz3
              obtain ⟨s0, -, -, -⟩ := hBz.r.cells hzl
              have hrow := hBz.r.row _ (List.getElem_mem hzl)
              have hby := hBz.r.byt _ (List.getElem_mem hzl)
              have hln := hBz.ln z hzl
              obtain ⟨x, hx⟩ : ∃ x, x = ls'[z] := ⟨_, rfl⟩
              rw [← hx] at s0 hrow hby hln
              obtain ⟨la, lc, hlv, -, -⟩ := row_len hrow
              rw [hlv] at s0 hrow
              have hRI : RI wr (.slice la x.rs.length lc) x.rs := ⟨owns_base hrow (Nat.zero_le _), fun r hr => BV.of_owns (hby r hr)⟩
              have hm := hBz.len
              have hxL : x.L.length ≤ 1000 := by
                have := (hBz.cnt z hzl).2
                rw [← hx] at this
                simp only [RL.L, List.length_map]; omega
              have hAll := lineAll_c (hBz.st.ext (Ext.drewOne wr)) (by omega) hln.sub hln.ok
              rw [ofNat_i hz3] at hAll
              rw [← u8_in z (by omega)] at hAll
              have HAll := hid hAll
              have HI := hid (fun (w' : World) (base : Nat) (v : Value) (rs : List IV) (h : Items w' base v rs) (he : rs.map IV.it = x.L) => items_c h (by have := congrArg List.length he; rw [List.length_map] at this; omega))
              have HS := hid (fun (w' : World) (v : Value) (rs : List IV) (h : RI w' v rs) (hb : RI w' (.slice la x.rs.length lc) x.rs) (he : rs.map IV.it = x.L) => r13Same_c h hb he)
              have HRI := hid hRI
              obtain ⟨xl, hxl⟩ : ∃ xl, xl = x.rs.length := ⟨_, rfl⟩
              rw [← hxl] at s0 HRI HS
              have HEr := hid hEr
              clear hBz hrow hby hln hx hlv hRI hm hxL hAll hxl hEr hzl
              go_wp2_with fail
              go_region_held3 (fun w' => w'.cell? ⟨bm, z * 2, none⟩ = some (.slice la xl lc)) (go_keep)
                (first
                  | (go_at_call 50; (with_reducible refine HAll.out.mono ?_); rintro e wA ⟨v1, rs1, rfl, hI1, hm1, hEA⟩; have p0 := hEA.cell s0; have HA1 := hid (And.intro hI1 (And.intro hm1 hEA)); clear hI1 hm1 hEA)
                  | (go_at_call 55; (with_reducible refine (HI.out _ _ _ _ HA1.out.1 HA1.out.2.1).mono ?_); rintro e wB ⟨v2, rfl, hR2, hEB⟩; have p1 := hEB.cell p0; have HB1 := hid (And.intro hR2 hEB); clear hR2 hEB)
                  | (go_at_call 54; (with_reducible refine (HS.out _ _ _ HB1.out.1 (HRI.out.ext (((Ext.drewOne wr).trans HA1.out.2.2).trans HB1.out.2)) HA1.out.2.1).mono ?_); rintro e wC ⟨rfl, hEC⟩; have p2 := hEC.cell p1; have HC1 := hid hEC; clear hEC))
              go_wp2_with fail
              exact ⟨⟨z + 1, by omega, by go_num, HEr.out.trans ((((Ext.drewOne wr).trans HA1.out.2.2).trans HB1.out.2).trans HC1.out)⟩, by simp [intOf]; omega⟩
            · have hzi : ¬ (z : Int) < 3 := by omega
              have HEr := hid hEr
              clear hEr
              go_wp2_with fail
              exact ⟨⟨k + 1, M', ls', hlt, by go_num, H4.out.1.ext HEr.out, H4.out.2.ext HEr.out⟩, by simp [intOf]; omega⟩
        · obtain rfl : k = l'.length := by omega
          have HE := hid HBr.out.1.st.base
          go_wp2_with fail
          go_ret
          exact ⟨rfl, HE.out⟩
  · have hf' : few13 l = false := by simpa using hf
    have Hf := hid hf'
    clear hf hf'
    go_enter Try.func12, Try.ntmps12
    go_wp2_with fail
    refine HR.out.mono ?_
    rintro e w1 ⟨rfl, hE1⟩
    have hF := few13_c (H.out.ext hE1)
    rw [Hf.out] at hF
    have HF := hid hF
    have HR1 := hid (adds13_c w1)
    have HE1 := hid hE1
    clear hE1 hF HR
    go_wp2_with fail
    refine HF.out.mono ?_
    rintro e wx ⟨rfl, rfl⟩
    go_wp2_with fail
    refine HR1.out.mono ?_
    rintro e w2 ⟨rfl, hE2⟩
    have HE2 := hid hE2
    clear hE2 HR1
    go_wp2_with fail
    go_ret
    exact ⟨rfl, HE1.out.trans HE2.out⟩

end Go.Proofs.Ytaidgkdebocenaa
