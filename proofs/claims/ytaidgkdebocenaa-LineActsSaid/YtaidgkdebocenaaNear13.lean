/- jointurelaw13.near: the same deeds, with small times and numbers.
   Conditions: at most a thousand deeds. -/
import Derived.Test.YtaidgkdebocenaaArg13
namespace Go.Proofs.Ytaidgkdebocenaa
open Go Go.RowKit

theorem ArgV.of_owns {α : Type} {f : α → List Value} {s : Nat} {R : World → α → Prop} (hf : ∀ a, (f a).length = s) {w : World} {base : Nat} {e : TypeId} {v : Value} {l : List α} (h : w.ownsRow base e s v l.length (l.flatMap f)) (hR : ∀ a ∈ l, R w a) : ArgV f s R w v l := by
  rcases h.2 with ⟨rfl, h0⟩ | ⟨g, cap, cur, rfl, hb, hg, hn, hc, hsz, ht⟩
  · have : l = [] := List.eq_nil_of_length_eq_zero h0
    subst this
    exact ⟨none, 0, rfl, Nat.le_refl _, Nat.zero_le _, .inl rfl, hR⟩
  · refine ⟨_, cap, rfl, hn, hc, .inr ⟨g, 0, rfl, lt_of_heap hg, fun i hi j hj => ?_⟩, hR⟩
    obtain ⟨g', cap', hv, -, -, -, -, hcell⟩ := rowCell hf h hi
    cases hv
    rw [Nat.zero_add]
    exact (hcell j hj).1

theorem A13.near_ok {w : World} {a : A13} (h : A13.ok w a) : A13.ok w { a with due := a.due % 5, no := a.no % 9 } := ⟨h.1, Nat.lt_of_le_of_lt (Nat.mod_le _ _) h.2.1, Nat.lt_of_le_of_lt (Nat.mod_le _ _) h.2.2⟩

def nearA (a : A13) : A13 := { a with due := a.due % 5, no := a.no % 9 }

theorem infoAct13 : (Try.prog.info? 57).map (fun i => (i.zero, i.size, i.bytes)) = some (some (.agg #[.int .u8 0, .int .u8 0, .int .u64 0, .int .u64 0, .slice none 0 0]), 5, 48) := by kernel_rfl

def NearPost (w : World) (l : List A13) (e : Ending) (w' : World) : Prop := ∃ a c, e = .returned (.slice a l.length c) ∧ w'.ownsRow w.heap.size 57 5 (.slice a l.length c) l.length ((l.map nearA).flatMap A13.cells) ∧ Ext w w'

set_option maxRecDepth 100000 in
set_option maxHeartbeats 2000000 in
theorem near13_c {w : World} {v : Value} {l : List A13} (h : Acts13 w v l) (hlen : l.length ≤ 1000) :
    Calls Try.prog 52 #[v] w (NearPost w l) := by
  obtain ⟨ao, cap, rfl, hlc, hcm⟩ := ArgV.val h
  have H := hid h
  clear h
  go_enter Try.func52, Try.ntmps52
  go_wp2_with fail
  go_loopw [3, 4] (fun o j wr => ∃ k : Nat, k ≤ l.length ∧ j = .int .i64 k ∧ ((l.map nearA).take k).length = k ∧ wr.ownsRow w.heap.size 57 5 o k (((l.map nearA).take k).flatMap A13.cells) ∧ Ext w wr) (fun _ j _ => l.length - (intOf j).toNat)
  case atStart => exact ⟨0, Nat.zero_le _, rfl, rfl, World.ownsRow_nil _ _ _ _, Ext.refl _⟩
  case round =>
    obtain ⟨k, hk, rfl, hl, hown, hEr⟩ := hrel
    obtain ⟨oa, oc, rfl⟩ := owns_slice hown
    have HO := hid (And.intro hl (And.intro hown hEr))
    clear hl hown hEr
    by_cases hlt : k < l.length
    · have hki : (k : Int) < (l.length : Int) := by omega
      obtain ⟨g, off, cap', pa, pc, hv, -, -, -, hpv, hok, c0, c1, c2, c3, c4⟩ := (H.out.ext HO.out.2.2).at hlt
      cases hv
      have hkn : k < (l.map nearA).length := by rw [List.length_map]; exact hlt
      have hcs : A13.cells ((l.map nearA)[k]) = [.int .u8 ((l[k]).d.toNat : Int), .int .u8 ((l[k]).κ.toNat : Int), .int .u64 ((l[k]).due % 5 : Int), .int .u64 ((l[k]).no % 9 : Int), .slice pa (l[k]).p.length pc] := by
        rw [List.getElem_map]
        simp only [A13.cells, nearA, hpv]
        simp
      have hok2 := hok.2
      obtain ⟨d0, hd0⟩ : ∃ d0, d0 = (l[k]).d.toNat := ⟨_, rfl⟩
      obtain ⟨kk, hkk⟩ : ∃ kk, kk = (l[k]).κ.toNat := ⟨_, rfl⟩
      obtain ⟨du, hdu⟩ : ∃ du, du = (l[k]).due := ⟨_, rfl⟩
      obtain ⟨no, hno⟩ : ∃ no, no = (l[k]).no := ⟨_, rfl⟩
      obtain ⟨pl, hpl⟩ : ∃ pl, pl = (l[k]).p.length := ⟨_, rfl⟩
      rw [← hd0] at c0 hcs
      rw [← hkk] at c1 hcs
      rw [← hdu] at c2 hcs hok2
      rw [← hno] at c3 hcs hok2
      rw [← hpl] at c4 hcs
      have hdi : (du : Int) < 18446744073709551616 := by have := hok2.1; unfold W64 at this; omega
      have hni : (no : Int) < 18446744073709551616 := by have := hok2.2; unfold W64 at this; omega
      obtain ⟨wr1, hwr1⟩ : ∃ wr1, wr1 = wr.alloc (.cells #[.int .u8 (d0 : Int), .int .u8 (kk : Int), .int .u64 ((du : Int) % 5), .int .u64 ((no : Int) % 9), .slice pa pl pc] 57) := ⟨_, rfl⟩
      have hE1 : Ext wr wr1 := by rw [hwr1]; exact (Ext.refl wr).alloc _
      obtain ⟨oa', oc', w6, hrun, hlen6, hown6, hE6, -⟩ := rowApp (f := A13.cells) (wr := wr1) (l := (l.map nearA).take k) (x := (l.map nearA)[k]) (cs := [.int .u8 (d0 : Int), .int .u8 (kk : Int), .int .u64 ((du : Int) % 5), .int .u64 ((no : Int) % 9), .slice pa pl pc]) Try.underlying52 infoAct13 rfl (by decide) (by decide) (HO.out.2.2.trans hE1) HO.out.1 (Keeps.ownsRow hE1 HO.out.2.1 fun _ _ c => c) hcs rfl (by simp [Value.oneCell']) (by omega)
      rw [← List.take_succ_eq_append_getElem hkn] at hlen6 hown6
      rw [hwr1] at hrun
      have H6 := hid (And.intro hlen6 (And.intro hown6 hE6))
      clear hpv hok hok2 hkn hcs hd0 hkk hdu hno hpl hlen6 hown6 hE6 hE1 hwr1
      simp only [World.size_alloc] at hrun
      go_wp2_with fail
      exact ⟨⟨k + 1, hlt, by go_num, H6.out.1, H6.out.2.1, H6.out.2.2⟩, by simp [intOf]; omega⟩
    · obtain rfl : k = l.length := by omega
      have hO := HO.out
      rw [List.take_of_length_le (by rw [List.length_map]; omega)] at hO
      have HO2 := hid hO
      clear HO hO
      go_wp2_with fail
      go_ret
      exact ⟨oa, oc, rfl, HO2.out.2.1, HO2.out.2.2⟩

end Go.Proofs.Ytaidgkdebocenaa
