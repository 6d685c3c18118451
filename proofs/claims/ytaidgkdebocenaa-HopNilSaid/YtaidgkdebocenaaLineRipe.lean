/- line.Ripe over a store of plain pairs.
   Conditions: at most 9000 pairs. -/
import Derived.Test.YtaidgkdebocenaaLineAll
namespace Go.Proofs.Ytaidgkdebocenaa
open Go Go.RowKit

theorem takeWhile_at {α : Type} (p : α → Bool) : ∀ (l : List α) (k : Nat) (h : k < l.length), (l.take k).all p = true → p (l[k]) = false → l.takeWhile p = l.take k
  | [], k, h, _, _ => by simp at h
  | a :: l, 0, _, _, h2 => by rw [List.takeWhile_cons, if_neg (by simpa using h2)]; rfl
  | a :: l, k + 1, h, h1, h2 => by
    rw [List.take_succ_cons, List.all_cons, Bool.and_eq_true] at h1
    rw [List.takeWhile_cons, if_pos h1.1, takeWhile_at p l k (by simpa using h) h1.2 h2]
    rfl
theorem takeWhile_all {α : Type} (p : α → Bool) : ∀ (l : List α), l.all p = true → l.takeWhile p = l
  | [], _ => rfl
  | a :: l, h => by
    rw [List.all_cons, Bool.and_eq_true] at h
    rw [List.takeWhile_cons, if_pos h.1, takeWhile_all p l h.2]

def ripe (now : Nat) (L : List It) : List It := L.takeWhile fun x => decide (x.due ≤ now)

set_option maxRecDepth 100000 in
set_option maxHeartbeats 2000000 in
theorem lineRipe_c {w0 w : World} {b : Nat} {M : List KV} {κ : UInt8} {L : List It} {now : Nat} (h : St w0 w b M) (hm : M.length ≤ 9000) (hL : sub M [119, κ] = recs κ L) (ho : okIts L) (hnow : now < W64) :
    Calls Try.prog 57 #[.pointer (some ⟨b, 0, none⟩), .int .u8 (κ.toNat : Int), .int .u64 (now : Int)] w (AllPost w (ripe now L)) := by
  have HA := hid (lineAll_c h hm hL ho)
  have HO := hid ho
  obtain ⟨kn, hkn⟩ : ∃ kn, kn = κ.toNat := ⟨_, rfl⟩
  rw [← hkn] at HA ⊢
  clear h hm hL ho hkn hnow
  go_enter Try.func57, Try.ntmps57
  go_wp2_with fail
  refine HA.out.mono ?_
  rintro e w1 ⟨v, rs, rfl, hI, hrm, hE⟩
  obtain ⟨la, lc, hlv, hlc1, hlc2⟩ := row_len hI.1
  obtain ⟨n, hn⟩ : ∃ n, n = rs.length := ⟨_, rfl⟩
  rw [← hn] at hlv hlc1
  subst hlv
  have H1 := hid (And.intro hI (And.intro hrm (And.intro hE hn)))
  clear hI hrm hE hn HA
  go_wp2_with fail
  go_loopw [15] (fun i wr => ∃ k : Nat, k ≤ n ∧ i = .int .i64 k ∧ (L.take k).all (fun x => decide (x.due ≤ now)) = true ∧ Ext w1 wr) (fun i _ => n - (intOf i).toNat)
  case atStart => exact ⟨0, Nat.zero_le _, rfl, rfl, Ext.refl _⟩
  case round =>
    obtain ⟨k, hk, rfl, hall, hEr⟩ := hrel
    have HA := hid (And.intro hall hEr)
    clear hall hEr
    by_cases hlt : k < n
    · have hki : (k : Int) < (n : Int) := by omega
      obtain ⟨hI, hrm, hE, hn⟩ := H1.out
      have hkr : k < rs.length := by omega
      have hkL : k < L.length := by rw [← hrm]; simpa using hkr
      have hit : (rs[k]).it = L[k] := by
        have : (rs.map IV.it)[k]? = L[k]? := by rw [hrm]
        simpa [hkr, hkL] using this
      obtain ⟨g, cap, hv, -, -, -, hgl, hcell⟩ := rowCell IV.cells_len (hI.ext HA.out.2).1 hkr
      rw [← hn] at hv
      cases hv
      obtain ⟨pa, pc, hpv, -, -⟩ := row_len (hI.2 _ (List.getElem_mem hkr))
      have c0 := (hcell 0 (by decide)).1
      have c1 := (hcell 1 (by decide)).1
      have c2 := (hcell 2 (by decide)).1
      simp only [IV.cells, List.getElem?_cons_zero, List.getElem?_cons_succ, hpv, hit] at c0 c1 c2
      obtain ⟨d, hd⟩ : ∃ d, d = (L[k]).due := ⟨_, rfl⟩
      obtain ⟨no, hno⟩ : ∃ no, no = (L[k]).no := ⟨_, rfl⟩
      rw [← hd, Nat.add_zero] at c0
      rw [← hno] at c1
      obtain ⟨pl, hpl⟩ : ∃ pl, pl = (L[k]).p.length := ⟨_, rfl⟩
      rw [← hpl] at c2
      have Hd := hid (And.intro hd hkL)
      clear hI hrm hE hn hkr hit hcell hpv hd hno hpl
      by_cases hdn : d ≤ now
      · have t1 : ¬ (now : Int) < (d : Int) := by omega
        go_wp2_with fail
        refine ⟨⟨k + 1, hlt, by go_num, ?_, ?_⟩, by simp [intOf]; omega⟩
        · rw [List.take_succ_eq_append_getElem Hd.out.2, List.all_append, HA.out.1]
          have := Hd.out.1
          simp; omega
        · exact HA.out.2.trans ((Ext.refl wr).alloc _)
      · have t1 : (now : Int) < (d : Int) := by omega
        go_wp2_with fail
        go_ret
        obtain ⟨hI, hrm, hE, hn⟩ := H1.out
        have hEr := HA.out.2.trans ((Ext.refl wr).alloc (.cells #[.int .u64 (d : Int), .int .u64 (no : Int), .slice pa pl pc] 61))
        refine ⟨.slice (some ⟨g, 0, none⟩) k lc, rs.take k, rfl, ⟨?_, fun r hr => ((hI.ext hEr).2 r (List.mem_of_mem_take hr))⟩, ?_, hE.trans hEr⟩
        · have h0 := (hI.ext hEr).1
          rw [← hn] at h0
          have := rowTake (i := k) IV.cells_len h0 hn.symm (by omega)
          have hl : (rs.take k).length = k := by rw [List.length_take]; omega
          rw [hl]; exact this
        · rw [List.map_take, hrm, ripe, takeWhile_at _ L k Hd.out.2 HA.out.1]
          have := Hd.out.1
          simp; omega
    · obtain rfl : k = n := by omega
      go_wp2_with fail
      go_ret
      obtain ⟨hI, hrm, hE, hn⟩ := H1.out
      refine ⟨.slice la k lc, rs, rfl, hI.ext HA.out.2, ?_, hE.trans HA.out.2⟩
      have hall := HA.out.1
      rw [List.take_of_length_le (by rw [← hrm, List.length_map]; omega)] at hall
      rw [hrm, ripe, takeWhile_all _ _ hall]

end Go.Proofs.Ytaidgkdebocenaa
