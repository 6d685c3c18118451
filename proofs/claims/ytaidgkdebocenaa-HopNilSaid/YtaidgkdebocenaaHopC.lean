/- hop.count: how many of a list. (Printed by gen14.py.)
   No conditions but sizes. · hop.count: how many of a list. (Printed by gen14.py.)
   No conditions but sizes. · hop: how many of an owner there are; what came.
   Conditions: at most 8000 pairs in the store. -/
import Derived.Test.YtaidgkdebocenaaHopRec
import Derived.Test.YtaidgkdebocenaaHopW

namespace Go.Proofs.Ytaidgkdebocenaa
open Go Go.RowKit

set_option maxRecDepth 100000 in
set_option maxHeartbeats 4000000 in
theorem hopCountE_Leaving {w : World} {base : Nat} {es : List En} {oa : Option Addr} {oc : Nat} {ca cb : Value} (pr : En → Bool) (ho : w.ownsRow base 81 13 (.slice oa es.length oc) es.length (es.flatMap En.cells)) (hl9 : es.length ≤ 9000)
    (HF : ∀ e, e ∈ es → ∀ w', Ext w w' → Calls Try.prog 127 #[e.V, ca, cb] w' fun x w'' => x = .returned (.bool (pr e)) ∧ Ext w' w'') :
    Calls Try.prog 126 #[.slice oa es.length oc, .func (.func 127) #[] #[ca, cb]] w fun x w' => x = .returned (.int .i64 ((es.countP pr : Nat) : Int)) ∧ Ext w w' := by
  have HO := hid ho
  have HH := hid HF
  obtain ⟨n, hn⟩ : ∃ n, n = es.length := ⟨_, rfl⟩
  rw [← hn] at HO ⊢
  have hn9 : n ≤ 9000 := by omega
  have Hn := hid hn
  clear ho HF hn hl9
  go_enter Try.func126, Try.ntmps126
  go_wp2_with fail
  go_loopw [5, 10] (fun l i wr => ∃ (k : Nat), k ≤ n ∧ i = .int .i64 k ∧ l = .int .i64 (((es.take k).countP pr : Nat) : Int) ∧ Ext w wr) (fun _ i _ => n - (intOf i).toNat)
  case atStart => exact ⟨0, Nat.zero_le _, rfl, rfl, Ext.refl _⟩
  case round =>
    obtain ⟨k, hk, rfl, rfl, hEr⟩ := hrel
    by_cases hlt : k < n
    · have hki : (k : Int) < (n : Int) := by omega
      have hke : k < es.length := by rw [← Hn.out]; exact hlt
      obtain ⟨e, he⟩ : ∃ e, e = es[k] := ⟨_, rfl⟩
      have hem : e ∈ es := by rw [he]; exact List.getElem_mem hke
      have h0 : wr.ownsRow base 81 13 (.slice oa es.length oc) es.length (es.flatMap En.cells) := by rw [← Hn.out]; exact Keeps.ownsRow hEr HO.out fun _ _ c => c
      obtain ⟨g, cap, hv, -, -, -, hgl, hcell⟩ := rowCell En.cells_len h0 hke
      rw [← Hn.out] at hv
      cases hv
      have c0 : wr.cell? ⟨g, k * 13, none⟩ = some (.int .u64 (e.no : Int)) := by have := (hcell 0 (by decide)).1; rw [← he] at this; exact this
      have c1 : wr.cell? ⟨g, k * 13 + 1, none⟩ = some (.int .u8 (e.ow.toNat : Int)) := by have := (hcell 1 (by decide)).1; rw [← he] at this; exact this
      have c2 : wr.cell? ⟨g, k * 13 + 2, none⟩ = some (.int .u8 (e.va.toNat : Int)) := by have := (hcell 2 (by decide)).1; rw [← he] at this; exact this
      have c3 : wr.cell? ⟨g, k * 13 + 3, none⟩ = some (.int .u64 (e.made : Int)) := by have := (hcell 3 (by decide)).1; rw [← he] at this; exact this
      have c4 : wr.cell? ⟨g, k * 13 + 4, none⟩ = some (.int .u64 (e.due : Int)) := by have := (hcell 4 (by decide)).1; rw [← he] at this; exact this
      have c5 : wr.cell? ⟨g, k * 13 + 5, none⟩ = some (.int .u64 (limb e.fi 0 : Nat)) := by have := (hcell 5 (by decide)).1; rw [← he] at this; exact this
      have c6 : wr.cell? ⟨g, k * 13 + 6, none⟩ = some (.int .u64 (limb e.fi 1 : Nat)) := by have := (hcell 6 (by decide)).1; rw [← he] at this; exact this
      have c7 : wr.cell? ⟨g, k * 13 + 7, none⟩ = some (.int .u64 (limb e.fi 2 : Nat)) := by have := (hcell 7 (by decide)).1; rw [← he] at this; exact this
      have c8 : wr.cell? ⟨g, k * 13 + 8, none⟩ = some (.int .u64 (limb e.fi 3 : Nat)) := by have := (hcell 8 (by decide)).1; rw [← he] at this; exact this
      have c9 : wr.cell? ⟨g, k * 13 + 9, none⟩ = some (.int .u64 (limb e.nw 0 : Nat)) := by have := (hcell 9 (by decide)).1; rw [← he] at this; exact this
      have c10 : wr.cell? ⟨g, k * 13 + 10, none⟩ = some (.int .u64 (limb e.nw 1 : Nat)) := by have := (hcell 10 (by decide)).1; rw [← he] at this; exact this
      have c11 : wr.cell? ⟨g, k * 13 + 11, none⟩ = some (.int .u64 (limb e.nw 2 : Nat)) := by have := (hcell 11 (by decide)).1; rw [← he] at this; exact this
      have c12 : wr.cell? ⟨g, k * 13 + 12, none⟩ = some (.int .u64 (limb e.nw 3 : Nat)) := by have := (hcell 12 (by decide)).1; rw [← he] at this; exact this
      obtain ⟨W1, hW1⟩ : ∃ W1, W1 = wr.alloc (.cells #[.int .u64 (e.no : Int), .int .u8 (e.ow.toNat : Int), .int .u8 (e.va.toNat : Int), .int .u64 (e.made : Int), .int .u64 (e.due : Int), .int .u64 (limb e.fi 0 : Nat), .int .u64 (limb e.fi 1 : Nat), .int .u64 (limb e.fi 2 : Nat), .int .u64 (limb e.fi 3 : Nat), .int .u64 (limb e.nw 0 : Nat), .int .u64 (limb e.nw 1 : Nat), .int .u64 (limb e.nw 2 : Nat), .int .u64 (limb e.nw 3 : Nat)] 81) := ⟨_, rfl⟩
      have hEW : Ext wr W1 := by rw [hW1]; exact (Ext.refl wr).alloc _
      have hF := HH.out e hem W1 (hEr.trans hEW)
      unfold En.V En.cells at hF
      have HF := hid hF
      have hts : es.take (k + 1) = es.take k ++ [e] := by rw [List.take_succ_eq_append_getElem hke, he]
      obtain ⟨m, hm⟩ : ∃ m, m = (es.take k).countP pr := ⟨_, rfl⟩
      rw [← hm]
      have hmk : m ≤ k := by
        have := List.countP_le_length (p := pr) (l := es.take k)
        rw [List.length_take] at this
        omega
      have hcp : (es.take (k + 1)).countP pr = m + (if pr e then 1 else 0) := by rw [hts, List.countP_append, ← hm, List.countP_singleton]
      have HO1 := hid (And.intro hEr (And.intro hEW (And.intro hcp hm)))
      have HW1 := hid hW1
      clear hEr h0 hcell he hem hF hEW hts hcp hm hW1
      by_cases hp : pr e = true
      · rw [hp] at HF
        go_wp2_with fail
        rw [← HW1.out]
        go_wp2_with fail
        refine HF.out.mono ?_
        rintro x w2 ⟨rfl, hE2⟩
        have H2 := hid hE2
        clear hE2 HF
        go_wp2_with fail
        refine ⟨⟨k + 1, hlt, by go_num, ?_, (HO1.out.1.trans HO1.out.2.1).trans H2.out⟩, by simp [intOf]; omega⟩
        rw [HO1.out.2.2.1, if_pos hp]
        go_num
      · rw [Bool.not_eq_true] at hp
        rw [hp] at HF
        go_wp2_with fail
        rw [← HW1.out]
        go_wp2_with fail
        refine HF.out.mono ?_
        rintro x w2 ⟨rfl, hE2⟩
        have H2 := hid hE2
        clear hE2 HF
        go_wp2_with fail
        refine ⟨⟨k + 1, hlt, by go_num, ?_, (HO1.out.1.trans HO1.out.2.1).trans H2.out⟩, by simp [intOf]; omega⟩
        rw [HO1.out.2.2.1, if_neg (by simp [hp])]
        rfl
    · obtain rfl : k = n := by omega
      rw [List.take_of_length_le (by rw [← Hn.out]; omega)]
      have HE := hid hEr
      clear hEr
      go_wp2_with fail
      go_ret
      exact ⟨rfl, HE.out⟩

end Go.Proofs.Ytaidgkdebocenaa

namespace Go.Proofs.Ytaidgkdebocenaa
open Go Go.RowKit

set_option maxRecDepth 100000 in
set_option maxHeartbeats 4000000 in
theorem hopCountH_Jumping {w : World} {base : Nat} {es : List Hp} {oa : Option Addr} {oc : Nat} {ca cb cc : Value} (pr : Hp → Bool) (ho : w.ownsRow base 83 14 (.slice oa es.length oc) es.length (es.flatMap Hp.cells)) (hl9 : es.length ≤ 9000)
    (HF : ∀ e, e ∈ es → ∀ w', Ext w w' → Calls Try.prog 129 #[e.V, ca, cb, cc] w' fun x w'' => x = .returned (.bool (pr e)) ∧ Ext w' w'') :
    Calls Try.prog 128 #[.slice oa es.length oc, .func (.func 129) #[] #[ca, cb, cc]] w fun x w' => x = .returned (.int .i64 ((es.countP pr : Nat) : Int)) ∧ Ext w w' := by
  have HO := hid ho
  have HH := hid HF
  obtain ⟨n, hn⟩ : ∃ n, n = es.length := ⟨_, rfl⟩
  rw [← hn] at HO ⊢
  have hn9 : n ≤ 9000 := by omega
  have Hn := hid hn
  clear ho HF hn hl9
  go_enter Try.func128, Try.ntmps128
  go_wp2_with fail
  go_loopw [5, 10] (fun l i wr => ∃ (k : Nat), k ≤ n ∧ i = .int .i64 k ∧ l = .int .i64 (((es.take k).countP pr : Nat) : Int) ∧ Ext w wr) (fun _ i _ => n - (intOf i).toNat)
  case atStart => exact ⟨0, Nat.zero_le _, rfl, rfl, Ext.refl _⟩
  case round =>
    obtain ⟨k, hk, rfl, rfl, hEr⟩ := hrel
    by_cases hlt : k < n
    · have hki : (k : Int) < (n : Int) := by omega
      have hke : k < es.length := by rw [← Hn.out]; exact hlt
      obtain ⟨e, he⟩ : ∃ e, e = es[k] := ⟨_, rfl⟩
      have hem : e ∈ es := by rw [he]; exact List.getElem_mem hke
      have h0 : wr.ownsRow base 83 14 (.slice oa es.length oc) es.length (es.flatMap Hp.cells) := by rw [← Hn.out]; exact Keeps.ownsRow hEr HO.out fun _ _ c => c
      obtain ⟨g, cap, hv, -, -, -, hgl, hcell⟩ := rowCell Hp.cells_len h0 hke
      rw [← Hn.out] at hv
      cases hv
      have c0 : wr.cell? ⟨g, k * 14, none⟩ = some (.int .u64 (e.no : Int)) := by have := (hcell 0 (by decide)).1; rw [← he] at this; exact this
      have c1 : wr.cell? ⟨g, k * 14 + 1, none⟩ = some (.int .u8 (e.ow.toNat : Int)) := by have := (hcell 1 (by decide)).1; rw [← he] at this; exact this
      have c2 : wr.cell? ⟨g, k * 14 + 2, none⟩ = some (.int .u8 (e.fr.toNat : Int)) := by have := (hcell 2 (by decide)).1; rw [← he] at this; exact this
      have c3 : wr.cell? ⟨g, k * 14 + 3, none⟩ = some (.int .u8 (e.to.toNat : Int)) := by have := (hcell 3 (by decide)).1; rw [← he] at this; exact this
      have c4 : wr.cell? ⟨g, k * 14 + 4, none⟩ = some (.int .u64 (e.made : Int)) := by have := (hcell 4 (by decide)).1; rw [← he] at this; exact this
      have c5 : wr.cell? ⟨g, k * 14 + 5, none⟩ = some (.int .u64 (e.due : Int)) := by have := (hcell 5 (by decide)).1; rw [← he] at this; exact this
      have c6 : wr.cell? ⟨g, k * 14 + 6, none⟩ = some (.int .u64 (limb e.fi 0 : Nat)) := by have := (hcell 6 (by decide)).1; rw [← he] at this; exact this
      have c7 : wr.cell? ⟨g, k * 14 + 7, none⟩ = some (.int .u64 (limb e.fi 1 : Nat)) := by have := (hcell 7 (by decide)).1; rw [← he] at this; exact this
      have c8 : wr.cell? ⟨g, k * 14 + 8, none⟩ = some (.int .u64 (limb e.fi 2 : Nat)) := by have := (hcell 8 (by decide)).1; rw [← he] at this; exact this
      have c9 : wr.cell? ⟨g, k * 14 + 9, none⟩ = some (.int .u64 (limb e.fi 3 : Nat)) := by have := (hcell 9 (by decide)).1; rw [← he] at this; exact this
      have c10 : wr.cell? ⟨g, k * 14 + 10, none⟩ = some (.int .u64 (limb e.sh 0 : Nat)) := by have := (hcell 10 (by decide)).1; rw [← he] at this; exact this
      have c11 : wr.cell? ⟨g, k * 14 + 11, none⟩ = some (.int .u64 (limb e.sh 1 : Nat)) := by have := (hcell 11 (by decide)).1; rw [← he] at this; exact this
      have c12 : wr.cell? ⟨g, k * 14 + 12, none⟩ = some (.int .u64 (limb e.sh 2 : Nat)) := by have := (hcell 12 (by decide)).1; rw [← he] at this; exact this
      have c13 : wr.cell? ⟨g, k * 14 + 13, none⟩ = some (.int .u64 (limb e.sh 3 : Nat)) := by have := (hcell 13 (by decide)).1; rw [← he] at this; exact this
      obtain ⟨W1, hW1⟩ : ∃ W1, W1 = wr.alloc (.cells #[.int .u64 (e.no : Int), .int .u8 (e.ow.toNat : Int), .int .u8 (e.fr.toNat : Int), .int .u8 (e.to.toNat : Int), .int .u64 (e.made : Int), .int .u64 (e.due : Int), .int .u64 (limb e.fi 0 : Nat), .int .u64 (limb e.fi 1 : Nat), .int .u64 (limb e.fi 2 : Nat), .int .u64 (limb e.fi 3 : Nat), .int .u64 (limb e.sh 0 : Nat), .int .u64 (limb e.sh 1 : Nat), .int .u64 (limb e.sh 2 : Nat), .int .u64 (limb e.sh 3 : Nat)] 83) := ⟨_, rfl⟩
      have hEW : Ext wr W1 := by rw [hW1]; exact (Ext.refl wr).alloc _
      have hF := HH.out e hem W1 (hEr.trans hEW)
      unfold Hp.V Hp.cells at hF
      have HF := hid hF
      have hts : es.take (k + 1) = es.take k ++ [e] := by rw [List.take_succ_eq_append_getElem hke, he]
      obtain ⟨m, hm⟩ : ∃ m, m = (es.take k).countP pr := ⟨_, rfl⟩
      rw [← hm]
      have hmk : m ≤ k := by
        have := List.countP_le_length (p := pr) (l := es.take k)
        rw [List.length_take] at this
        omega
      have hcp : (es.take (k + 1)).countP pr = m + (if pr e then 1 else 0) := by rw [hts, List.countP_append, ← hm, List.countP_singleton]
      have HO1 := hid (And.intro hEr (And.intro hEW (And.intro hcp hm)))
      have HW1 := hid hW1
      clear hEr h0 hcell he hem hF hEW hts hcp hm hW1
      by_cases hp : pr e = true
      · rw [hp] at HF
        go_wp2_with fail
        rw [← HW1.out]
        go_wp2_with fail
        refine HF.out.mono ?_
        rintro x w2 ⟨rfl, hE2⟩
        have H2 := hid hE2
        clear hE2 HF
        go_wp2_with fail
        refine ⟨⟨k + 1, hlt, by go_num, ?_, (HO1.out.1.trans HO1.out.2.1).trans H2.out⟩, by simp [intOf]; omega⟩
        rw [HO1.out.2.2.1, if_pos hp]
        go_num
      · rw [Bool.not_eq_true] at hp
        rw [hp] at HF
        go_wp2_with fail
        rw [← HW1.out]
        go_wp2_with fail
        refine HF.out.mono ?_
        rintro x w2 ⟨rfl, hE2⟩
        have H2 := hid hE2
        clear hE2 HF
        go_wp2_with fail
        refine ⟨⟨k + 1, hlt, by go_num, ?_, (HO1.out.1.trans HO1.out.2.1).trans H2.out⟩, by simp [intOf]; omega⟩
        rw [HO1.out.2.2.1, if_neg (by simp [hp])]
        rfl
    · obtain rfl : k = n := by omega
      rw [List.take_of_length_le (by rw [← Hn.out]; omega)]
      have HE := hid hEr
      clear hEr
      go_wp2_with fail
      go_ret
      exact ⟨rfl, HE.out⟩

set_option maxRecDepth 100000 in
set_option maxHeartbeats 4000000 in
theorem hopCountH_Came {w : World} {base : Nat} {es : List Hp} {oa : Option Addr} {oc : Nat} {ca cb cc : Value} (pr : Hp → Bool) (ho : w.ownsRow base 83 14 (.slice oa es.length oc) es.length (es.flatMap Hp.cells)) (hl9 : es.length ≤ 9000)
    (HF : ∀ e, e ∈ es → ∀ w', Ext w w' → Calls Try.prog 130 #[e.V, ca, cb, cc] w' fun x w'' => x = .returned (.bool (pr e)) ∧ Ext w' w'') :
    Calls Try.prog 128 #[.slice oa es.length oc, .func (.func 130) #[] #[ca, cb, cc]] w fun x w' => x = .returned (.int .i64 ((es.countP pr : Nat) : Int)) ∧ Ext w w' := by
  have HO := hid ho
  have HH := hid HF
  obtain ⟨n, hn⟩ : ∃ n, n = es.length := ⟨_, rfl⟩
  rw [← hn] at HO ⊢
  have hn9 : n ≤ 9000 := by omega
  have Hn := hid hn
  clear ho HF hn hl9
  go_enter Try.func128, Try.ntmps128
  go_wp2_with fail
  go_loopw [5, 10] (fun l i wr => ∃ (k : Nat), k ≤ n ∧ i = .int .i64 k ∧ l = .int .i64 (((es.take k).countP pr : Nat) : Int) ∧ Ext w wr) (fun _ i _ => n - (intOf i).toNat)
  case atStart => exact ⟨0, Nat.zero_le _, rfl, rfl, Ext.refl _⟩
  case round =>
    obtain ⟨k, hk, rfl, rfl, hEr⟩ := hrel
    by_cases hlt : k < n
    · have hki : (k : Int) < (n : Int) := by omega
      have hke : k < es.length := by rw [← Hn.out]; exact hlt
      obtain ⟨e, he⟩ : ∃ e, e = es[k] := ⟨_, rfl⟩
      have hem : e ∈ es := by rw [he]; exact List.getElem_mem hke
      have h0 : wr.ownsRow base 83 14 (.slice oa es.length oc) es.length (es.flatMap Hp.cells) := by rw [← Hn.out]; exact Keeps.ownsRow hEr HO.out fun _ _ c => c
      obtain ⟨g, cap, hv, -, -, -, hgl, hcell⟩ := rowCell Hp.cells_len h0 hke
      rw [← Hn.out] at hv
      cases hv
      have c0 : wr.cell? ⟨g, k * 14, none⟩ = some (.int .u64 (e.no : Int)) := by have := (hcell 0 (by decide)).1; rw [← he] at this; exact this
      have c1 : wr.cell? ⟨g, k * 14 + 1, none⟩ = some (.int .u8 (e.ow.toNat : Int)) := by have := (hcell 1 (by decide)).1; rw [← he] at this; exact this
      have c2 : wr.cell? ⟨g, k * 14 + 2, none⟩ = some (.int .u8 (e.fr.toNat : Int)) := by have := (hcell 2 (by decide)).1; rw [← he] at this; exact this
      have c3 : wr.cell? ⟨g, k * 14 + 3, none⟩ = some (.int .u8 (e.to.toNat : Int)) := by have := (hcell 3 (by decide)).1; rw [← he] at this; exact this
      have c4 : wr.cell? ⟨g, k * 14 + 4, none⟩ = some (.int .u64 (e.made : Int)) := by have := (hcell 4 (by decide)).1; rw [← he] at this; exact this
      have c5 : wr.cell? ⟨g, k * 14 + 5, none⟩ = some (.int .u64 (e.due : Int)) := by have := (hcell 5 (by decide)).1; rw [← he] at this; exact this
      have c6 : wr.cell? ⟨g, k * 14 + 6, none⟩ = some (.int .u64 (limb e.fi 0 : Nat)) := by have := (hcell 6 (by decide)).1; rw [← he] at this; exact this
      have c7 : wr.cell? ⟨g, k * 14 + 7, none⟩ = some (.int .u64 (limb e.fi 1 : Nat)) := by have := (hcell 7 (by decide)).1; rw [← he] at this; exact this
      have c8 : wr.cell? ⟨g, k * 14 + 8, none⟩ = some (.int .u64 (limb e.fi 2 : Nat)) := by have := (hcell 8 (by decide)).1; rw [← he] at this; exact this
      have c9 : wr.cell? ⟨g, k * 14 + 9, none⟩ = some (.int .u64 (limb e.fi 3 : Nat)) := by have := (hcell 9 (by decide)).1; rw [← he] at this; exact this
      have c10 : wr.cell? ⟨g, k * 14 + 10, none⟩ = some (.int .u64 (limb e.sh 0 : Nat)) := by have := (hcell 10 (by decide)).1; rw [← he] at this; exact this
      have c11 : wr.cell? ⟨g, k * 14 + 11, none⟩ = some (.int .u64 (limb e.sh 1 : Nat)) := by have := (hcell 11 (by decide)).1; rw [← he] at this; exact this
      have c12 : wr.cell? ⟨g, k * 14 + 12, none⟩ = some (.int .u64 (limb e.sh 2 : Nat)) := by have := (hcell 12 (by decide)).1; rw [← he] at this; exact this
      have c13 : wr.cell? ⟨g, k * 14 + 13, none⟩ = some (.int .u64 (limb e.sh 3 : Nat)) := by have := (hcell 13 (by decide)).1; rw [← he] at this; exact this
      obtain ⟨W1, hW1⟩ : ∃ W1, W1 = wr.alloc (.cells #[.int .u64 (e.no : Int), .int .u8 (e.ow.toNat : Int), .int .u8 (e.fr.toNat : Int), .int .u8 (e.to.toNat : Int), .int .u64 (e.made : Int), .int .u64 (e.due : Int), .int .u64 (limb e.fi 0 : Nat), .int .u64 (limb e.fi 1 : Nat), .int .u64 (limb e.fi 2 : Nat), .int .u64 (limb e.fi 3 : Nat), .int .u64 (limb e.sh 0 : Nat), .int .u64 (limb e.sh 1 : Nat), .int .u64 (limb e.sh 2 : Nat), .int .u64 (limb e.sh 3 : Nat)] 83) := ⟨_, rfl⟩
      have hEW : Ext wr W1 := by rw [hW1]; exact (Ext.refl wr).alloc _
      have hF := HH.out e hem W1 (hEr.trans hEW)
      unfold Hp.V Hp.cells at hF
      have HF := hid hF
      have hts : es.take (k + 1) = es.take k ++ [e] := by rw [List.take_succ_eq_append_getElem hke, he]
      obtain ⟨m, hm⟩ : ∃ m, m = (es.take k).countP pr := ⟨_, rfl⟩
      rw [← hm]
      have hmk : m ≤ k := by
        have := List.countP_le_length (p := pr) (l := es.take k)
        rw [List.length_take] at this
        omega
      have hcp : (es.take (k + 1)).countP pr = m + (if pr e then 1 else 0) := by rw [hts, List.countP_append, ← hm, List.countP_singleton]
      have HO1 := hid (And.intro hEr (And.intro hEW (And.intro hcp hm)))
      have HW1 := hid hW1
      clear hEr h0 hcell he hem hF hEW hts hcp hm hW1
      by_cases hp : pr e = true
      · rw [hp] at HF
        go_wp2_with fail
        rw [← HW1.out]
        go_wp2_with fail
        refine HF.out.mono ?_
        rintro x w2 ⟨rfl, hE2⟩
        have H2 := hid hE2
        clear hE2 HF
        go_wp2_with fail
        refine ⟨⟨k + 1, hlt, by go_num, ?_, (HO1.out.1.trans HO1.out.2.1).trans H2.out⟩, by simp [intOf]; omega⟩
        rw [HO1.out.2.2.1, if_pos hp]
        go_num
      · rw [Bool.not_eq_true] at hp
        rw [hp] at HF
        go_wp2_with fail
        rw [← HW1.out]
        go_wp2_with fail
        refine HF.out.mono ?_
        rintro x w2 ⟨rfl, hE2⟩
        have H2 := hid hE2
        clear hE2 HF
        go_wp2_with fail
        refine ⟨⟨k + 1, hlt, by go_num, ?_, (HO1.out.1.trans HO1.out.2.1).trans H2.out⟩, by simp [intOf]; omega⟩
        rw [HO1.out.2.2.1, if_neg (by simp [hp])]
        rfl
    · obtain rfl : k = n := by omega
      rw [List.take_of_length_le (by rw [← Hn.out]; omega)]
      have HE := hid hEr
      clear hEr
      go_wp2_with fail
      go_ret
      exact ⟨rfl, HE.out⟩

end Go.Proofs.Ytaidgkdebocenaa

namespace Go.Proofs.Ytaidgkdebocenaa
open Go Go.RowKit

theorem u8_ne {a b : UInt8} (h : a ≠ b) : ¬ (a.toNat : Int) = (b.toNat : Int) := fun c => h (by rw [← UInt8.toNat_inj]; omega)

def isLeaving (o v : UInt8) (e : En) : Bool := decide (e.ow = o ∧ e.va = v)
def isJumping (o f t : UInt8) (h : Hp) : Bool := decide (h.ow = o ∧ h.fr = f ∧ h.to = t)
def isCame (o t : UInt8) (now : Nat) (h : Hp) : Bool := decide (h.ow = o ∧ h.to = t ∧ now < h.due)

set_option maxRecDepth 100000 in
set_option maxHeartbeats 1000000 in
theorem leavingF_c {w : World} {bo bv : Nat} (e : En) (o v : UInt8) (c1 : w.cell? ⟨bo, 0, none⟩ = some (.int .u8 (o.toNat : Int))) (c2 : w.cell? ⟨bv, 0, none⟩ = some (.int .u8 (v.toNat : Int))) :
    Calls Try.prog 127 #[e.V, .pointer (some ⟨bo, 0, none⟩), .pointer (some ⟨bv, 0, none⟩)] w fun x w' => x = .returned (.bool (isLeaving o v e)) ∧ Ext w w' := by
  have l1 := World.block_lt_of_cell? _ _ c1
  have l2 := World.block_lt_of_cell? _ _ c2
  unfold En.V En.cells isLeaving
  by_cases h1 : e.ow = o
  · subst h1
    by_cases h2 : e.va = v
    · subst h2
      go_enter Try.func127, Try.ntmps127
      go_wp2_with fail
      go_ret
      exact ⟨by simp, (Ext.refl w).alloc _⟩
    · have n2 := u8_ne h2
      have h2' := hid h2
      clear h2
      go_enter Try.func127, Try.ntmps127
      go_wp2_with fail
      go_ret
      exact ⟨by simp [h2'.out, n2], (Ext.refl w).alloc _⟩
  · have n1 := u8_ne h1
    have h1' := hid h1
    clear h1
    go_enter Try.func127, Try.ntmps127
    go_wp2_with fail
    go_ret
    exact ⟨by simp [h1'.out], (Ext.refl w).alloc _⟩

set_option maxRecDepth 100000 in
set_option maxHeartbeats 1000000 in
theorem jumpingF_c {w : World} {bo bf bt : Nat} (e : Hp) (o f t : UInt8) (c1 : w.cell? ⟨bo, 0, none⟩ = some (.int .u8 (o.toNat : Int))) (c2 : w.cell? ⟨bf, 0, none⟩ = some (.int .u8 (f.toNat : Int))) (c3 : w.cell? ⟨bt, 0, none⟩ = some (.int .u8 (t.toNat : Int))) :
    Calls Try.prog 129 #[e.V, .pointer (some ⟨bo, 0, none⟩), .pointer (some ⟨bf, 0, none⟩), .pointer (some ⟨bt, 0, none⟩)] w fun x w' => x = .returned (.bool (isJumping o f t e)) ∧ Ext w w' := by
  have l1 := World.block_lt_of_cell? _ _ c1
  have l2 := World.block_lt_of_cell? _ _ c2
  have l3 := World.block_lt_of_cell? _ _ c3
  unfold Hp.V Hp.cells isJumping
  by_cases h1 : e.ow = o
  · subst h1
    by_cases h2 : e.fr = f
    · subst h2
      by_cases h3 : e.to = t
      · subst h3
        go_enter Try.func129, Try.ntmps129
        go_wp2_with fail
        go_ret
        exact ⟨by simp, (Ext.refl w).alloc _⟩
      · have n3 := u8_ne h3
        have h3' := hid h3
        clear h3
        go_enter Try.func129, Try.ntmps129
        go_wp2_with fail
        go_ret
        exact ⟨by simp [h3'.out, n3], (Ext.refl w).alloc _⟩
    · have n2 := u8_ne h2
      have h2' := hid h2
      clear h2
      go_enter Try.func129, Try.ntmps129
      go_wp2_with fail
      go_ret
      exact ⟨by simp [h2'.out], (Ext.refl w).alloc _⟩
  · have n1 := u8_ne h1
    have h1' := hid h1
    clear h1
    go_enter Try.func129, Try.ntmps129
    go_wp2_with fail
    go_ret
    exact ⟨by simp [h1'.out], (Ext.refl w).alloc _⟩

set_option maxRecDepth 100000 in
set_option maxHeartbeats 1000000 in
theorem cameF_c {w : World} {bo bt bn : Nat} (e : Hp) (o t : UInt8) (now : Nat) (c1 : w.cell? ⟨bo, 0, none⟩ = some (.int .u8 (o.toNat : Int))) (c2 : w.cell? ⟨bt, 0, none⟩ = some (.int .u8 (t.toNat : Int))) (c3 : w.cell? ⟨bn, 0, none⟩ = some (.int .u64 (now : Int))) :
    Calls Try.prog 130 #[e.V, .pointer (some ⟨bo, 0, none⟩), .pointer (some ⟨bt, 0, none⟩), .pointer (some ⟨bn, 0, none⟩)] w fun x w' => x = .returned (.bool (isCame o t now e)) ∧ Ext w w' := by
  have l1 := World.block_lt_of_cell? _ _ c1
  have l2 := World.block_lt_of_cell? _ _ c2
  have l3 := World.block_lt_of_cell? _ _ c3
  unfold Hp.V Hp.cells isCame
  by_cases h1 : e.ow = o
  · subst h1
    by_cases h2 : e.to = t
    · subst h2
      by_cases h3 : now < e.due
      · have n3 : (now : Int) < (e.due : Int) := by omega
        have h3' := hid h3
        clear h3
        go_enter Try.func130, Try.ntmps130
        go_wp2_with fail
        go_ret
        exact ⟨by simp [h3'.out], (Ext.refl w).alloc _⟩
      · have n3 : ¬ (now : Int) < (e.due : Int) := by omega
        have h3' := hid h3
        clear h3
        go_enter Try.func130, Try.ntmps130
        go_wp2_with fail
        go_ret
        exact ⟨by have := h3'.out; simp; omega, (Ext.refl w).alloc _⟩
    · have n2 := u8_ne h2
      have h2' := hid h2
      clear h2
      go_enter Try.func130, Try.ntmps130
      go_wp2_with fail
      go_ret
      exact ⟨by simp [h2'.out], (Ext.refl w).alloc _⟩
  · have n1 := u8_ne h1
    have h1' := hid h1
    clear h1
    go_enter Try.func130, Try.ntmps130
    go_wp2_with fail
    go_ret
    exact ⟨by simp [h1'.out], (Ext.refl w).alloc _⟩

set_option maxRecDepth 100000 in
set_option maxHeartbeats 1000000 in
theorem hopLeaving_of {w : World} {s : Value} {es : List En} (o v : UInt8) (HS : ∀ w', Ext w w' → Calls Try.prog 61 #[s] w' (EnsPost w' es)) (hl9 : es.length ≤ 9000) :
    Calls Try.prog 68 #[s, .int .u8 (o.toNat : Int), .int .u8 (v.toNat : Int)] w fun x w' => x = .returned (.int .i64 ((es.countP (isLeaving o v) : Nat) : Int)) ∧ Ext w w' := by
  obtain ⟨W1, hW1⟩ : ∃ W1, W1 = (w.alloc (.cells #[.int .u8 (o.toNat : Int)] 5)).alloc (.cells #[.int .u8 (v.toNat : Int)] 5) := ⟨_, rfl⟩
  have hE1 : Ext w W1 := by rw [hW1]; exact ((Ext.refl w).alloc _).alloc _
  have hb1 : W1.heap[w.heap.size]? = some (.cells #[.int .u8 (o.toNat : Int)] 5 (0, 0)) := by rw [hW1]; exact Keeps.heap ((Ext.refl _).alloc _) (heap_alloc_new w _) fun c => c
  have hb2 : W1.heap[w.heap.size + 1]? = some (.cells #[.int .u8 (v.toNat : Int)] 5 (0, 0)) := by rw [hW1, ← World.size_alloc w (.cells #[.int .u8 (o.toNat : Int)] 5)]; exact heap_alloc_new _ _
  have HE := hid (HS _ hE1)
  have HB := hid (And.intro hE1 (And.intro hb1 hb2))
  have HW1 := hid hW1
  clear HS hE1 hb1 hb2 hW1
  go_enter Try.func68, Try.ntmps68
  go_wp2_with fail
  rw [← HW1.out]
  go_wp2_with fail
  refine HE.out.mono ?_
  rintro x w2 ⟨oa, oc, rfl, hown, hE2⟩
  have hC := hopCountE_Leaving (w := w2) (isLeaving o v) hown hl9 (ca := .pointer (some ⟨w.heap.size, 0, none⟩)) (cb := .pointer (some ⟨w.heap.size + 1, 0, none⟩)) fun e _ w' hE' =>
    leavingF_c e o v (by rw [cell_of_row w' _ 0 _ _ _ ((hE2.trans hE').heap HB.out.2.1)]; rfl) (by rw [cell_of_row w' _ 0 _ _ _ ((hE2.trans hE').heap HB.out.2.2)]; rfl)
  have HC := hid hC
  have H2 := hid hE2
  clear hC hown hE2 HE
  go_wp2_with fail
  refine HC.out.mono ?_
  rintro x w3 ⟨rfl, hE3⟩
  have H3 := hid hE3
  clear hE3 HC
  go_wp2_with fail
  go_ret
  exact ⟨rfl, (HB.out.1.trans H2.out).trans H3.out⟩

set_option maxRecDepth 100000 in
set_option maxHeartbeats 1000000 in
theorem hopJumping_of {w : World} {s : Value} {es : List Hp} (o f t : UInt8) (HS : ∀ w', Ext w w' → Calls Try.prog 62 #[s] w' (HpsPost w' es)) (hl9 : es.length ≤ 9000) :
    Calls Try.prog 70 #[s, .int .u8 (o.toNat : Int), .int .u8 (f.toNat : Int), .int .u8 (t.toNat : Int)] w fun x w' => x = .returned (.int .i64 ((es.countP (isJumping o f t) : Nat) : Int)) ∧ Ext w w' := by
  obtain ⟨W0, hW0⟩ : ∃ W0, W0 = w.alloc (.cells #[.int .u8 (o.toNat : Int)] 5) := ⟨_, rfl⟩
  obtain ⟨W2, hW2⟩ : ∃ W2, W2 = W0.alloc (.cells #[.int .u8 (f.toNat : Int)] 5) := ⟨_, rfl⟩
  obtain ⟨W1, hW1⟩ : ∃ W1, W1 = W2.alloc (.cells #[.int .u8 (t.toNat : Int)] 5) := ⟨_, rfl⟩
  have hE0 : Ext w W0 := by rw [hW0]; exact (Ext.refl w).alloc _
  have hE2 : Ext W0 W2 := by rw [hW2]; exact (Ext.refl W0).alloc _
  have hE1 : Ext W2 W1 := by rw [hW1]; exact (Ext.refl W2).alloc _
  have s0 : W0.heap.size = w.heap.size + 1 := by rw [hW0, World.size_alloc]
  have s2 : W2.heap.size = w.heap.size + 1 + 1 := by rw [hW2, World.size_alloc, s0]
  have hb1 : W1.heap[w.heap.size]? = some (.cells #[.int .u8 (o.toNat : Int)] 5 (0, 0)) := (hE2.trans hE1).heap (by rw [hW0]; exact heap_alloc_new w _)
  have hb2 : W1.heap[w.heap.size + 1]? = some (.cells #[.int .u8 (f.toNat : Int)] 5 (0, 0)) := hE1.heap (by rw [hW2, ← s0]; exact heap_alloc_new W0 _)
  have hb3 : W1.heap[w.heap.size + 1 + 1]? = some (.cells #[.int .u8 (t.toNat : Int)] 5 (0, 0)) := by rw [hW1, ← s2]; exact heap_alloc_new W2 _
  have hE := (hE0.trans hE2).trans hE1
  have HE := hid (HS _ hE)
  have HB := hid (And.intro hE (And.intro hb1 (And.intro hb2 hb3)))
  have HW1 := hid (And.intro hW0 (And.intro hW2 hW1))
  clear HS hE hE0 hE1 hE2 hb1 hb2 hb3 hW1 hW0 hW2 s0 s2
  go_enter Try.func70, Try.ntmps70
  go_wp2_with fail
  rw [← HW1.out.1, ← HW1.out.2.1, ← HW1.out.2.2]
  go_wp2_with fail
  refine HE.out.mono ?_
  rintro x w2 ⟨oa, oc, rfl, hown, hE2⟩
  have hC := hopCountH_Jumping (w := w2) (isJumping o f t) hown hl9 (ca := .pointer (some ⟨w.heap.size, 0, none⟩)) (cb := .pointer (some ⟨w.heap.size + 1, 0, none⟩)) (cc := .pointer (some ⟨w.heap.size + 1 + 1, 0, none⟩)) fun e _ w' hE' =>
    jumpingF_c e o f t (by rw [cell_of_row w' _ 0 _ _ _ ((hE2.trans hE').heap HB.out.2.1)]; rfl) (by rw [cell_of_row w' _ 0 _ _ _ ((hE2.trans hE').heap HB.out.2.2.1)]; rfl) (by rw [cell_of_row w' _ 0 _ _ _ ((hE2.trans hE').heap HB.out.2.2.2)]; rfl)
  have HC := hid hC
  have H2 := hid hE2
  clear hC hown hE2 HE
  go_wp2_with fail
  refine HC.out.mono ?_
  rintro x w3 ⟨rfl, hE3⟩
  have H3 := hid hE3
  clear hE3 HC
  go_wp2_with fail
  go_ret
  exact ⟨rfl, (HB.out.1.trans H2.out).trans H3.out⟩

set_option maxRecDepth 100000 in
set_option maxHeartbeats 1000000 in
theorem hopCame_of {w : World} {s : Value} {es : List Hp} (o t : UInt8) (now : Nat) (HS : ∀ w', Ext w w' → Calls Try.prog 62 #[s] w' (HpsPost w' es)) (hl9 : es.length ≤ 9000) :
    Calls Try.prog 72 #[s, .int .u8 (o.toNat : Int), .int .u8 (t.toNat : Int), .int .u64 (now : Int)] w fun x w' => x = .returned (.bool (es.any (isCame o t now))) ∧ Ext w w' := by
  obtain ⟨m, hm'⟩ : ∃ m, m = es.countP (isCame o t now) := ⟨_, rfl⟩
  have hany : es.any (isCame o t now) = decide (0 < m) := by
    rw [hm', Bool.eq_iff_iff, decide_eq_true_eq, List.countP_pos_iff, List.any_eq_true]
  rw [hany]
  have Hm := hid hm'
  clear hm' hany
  obtain ⟨W0, hW0⟩ : ∃ W0, W0 = w.alloc (.cells #[.int .u8 (o.toNat : Int)] 5) := ⟨_, rfl⟩
  obtain ⟨W2, hW2⟩ : ∃ W2, W2 = W0.alloc (.cells #[.int .u8 (t.toNat : Int)] 5) := ⟨_, rfl⟩
  obtain ⟨W1, hW1⟩ : ∃ W1, W1 = W2.alloc (.cells #[.int .u64 (now : Int)] 54) := ⟨_, rfl⟩
  have hE0 : Ext w W0 := by rw [hW0]; exact (Ext.refl w).alloc _
  have hE2 : Ext W0 W2 := by rw [hW2]; exact (Ext.refl W0).alloc _
  have hE1 : Ext W2 W1 := by rw [hW1]; exact (Ext.refl W2).alloc _
  have s0 : W0.heap.size = w.heap.size + 1 := by rw [hW0, World.size_alloc]
  have s2 : W2.heap.size = w.heap.size + 1 + 1 := by rw [hW2, World.size_alloc, s0]
  have hb1 : W1.heap[w.heap.size]? = some (.cells #[.int .u8 (o.toNat : Int)] 5 (0, 0)) := (hE2.trans hE1).heap (by rw [hW0]; exact heap_alloc_new w _)
  have hb2 : W1.heap[w.heap.size + 1]? = some (.cells #[.int .u8 (t.toNat : Int)] 5 (0, 0)) := hE1.heap (by rw [hW2, ← s0]; exact heap_alloc_new W0 _)
  have hb3 : W1.heap[w.heap.size + 1 + 1]? = some (.cells #[.int .u64 (now : Int)] 54 (0, 0)) := by rw [hW1, ← s2]; exact heap_alloc_new W2 _
  have hE := (hE0.trans hE2).trans hE1
  have HE := hid (HS _ hE)
  have HB := hid (And.intro hE (And.intro hb1 (And.intro hb2 hb3)))
  have HW1 := hid (And.intro hW0 (And.intro hW2 hW1))
  clear HS hE hE0 hE1 hE2 hb1 hb2 hb3 hW1 hW0 hW2 s0 s2
  go_enter Try.func72, Try.ntmps72
  go_wp2_with fail
  rw [← HW1.out.1, ← HW1.out.2.1, ← HW1.out.2.2]
  go_wp2_with fail
  refine HE.out.mono ?_
  rintro x w2 ⟨oa, oc, rfl, hown, hE2⟩
  have hC := hopCountH_Came (w := w2) (isCame o t now) hown hl9 (ca := .pointer (some ⟨w.heap.size, 0, none⟩)) (cb := .pointer (some ⟨w.heap.size + 1, 0, none⟩)) (cc := .pointer (some ⟨w.heap.size + 1 + 1, 0, none⟩)) fun e _ w' hE' =>
    cameF_c e o t now (by rw [cell_of_row w' _ 0 _ _ _ ((hE2.trans hE').heap HB.out.2.1)]; rfl) (by rw [cell_of_row w' _ 0 _ _ _ ((hE2.trans hE').heap HB.out.2.2.1)]; rfl) (by rw [cell_of_row w' _ 0 _ _ _ ((hE2.trans hE').heap HB.out.2.2.2)]; rfl)
  rw [← Hm.out] at hC
  have HC := hid hC
  have H2 := hid hE2
  clear hC hown hE2 HE
  go_wp2_with fail
  refine HC.out.mono ?_
  rintro x w3 ⟨rfl, hE3⟩
  have H3 := hid hE3
  clear hE3 HC
  go_wp2_with fail
  go_ret
  refine ⟨?_, (HB.out.1.trans H2.out).trans H3.out⟩
  simp

end Go.Proofs.Ytaidgkdebocenaa
