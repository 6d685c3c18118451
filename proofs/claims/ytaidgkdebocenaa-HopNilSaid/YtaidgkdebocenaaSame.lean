/- The store's functions at a nil receiver; store.Same of stores that are alike.
   Conditions: as the texts before; for store.Same: both hold the same pairs. -/
import Derived.Test.YtaidgkdebocenaaKeys
namespace Go.Proofs.Ytaidgkdebocenaa
open Go Go.RowKit

theorem nil_len (w : World) : Calls Try.prog 34 #[.pointer none] w fun e w' => e = .returned (.int .i64 0) ∧ w = w' := by
  go_enter Try.func34, Try.ntmps34
  go_wp2
  go_ret
  exact ⟨rfl, rfl⟩
theorem nil_depth (w : World) : Calls Try.prog 42 #[.pointer none] w fun e w' => e = .returned (.int .i64 0) ∧ w = w' := by
  go_enter Try.func42, Try.ntmps42
  go_wp2
  go_ret
  exact ⟨rfl, rfl⟩
theorem nil_get {w : World} {v : Value} {xs : BS} (h : BV w v xs) : Calls Try.prog 37 #[.pointer none, v] w fun e w' => e = .returned (.tuple #[.slice none 0 0, .bool false]) ∧ w = w' := by
  obtain ⟨a, c, rfl, -, -⟩ := h.val
  clear h
  go_enter Try.func37, Try.ntmps37
  go_wp2
  go_ret2
  exact ⟨rfl, rfl⟩
theorem nil_keys {w : World} {v : Value} {xs : BS} (h : BV w v xs) : Calls Try.prog 30 #[.pointer none, v] w fun e w' => e = .returned (.slice none 0 0) ∧ w = w' := by
  obtain ⟨a, c, rfl, -, -⟩ := h.val
  clear h
  go_enter Try.func30, Try.ntmps30
  go_wp2
  go_ret
  exact ⟨rfl, rfl⟩
theorem nil_begin (w : World) : Calls Try.prog 39 #[.pointer none] w fun e w' => e = .returned (.tuple #[]) ∧ w = w' := by
  go_enter Try.func39, Try.ntmps39
  go_wp2
  go_end0
  exact ⟨rfl, rfl⟩
theorem nil_copy (w : World) : Calls Try.prog 43 #[.pointer none] w fun e w' => e = .returned (.pointer none) ∧ w = w' := by
  go_enter Try.func43, Try.ntmps43
  go_wp2
  go_ret
  exact ⟨rfl, rfl⟩
theorem nil_end (w : World) : Calls Try.prog 104 #[.pointer none] w fun e w' => e = .returned (.tuple #[.int .i64 0, .bool false]) ∧ w = w' := by
  have HD := hid (nil_depth w)
  go_enter Try.func104, Try.ntmps104
  go_wp2_with fail
  refine HD.out.mono ?_
  rintro e w1 ⟨rfl, rfl⟩
  go_wp2
  go_ret2
  exact ⟨rfl, rfl⟩
theorem nil_commit (w : World) : Calls Try.prog 40 #[.pointer none] w fun e w' => e = .returned (.bool false) ∧ w = w' := by
  have HD := hid (nil_end w)
  go_enter Try.func40, Try.ntmps40
  go_wp2_with fail
  refine HD.out.mono ?_
  rintro e w1 ⟨rfl, rfl⟩
  go_wp2_with fail
  go_ret
  exact ⟨rfl, rfl⟩
theorem nil_rollback (w : World) : Calls Try.prog 44 #[.pointer none] w fun e w' => e = .returned (.bool false) ∧ w = w' := by
  have HD := hid (nil_end w)
  go_enter Try.func44, Try.ntmps44
  go_wp2_with fail
  go_step3
  go_wp2_with fail
  refine HD.out.mono ?_
  rintro e w1 ⟨rfl, rfl⟩
  go_wp2_with fail
  rw [Exit.noGoto_ret]
  go_ret
  exact ⟨rfl, rfl⟩
theorem nil_do {w : World} {ka va : Option Addr} {kl kc vl vc : Nat} {is : Bool} : Calls Try.prog 103 #[.pointer none, .agg #[.slice ka kl kc, .slice va vl vc], .bool is] w fun e w' => e = .returned (.tuple #[]) ∧ Ext w w' := by
  go_enter Try.func103, Try.ntmps103
  go_wp2
  refine bodyPost_ret (results_none rfl _ _ _) rfl ?_
  exact ⟨rfl, (Ext.refl w).alloc _⟩
theorem nil_set {w : World} {kv vv : Value} {key val : BS} (hk : BV w kv key) (hv : BV w vv val) (hkl : key.length ≤ big) (hvl : val.length ≤ big) :
    Calls Try.prog 36 #[.pointer none, kv, vv] w fun e w' => e = .returned (.tuple #[]) ∧ Ext w w' := by
  have HC1 := hid (cloneB_c hk hkl)
  have HV := hid hv
  have Hvl := hid hvl
  clear hk hv hkl hvl
  go_enter Try.func36, Try.ntmps36
  go_wp2_with fail
  refine HC1.out.mono ?_
  rintro e w1 ⟨k', rfl, hk', hE1⟩
  have HC2 := hid (cloneB_c (HV.out.ext hE1) Hvl.out)
  obtain ⟨ka, kcap, rfl⟩ := owns_slice hk'
  have HE1 := hid hE1
  clear hk' hE1 HC1
  go_wp2_with fail
  refine HC2.out.mono ?_
  rintro e w2 ⟨v', rfl, hv', hE2⟩
  obtain ⟨va, vcap, rfl⟩ := owns_slice hv'
  have HE2 := hid hE2
  have HDo := hid (nil_do (w := w2) (ka := ka) (kl := key.length) (kc := kcap) (va := va) (vl := val.length) (vc := vcap) (is := true))
  clear hv' hE2 HC2
  go_wp2_with fail
  refine HDo.out.mono ?_
  rintro e w3 ⟨rfl, hE3⟩
  have HE3 := hid hE3
  clear hE3
  go_wp2_with fail
  go_end0
  exact ⟨rfl, (HE1.out.trans HE2.out).trans HE3.out⟩
theorem nil_delete {w : World} {kv : Value} {key : BS} (hk : BV w kv key) (hkl : key.length ≤ big) :
    Calls Try.prog 46 #[.pointer none, kv] w fun e w' => e = .returned (.tuple #[]) ∧ Ext w w' := by
  have HC1 := hid (cloneB_c hk hkl)
  clear hk hkl
  go_enter Try.func46, Try.ntmps46
  go_wp2_with fail
  refine HC1.out.mono ?_
  rintro e w1 ⟨k', rfl, hk', hE1⟩
  obtain ⟨ka, kcap, rfl⟩ := owns_slice hk'
  have HE1 := hid hE1
  have HDo := hid (nil_do (w := w1) (ka := ka) (kl := key.length) (kc := kcap) (va := none) (vl := 0) (vc := 0) (is := false))
  clear hk' hE1 HC1
  go_wp2_with fail
  refine HDo.out.mono ?_
  rintro e w3 ⟨rfl, hE3⟩
  have HE3 := hid hE3
  clear hE3
  go_wp2_with fail
  go_end0
  exact ⟨rfl, HE1.out.trans HE3.out⟩

/-! ### Same -/

theorem nil_same_nil (w : World) : Calls Try.prog 41 #[.pointer none, .pointer none] w fun e w' => e = .returned (.bool true) ∧ w = w' := by
  have HL := hid (nil_len w)
  have HK := hid (nil_keys (BV.nil w))
  go_enter Try.func41, Try.ntmps41
  go_wp2_with fail
  refine HL.out.mono ?_
  rintro e w1 ⟨rfl, rfl⟩
  go_wp2_with fail
  refine HL.out.mono ?_
  rintro e w1 ⟨rfl, rfl⟩
  go_wp2_with fail
  refine HK.out.mono ?_
  rintro e w1 ⟨rfl, rfl⟩
  go_wp2_with fail
  refine wp_loop_once ?_
  go_wp2
  go_ret
  exact ⟨rfl, rfl⟩

theorem nil_same_new {w : World} {s : SG} (h : SRep w s) (h0 : s.L = []) : Calls Try.prog 41 #[.pointer none, .pointer (some ⟨s.b, 0, none⟩)] w fun e w' => e = .returned (.bool true) ∧ w = w' := by
  have hl := len_c h
  rw [h0] at hl
  have HL := hid (nil_len w)
  have HL2 := hid hl
  have HK := hid (nil_keys (BV.nil w))
  clear h h0 hl
  go_enter Try.func41, Try.ntmps41
  go_wp2_with fail
  refine HL.out.mono ?_
  rintro e w1 ⟨rfl, rfl⟩
  go_wp2_with fail
  refine HL2.out.mono ?_
  rintro e w1 ⟨rfl, rfl⟩
  go_wp2_with fail
  refine HK.out.mono ?_
  rintro e w1 ⟨rfl, rfl⟩
  go_wp2_with fail
  refine wp_loop_once ?_
  go_wp2
  go_ret
  exact ⟨rfl, rfl⟩

def SortedM (M : List KV) : Prop := M.Pairwise fun a b => lt a.1 b.1 = true

theorem sortedM_abs {L : List Ent} (h : Sorted L) : SortedM (absL L) := by
  unfold SortedM absL
  rw [List.pairwise_map]
  exact h

theorem posM_at : ∀ (M : List KV) (_ : SortedM M) (i : Nat) (h : i < M.length), posM M (M[i].1) = i
  | [], _, i, h => by simp at h
  | x :: M, _, 0, _ => by simp [posM, lt_irrefl]
  | x :: M, hs, i + 1, h => by
    have hc := List.pairwise_cons.1 hs
    have hi : i < M.length := by simpa using h
    simp only [List.getElem_cons_succ, posM]
    rw [if_pos (hc.1 _ (List.getElem_mem hi)), posM_at M hc.2 i hi]

theorem hasM_at (M : List KV) (hs : SortedM M) (i : Nat) (h : i < M.length) : hasM M (M[i].1) = true := by
  unfold hasM
  rw [posM_at M hs i h]
  simp [h]
theorem getM_at (M : List KV) (hs : SortedM M) (i : Nat) (h : i < M.length) : getM M (M[i].1) = M[i].2 := by
  unfold getM
  rw [hasM_at M hs i h, posM_at M hs i h]
  simp [h]

theorem lt_nil (a : BS) : lt a [] = false := by cases a <;> rfl

theorem keysM_nil (M : List KV) : keysM M [] = M.map Prod.fst := by
  unfold keysM
  have h0 : posM M [] = 0 := by cases M <;> simp [posM, lt_nil]
  rw [h0, List.drop_zero]
  have : ∀ l : List BS, l.takeWhile (fun k => pre [] k) = l := fun l => by
    induction l with
    | nil => rfl
    | cons x l ih => rw [List.takeWhile_cons, if_pos (by simp [pre]), ih]
  exact this _

theorem keys_mem {M : List KV} {ks : List BS} (h : ks = M.map Prod.fst) {i : Nat} (hi : i < ks.length) : ∃ h' : i < M.length, ks[i] = M[i].1 := by
  subst h
  exact ⟨by simpa using hi, by simp⟩

theorem Rows.cell {w : World} {base : Nat} {v : Value} {rs : List KRow} (h : Rows w base v rs) {i : Nat} (hi : i < rs.length) :
    ∃ g cap, v = .slice (some ⟨g, 0, none⟩) rs.length cap ∧ rs.length ≤ cap ∧ cap ≤ maxLen ∧ w.cell? ⟨g, i, none⟩ = some (rs[i]).v ∧ OB w (rs[i]).v (rs[i]).xs := by
  rcases h.1.2 with ⟨-, h0⟩ | ⟨g, cap, cur, hv, -, hg, hn, hc, hsz, ht⟩
  · omega
  · refine ⟨g, cap, hv, hn, hc, ?_, OB.of_owns (h.2 _ (List.getElem_mem hi))⟩
    have he : (rs.map KRow.v)[i]? = some (rs[i]).v := by simp [hi]
    rw [← ht, List.getElem?_take_of_lt (by omega)] at he
    rw [cell_of_row w g _ cur _ _ hg]
    simpa using he

set_option maxRecDepth 100000 in
set_option maxHeartbeats 1000000 in
theorem same_c {w : World} {s t : SG} (h : SRep w s) (ht : SRep w t) (he : absL s.L = absL t.L) (hb : s.L.length ≤ big) (hkb : ∀ e ∈ s.L, e.key.length ≤ big ∧ e.val.length ≤ big) (htb : ∀ e ∈ t.L, e.val.length ≤ big) :
    Calls Try.prog 41 #[.pointer (some ⟨s.b, 0, none⟩), .pointer (some ⟨t.b, 0, none⟩)] w fun e w' => e = .returned (.bool true) ∧ Ext w w' := by
  have hlen : s.L.length = t.L.length := by have := congrArg List.length he; simpa [absL] using this
  have hl2 := len_c ht
  rw [← hlen] at hl2
  have HL := hid (len_c h)
  have HL2 := hid hl2
  have HK := hid (keys_c h (BV.nil w) hb (fun e he => (hkb e he).1))
  have hks := keysM_nil (absL s.L)
  rw [hks] at HK
  have Hs := hid h
  have Ht := hid ht
  have HE := hid he
  have HB := hid (And.intro hkb htb)
  have Hlen := hid hlen
  have hbb := hb
  rw [big_eq] at hbb
  clear h ht he hlen hl2 hks hb hkb htb
  go_enter Try.func41, Try.ntmps41
  go_wp2_with fail
  refine HL.out.mono ?_
  rintro e w1 ⟨rfl, rfl⟩
  go_wp2_with fail
  refine HL2.out.mono ?_
  rintro e w1 ⟨rfl, rfl⟩
  go_wp2_with fail
  refine HK.out.mono ?_
  rintro e w1 ⟨v, rs, rfl, hrows, hmap, hE1⟩
  have hn : rs.length = s.L.length := by have := congrArg List.length hmap; simpa [absL] using this
  have HRows := hid hrows
  have HMap := hid hmap
  have HE1 := hid hE1
  obtain ⟨va, vcap, hv⟩ := owns_slice hrows.1
  subst hv
  have hn' := hid hn
  clear hrows hmap hE1 hn HK HL HL2
  go_wp2_with fail
  go_loopw [19] (fun j wr => ∃ k : Nat, k ≤ rs.length ∧ j = .int .i64 k ∧ Ext w1 wr) (fun j _ => rs.length - (intOf j).toNat)
  case atStart => exact ⟨0, Nat.zero_le _, rfl, Ext.refl _⟩
  case round =>
    obtain ⟨k, hk, rfl, hEr⟩ := hrel
    by_cases hlt : k < rs.length
    · have hki : (k : Int) < (rs.length : Int) := by omega
      obtain ⟨g, cap, hv, hn, hc, c0, hob⟩ := (HRows.out.ext hEr).cell hlt
      obtain ⟨hk1, hk2⟩ := keys_mem (i := k) HMap.out (by simpa using hlt)
      rw [List.getElem_map] at hk2
      obtain ⟨ka, kcap, hkv, -, -⟩ := hob.bv.val
      rw [hkv] at c0 hob
      have hkey : (rs[k]).xs = (absL s.L)[k].1 := hk2
      obtain ⟨key, hkk⟩ : ∃ key, key = (rs[k]).xs := ⟨_, rfl⟩
      rw [← hkk] at c0 hob hkey
      have hEw := HE1.out.trans hEr
      have hsM := sortedM_abs Hs.out.so
      have hhas := hasM_at _ hsM k hk1
      rw [← hkey] at hhas
      have HG := hid (get_c (Hs.out.ext hEw) hob.bv (by rw [big_eq]; omega) (fun e he => (HB.out.1 e he).2))
      have HHas := hid hhas
      have Hob := hid hob
      have HEr := hid hEr
      have hg' := HG.out
      unfold GetPost at hg'
      rw [hhas] at hg'
      have HG1 := hid hg'
      cases hv
      unfold maxLen at hc
      clear hob hEw hhas hkey hkk hk2 hkv hEr hsM hk1 hg' HG
      go_wp2_with fail
      refine HG1.out.mono ?_
      rintro e w2 ⟨x, rfl, hx, hE2⟩
      have hEw2 := (HE1.out.trans HEr.out).trans hE2
      have hg' := get_c (Ht.out.ext hEw2) (Hob.out.bv.ext hE2) (by rw [← Hlen.out, big_eq]; omega) HB.out.2
      unfold GetPost at hg'
      rw [← HE.out, HHas.out] at hg'
      have HG2 := hid hg'
      have HX := hid (OB.of_owns hx)
      have HE2 := hid hE2
      obtain ⟨xa, xcap, rfl⟩ := owns_slice hx
      clear hx hE2 hEw2 hg' HG1
      go_wp2_with fail
      refine HG2.out.mono ?_
      rintro e w3 ⟨y, rfl, hy, hE3⟩
      have hq := bequal_c (HX.out.bv.ext hE3) (OB.of_owns hy).bv
      rw [beq_self_eq_true] at hq
      have HQ := hid hq
      have HE3 := hid hE3
      obtain ⟨ya, ycap, rfl⟩ := owns_slice hy
      clear hy hE3 hq HG2
      go_wp2_with fail
      refine HQ.out.mono ?_
      rintro e w4 ⟨rfl, rfl⟩
      go_wp2_with fail
      exact ⟨⟨k + 1, hlt, by go_num, (HEr.out.trans HE2.out).trans HE3.out⟩, by simp [intOf]; omega⟩
    · obtain rfl : k = rs.length := by omega
      go_wp2
      go_ret
      exact ⟨rfl, HE1.out.trans hEr⟩

end Go.Proofs.Ytaidgkdebocenaa
