/- line.All over a store of plain pairs.
   Conditions: at most 9000 pairs. -/
import Derived.Test.YtaidgkdebocenaaLineAdd
import Derived.Test.YtaidgkdebocenaaSlots
namespace Go.Proofs.Ytaidgkdebocenaa
open Go Go.RowKit

structure IV where
  v : Value
  it : It
def IV.cells (r : IV) : List Value := [.int .u64 (r.it.due : Int), .int .u64 (r.it.no : Int), r.v]
theorem IV.cells_len (r : IV) : r.cells.length = 3 := rfl

/-- Records in new memory. -/
def Items (w : World) (base : Nat) (v : Value) (rs : List IV) : Prop :=
  w.ownsRow base 61 3 v rs.length (rs.flatMap IV.cells) ∧ ∀ r ∈ rs, w.ownsRow base 5 1 r.v r.it.p.length (bcells r.it.p)
theorem Items.ext {w w' : World} {base : Nat} {v : Value} {rs : List IV} (h : Items w base v rs) (hE : Ext w w') : Items w' base v rs :=
  ⟨Keeps.ownsRow hE h.1 fun _ _ c => c, fun r hr => Keeps.ownsRow hE (h.2 r hr) fun _ _ c => c⟩

theorem infoItem : (Try.prog.info? 61).map (fun i => (i.zero, i.size, i.bytes)) = some (some (.agg #[.int .u64 0, .int .u64 0, .slice none 0 0]), 3, 40) := by kernel_rfl

def AllPost (w : World) (L : List It) (e : Ending) (w' : World) : Prop :=
  ∃ v rs, e = .returned v ∧ Items w' w.heap.size v rs ∧ rs.map IV.it = L ∧ Ext w w'

theorem map_take_succ {α β : Type} (g : α → β) (l : List α) (k : Nat) (L : List β) (h : l.map g = L.take k) (hk : k < L.length) (x : α) (hx : g x = L[k]) : (l ++ [x]).map g = L.take (k + 1) := by
  rw [List.take_succ_eq_append_getElem hk, List.map_append, h]
  simp [hx]

set_option maxRecDepth 100000 in
set_option maxHeartbeats 2000000 in
theorem lineAll_c {w0 w : World} {b : Nat} {M : List KV} {κ : UInt8} {L : List It} (h : St w0 w b M) (hm : M.length ≤ 9000) (hL : sub M [119, κ] = recs κ L) (ho : okIts L) :
    Calls Try.prog 50 #[.pointer (some ⟨b, 0, none⟩), .int .u8 (κ.toNat : Int)] w (AllPost w L) := by
  obtain ⟨W, hW⟩ : ∃ W, W = w.alloc (.cells #[.int .u8 119, .int .u8 (κ.toNat : Int)] 5) := ⟨_, rfl⟩
  have hE : Ext w W := by rw [hW]; exact (Ext.refl w).alloc _
  have hO : OB W (.slice (some ⟨w.heap.size, 0, none⟩) 2 2) [119, κ] := by rw [hW]; exact lit2 w 119 κ
  have hK := (h.ext hE).keys (by omega) hO.bv
  rw [hL] at hK
  have hLn : L.length ≤ 9000 := by
    have h1 : (sub M [119, κ]).length ≤ M.length := List.length_filter_le _ _
    rw [hL] at h1
    simp [recs] at h1
    omega
  have HK := hid hK
  have H := hid h
  have HE := hid hE
  have HW := hid hW
  have HL := hid hL
  have HO := hid ho
  obtain ⟨kn, hkn⟩ : ∃ kn, kn = κ.toNat := ⟨_, rfl⟩
  rw [← hkn] at HW ⊢
  have Hkn := hid hkn
  clear h hE hW hO hK hkn hL ho
  go_enter Try.func50, Try.ntmps50
  go_wp2_with fail
  rw [← HW.out]
  refine HK.out.mono ?_
  rintro e w1 ⟨kv, ks, rfl, hks, hkm, hE1⟩
  have hn : ks.length = L.length := by have := congrArg List.length hkm; simpa [recs] using this
  obtain ⟨ka, kc, hkv, hkc1, hkc2⟩ := row_len hks.1
  rw [hn] at hkv hkc1
  subst hkv
  obtain ⟨n, hnn⟩ : ∃ n, n = L.length := ⟨_, rfl⟩
  rw [← hnn] at hkc1 hLn ⊢
  have H1 := hid (And.intro hks (And.intro hkm (And.intro (HE.out.trans hE1) (And.intro hn hnn))))
  clear hks hkm hE1 hn hnn HK
  go_wp2_with fail
  go_loopw [5, 16] (fun l i wr => ∃ (k : Nat) (rs : List IV), k ≤ n ∧ i = .int .i64 k ∧ rs.map IV.it = L.take k ∧ rs.length = k ∧ Items wr w1.heap.size l rs ∧ Ext w1 wr) (fun _ i _ => n - (intOf i).toNat)
  case atStart => exact ⟨0, [], Nat.zero_le _, rfl, rfl, rfl, ⟨World.ownsRow_nil _ _ _ _, (fun _ h => nomatch h)⟩, Ext.refl _⟩
  case round =>
    obtain ⟨k, rs, hk, rfl, hrm, hrl, hI, hEr⟩ := hrel
    obtain ⟨la, lc, hlv, hlc1, hlc2⟩ := row_len hI.1
    rw [hrl] at hlv hlc1
    subst hlv
    have HI := hid (And.intro hrm (And.intro hrl (And.intro hI hEr)))
    clear hrm hrl hI hEr
    by_cases hlt : k < n
    · have hki : (k : Int) < (n : Int) := by omega
      obtain ⟨hks, hkm, hE1, hn, hnn⟩ := H1.out
      have hkk : k < ks.length := by omega
      have hkL : k < L.length := by omega
      obtain ⟨g, cap, hv, -, -, c0, hob⟩ := (hks.two.ext HI.out.2.2.2).cell hkk
      have hkey : (ks[k]).xs = wkey κ (L[k]).due (L[k]).no := by
        have : (ks.map KRow.xs)[k]? = ((recs κ L).map Prod.fst)[k]? := by rw [hkm]
        simpa [recs, hkk, hkL] using this
      have hlk := wkey_length κ (L[k]).due (L[k]).no
      have hlook : look M (wkey κ (L[k]).due (L[k]).no) = some (L[k]).p := by
        have hs := sub_sorted H.out.so [119, κ]
        rw [HL.out] at hs
        rw [← look_sub (p := [119, κ]) (by rw [pre_wkey]; simp), HL.out]
        exact look_mem hs (List.mem_map.2 ⟨L[k], List.getElem_mem _, rfl⟩)
      obtain ⟨it, hit⟩ : ∃ it, it = L[k] := ⟨_, rfl⟩
      rw [← hit] at hkey hlk hlook
      obtain ⟨hdd, hnn64⟩ := HO.out it (by rw [hit]; exact List.getElem_mem _)
      rw [hkey] at hob
      obtain ⟨qg, qc, hqv, hqc, hqm⟩ := row_some hob (by rw [hlk]; omega)
      rw [hlk] at hqv hqc
      rw [hqv] at c0 hob
      rw [hn, ← hnn] at hv
      cases hv
      have hq2 : (2 : Int) < (qc : Int) := by omega
      have hq3 : (2 : Int) ≤ (qc : Int) := by omega
      have ht := hob.bv.tail (n := 2) (by rw [hlk]; omega)
      have hkd : (wkey κ it.due it.no).drop 2 = be 8 it.due ++ be 8 it.no := rfl
      rw [hlk, hkd, Option.map_some, Addr.add_plain] at ht
      have HR := hid (cRead_c ht (le_big (by simp [be_length])))
      have HX := hid (And.intro hit (And.intro hob (And.intro hlook (And.intro hdd hnn64))))
      clear hks hkm hE1 hn hnn hkey hlk hlook hit hob hqv ht hkd hdd hnn64
      go_wp2_with fail
      refine HR.out.mono ?_
      rintro e w2 ⟨rb, rfl, hrd, hE2, hrb⟩
      obtain ⟨hit, hob, hlook, hdd, hnn64⟩ := HX.out
      have hEw : Ext w w2 := (H1.out.2.2.1.trans HI.out.2.2.2).trans hE2
      have hg := (H.out.ext hEw).get (by omega) (hob.ext hE2).bv
      rw [hlook] at hg
      unfold GotPost at hg
      simp only [Option.isSome_some, Option.getD_some] at hg
      have HG := hid hg
      have H2 := hid (And.intro hrd (And.intro hE2 hrb))
      clear hrd hE2 hrb hit hob hlook hdd hnn64 hEw hg HR
      go_wp2_with fail
      refine HG.out.mono ?_
      rintro e w3 ⟨pa, pc, rfl, hp3, hE3⟩
      have hl := crLong_c (H2.out.1.ext hE3) (by rw [List.length_append, be_length, be_length]; omega)
      rw [List.take_left' (be_length _ _), List.drop_left' (be_length _ _), bev_be' (w64_pow ▸ HX.out.2.2.2.1)] at hl
      have HL1 := hid hl
      have H3 := hid (And.intro hp3 hE3)
      clear hp3 hE3 hl HG
      go_wp2_with fail
      refine HL1.out.mono ?_
      rintro e w4 ⟨rfl, hrd4, hK4⟩
      have hl := crLong_c hrd4 (by rw [be_length]; omega)
      rw [List.take_of_length_le (by rw [be_length]; omega), bev_be' (w64_pow ▸ HX.out.2.2.2.2)] at hl
      have HL2 := hid hl
      have HK4 := hid hK4
      clear hrd4 hK4 hl HL1
      go_wp2_with fail
      refine HL2.out.mono ?_
      rintro e w5 ⟨rfl, -, hK5⟩
      have hrb3 : w.heap.size ≤ rb := by have := H2.out.2.2; have := (H1.out.2.2.1.trans HI.out.2.2.2).size; omega
      have hK35 : Keeps (fun k => k = rb) w3 w5 := HK4.out.trans hK5
      have hEr5 : Ext wr w5 := (H2.out.2.1.trans H3.out.2).trans' hK35 fun k hk e => by have := H2.out.2.2; omega
      have hp5 := hK35.ownsRow H3.out.1 fun g hg e => by have := (H3.out.1.lt g hg).1; have := H2.out.1.lt; omega
      have hI5 := HI.out.2.2.1.ext hEr5
      have hE15 : Ext w1 w5 := HI.out.2.2.2.trans hEr5
      have hone := hI5.1
      rw [HI.out.2.1] at hone
      obtain ⟨la', lc', w6, hrun, hlen6, hown6, hE6, hK6⟩ := rowApp (x := (⟨.slice pa it.p.length pc, it⟩ : IV)) (cs := [.int .u64 (it.due : Int), .int .u64 (it.no : Int), .slice pa it.p.length pc]) Try.underlying58 infoItem rfl (by decide) (by decide) hE15 HI.out.2.1 hone rfl rfl (by simp [Value.oneCell']) (by omega)
      have hp6 : ∀ {v : Value} {n : Nat} {xs : List Value}, w5.ownsRow w1.heap.size 5 1 v n xs → w6.ownsRow w1.heap.size 5 1 v n xs := fun ho => hK6.ownsRow ho fun g hg e => by
        obtain ⟨c1, h1⟩ := owns_typed ho hg
        obtain ⟨c2, h2⟩ := owns_typed hone e
        exact typed_ne h1 h2 (by decide)
      have hI6 : Items w6 w1.heap.size (.slice la' (k + 1) lc') (rs ++ [⟨.slice pa it.p.length pc, it⟩]) := by
        refine ⟨by rw [hlen6]; exact hown6, fun r hr => ?_⟩
        rcases List.mem_append.1 hr with hr | hr
        · exact hp6 (hI5.2 r hr)
        · obtain rfl := List.mem_singleton.1 hr
          exact hp6 (owns_base hp5 ((HI.out.2.2.2.trans H2.out.2.1).size))
      have hm6 := map_take_succ IV.it rs k L HI.out.1 hkL ⟨.slice pa it.p.length pc, it⟩ HX.out.1
      have H6 := hid (And.intro hm6 (And.intro hlen6 (And.intro hI6 hE6)))
      clear hm6 hlen6 hI6 hE6 hp5 hI5 hEr5 hE15 hone hK5 hK35 HL2 hK6 hp6 hown6 hrb3
      go_wp2_with fail
      exact ⟨⟨k + 1, rs ++ [⟨.slice pa it.p.length pc, it⟩], hlt, by go_num, H6.out.1, H6.out.2.1, H6.out.2.2.1, H6.out.2.2.2⟩, by simp [intOf]; omega⟩
    · obtain rfl : k = n := by omega
      go_wp2_with fail
      go_ret
      obtain ⟨hrm, hrl, hI, hEr⟩ := HI.out
      refine ⟨.slice la k lc, rs, rfl, ?_, ?_, H1.out.2.2.1.trans hEr⟩
      · exact ⟨owns_base hI.1 H1.out.2.2.1.size, fun r hr => owns_base (hI.2 r hr) H1.out.2.2.1.size⟩
      · rw [hrm, H1.out.2.2.2.2, List.take_length]

end Go.Proofs.Ytaidgkdebocenaa
