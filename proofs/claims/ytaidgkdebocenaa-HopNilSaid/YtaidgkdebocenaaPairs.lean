/- Contracts of slices.Delete, slices.Insert and slices.Clone at a store's pairs.
   Conditions: the slice begins at its row's head; the place lies in it; one pair goes, or comes. -/
import Derived.Test.YtaidgkdebocenaaStore
import Derived.Test.YtaidgkdebocenaaRow
import Derived.Deep.RegionLaw
import Derived.Lib.AppendZerosOnto
namespace Go.Proofs.Ytaidgkdebocenaa
open Go Go.RowKit

theorem infoP : (Try.prog.info? 161).map (fun i => (i.zero, i.size, i.bytes)) = some (some (.agg #[.slice none 0 0, .slice none 0 0]), 2, 48) := by kernel_rfl
theorem infoP1 : (Try.prog.info? 161).map (·.size) = some 2 := by kernel_rfl
theorem infoP2 : (Try.prog.info? 161).map (fun i => (i.zero, i.size)) = some (some (.agg #[.slice none 0 0, .slice none 0 0]), 2) := by kernel_rfl

set_option maxRecDepth 100000 in
set_option maxHeartbeats 1000000 in
theorem deleteP_c {w : World} {g n cap i : Nat} {ys : List Value} (hg : w.heap[g]? = some (.cells ys.toArray 161 (0, 0))) (hl : ys.length = cap * 2) (hn : n + 1 ≤ cap) (hc : cap ≤ maxLen) (hi : i ≤ n)
    (h1 : ∀ u ∈ ys.take ((n + 1) * 2), u.oneCell' = true) :
    Calls Try.prog 153 #[.slice (some ⟨g, 0, none⟩) (n + 1) cap, .int .i64 i, .int .i64 ((i : Int) + 1)] w fun e w' => e = .returned (.slice (some ⟨g, 0, none⟩) n cap) ∧
      ∃ zs : List Value, w'.heap[g]? = some (.cells zs.toArray 161 (0, 0)) ∧ zs.length = cap * 2 ∧ zs.take (n * 2) = ys.take (i * 2) ++ (ys.drop ((i + 1) * 2)).take ((n - i) * 2) ∧ Keeps (fun k => k = g) w w' := by
  unfold maxLen at hc
  have b1 : (0 : Int) ≤ (i : Int) := by omega
  have b2 : (i : Int) + 1 ≤ (n : Int) + 1 := by omega
  have b3 : (n : Int) + 1 ≤ (cap : Int) := by omega
  have b4 : ¬ n + 1 = i := by omega
  have hsrc : ∀ ao : Option Addr, (cap = i + 1 → ao = some ⟨g, 0, none⟩) → (¬ cap = i + 1 → ao = some ⟨g, (i + 1) * 2, none⟩) → Src w.drew ao (n - i) (cap - (i + 1)) ((ys.drop ((i + 1) * 2)).take ((n - i) * 2)) := by
    intro ao e1 e2
    refine ⟨fun e => ?_, fun a ha j u hj => ?_⟩
    · by_cases hcap : cap = i + 1
      · rw [e1 hcap] at e; cases e
      · rw [e2 hcap] at e; cases e
    · by_cases hcap : cap = i + 1
      · have : (n - i) * 2 = 0 := by omega
        rw [this] at hj; simp at hj
      · rw [e2 hcap] at ha
        obtain rfl := Option.some.inj ha
        exact whole_cells (w := w.drew) hg _ _ j u hj
  have hlen : ((ys.drop ((i + 1) * 2)).take ((n - i) * 2)).length = (n - i) * 2 := by simp [hl]; omega
  have hone : ∀ u ∈ (ys.drop ((i + 1) * 2)).take ((n - i) * 2), u.oneCell' = true := by
    intro u hu
    refine h1 u ?_
    have e : (ys.drop ((i + 1) * 2)).take ((n - i) * 2) = (ys.take ((n + 1) * 2)).drop ((i + 1) * 2) := by
      rw [List.drop_take]; congr 1; omega
    rw [e] at hu
    exact List.mem_of_mem_drop hu
  have hrun : ∀ ao : Option Addr, (cap = i + 1 → ao = some ⟨g, 0, none⟩) → (¬ cap = i + 1 → ao = some ⟨g, (i + 1) * 2, none⟩) → 
      (App #[149, 149] 149 #[.slice (some ⟨g, 0, none⟩) i cap, .slice ao (n - i) (cap - (i + 1))]).run Try.prog w.drew =
        .ok (.slice (some ⟨g, 0, none⟩) n cap) (w.drew.setRow g (ys.take (i * 2) ++ (ys.drop ((i + 1) * 2)).take ((n - i) * 2) ++ ys.drop (i * 2 + ((ys.drop ((i + 1) * 2)).take ((n - i) * 2)).length)).toArray) := by
    intro ao e1 e2
    have := run_app_room (P := Try.prog) (w := w.drew) 149 149 161 2 Try.underlying149 infoP1 g i cap ys hg ao (n - i) (cap - (i + 1)) _ hlen (hsrc ao e1 e2) hone (by omega) hl
    rw [show i + (n - i) = n by omega] at this
    exact this
  obtain ⟨ys1, hy1⟩ : ∃ ys1, ys1 = ys.take (i * 2) ++ (ys.drop ((i + 1) * 2)).take ((n - i) * 2) ++ ys.drop (i * 2 + ((ys.drop ((i + 1) * 2)).take ((n - i) * 2)).length) := ⟨_, rfl⟩
  rw [← hy1] at hrun
  have hl1 : ys1.length = cap * 2 := by rw [hy1]; simp [hl]; omega
  have ht1 : ys1.take (n * 2) = ys.take (i * 2) ++ (ys.drop ((i + 1) * 2)).take ((n - i) * 2) := by
    rw [hy1]
    refine List.take_left' ?_
    simp [hl]; omega
  have hg1 : (w.drew.setRow g ys1.toArray).heap[g]? = some (.cells ys1.toArray 161 (0, 0)) := setRow_whole (w := w.drew) hg
  have hclear := run_clear_whole (P := Try.prog) (w := w.drew.setRow g ys1.toArray) 149 0 161 2 (.agg #[.slice none 0 0, .slice none 0 0]) Try.underlying149 infoP2 rfl (by decide) g (n * 2) 1 (cap - n) ys1 161 hg1 (by decide) (by omega)
  obtain ⟨ys2, hy2⟩ : ∃ ys2, ys2 = ys1.take (n * 2) ++ (Builtin.zeroCells (Value.agg #[.slice none 0 0, .slice none 0 0]).cells 1).toList ++ ys1.drop (n * 2 + 1 * 2) := ⟨_, rfl⟩
  rw [← hy2] at hclear
  have hl2 : ys2.length = cap * 2 := by rw [hy2]; simp [hl1, size_zeroCells, Value.cells]; omega
  have ht2 : ys2.take (n * 2) = ys1.take (n * 2) := by rw [hy2, List.append_assoc]; exact List.take_left' (by simp [hl1]; omega)
  have hg2 : ((w.drew.setRow g ys1.toArray).setRow g ys2.toArray).heap[g]? = some (.cells ys2.toArray 161 (0, 0)) := setRow_whole hg1
  have hfin : Hid (∃ zs : List Value, ((w.drew.setRow g ys1.toArray).setRow g ys2.toArray).heap[g]? = some (.cells zs.toArray 161 (0, 0)) ∧ zs.length = cap * 2 ∧ zs.take (n * 2) = ys.take (i * 2) ++ (ys.drop ((i + 1) * 2)).take ((n - i) * 2) ∧ Keeps (fun k => k = g) w ((w.drew.setRow g ys1.toArray).setRow g ys2.toArray)) :=
    hid ⟨ys2, hg2, hl2, by rw [ht2, ht1], (((Keeps.refl (fun k => k = g) w).drew).setRow (fun _ => rfl) _).setRow (fun _ => rfl) _⟩
  have HR := hid hrun
  have HC := hid hclear
  clear hg hl h1 hsrc hlen hone hrun hclear hy1 hl1 ht1 hg1 hy2 hl2 ht2 hg2
  have b5 : ¬ cap = n := by omega
  have b8 : (0 : Int) ≤ (i : Int) + 1 := by omega
  by_cases hcap : cap = i + 1
  · have hr0 := HR.out (some ⟨g, 0, none⟩) (fun _ => rfl) (fun c => absurd hcap c)
    have hni : n = i := by omega
    subst hcap
    obtain rfl := hni
    rw [Nat.sub_self, Nat.sub_self] at hr0
    have hc0 := HC.out
    rw [Nat.add_sub_cancel_left] at hc0
    have b6 : (n : Int) ≤ (n : Int) + 1 := by omega
    have b7 : n ≤ n + 1 := by omega
    go_enter Try.func153, Try.ntmps153
    go_wp2_with fail
    go_region
    go_wp2_with fail
    go_ret
    exact ⟨rfl, hfin.out⟩
  · have hr := HR.out (some ⟨g, (i + 1) * 2, none⟩) (fun c => absurd c hcap) (fun _ => rfl)
    have hc0 := HC.out
    have b7 : i ≤ cap := by omega
    go_enter Try.func153, Try.ntmps153
    go_wp2_with fail
    go_region
    go_wp2_with fail
    go_ret
    exact ⟨rfl, hfin.out⟩

/-! ### slices.Insert, one pair -/

theorem run_sizeP (w : World) : (Go.sizeOf 161).run Try.prog w = .ok 2 w := by
  obtain ⟨i, hi, h2⟩ := Option.map_eq_some_iff.1 infoP1
  simp [sizeOf, typeInfo, hi, h2]

theorem run_overlapsP {w : World} {a b : Addr} {la ca lb cb : Nat} (hne : a.block ≠ b.block) {cA cB : Array Value} (hA : w.heap[a.block]? = some (.cells cA 161 (0, 0))) (hB : w.heap[b.block]? = some (.cells cB 161 (0, 0))) (hcB : cB.size ≠ 0) :
    (callFunc 184 #[.slice (some a) la ca, .slice (some b) lb cb]).run Try.prog w = .ok (.value (.bool false)) w := by
  rw [run_callFunc_extern (fn := Try.f184) (e := Extern.SlicesOverlaps.overlaps #[149, 149] #[4]) (by kernel_rfl) (by kernel_rfl) rfl (by kernel_rfl) (by kernel_rfl)]
  have := Lib.run_overlaps_apart (P := Try.prog) w 149 4 161 Try.underlying149 2 run_sizeP a b la ca lb cb hne 161 161 cA.size cB.size (by simp [World.shape?, hA]) (by simp [World.shape?, hB]) hcB (by simp [World.frozen?, hA]) (by simp [World.frozen?, hA])
  rw [this]
  rfl

def insC (xs : List Value) (i : Nat) (news : List Value) : List Value := xs.take (i * 2) ++ news ++ xs.drop (i * 2)

/-- What slices.Insert leaves. -/
def InsPost (w : World) (v : Value) (n : Nat) (xs : List Value) (e : Ending) (w' : World) : Prop :=
  ∃ v', e = .returned v' ∧ w'.ownsRow 0 161 2 v' n xs ∧ Keeps (fun k => v.ownBlock = some k) w w' ∧ (∀ k, v'.ownBlock = some k → v.ownBlock = some k ∨ w.heap.size ≤ k)

set_option maxRecDepth 100000 in
set_option maxHeartbeats 1000000 in
theorem insertP_end {w : World} {v : Value} {n gv : Nat} {xs news : List Value} (ho : w.ownsRow 0 161 2 v n xs) (hv : w.heap[gv]? = some (.cells news.toArray 161 (0, 0))) (hn2 : news.length = 2)
    (h1 : ∀ u ∈ news, u.oneCell' = true) (hb : n ≤ big) :
    Calls Try.prog 154 #[v, .int .i64 n, .slice (some ⟨gv, 0, none⟩) 1 1] w (InsPost w v (n + 1) (insC xs n news)) := by
  simp only [big_eq] at hb
  have hsrc : Src w (some ⟨gv, 0, none⟩) 1 1 news := Src.row hv
  obtain ⟨v', w', hr, ho', hg', hblk⟩ := run_App (P := Try.prog) 149 149 161 2 48 (.agg #[.slice none 0 0, .slice none 0 0]) Try.underlying149 infoP rfl (by decide) ho (m := 1) (by omega) hsrc h1 (by unfold maxLen; omega) (by omega) (Nat.zero_le _)
  have hxs : insC xs n news = xs ++ news := by
    have := ho.1
    simp [insC, List.take_of_length_le (by omega : xs.length ≤ n * 2), List.drop_of_length_le (by omega : xs.length ≤ n * 2)]
  have hfin : Hid (InsPost w v (n + 1) (insC xs n news) (.returned v') w') := hid ⟨v', rfl, by rw [hxs]; exact ho', (Keeps.refl _ w).grown hg' (fun k hk _ => hk), hblk⟩
  have hval : ∃ ao cap, v = .slice ao n cap ∧ n ≤ cap ∧ cap ≤ 9223372036854775807 := by
    rcases ho.2 with ⟨h, h0⟩ | ⟨g, cap, cur, h, -, -, hnc, hcm, -⟩
    · exact ⟨none, 0, by rw [h, h0], by omega, by omega⟩
    · unfold maxLen at hcm
      exact ⟨_, cap, h, hnc, hcm⟩
  clear ho hv hsrc ho' hg' hblk hxs
  obtain ⟨ao, cap, rfl, hnc, hcm⟩ := hval
  have hni : (0 : Int) ≤ (n : Int) := by omega
  by_cases hcn : cap = n
  · subst hcn
    go_enter Try.func154, Try.ntmps154
    go_wp2_with fail
    go_ret
    exact hfin.out
  · go_enter Try.func154, Try.ntmps154
    go_wp2_with fail
    go_ret
    exact hfin.out

set_option maxRecDepth 100000 in
set_option maxHeartbeats 1000000 in
/-- .. where there is room. -/
theorem insertP_room {w : World} {g n cap gv i : Nat} {ys news : List Value} (hg : w.heap[g]? = some (.cells ys.toArray 161 (0, 0))) (hl : ys.length = cap * 2) (hn : n + 1 ≤ cap) (hc : cap ≤ maxLen) (hi : i < n)
    (hy : ∀ u ∈ ys.take (n * 2), u.oneCell' = true) (hv : w.heap[gv]? = some (.cells news.toArray 161 (0, 0))) (hne : g ≠ gv) (hn2 : news.length = 2) (h1 : ∀ u ∈ news, u.oneCell' = true) (hb : n ≤ big) :
    Calls Try.prog 154 #[.slice (some ⟨g, 0, none⟩) n cap, .int .i64 i, .slice (some ⟨gv, 0, none⟩) 1 1] w (InsPost w (.slice (some ⟨g, 0, none⟩) n cap) (n + 1) (insC (ys.take (n * 2)) i news)) := by
  unfold maxLen at hc
  simp only [big_eq] at hb
  -- the shift
  obtain ⟨mid, hmid⟩ : ∃ mid, mid = (ys.drop (i * 2)).take ((n - i) * 2) := ⟨_, rfl⟩
  have hmlen : mid.length = (n - i) * 2 := by rw [hmid]; simp [hl]; omega
  have hmone : ∀ u ∈ mid, u.oneCell' = true := by
    intro u hu
    refine hy u ?_
    have e : (ys.drop (i * 2)).take ((n - i) * 2) = (ys.take (n * 2)).drop (i * 2) := by rw [List.drop_take]; congr 1; omega
    rw [hmid, e] at hu
    exact List.mem_of_mem_drop hu
  have hmin : Nat.min (n + 1 - i) (n - i) = n - i := Nat.min_eq_right (by omega)
  have hsh := run_copy_whole (P := Try.prog) (w := w.drew) 149 149 3 161 2 Try.underlying149 infoP1 g ((i + 1) * 2) (n - i) (cap - (i + 1)) ys 161 hg (some ⟨g, i * 2, none⟩) (n + 1 - i) (cap - i) mid
    (by rw [hmin]; exact hmlen) (by rw [hmid]; exact Src.part (w := w.drew) hg) (by omega) hmone (fun e => nomatch e)
  rw [hmin] at hsh
  obtain ⟨ys1, hy1⟩ : ∃ ys1, ys1 = ys.take ((i + 1) * 2) ++ mid ++ ys.drop ((i + 1) * 2 + mid.length) := ⟨_, rfl⟩
  rw [← hy1] at hsh
  have hl1 : ys1.length = cap * 2 := by rw [hy1]; simp [hl, hmlen]; omega
  have hg1 : (w.drew.setRow g ys1.toArray).heap[g]? = some (.cells ys1.toArray 161 (0, 0)) := setRow_whole (w := w.drew) hg
  have hv1 : (w.drew.setRow g ys1.toArray).heap[gv]? = some (.cells news.toArray 161 (0, 0)) := by rw [setRow_other _ _ _ _ (Ne.symm hne)]; exact hv
  have hput := run_copy_whole (P := Try.prog) (w := w.drew.setRow g ys1.toArray) 149 149 3 161 2 Try.underlying149 infoP1 g (i * 2) (n + 1 - i) (cap - i) ys1 161 hg1 (some ⟨gv, 0, none⟩) 1 1 news
    (by have : Nat.min 1 (n + 1 - i) = 1 := Nat.min_eq_left (by omega)
        rw [this, hn2]) (Src.row hv1) (by omega) h1 (fun e => nomatch e)
  obtain ⟨ys2, hy2⟩ : ∃ ys2, ys2 = ys1.take (i * 2) ++ news ++ ys1.drop (i * 2 + news.length) := ⟨_, rfl⟩
  rw [← hy2] at hput
  have hl2 : ys2.length = cap * 2 := by rw [hy2]; simp [hl1, hn2]; omega
  have ht2 : ys2.take ((n + 1) * 2) = insC (ys.take (n * 2)) i news := by
    have a1 : ys1.take (i * 2) = ys.take (i * 2) := by rw [hy1, List.append_assoc, List.take_append_of_le_length (by simp [hl]; omega), List.take_take]; congr 1; omega
    have a2 : ys1.drop (i * 2 + news.length) = mid ++ ys.drop ((i + 1) * 2 + mid.length) := by
      rw [hy1, List.append_assoc]
      exact List.drop_left' (by simp [hl, hn2]; omega)
    rw [hy2, a1, a2]
    have a3 : (ys.take (i * 2) ++ news ++ (mid ++ ys.drop ((i + 1) * 2 + mid.length))) = (ys.take (i * 2) ++ news ++ mid) ++ ys.drop ((i + 1) * 2 + mid.length) := by simp
    rw [a3, List.take_left' (by simp [hl, hn2, hmlen]; omega)]
    unfold insC
    have a4 : (ys.take (n * 2)).take (i * 2) = ys.take (i * 2) := by rw [List.take_take]; congr 1; omega
    have a5 : (ys.take (n * 2)).drop (i * 2) = mid := by rw [hmid, List.drop_take]; congr 1; omega
    rw [a4, a5]
  have hg2 : ((w.drew.setRow g ys1.toArray).setRow g ys2.toArray).heap[g]? = some (.cells ys2.toArray 161 (0, 0)) := setRow_whole hg1
  have hov := run_overlapsP (w := w) (a := ⟨gv, 0, none⟩) (b := ⟨g, (i + 1) * 2, none⟩) (la := 1) (ca := 1) (lb := n - i) (cb := cap - (i + 1)) (Ne.symm hne) hv hg (by rw [List.size_toArray, hl]; omega)
  have hfin : Hid (InsPost w (.slice (some ⟨g, 0, none⟩) n cap) (n + 1) (insC (ys.take (n * 2)) i news) (.returned (.slice (some ⟨g, 0, none⟩) (n + 1) cap)) ((w.drew.setRow g ys1.toArray).setRow g ys2.toArray)) := by
    refine hid ⟨_, rfl, ?_, ?_, fun k hk => .inl hk⟩
    · rw [← ht2]
      exact ownsRow_of_whole hg2 hl2 hn (by unfold maxLen; exact hc) (Nat.zero_le _)
    · exact ((((Keeps.refl (fun k => (Value.slice (some ⟨g, 0, none⟩) n cap).ownBlock = some k) w).drew).setRow (fun _ => rfl) _).setRow (fun _ => rfl) _)
  clear hg hl hy hv hmid hmlen hmone hy1 hl1 hg1 hv1 hy2 hl2 ht2 hg2 hmin
  have b0 : (0 : Int) ≤ (i : Int) := by omega
  have b1 : (i : Int) ≤ (n : Int) := by omega
  have b2 : ¬ n = i := by omega
  have b3 : (n : Int) + 1 ≤ (cap : Int) := by omega
  have b4 : (i : Int) + 1 ≤ (n : Int) + 1 := by omega
  have b5 : ¬ cap = i := by omega
  have b6 : ¬ cap = i + 1 := by omega
  have b7 : ¬ i = n := by omega
  have b8 : (i : Int) ≤ (n : Int) + 1 := by omega
  have b9 : (0 : Int) ≤ (i : Int) + 1 := by omega
  go_enter Try.func154, Try.ntmps154
  go_wp2_with fail
  go_region
  go_wp2_with fail
  go_ret
  exact hfin.out

set_option maxRecDepth 100000 in
set_option maxHeartbeats 1000000 in
/-- .. where there is none. -/
theorem insertP_grow {w : World} {g n gv i : Nat} {ys news : List Value} (hg : w.heap[g]? = some (.cells ys.toArray 161 (0, 0))) (hl : ys.length = n * 2) (hc : n ≤ maxLen) (hi : i < n)
    (hy : ∀ u ∈ ys, u.oneCell' = true) (hv : w.heap[gv]? = some (.cells news.toArray 161 (0, 0))) (hn2 : news.length = 2) (h1 : ∀ u ∈ news, u.oneCell' = true) (hb : n ≤ big) :
    Calls Try.prog 154 #[.slice (some ⟨g, 0, none⟩) n n, .int .i64 i, .slice (some ⟨gv, 0, none⟩) 1 1] w (InsPost w (.slice (some ⟨g, 0, none⟩) n n) (n + 1) (insC ys i news)) := by
  unfold maxLen at hc
  simp only [big_eq] at hb
  obtain ⟨i0, hi0, hz0, hz1, hz2⟩ := info_parts infoP
  obtain ⟨C, hC⟩ : ∃ C, C = grownCap w (i + (n + 1 - i)) n 161 := ⟨_, rfl⟩
  have hCn : n + 1 ≤ C := by rw [hC]; have := grownCap_ge w (i + (n + 1 - i)) n 161; omega
  have hCm : C ≤ maxLen := by rw [hC]; exact grownCap_le_maxLen w _ _ _ (by unfold maxLen; omega)
  have hold : (Builtin.firstCells i0.size i (.slice (some ⟨g, 0, none⟩) i n)).run Try.prog w.drew = .ok (ys.take (i * 2)).toArray w.drew := by
    have := run_firstCells_some (P := Try.prog) w.drew 2 i ⟨g, 0, none⟩ i n (ys.take (i * 2)) (by simp [hl]; omega) (fun j u hj => whole_cells (w := w.drew) hg 0 (i * 2) j u (by simpa using hj))
    rw [hz1]; exact this
  have happ := Lib.run_append_grow_zeros (P := Try.prog) w 149 3 149 161 i0 _ .i64 .i64 Try.underlying149 Try.underlying3 hi0 hz0 (some ⟨g, 0, none⟩) i n _ hold (n + 1 - i) (by omega) (by omega) (by omega) (by omega) (by rw [hz2]; omega) (growslice_fits (by omega) (by rw [hz2]; omega))
  rw [show i + (n + 1 - i) = n + 1 by omega] at happ hC
  rw [← hC] at happ
  obtain ⟨zs, hzs⟩ : ∃ zs, zs = ys.take (i * 2) ++ ((Builtin.zeroCells (Value.agg #[.slice none 0 0, .slice none 0 0]).cells (n + 1 - i)).toList ++ (Builtin.zeroCells (Value.agg #[.slice none 0 0, .slice none 0 0]).cells (C - (n + 1))).toList) := ⟨_, rfl⟩
  have hzl : zs.length = C * 2 := by rw [hzs]; simp [hl, size_zeroCells, Value.cells]; omega
  have hzt : zs.take (i * 2) = ys.take (i * 2) := by rw [hzs]; exact List.take_left' (by simp [hl]; omega)
  have harr : ((ys.take (i * 2)).toArray ++ Builtin.zeroCells (Value.agg #[.slice none 0 0, .slice none 0 0]).cells (n + 1 - i) ++ Builtin.zeroCells (Value.agg #[.slice none 0 0, .slice none 0 0]).cells (C - (n + 1))) = zs.toArray := by
    apply Array.ext'
    rw [hzs]; simp
  rw [harr] at happ
  obtain ⟨W, hW⟩ : ∃ W, W = w.drew.alloc (.cells zs.toArray 161) := ⟨_, rfl⟩
  rw [← hW] at happ
  obtain ⟨N, hN⟩ : ∃ N, N = w.heap.size := ⟨_, rfl⟩
  rw [← hN] at happ
  have hEW : Ext w W := by rw [hW]; exact ((Ext.refl w).drew).alloc _
  have hNW : W.heap[N]? = some (.cells zs.toArray 161 (0, 0)) := by rw [hW, hN]; exact heap_alloc_new w.drew _
  have hgW := hEW.heap hg
  have hvW := hEW.heap hv
  have hNg : g ≠ N := by have := lt_of_heap hg; omega
  have hNv : gv ≠ N := by have := lt_of_heap hv; omega
  have hmin1 : Nat.min 1 (n + 1 - i) = 1 := Nat.min_eq_left (by omega)
  have hput := run_copy_whole (P := Try.prog) (w := W) 149 149 3 161 2 Try.underlying149 infoP1 N (i * 2) (n + 1 - i) (C - i) zs 161 hNW (some ⟨gv, 0, none⟩) 1 1 news
    (by rw [hmin1, hn2]) (Src.row hvW) (by omega) h1 (fun e => nomatch e)
  rw [hmin1] at hput
  obtain ⟨zs1, hz1'⟩ : ∃ zs1, zs1 = zs.take (i * 2) ++ news ++ zs.drop (i * 2 + news.length) := ⟨_, rfl⟩
  rw [← hz1'] at hput
  have hzl1 : zs1.length = C * 2 := by rw [hz1']; simp [hzl, hn2]; omega
  have hN1 : (W.setRow N zs1.toArray).drew.heap[N]? = some (.cells zs1.toArray 161 (0, 0)) := setRow_whole (w := W) hNW
  have hg1 : (W.setRow N zs1.toArray).drew.heap[g]? = some (.cells ys.toArray 161 (0, 0)) := by
    show (W.setRow N zs1.toArray).heap[g]? = _
    rw [setRow_other _ _ _ _ hNg]; exact hgW
  have hmid : ((ys.drop (i * 2)).take ((n - i) * 2)) = ys.drop (i * 2) := List.take_of_length_le (by simp [hl]; omega)
  have hmin2 : Nat.min (n - i) (n - i) = n - i := Nat.min_self _
  have hsh := run_copy_whole (P := Try.prog) (w := (W.setRow N zs1.toArray).drew) 149 149 3 161 2 Try.underlying149 infoP1 N ((i + 1) * 2) (n - i) (C - (i + 1)) zs1 161 hN1 (some ⟨g, i * 2, none⟩) (n - i) (n - i) ((ys.drop (i * 2)).take ((n - i) * 2))
    (by rw [hmin2]; simp [hl]; omega) (Src.part hg1) (by simp [hl]; omega) (fun u hu => hy u (List.mem_of_mem_drop (List.mem_of_mem_take hu))) (fun e => nomatch e)
  rw [hmin2, hmid] at hsh
  obtain ⟨zs2, hz2'⟩ : ∃ zs2, zs2 = zs1.take ((i + 1) * 2) ++ ys.drop (i * 2) ++ zs1.drop ((i + 1) * 2 + (ys.drop (i * 2)).length) := ⟨_, rfl⟩
  rw [← hz2'] at hsh
  have hzl2 : zs2.length = C * 2 := by rw [hz2']; simp [hzl1, hl]; omega
  have ht2 : zs2.take ((n + 1) * 2) = insC ys i news := by
    have a1 : zs1.take ((i + 1) * 2) = ys.take (i * 2) ++ news := by rw [hz1', hzt]; exact List.take_left' (by simp [hl, hn2]; omega)
    rw [hz2', a1]
    exact List.take_left' (by simp [hl, hn2]; omega)
  have hN2 : ((W.setRow N zs1.toArray).drew.setRow N zs2.toArray).heap[N]? = some (.cells zs2.toArray 161 (0, 0)) := setRow_whole hN1
  have hfin : Hid (InsPost w (.slice (some ⟨g, 0, none⟩) n n) (n + 1) (insC ys i news) (.returned (.slice (some ⟨N, 0, none⟩) (n + 1) C)) ((W.setRow N zs1.toArray).drew.setRow N zs2.toArray)) := by
    refine hid ⟨_, rfl, ?_, ?_, fun k hk => .inr (by simp [Value.ownBlock] at hk; omega)⟩
    · rw [← ht2]
      exact ownsRow_of_whole hN2 hzl2 hCn hCm (Nat.zero_le _)
    · exact ((((Keeps.of_ext hEW).setRow (fun hlt => absurd hlt (by omega)) _).drew).setRow (fun hlt => absurd hlt (by omega)) _)
  unfold maxLen at hCm
  have HA := hid happ
  clear hg hl hy hv hzs hzl hzt harr hW hEW hNW hgW hvW hNg hNv hz1' hzl1 hN1 hg1 hmid hz2' hzl2 ht2 hN2 hold hi0 hz0 hz1 hz2 hmin1 hmin2 happ hC hN
  have happ : (App #[149, 3] 149 #[.slice (some ⟨g, 0, none⟩) i n, .int .i64 ((n : Int) + 1 - (i : Int))]).run Try.prog w = .ok (.slice (some ⟨N, 0, none⟩) (n + 1) C) W := by
    have := HA.out
    rw [show ((n + 1 - i : Nat) : Int) = (n : Int) + 1 - (i : Int) by omega] at this
    exact this
  clear HA
  have b0 : (0 : Int) ≤ (i : Int) := by omega
  have b1 : (i : Int) ≤ (n : Int) := by omega
  have b2 : ¬ n = i := by omega
  have b4 : (i : Int) + 1 ≤ (n : Int) + 1 := by omega
  have b5 : ¬ C = i := by omega
  have b6 : ¬ C = i + 1 := by omega
  have b7 : ¬ i = n := by omega
  have b8 : (i : Int) ≤ (n : Int) + 1 := by omega
  have b9 : (0 : Int) ≤ (i : Int) + 1 := by omega
  go_enter Try.func154, Try.ntmps154
  go_wp2_with fail
  go_region
  go_wp2_with fail
  go_ret
  exact hfin.out

theorem insertP_c {w : World} {v : Value} {n gv i : Nat} {xs news : List Value} (ho : w.ownsRow 0 161 2 v n xs) (hx : ∀ u ∈ xs, u.oneCell' = true) (hi : i ≤ n) (hv : w.heap[gv]? = some (.cells news.toArray 161 (0, 0)))
    (hne : v.ownBlock ≠ some gv) (hn2 : news.length = 2) (h1 : ∀ u ∈ news, u.oneCell' = true) (hb : n ≤ big) :
    Calls Try.prog 154 #[v, .int .i64 i, .slice (some ⟨gv, 0, none⟩) 1 1] w (InsPost w v (n + 1) (insC xs i news)) := by
  by_cases hin : i = n
  · subst hin
    exact insertP_end ho hv hn2 h1 hb
  · have hlt : i < n := by omega
    rcases ho.2 with ⟨-, h0⟩ | ⟨g, cap, cur, rfl, -, -, -, -, -⟩
    · omega
    · obtain ⟨ys, hg, hl, ht, hn, hc, -⟩ := ownsRow_whole ho
      have hgv : g ≠ gv := fun c => hne (by rw [c]; rfl)
      by_cases hroom : n + 1 ≤ cap
      · have := insertP_room hg hl hroom hc hlt (by rw [ht]; exact hx) hv hgv hn2 h1 hb
        rw [ht] at this
        exact this
      · obtain rfl : cap = n := by omega
        have hyx : ys = xs := by rw [← ht]; exact (List.take_of_length_le (by omega)).symm
        subst hyx
        exact insertP_grow hg hl hc hlt hx hv hn2 h1 hb

theorem owns_slice {w : World} {base : Nat} {e : TypeId} {size : Nat} {v : Value} {n : Nat} {xs : List Value} (h : w.ownsRow base e size v n xs) : ∃ ao cap, v = .slice ao n cap := by
  rcases h.2 with ⟨rfl, rfl⟩ | ⟨g, cap, cur, rfl, -⟩
  · exact ⟨_, _, rfl⟩
  · exact ⟨_, _, rfl⟩

theorem InsPost.slice {w : World} {v : Value} {n : Nat} {xs : List Value} {e : Ending} {w' : World} (h : InsPost w v n xs e w') : ∃ ao cap, e = .returned (.slice ao n cap) ∧ InsPost w v n xs (.returned (.slice ao n cap)) w' := by
  obtain ⟨v', rfl, ho, h2⟩ := h
  obtain ⟨ao, cap, rfl⟩ := owns_slice ho
  exact ⟨ao, cap, rfl, _, rfl, ho, h2⟩

/-! ### slices.Clone at pairs -/

theorem run_pnil (w : World) : (binOp .eql 149 (.slice none 0 0) (.slice none 0 0)).run Try.prog w = .ok (.bool true) w :=
  Lib.run_eql_slice_nil (P := Try.prog) w 149 161 none 0 0 0 0 Try.underlying149
theorem run_pnot (w : World) (a : Addr) (n c : Nat) : (binOp .eql 149 (.slice (some a) n c) (.slice none 0 0)).run Try.prog w = .ok (.bool false) w :=
  Lib.run_eql_slice_nil (P := Try.prog) w 149 161 (some a) n c 0 0 Try.underlying149

set_option maxRecDepth 100000 in
set_option maxHeartbeats 400000 in
theorem cloneP_c {w : World} {v : Value} {n : Nat} {xs : List Value} (ho : w.ownsRow 0 161 2 v n xs) (h1 : ∀ u ∈ xs, u.oneCell' = true) (hb : n ≤ big) :
    Calls Try.prog 106 #[v] w fun e w' => ∃ v', e = .returned v' ∧ w'.ownsRow w.heap.size 161 2 v' n xs ∧ Ext w w' := by
  simp only [big_eq] at hb
  rcases ho.2 with ⟨rfl, rfl⟩ | ⟨g, cap, cur, rfl, -, hg, hn, hc, hs, ht⟩
  · have hx : xs = [] := List.eq_nil_of_length_eq_zero (by simpa using ho.1)
    subst hx
    have hnil := run_pnil
    clear ho hb h1
    go_enter Try.func106, Try.ntmps106
    go_wp2
    go_ret
    exact ⟨_, rfl, World.ownsRow_nil _ _ _ _, Ext.refl _⟩
  · have hnot := run_pnot
    have hE := (Ext.refl w).alloc (.cells #[] 161)
    have ho' := World.ownsRow_made (base := w.heap.size) (e := 161) (size := 2) w #[] 0 (Nat.le_refl _) (by simp [maxLen]) (by simp)
    have hsrc : Src (w.alloc (.cells #[] 161)) (some ⟨g, 0, none⟩) n cap xs := by
      refine ⟨(fun e => nomatch e), fun a ha j u hj => ?_⟩
      obtain rfl := Option.some.inj ha
      have hgE := Ext.heap hE hg
      rw [Addr.add_plain, Nat.zero_add, cell_of_row _ g j _ _ _ hgE]
      rw [← ht, List.getElem?_take] at hj
      split at hj
      · simpa using hj
      · simp at hj
    obtain ⟨v', w', hr, hw1, hw2, -⟩ := run_App (P := Try.prog) 149 149 161 2 48 (.agg #[.slice none 0 0, .slice none 0 0]) Try.underlying149 infoP rfl (by decide) ho' (m := n) ho.1 hsrc h1 (by unfold maxLen; omega) (by omega) (by simp)
    have hfin : Hid (∃ v2, Ending.returned v' = .returned v2 ∧ w'.ownsRow w.heap.size 161 2 v2 n xs ∧ Ext w w') := hid ⟨v', rfl, by simpa using hw1, Keeps.grown hE hw2 (fun k hk hlt => by simp [Value.ownBlock] at hk; omega)⟩
    clear ho hE ho' hsrc hw1 hw2 hg hn hc hs ht hb h1
    go_enter Try.func106, Try.ntmps106
    go_wp2_with fail
    go_ret
    exact hfin.out

end Go.Proofs.Ytaidgkdebocenaa
