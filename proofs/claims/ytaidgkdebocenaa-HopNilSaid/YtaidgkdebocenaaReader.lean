/- codec.Reader: a reader over bytes of its own: Read, take, number, Byte, Long, Short, where there are as many bytes.
   Conditions: the reader is at no fault; as many bytes are left as are asked for. -/
import Derived.Test.YtaidgkdebocenaaWriter2
namespace Go.Proofs.Ytaidgkdebocenaa
open Go Go.RowKit

/-- A reader at no fault, and what is left. -/
def Rd (w : World) (b : Nat) (xs : BS) : Prop :=
  ∃ a c, w.heap[b]? = some (.cells #[.slice a xs.length c, .bool false] 228 (0, 0)) ∧ BV w (.slice a xs.length c) xs ∧ ∀ g, (Value.slice a xs.length c).ownBlock = some g → g ≠ b

theorem Rd.ext {w w' : World} {b : Nat} {xs : BS} (h : Rd w b xs) (hE : Ext w w') : Rd w' b xs := by
  obtain ⟨a, c, h1, h2, h3⟩ := h
  exact ⟨a, c, hE.heap h1, h2.ext hE, h3⟩
theorem Rd.lt {w : World} {b : Nat} {xs : BS} (h : Rd w b xs) : b < w.heap.size := by
  obtain ⟨a, c, h1, h2, h3⟩ := h
  exact lt_of_heap h1

set_option maxRecDepth 100000 in
set_option maxHeartbeats 400000 in
theorem cRead_c {w : World} {pv : Value} {xs : BS} (hp : BV w pv xs) (hl : xs.length ≤ big) :
    Calls Try.prog 108 #[pv] w fun e w' => ∃ b, e = .returned (.pointer (some ⟨b, 0, none⟩)) ∧ Rd w' b xs ∧ Ext w w' ∧ w.heap.size ≤ b := by
  have HC := hid (cloneB_c hp hl)
  clear hp hl
  go_enter Try.func108, Try.ntmps108
  go_wp2_with fail
  refine HC.out.mono ?_
  rintro e w1 ⟨v', rfl, ho, hE⟩
  obtain ⟨a, c, rfl⟩ := owns_slice ho
  have HO := hid (And.intro ho hE)
  clear ho hE HC
  go_wp2_with fail
  go_ret
  obtain ⟨ho, hE⟩ := HO.out
  have hE2 : Ext w1 (w1.alloc (.cells #[.slice a xs.length c, .bool false] 228)) := (Ext.refl w1).alloc _
  refine ⟨w1.heap.size, rfl, ⟨a, c, heap_alloc_new w1 _, (BV.of_owns ho).ext hE2, fun g hg => ?_⟩, hE.trans hE2, hE.size⟩
  have := (ho.lt g hg).2
  omega

set_option maxRecDepth 100000 in
set_option maxHeartbeats 400000 in
theorem crBad_c {w : World} {b : Nat} {xs : BS} (h : Rd w b xs) :
    Calls Try.prog 195 #[.pointer (some ⟨b, 0, none⟩)] w fun e w' => e = .returned (.bool false) ∧ w = w' := by
  obtain ⟨a, c, h1, -, -⟩ := h
  have c1 : w.cell? ⟨b, 1, none⟩ = some (.bool false) := by rw [cell_of_row w b 1 _ _ _ h1]; rfl
  clear h1
  go_enter Try.func195, Try.ntmps195
  go_wp2_with fail
  go_ret
  exact ⟨rfl, rfl⟩

set_option maxRecDepth 100000 in
set_option maxHeartbeats 400000 in
theorem crLeft_c {w : World} {b : Nat} {xs : BS} (h : Rd w b xs) :
    Calls Try.prog 200 #[.pointer (some ⟨b, 0, none⟩)] w fun e w' => e = .returned (.int .i64 xs.length) ∧ w = w' := by
  have HB := hid (crBad_c h)
  obtain ⟨a, c, h1, -, -⟩ := h
  have c0 : w.cell? ⟨b, 0, none⟩ = some (.slice a xs.length c) := by rw [cell_of_row w b 0 _ _ _ h1]; rfl
  clear h1
  go_enter Try.func200, Try.ntmps200
  go_wp2_with fail
  refine HB.out.mono ?_
  rintro e wx ⟨rfl, rfl⟩
  go_wp2_with fail
  go_ret
  exact ⟨rfl, rfl⟩

theorem BV.head {w : World} {a : Option Addr} {l c n : Nat} {xs : BS} (h : BV w (.slice a l c) xs) (hn : n ≤ xs.length) : BV w (.slice a n n) (xs.take n) := by
  obtain ⟨ao, cap, hv, h1, h2, h3, h4⟩ := h
  cases hv
  have hl : (xs.take n).length = n := by rw [List.length_take]; omega
  refine ⟨a, n, by rw [hl], fun e => ?_, by omega, by omega, ?_⟩
  · obtain ⟨-, rfl⟩ := h1 e
    simp at hn; subst hn; simp
  · rcases h4 with rfl | ⟨g, off, rfl, hc⟩
    · left; simp
    · right
      refine ⟨g, off, rfl, fun i hi => ?_⟩
      rw [hl] at hi
      rw [hc i (by omega)]
      simp
theorem BV.tail {w : World} {a : Option Addr} {l c n : Nat} {xs : BS} (h : BV w (.slice a l c) xs) (hn : n ≤ xs.length) : BV w (.slice (a.map fun x => x.add n) (xs.length - n) (c - n)) (xs.drop n) := by
  obtain ⟨ao, cap, hv, h1, h2, h3, h4⟩ := h
  cases hv
  have hl : (xs.drop n).length = xs.length - n := by rw [List.length_drop]
  refine ⟨_, c - n, by rw [hl], fun e => ?_, by omega, by omega, ?_⟩
  · obtain ⟨rfl, rfl⟩ := h1 (by cases a <;> simp at e ⊢)
    simp
  · by_cases he : xs.drop n = []
    · exact .inl he
    · right
      rcases h4 with rfl | ⟨g, off, rfl, hc⟩
      · simp at he
      · refine ⟨g, off + n, by simp [Addr.add_plain], fun i hi => ?_⟩
        rw [hl] at hi
        rw [Nat.add_assoc, hc (n + i) (by omega)]
        simp
theorem BV.over {w : World} {a : Option Addr} {l c : Nat} {xs : BS} (h : BV w (.slice a l c) xs) : BV w (.slice a 0 0) [] := by
  obtain ⟨ao, cap, hv, h1, h2, h3, h4⟩ := h
  cases hv
  exact ⟨a, 0, rfl, fun _ => ⟨rfl, rfl⟩, Nat.le_refl _, Nat.zero_le _, .inl rfl⟩

/-- The reader's bytes put on. -/
theorem Rd.put {w : World} {b l : Nat} {ys : BS} {a a' : Option Addr} {c c' : Nat} (h1 : w.heap[b]? = some (.cells #[.slice a l c, .bool false] 228 (0, 0))) (h3 : ∀ g, (Value.slice a l c).ownBlock = some g → g ≠ b)
    (hb : BV w (.slice a' ys.length c') ys) (ha : ∀ g, (Value.slice a' ys.length c').ownBlock = some g → (Value.slice a l c).ownBlock = some g) :
    Rd (w.setCell ⟨b, 0, none⟩ (.slice a' ys.length c')) b ys := by
  have hK : Keeps (fun k => k = b) w (w.setCell ⟨b, 0, none⟩ (.slice a' ys.length c')) := Keeps.one (a := ⟨b, 0, none⟩) (fun k => k = b) (fun _ => rfl) _
  exact ⟨a', c', heap_set (ys := [_, _]) h1, hb.keeps hK fun g hg _ e => h3 g (ha g hg) e, fun g hg => h3 g (ha g hg)⟩

def TakePost (w : World) (b n : Nat) (xs : BS) (e : Ending) (w' : World) : Prop :=
  ∃ a c, e = .returned (.slice a n c) ∧ BV w' (.slice a n c) (xs.take n) ∧ Rd w' b (xs.drop n) ∧ Keeps (fun k => k = b) w w' ∧ ∀ g, (Value.slice a n c).ownBlock = some g → g ≠ b

set_option maxRecDepth 100000 in
set_option maxHeartbeats 1000000 in
theorem crtake_c {w : World} {b n : Nat} {xs : BS} (h : Rd w b xs) (hn : n ≤ xs.length) :
    Calls Try.prog 186 #[.pointer (some ⟨b, 0, none⟩), .int .i64 (n : Int)] w (TakePost w b n xs) := by
  have HL := hid (crLeft_c h)
  have HB := hid (crBad_c h)
  have H := hid h
  obtain ⟨a, c, h1, h2, h3⟩ := h
  have hbv := h2
  obtain ⟨ao, cap, hv, -, hnc, hcm, -⟩ := h2
  cases hv
  unfold maxLen at hcm
  have c0 : w.cell? ⟨b, 0, none⟩ = some (.slice a xs.length c) := by rw [cell_of_row w b 0 _ _ _ h1]; rfl
  have f0 := frozen_of_row w b 0 _ _ h1
  have hbl := lt_of_heap h1
  have t1 : ¬ (xs.length : Int) < (n : Int) := by omega
  have hni : (n : Int) ≤ (xs.length : Int) := by omega
  have hnc' : (n : Int) ≤ (c : Int) := by omega
  have hbb : ∀ g, (Value.slice a xs.length c).ownBlock = some g → g ≠ b := h3
  have HX := hid (And.intro h1 hbb)
  clear h1 h3 hbb
  have hK : ∀ v, Keeps (fun k => k = b) w (w.setCell ⟨b, 0, none⟩ v) := fun v => Keeps.one (a := ⟨b, 0, none⟩) (fun k => k = b) (fun _ => rfl) v
  have HK := hid hK
  have HBV := hid hbv
  clear hK hbv
  by_cases hc : n = c
  · subst hc
    have hnl : n = xs.length := by omega
    subst hnl
    go_enter Try.func186, Try.ntmps186
    go_wp2_with fail
    refine HL.out.mono ?_
    rintro e wx ⟨rfl, rfl⟩
    go_wp2_with fail
    refine HB.out.mono ?_
    rintro e wx ⟨rfl, rfl⟩
    go_wp2_with fail
    go_ret
    refine ⟨a, xs.length, rfl, (HBV.out.head (Nat.le_refl _)).keeps (HK.out _) (fun g hg _ e => HX.out.2 g hg e), ?_, HK.out _, HX.out.2⟩
    have := Rd.put (ys := []) (a' := a) (c' := 0) HX.out.1 HX.out.2 HBV.out.over (fun g hg => by cases a with | none => simp [Value.ownBlock] at hg | some x => simpa [Value.ownBlock] using hg)
    simpa using this
  · have hci : (n : Int) < (c : Int) := by omega
    go_enter Try.func186, Try.ntmps186
    go_wp2_with fail
    refine HL.out.mono ?_
    rintro e wx ⟨rfl, rfl⟩
    go_wp2_with fail
    refine HB.out.mono ?_
    rintro e wx ⟨rfl, rfl⟩
    go_wp2_with fail
    go_ret
    have hg1 : ∀ g, (Value.slice a n n).ownBlock = some g → (Value.slice a xs.length c).ownBlock = some g := fun g hg => by cases a with | none => simp [Value.ownBlock] at hg | some x => simpa [Value.ownBlock] using hg
    refine ⟨a, n, rfl, (HBV.out.head hn).keeps (HK.out _) (fun g hg _ e => HX.out.2 g (hg1 g hg) e), ?_, HK.out _, fun g hg => HX.out.2 g (hg1 g hg)⟩
    have hd : (xs.drop n).length = xs.length - n := List.length_drop
    have ht := HBV.out.tail hn
    rw [← hd] at ht ⊢
    refine Rd.put HX.out.1 HX.out.2 ht (fun g hg => ?_)
    cases a <;> simp [Value.ownBlock] at hg ⊢
    rw [← hg]; unfold Addr.add; split <;> rfl

end Go.Proofs.Ytaidgkdebocenaa
