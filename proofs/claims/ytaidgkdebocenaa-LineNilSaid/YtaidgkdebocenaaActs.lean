/- The deeds that come in ([]jointurelaw05.Act): how they lie in memory; jointurelaw05.few.
   No conditions. -/
import Derived.Test.YtaidgkdebocenaaSame5
namespace Go.Proofs.Ytaidgkdebocenaa
open Go Go.RowKit

structure ActV where
  d : UInt8
  kv : Value
  vv : Value
  key : BS
  val : BS

/-- A slice of deeds in memory. -/
def ActsV (w : World) (v : Value) (l : List ActV) : Prop :=
  ∃ ao cap, v = .slice ao l.length cap ∧ l.length ≤ cap ∧ cap ≤ maxLen ∧ (l = [] ∨ ∃ g off, ao = some ⟨g, off, none⟩ ∧ g < w.heap.size ∧
    ∀ i (h : i < l.length), w.cell? ⟨g, off + i * 3, none⟩ = some (.int .u8 ((l[i]).d.toNat : Int)) ∧ w.cell? ⟨g, off + i * 3 + 1, none⟩ = some (l[i]).kv ∧ w.cell? ⟨g, off + i * 3 + 2, none⟩ = some (l[i]).vv) ∧
    ∀ a ∈ l, BV w a.kv a.key ∧ BV w a.vv a.val

theorem ActsV.ext {w w' : World} {v : Value} {l : List ActV} (h : ActsV w v l) (hE : Ext w w') : ActsV w' v l := by
  obtain ⟨ao, cap, h1, h2, h3, h4, h5⟩ := h
  refine ⟨ao, cap, h1, h2, h3, h4.imp id fun ⟨g, off, e, hg, hc⟩ => ⟨g, off, e, Nat.lt_of_lt_of_le hg hE.size, fun i hi => ?_⟩, fun a ha => ⟨(h5 a ha).1.ext hE, (h5 a ha).2.ext hE⟩⟩
  obtain ⟨c1, c2, c3⟩ := hc i hi
  exact ⟨hE.cell c1, hE.cell c2, hE.cell c3⟩

theorem ActsV.at {w : World} {v : Value} {l : List ActV} (h : ActsV w v l) {i : Nat} (hi : i < l.length) :
    ∃ g off cap ka kcap va vcap, v = .slice (some ⟨g, off, none⟩) l.length cap ∧ l.length ≤ cap ∧ cap ≤ maxLen ∧ g < w.heap.size ∧ (l[i]).kv = .slice ka (l[i]).key.length kcap ∧ (l[i]).vv = .slice va (l[i]).val.length vcap ∧
      w.cell? ⟨g, off + i * 3, none⟩ = some (.int .u8 ((l[i]).d.toNat : Int)) ∧ w.cell? ⟨g, off + i * 3 + 1, none⟩ = some (.slice ka (l[i]).key.length kcap) ∧ w.cell? ⟨g, off + i * 3 + 2, none⟩ = some (.slice va (l[i]).val.length vcap) := by
  obtain ⟨ao, cap, h1, h2, h3, h4, h5⟩ := h
  rcases h4 with rfl | ⟨g, off, rfl, hg, hc⟩
  · simp at hi
  · obtain ⟨c1, c2, c3⟩ := hc i hi
    have hb := h5 _ (List.getElem_mem hi)
    obtain ⟨ka, kcap, hka, -, -⟩ := hb.1.val
    obtain ⟨va, vcap, hva, -, -⟩ := hb.2.val
    rw [hka] at c2
    rw [hva] at c3
    exact ⟨g, off, cap, ka, kcap, va, vcap, h1, h2, h3, hg, hka, hva, c1, c2, c3⟩

theorem ActsV.val {w : World} {v : Value} {l : List ActV} (h : ActsV w v l) : ∃ ao cap, v = .slice ao l.length cap ∧ l.length ≤ cap ∧ cap ≤ maxLen := by
  obtain ⟨ao, cap, h1, h2, h3, -⟩ := h
  exact ⟨ao, cap, h1, h2, h3⟩

theorem ActsV.bytes {w : World} {v : Value} {l : List ActV} (h : ActsV w v l) {i : Nat} (hi : i < l.length) : BV w (l[i]).kv (l[i]).key ∧ BV w (l[i]).vv (l[i]).val := by
  obtain ⟨ao, cap, h1, h2, h3, h4, h5⟩ := h
  exact h5 _ (List.getElem_mem hi)

def few (l : List ActV) : Bool := decide (l.length ≤ 40) && l.all fun a => decide (a.key.length ≤ 30) && decide (a.val.length ≤ 60)

theorem few_all (l : List ActV) (k : Nat) (hk : k < l.length) (h : (l.take k).all (fun a => decide (a.key.length ≤ 30) && decide (a.val.length ≤ 60)) = true) (h1 : (l[k]).key.length ≤ 30) (h2 : (l[k]).val.length ≤ 60) :
    (l.take (k + 1)).all (fun a => decide (a.key.length ≤ 30) && decide (a.val.length ≤ 60)) = true := by
  rw [List.take_succ_eq_append_getElem hk, List.all_append, h]
  simp [h1, h2]
theorem few_not (l : List ActV) (k : Nat) (hk : k < l.length) (h : ¬ ((l[k]).key.length ≤ 30 ∧ (l[k]).val.length ≤ 60)) : few l = false := by
  cases hf : few l with
  | false => rfl
  | true =>
    simp only [few, Bool.and_eq_true, List.all_eq_true, decide_eq_true_eq] at hf
    exact absurd (hf.2 _ (List.getElem_mem hk)) h

set_option maxRecDepth 100000 in
set_option maxHeartbeats 1000000 in
theorem few5_c {w : World} {v : Value} {l : List ActV} (h : ActsV w v l) :
    Calls Try.prog 26 #[v] w fun e w' => e = .returned (.bool (few l)) ∧ w = w' := by
  obtain ⟨ao, cap, rfl, hlc, hcm⟩ := h.val
  unfold maxLen at hcm
  by_cases h40 : l.length ≤ 40
  · have t40 : ¬ (40 : Int) < (l.length : Int) := by omega
    have H := hid h
    clear h
    go_enter Try.func26, Try.ntmps26
    go_wp2_with fail
    go_loopw [3] (fun j wr => ∃ k : Nat, k ≤ l.length ∧ j = .int .i64 k ∧ (l.take k).all (fun a => decide (a.key.length ≤ 30) && decide (a.val.length ≤ 60)) = true ∧ w = wr) (fun j _ => l.length - (intOf j).toNat)
    case atStart => exact ⟨0, Nat.zero_le _, rfl, rfl, rfl⟩
    case round =>
      obtain ⟨k, hk, rfl, hall, rfl⟩ := hrel
      by_cases hlt : k < l.length
      · have hki : (k : Int) < (l.length : Int) := by omega
        obtain ⟨g, off, cap', ka, kcap, va, vcap, hv, -, -, -, -, -, c0, c1, c2⟩ := H.out.at hlt
        obtain ⟨rfl, -, rfl⟩ : ao = some ⟨g, off, none⟩ ∧ True ∧ cap = cap' := by simpa using hv
        have HAll := hid hall
        obtain ⟨kl, hkl⟩ : ∃ kl, kl = (l[k]).key.length := ⟨_, rfl⟩
        obtain ⟨vl, hvl⟩ : ∃ vl, vl = (l[k]).val.length := ⟨_, rfl⟩
        rw [← hkl] at c1
        rw [← hvl] at c2
        have Hkl := hid hkl
        have Hvl := hid hvl
        clear hv hall hkl hvl
        by_cases h1 : kl ≤ 30
        · have t1 : ¬ (30 : Int) < (kl : Int) := by omega
          by_cases h2 : vl ≤ 60
          · have t2 : ¬ (60 : Int) < (vl : Int) := by omega
            go_wp2_with fail
            exact ⟨⟨k + 1, hlt, by go_num, few_all l k hlt HAll.out (by rw [← Hkl.out]; exact h1) (by rw [← Hvl.out]; exact h2), by first | rfl | trivial⟩, by simp [intOf]; omega⟩
          · have t2 : (60 : Int) < (vl : Int) := by omega
            go_wp2_with fail
            go_ret
            exact ⟨by rw [few_not l k hlt (fun c => h2 (by rw [Hvl.out]; exact c.2))]; rfl, rfl⟩
        · have t1 : (30 : Int) < (kl : Int) := by omega
          go_wp2_with fail
          go_ret
          exact ⟨by rw [few_not l k hlt (fun c => h1 (by rw [Hkl.out]; exact c.1))]; rfl, rfl⟩
      · obtain rfl : k = l.length := by omega
        go_wp2_with fail
        go_ret
        refine ⟨?_, rfl⟩
        rw [List.take_length] at hall
        simp [few, h40, hall]
  · have t40 : (40 : Int) < (l.length : Int) := by omega
    clear h
    go_enter Try.func26, Try.ntmps26
    go_wp2_with fail
    go_ret
    exact ⟨by simp [few, h40], rfl⟩

end Go.Proofs.Ytaidgkdebocenaa
