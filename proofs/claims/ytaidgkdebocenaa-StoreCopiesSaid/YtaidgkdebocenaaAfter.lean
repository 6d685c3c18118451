/- jointurelaw05.after: a store behind some deeds, and what it holds.
   Conditions: at most 40 deeds, short keys and values. -/
import Derived.Test.YtaidgkdebocenaaInv5
namespace Go.Proofs.Ytaidgkdebocenaa
open Go Go.RowKit

def runA (a : AS) (l : List ActV) : AS := l.foldl (fun a t => stepA t.d.toNat t.key t.val a) a

theorem runA_succ (a : AS) (l : List ActV) (k : Nat) (h : k < l.length) : runA a (l.take (k + 1)) = stepA (l[k]).d.toNat (l[k]).key (l[k]).val (runA a (l.take k)) := by
  rw [List.take_succ_eq_append_getElem h, runA, List.foldl_append]
  rfl

/-- One deed, and just what the store holds behind it. -/
theorem doesI2 {w0 w : World} {bs bm n : Nat} {s : SG} {m : RG} {d : UInt8} {kv vv : Value} {key val : BS} (h : Inv w0 w bs bm n s m) (hn : n ≤ 1000) (hk : BV w kv key) (hv : BV w vv val) (hkl : key.length ≤ 100) (hvl : val.length ≤ 100) :
    Calls Try.prog 28 #[.pointer (some ⟨bs, 0, none⟩), .pointer (some ⟨bm, 0, none⟩), .agg #[.int .u8 d.toNat, kv, vv]] w fun e w' => e = .returned (.bool true) ∧ ∃ s' m', Inv w0 w' bs bm (n + 1) s' m' ∧ abs s' = stepA d.toNat key val (abs s) := by
  have hf := h.bnd.fit hn
  obtain ⟨h1, h2, -, -, -⟩ := hf
  have := does5_c (d := d) h.rs h.rm hk hv (h.bnd.fit hn) (by rw [h.rel.M]; exact h.rel.so) (by rw [h.rel.M]; exact Nat.le_of_lt h1) (by rw [h.rel.len, big_eq]; have := h.bnd.2.1; omega) (le_big (by omega)) (le_big (by omega))
  rw [h.hbs, h.hbm] at this
  refine this.mono ?_
  rintro e w' ⟨rfl, s', m', hB⟩
  exact ⟨by rw [h.rel.doesB], s', m', h.next hkl hvl hB, hB.as_⟩

set_option maxRecDepth 100000 in
set_option maxHeartbeats 1000000 in
theorem after5_c {w : World} {v : Value} {l : List ActV} (h : ActsV w v l) (hf : few l = true) :
    Calls Try.prog 38 #[v] w fun e w' => ∃ b s m bm, e = .returned (.pointer (some ⟨b, 0, none⟩)) ∧ Inv w w' b bm l.length s m ∧ abs s = runA ⟨[], [], []⟩ l := by
  obtain ⟨ao, cap, rfl, hlc, hcm⟩ := h.val
  unfold maxLen at hcm
  have H := hid h
  obtain ⟨h40, hsm⟩ := few_at hf
  have HSm := hid hsm
  have HN := hid (new_c w)
  clear h hsm hf
  go_enter Try.func38, Try.ntmps38
  go_wp2_with fail
  refine HN.out.mono ?_
  rintro e w2 ⟨rfl, hn, hE2⟩
  have hI := Inv.new hE2 hn (Nat.le_refl _) rfl
  have HI := hid hI
  clear hI hn hE2 HN
  go_wp2_with fail
  go_loopw [5] (fun j wr => ∃ (k : Nat) (s : SG) (m : RG), k ≤ l.length ∧ j = .int .i64 k ∧ Inv w wr w.heap.size w2.heap.size k s m ∧ abs s = runA ⟨[], [], []⟩ (l.take k)) (fun j _ => l.length - (intOf j).toNat)
  case atStart => exact ⟨0, _, _, Nat.zero_le _, rfl, HI.out, rfl⟩
  case round =>
    obtain ⟨k, s, m, hk, rfl, hI, hab⟩ := hrel
    have HI := hid hI
    have HAb := hid hab
    clear hI hab
    by_cases hlt : k < l.length
    · have hki : (k : Int) < (l.length : Int) := by omega
      obtain ⟨g, off, cap', ka, kcap, va, vcap, hv, -, -, -, hkv, hvv, c0, c1, c2⟩ := (H.out.ext HI.out.ext).at hlt
      obtain ⟨rfl, -, rfl⟩ : ao = some ⟨g, off, none⟩ ∧ True ∧ cap = cap' := by simpa using hv
      have hD := doesI2 (d := (l[k]).d) HI.out (by omega) (((H.out.ext HI.out.ext).bytes hlt).1) (((H.out.ext HI.out.ext).bytes hlt).2) (by have := (HSm.out _ (List.getElem_mem hlt)).1; omega) (by have := (HSm.out _ (List.getElem_mem hlt)).2; omega)
      rw [hkv, hvv] at hD
      rw [HAb.out, ← runA_succ _ _ _ hlt] at hD
      have HD := hid hD
      obtain ⟨kl, hkl⟩ : ∃ kl, kl = (l[k]).key.length := ⟨_, rfl⟩
      obtain ⟨vl, hvl⟩ : ∃ vl, vl = (l[k]).val.length := ⟨_, rfl⟩
      obtain ⟨dd, hdd⟩ : ∃ dd, dd = (l[k]).d.toNat := ⟨_, rfl⟩
      rw [← hdd] at c0 HD
      rw [← hkl] at c1 HD
      rw [← hvl] at c2 HD
      clear hv hD hkl hvl hdd hkv hvv
      go_wp2_with fail
      refine HD.out.mono ?_
      rintro e w3 ⟨rfl, s', m', hI', hab'⟩
      have HI' := hid (And.intro hI' hab')
      clear hI' hab' HD
      go_wp2_with fail
      exact ⟨⟨k + 1, s', m', hlt, by go_num, HI'.out.1, HI'.out.2⟩, by simp [intOf]; omega⟩
    · obtain rfl : k = l.length := by omega
      go_wp2_with fail
      go_ret
      refine ⟨w.heap.size, s, m, w2.heap.size, rfl, HI.out, ?_⟩
      rw [HAb.out, List.take_length]

end Go.Proofs.Ytaidgkdebocenaa
