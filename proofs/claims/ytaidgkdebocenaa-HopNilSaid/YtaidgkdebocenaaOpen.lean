/- Arguments of bytes, opened: what the data read, the cells hold.
   No conditions. -/
import Derived.Test.YtaidgkdebocenaaBase
import Derived.ProofKit
import Derived.DataShut
import Derived.OpenShut
import Derived.ShutString
import Derived.ChangeOld
import Derived.Below
namespace Go.Proofs.Ytaidgkdebocenaa
open Go Go.RowKit
open Go.ChangeShapes Go.WideShapes Go.ChangeAt

theorem own_knob : ownKnob Try.prog.godebug = none := by kernel_rfl
theorem laid_out : laidOutB Try.prog = true := by kernel_rfl

theorem Ext.below {w w' : World} (h : Ext w w') : Below w.heap.size w w' := ⟨h.os, h.tape, h.output, h.size, fun k hk => h.block k hk fun c => c⟩

theorem u8_of_wf {n : Int} (h : (Lit.int .u8 n).wf = true) : ((UInt8.ofNat n.toNat).toNat : Int) = n := by
  have h1 : (0 : Int) ≤ n ∧ n ≤ 255 := (Lit.wf_int_iff .u8 n).1 h
  simp
  omega

theorem bv_row {W : World} {a : Option Addr} {len cap : Nat} {zs : List Int} (hl : len ≤ cap) (hm : cap ≤ maxLen) (hz : len ≤ zs.length) {x : Addr} (ha : a = some x) (hc : ∀ i, i < zs.length → W.cell? (x.add i) = some (.int .u8 (zs.getD i 0)))
    (hw : ∀ n ∈ zs, (Lit.int .u8 n).wf = true) : ∃ xs : BS, xs.length = len ∧ BV W (.slice a len cap) xs := by
  subst ha
  refine ⟨(zs.take len).map fun z => UInt8.ofNat z.toNat, by simp; omega, x, cap, ?_, fun h => by simp at h, ?_, hm, ?_⟩
  · simp; omega
  · simp; omega
  · by_cases h0 : len = 0
    · left; subst h0; simp
    · right
      have h1 := hc 0 (by omega)
      obtain ⟨b, off, spot⟩ := x
      have hspot : spot = none := by simpa [Addr.add] using World.cell?_spot h1
      subst hspot
      refine ⟨b, off, rfl, fun i hi => ?_⟩
      simp at hi
      have h2 := hc i (by omega)
      rw [Addr.add_plain] at h2
      rw [h2]
      have hi' : i < zs.length := by omega
      have h3 := u8_of_wf (hw _ (List.getElem_mem hi'))
      simp only [bval, List.getElem_map, List.getElem_take, List.getD_eq_getElem?_getD, List.getElem?_eq_getElem hi', Option.getD_some]
      rw [h3]

theorem open_bytes {H : Type} {enc : TypeId × Value → H} {W : World} {base : Nat} {spare : Nat → Bool} {held : Bool} {fuel : Nat} {a : Option Addr} {len cap : Nat} {x : DataW H × List MemPlace}
    (h : DataW.trod enc Try.prog W base spare held fuel 33 [.slice a len cap] = some x) : ∃ xs : BS, xs.length = len ∧ BV W (.slice a len cap) xs := by
  rcases open_ints Try.underlying33 Try.underlying5 (by kernel_rfl) h with ⟨hcs, _⟩ | ⟨y, l, c, zs, hcs, _, hl, hm, hz, _, hcell, hwz⟩
  · simp at hcs
    obtain ⟨rfl, rfl, rfl⟩ := hcs
    exact ⟨[], rfl, BV.nil W⟩
  · simp at hcs
    obtain ⟨rfl, rfl, rfl⟩ := hcs
    refine bv_row hl hm ?_ rfl hcell hwz
    rw [hz]; split <;> omega

end Go.Proofs.Ytaidgkdebocenaa
