/- Closed facts of the program that every row of this seat asks for.
   No conditions. -/
import Derived.Test.YtaidgkdebocenaaFacA
import Derived.JoinedOf
namespace Go.Proofs.Ytaidgkdebocenaa
open Go

theorem strip_cut (rest : List (List Char)) : stripLifts liftWords ("cut".toList :: rest) = ([], "cut".toList :: rest) := by rfl

theorem make_of {P : Program} {rest : List (List Char)} (h : behindMainWord (wordsSigns P.initOrder.toList) = "cut".toList :: rest) : P.make = some Make.cut := by
  unfold Program.make
  rw [h]
  rfl
theorem lifts_of {P : Program} {rest : List (List Char)} (h : behindMainWord (wordsSigns P.initOrder.toList) = "cut".toList :: rest) : P.liftsFinal = false := by
  unfold Program.liftsFinal Program.headLifts
  rw [h, strip_cut]
  rfl
theorem enter_of {P : Program} {rest : List (List Char)} (h : behindMainWord (wordsSigns P.initOrder.toList) = "cut".toList :: rest) (h1 : P.laysLater = false) (h2 : P.bearsReflect = false) (h3 : P.doorFits [] = true) : P.mayEnter = true := by
  unfold Program.mayEnter
  rw [h]
  dsimp only
  rw [strip_cut]
  simp only [h1, h2, h3]
  rfl

theorem fac_words : ∃ rest, behindMainWord (wordsSigns Try.pinned.checked.prog.initOrder.toList) = "cut".toList :: rest := by
  have h := fac_head
  cases hl : behindMainWord (wordsSigns Try.pinned.checked.prog.initOrder.toList) with
  | nil => rw [hl] at h; cases h
  | cons a l =>
    rw [hl] at h
    exact ⟨l, by rw [Option.some.inj h]⟩

theorem fac_later : Try.pinned.checked.prog.laysLater = false := by kernel_rfl
theorem fac_reflect : Try.pinned.checked.prog.bearsReflect = false := by kernel_rfl
theorem fac_door : Try.pinned.checked.prog.doorFits [] = true := by kernel_rfl
theorem fac_make : (Try.pinned.checked.prog.make == some Make.cut) = true := by
  obtain ⟨rest, h⟩ := fac_words
  rw [make_of h]
  rfl
theorem fac_lifts : (false == Try.pinned.checked.prog.liftsFinal) = true := by
  obtain ⟨rest, h⟩ := fac_words
  rw [lifts_of h]
  rfl
theorem fac_enter : Try.pinned.checked.prog.mayEnter = true := by
  obtain ⟨rest, h⟩ := fac_words
  exact enter_of h fac_later fac_reflect fac_door
theorem fac_heard : Try.pinned.checked.prog.stopsHeard = true := by kernel_rfl
theorem fac_laid : laidOutB Try.pinned.checked.prog = true := by kernel_rfl
theorem fac_maps : mapsRowed Try.pinned.checked.prog = true := by kernel_rfl
theorem fac_and {a b : Bool} (ha : a = true) (hb : b = true) : (a && b) = true := by rw [ha, hb]; rfl
end Go.Proofs.Ytaidgkdebocenaa
