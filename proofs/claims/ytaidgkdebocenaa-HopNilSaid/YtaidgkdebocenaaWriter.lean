/- codec.Writer: a writer made within a call, and what its methods lay.
   Conditions: at most a million bytes. -/
import Derived.Test.YtaidgkdebocenaaBE
namespace Go.Proofs.Ytaidgkdebocenaa
open Go Go.RowKit

/-- A writer made behind w0, and what it has laid. -/
def Wr (w0 w : World) (b : Nat) (xs : BS) : Prop :=
  ∃ a c, w.heap[b]? = some (.cells #[.slice a xs.length c] 174 (0, 0)) ∧ w.ownsRow w0.heap.size 5 1 (.slice a xs.length c) xs.length (bcells xs) ∧ Ext w0 w ∧ w0.heap.size ≤ b

theorem Wr.new {w0 w : World} (hE : Ext w0 w) : Wr w0 (w.alloc (.cells #[.slice none 0 0] 174)) w.heap.size [] :=
  ⟨none, 0, heap_alloc_new w _, World.ownsRow_nil _ _ _ _, hE.trans ((Ext.refl w).alloc _), hE.size⟩
theorem Wr.ext {w0 w w' : World} {b : Nat} {xs : BS} (h : Wr w0 w b xs) (hE : Ext w w') : Wr w0 w' b xs := by
  obtain ⟨a, c, h1, h2, h3, h4⟩ := h
  exact ⟨a, c, hE.heap h1, Keeps.ownsRow hE h2 (fun _ _ c => c), h3.trans hE, h4⟩
theorem Wr.base {w0 w : World} {b : Nat} {xs : BS} (h : Wr w0 w b xs) : Ext w0 w := by
  obtain ⟨a, c, h1, h2, h3, h4⟩ := h; exact h3

theorem infoU8 : (Try.prog.info? 5).map (fun i => (i.zero, i.size, i.bytes)) = some (some (.int .u8 0), 1, 1) := by kernel_rfl

/-- What append does to a writer's row. -/
theorem Wr.app {w0 w : World} {b : Nat} {xs ys : BS} {pa : Option Addr} {pn pc : Nat} (h : Wr w0 w b xs) (hp : BV w (.slice pa pn pc) ys) (hl : xs.length + ys.length ≤ 1000000) :
    ∃ a c a' c' w1, w.cell? ⟨b, 0, none⟩ = some (.slice a xs.length c) ∧ (App #[33, 33] 33 #[.slice a xs.length c, .slice pa pn pc]).run Try.prog w = .ok (.slice a' (xs.length + ys.length) c') w1 ∧
      w1.frozen? ⟨b, 0, none⟩ = false ∧ (∃ v, w1.cell? ⟨b, 0, none⟩ = some v) ∧ Wr w0 (w1.setCell ⟨b, 0, none⟩ (.slice a' (xs.length + ys.length) c')) b (xs ++ ys) := by
  obtain ⟨a, c, h1, h2, h3, h4⟩ := h
  have hn : pn = ys.length := by obtain ⟨ao, cap, hv, -⟩ := hp; cases hv; rfl
  subst hn
  obtain ⟨v', w1, hr, ho, hg, -⟩ := run_App (P := Try.prog) 33 33 5 1 1 (.int .u8 0) Try.underlying33 infoU8 rfl (by decide) h2 (m := ys.length) (c := pc) (news := bcells ys) (by rw [bcells_length]; omega) (Src.bytes hp) (bcells_one ys) (by unfold maxLen; omega) (by omega) h3.size
  obtain ⟨a', c', rfl⟩ := owns_slice ho
  have hK : Keeps (fun k => (Value.slice a xs.length c).ownBlock = some k) w w1 := (Keeps.refl _ w).grown hg (fun k c _ => c)
  have hb1 : w1.heap[b]? = some (.cells #[.slice a xs.length c] 174 (0, 0)) := hK.heap h1 fun e => by
    obtain ⟨c2, h2'⟩ := owns_typed h2 e
    exact typed_ne h1 h2' (by decide)
  refine ⟨a, c, a', c', w1, ?_, hr, frozen_of_row w1 _ _ _ _ hb1, ⟨_, cell_of_row w1 b 0 _ _ _ hb1⟩, a', c', ?_, ?_, ?_, h4⟩
  · rw [cell_of_row w b 0 _ _ _ h1]; rfl
  · rw [List.length_append]; exact heap_set (ys := [_]) hb1
  · rw [List.length_append, bcells_append]
    refine Keeps.ownsRow (S := fun k => k = b) (Keeps.one (a := ⟨b, 0, none⟩) (fun k => k = b) (fun _ => rfl) _) ho fun k hk e => ?_
    obtain ⟨c2, h2'⟩ := owns_typed ho hk
    subst e
    exact typed_ne hb1 h2' (by decide)
  · refine (h3.grown hg fun k hk hlt => ?_).trans' (Keeps.one (a := ⟨b, 0, none⟩) (fun k => k = b) (fun _ => rfl) _) fun k hk e => ?_
    · have := (h2.lt k hk).1; omega
    · omega

set_option maxRecDepth 100000 in
set_option maxHeartbeats 400000 in
theorem cwlay_c {w0 w : World} {b : Nat} {xs ys : BS} {pa : Option Addr} {pn pc : Nat} (h : Wr w0 w b xs) (hp : BV w (.slice pa pn pc) ys) (hl : xs.length + ys.length ≤ 1000000) :
    Calls Try.prog 187 #[.pointer (some ⟨b, 0, none⟩), .slice pa pn pc] w fun e w' => e = .returned (.pointer (some ⟨b, 0, none⟩)) ∧ Wr w0 w' b (xs ++ ys) := by
  obtain ⟨a, c, a', c', w1, hc, hr, hf, ⟨v, hv⟩, hW⟩ := h.app hp hl
  have HW := hid hW
  have hlt : b < w1.heap.size := World.block_lt_of_cell? _ _ hv
  clear h hp hW
  go_enter Try.func187, Try.ntmps187
  go_wp2_with fail
  go_ret
  exact ⟨rfl, HW.out⟩

end Go.Proofs.Ytaidgkdebocenaa
