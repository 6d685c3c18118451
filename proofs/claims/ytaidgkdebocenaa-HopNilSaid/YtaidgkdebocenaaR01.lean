/- Contracts of the references' functions on bytes: r01.Same, r01.Join, r05.Less.
   Conditions: each slice reads as bytes (BV); what is joined is short. -/
import Derived.Test.YtaidgkdebocenaaBytes
import Derived.BigQuiet
import Derived.Deep.QuietTactic
namespace Go.Proofs.Ytaidgkdebocenaa
open Go Go.RowKit

/-- BV, opened at a list that is not empty. -/
theorem BV.cons {w : World} {v : Value} {xs : BS} (h : BV w v xs) (hne : 0 < xs.length) :
    ∃ g off cap, v = .slice (some ⟨g, off, none⟩) xs.length cap ∧ xs.length ≤ cap ∧ cap ≤ maxLen ∧ ∀ i (h : i < xs.length), w.cell? ⟨g, off + i, none⟩ = some (bval xs[i]) := by
  obtain ⟨ao, cap, rfl, h1, h2, h3, h4⟩ := h
  rcases h4 with rfl | ⟨g, off, rfl, hc⟩
  · simp at hne
  · exact ⟨g, off, cap, rfl, h2, h3, hc⟩

theorem BV.val {w : World} {v : Value} {xs : BS} (h : BV w v xs) : ∃ ao cap, v = .slice ao xs.length cap ∧ xs.length ≤ cap ∧ cap ≤ 9223372036854775807 := by
  obtain ⟨ao, cap, rfl, h1, h2, h3, h4⟩ := h
  unfold maxLen at h3
  exact ⟨ao, cap, rfl, h2, h3⟩

theorem take_eq_succ {xs ys : BS} {k : Nat} (hx : k < xs.length) (hy : k < ys.length) (h : xs.take k = ys.take k) (he : xs[k] = ys[k]) : xs.take (k + 1) = ys.take (k + 1) := by
  rw [List.take_succ_eq_append_getElem hx, List.take_succ_eq_append_getElem hy, h, he]

theorem ret_bool {a b : Bool} (h : a = b) : Ending.returned (.bool a) = .returned (.bool b) := by rw [h]
theorem ret_int {k : IntKind} {a b : Int} (h : a = b) : Ending.returned (.int k a) = .returned (.int k b) := by rw [h]

def Quiet1 (v : Value) (w : World) (e : Ending) (w' : World) : Prop := e = .returned v ∧ ∃ n, w' = w.drewN n

set_option maxRecDepth 100000 in
set_option maxHeartbeats 400000 in
theorem r01same_c {w : World} {a b : Value} {xs ys : BS} (ha : BV w a xs) (hb : BV w b ys) :
    Calls Try.prog 32 #[a, b] w (Quiet1 (.bool (xs == ys)) w) := by
  by_cases hl : xs.length = ys.length
  · by_cases h0 : 0 < xs.length
    · obtain ⟨g, off, ca, rfl, a2, a3, hcx⟩ := ha.cons h0
      obtain ⟨g', off', cb, rfl, b2, b3, hcy⟩ := hb.cons (by omega)
      clear ha hb
      unfold maxLen at a3 b3
      have hq : Hid (∀ i (h : i < xs.length), w.cell? ⟨g, off + i, none⟩ = some (bval xs[i])) := hcx
      have hq' : Hid (∀ i (h : i < ys.length), w.cell? ⟨g', off' + i, none⟩ = some (bval ys[i])) := hcy
      clear hcx hcy
      obtain ⟨n, hn⟩ : ∃ n, n = xs.length := ⟨_, rfl⟩
      have hxl : Hid (xs.length = n) := hn.symm
      have hyl : Hid (ys.length = n) := by rw [← hl]; exact hn.symm
      rw [← hl, ← hn]
      clear hl
      have hnc : n ≤ 9223372036854775807 := by omega
      clear a2 a3 b2 b3 hn h0
      go_enter Try.func32, Try.ntmps32
      go_wp2
      go_loopw [5] (fun i wr => ∃ k : Nat, k ≤ n ∧ i = .int .i64 k ∧ (xs.take k = ys.take k) ∧ ∃ m, wr = w.drewN m) (fun i _ => n - (intOf i).toNat)
      case atStart => exact ⟨0, Nat.zero_le _, rfl, by simp, 0, rfl⟩
      case round =>
        obtain ⟨k, hk, rfl, hE, m, rfl⟩ := hrel
        have HE := hid hE
        clear hE
        by_cases hlt : k < n
        · have hkx : k < xs.length := by rw [hxl.out]; exact hlt
          have hky : k < ys.length := by rw [hyl.out]; exact hlt
          have c1 := hq.out k hkx
          have c2 := hq'.out k hky
          unfold bval at c1 c2
          obtain ⟨p, hp⟩ : ∃ p, p = xs[k] := ⟨_, rfl⟩
          obtain ⟨q, hq⟩ : ∃ q, q = ys[k] := ⟨_, rfl⟩
          rw [← hp] at c1
          rw [← hq] at c2
          have Hp := hid hp
          have Hq := hid hq
          clear hp hq
          by_cases e : p = q
          · subst e
            go_wp2
            go_quiet (fail)
            go_wp2
            go_roundw
            case rel => exact ⟨k + 1, by omega, by go_num, take_eq_succ hkx hky HE.out (Hp.out.symm.trans Hq.out), by first | exact ⟨_, rfl⟩ | (simp only [World.drewN_drewN]; exact ⟨_, rfl⟩)⟩
            case measure => simp [intOf]; omega
          · have e' : ¬ ((p.toNat : Int) = (q.toNat : Int)) := fun c => e (u8_eq_of (by omega))
            clear e
            go_wp2
            go_quiet (fail)
            go_wp2
            go_ret
            refine ⟨?_, by first | exact ⟨_, rfl⟩ | (simp only [World.drewN_drewN]; exact ⟨_, rfl⟩)⟩
            have : (xs == ys) = false := by
              rw [beq_eq_false_iff_ne]
              intro c
              subst c
              exact e' (by rw [Hp.out, Hq.out])
            rw [this]; rfl
        · obtain rfl : k = n := by omega
          go_wp2
          go_ret
          refine ⟨?_, _, rfl⟩
          have : (xs == ys) = true := by
            rw [beq_iff_eq, ← List.take_length (l := xs), ← List.take_length (l := ys), hxl.out, hyl.out]
            exact HE.out
          rw [this]; rfl
    · obtain rfl : xs = [] := by cases xs <;> simp_all
      obtain rfl : ys = [] := by cases ys <;> simp_all
      obtain ⟨ao, ca, rfl, -, -⟩ := ha.val
      obtain ⟨bo, cb, rfl, -, -⟩ := hb.val
      clear ha hb hl h0
      go_enter Try.func32, Try.ntmps32
      go_wp2
      refine wp_loop_once ?_
      go_wp2
      go_ret
      exact ⟨rfl, 0, rfl⟩
  · obtain ⟨ao, ca, rfl, a2, a3⟩ := ha.val
    obtain ⟨bo, cb, rfl, b2, b3⟩ := hb.val
    clear ha hb
    have hf : Hid ((xs == ys) = false) := hid (by rw [beq_eq_false_iff_ne]; intro c; exact hl (by rw [c]))
    go_enter Try.func32, Try.ntmps32
    go_wp2
    go_ret
    rw [hf.out]
    exact ⟨rfl, 0, rfl⟩

/-! ### r01.Join -/

set_option maxRecDepth 100000 in
theorem r01join_c {w : World} {v : Value} {xs : BS} (h : BV w v xs) (hl : xs.length ≤ big) :
    Calls Try.prog 35 #[v, .slice none 0 0] w fun e w' => ∃ v', e = .returned v' ∧ w'.ownsRow w.heap.size 5 1 v' xs.length (bcells xs) ∧ Ext w w' := by
  have hh := h
  obtain ⟨ao, cap, rfl, h1, h2, h3, h4⟩ := h
  have hs := hid (Src.bytes hh)
  have H := hid hl
  clear hh h1 h2 h3 h4 hl
  have ho := World.ownsRow_nil w w.heap.size 5 1
  go_enter Try.func35, Try.ntmps35
  go_wp2_with (at_builtin; refine wpList_app rfl (.tmp 6) (.tmp 7) 33 rfl 5 1 1 (.int .u8 0) Try.underlying33 info5 rfl (by decide) rfl ho rfl (bcells_length xs ▸ (Nat.mul_one _).symm) hs.out (bcells_one xs) ?c3 ?c4 (Nat.le_refl _) ?_)
  case c3 => have := H.out; simp only [big_eq] at this; unfold maxLen; omega
  case c4 => have := H.out; simp only [big_eq] at this; omega
  intro v' w1 ho1 hg1 _
  clear ho
  have hK := hid ((Ext.refl w).grown hg1 (fun k hk hlt => by simp [Value.ownBlock] at hk))
  clear hg1
  have hb := hid hK.out.size
  have ho1' := hid ho1
  clear ho1
  go_wp2_with (at_builtin; refine wpList_app rfl (.tmp 9) (.tmp 10) 33 rfl 5 1 1 (.int .u8 0) Try.underlying33 info5 rfl (by decide) rfl ho1'.out (news := []) rfl rfl ⟨fun _ => ⟨rfl, rfl⟩, fun a h => nomatch h⟩ (fun _ h => nomatch h) ?c3 ?c4 hb.out ?_)
  case c3 => have := H.out; simp only [big_eq] at this; unfold maxLen; omega
  case c4 => have := H.out; simp only [big_eq] at this; omega
  intro v2 w2 ho2 hg2 _
  go_wp2
  go_ret
  refine ⟨_, rfl, by simpa using ho2, hK.out.grown hg2 (fun k hk hlt => ?_)⟩
  have := (ho1'.out.lt k hk).1
  omega

/-! ### r05.Less -/

theorem lt_at : ∀ (k : Nat) (a b : BS) (ha : k < a.length) (hb : k < b.length), a.take k = b.take k → a[k] ≠ b[k] → lt a b = decide (a[k] < b[k])
  | 0, x :: a, y :: b, _, _, _, hne => by simp only [List.getElem_cons_zero] at *; simp [lt, hne]
  | k + 1, x :: a, y :: b, ha, hb, h, hne => by
    simp only [List.take_succ_cons, List.cons.injEq] at h
    simp only [List.getElem_cons_succ] at *
    rw [lt, if_pos h.1]
    exact lt_at k a b (by simpa using ha) (by simpa using hb) h.2 hne

theorem lt_end : ∀ (k : Nat) (a b : BS), k ≤ a.length → k ≤ b.length → a.take k = b.take k → k = a.length ∨ k = b.length → lt a b = decide (a.length < b.length)
  | 0, [], [], _, _, _, _ => rfl
  | 0, [], y :: b, _, _, _, _ => by simp [lt]
  | 0, x :: a, [], _, _, _, _ => by simp [lt]
  | 0, x :: a, y :: b, _, _, _, h => by simp at h
  | k + 1, x :: a, y :: b, ha, hb, h, he => by
    simp only [List.take_succ_cons, List.cons.injEq] at h
    rw [lt, if_pos h.1, lt_end k a b (by simpa using ha) (by simpa using hb) h.2 (by simpa using he)]
    simp
  | k + 1, [], _, ha, _, _, _ => by simp at ha
  | k + 1, _ :: _, [], _, hb, _, _ => by simp at hb

set_option maxRecDepth 100000 in
set_option maxHeartbeats 400000 in
theorem r05less_c {w : World} {a b : Value} {xs ys : BS} (ha : BV w a xs) (hb : BV w b ys) :
    Calls Try.prog 33 #[a, b] w (Quiet1 (.bool (lt xs ys)) w) := by
  by_cases h0 : 0 < xs.length ∧ 0 < ys.length
  · obtain ⟨g, off, ca, rfl, a2, a3, hcx⟩ := ha.cons h0.1
    obtain ⟨g', off', cb, rfl, b2, b3, hcy⟩ := hb.cons h0.2
    clear ha hb h0
    unfold maxLen at a3 b3
    have hq : Hid (∀ i (h : i < xs.length), w.cell? ⟨g, off + i, none⟩ = some (bval xs[i])) := hcx
    have hq' : Hid (∀ i (h : i < ys.length), w.cell? ⟨g', off' + i, none⟩ = some (bval ys[i])) := hcy
    clear hcx hcy
    go_enter Try.func33, Try.ntmps33
    go_wp2
    go_loopw [5] (fun i wr => ∃ k : Nat, k ≤ xs.length ∧ k ≤ ys.length ∧ i = .int .i64 k ∧ (xs.take k = ys.take k) ∧ ∃ m, wr = w.drewN m) (fun i _ => xs.length - (intOf i).toNat)
    case atStart => exact ⟨0, Nat.zero_le _, Nat.zero_le _, rfl, by simp, 0, rfl⟩
    case round =>
      obtain ⟨k, hk, hk', rfl, hE, m, rfl⟩ := hrel
      have HE := hid hE
      clear hE
      by_cases hlt : k < xs.length
      · by_cases hlt' : k < ys.length
        · have c1 := hq.out k hlt
          have c2 := hq'.out k hlt'
          unfold bval at c1 c2
          obtain ⟨p, hp⟩ : ∃ p, p = xs[k] := ⟨_, rfl⟩
          obtain ⟨q, hq⟩ : ∃ q, q = ys[k] := ⟨_, rfl⟩
          rw [← hp] at c1
          rw [← hq] at c2
          have Hp := hid hp
          have Hq := hid hq
          clear hp hq
          have hi : (k : Int) < (xs.length : Int) := by omega
          have hi' : (k : Int) < (ys.length : Int) := by omega
          by_cases e : p = q
          · subst e
            go_wp2
            go_quiet (fail)
            go_wp2
            go_roundw
            case rel => exact ⟨k + 1, by omega, by omega, by go_num, take_eq_succ hlt hlt' HE.out (Hp.out.symm.trans Hq.out), by first | exact ⟨_, rfl⟩ | (simp only [World.drewN_drewN]; exact ⟨_, rfl⟩)⟩
            case measure => simp [intOf]; omega
          · have e' : ¬ ((p.toNat : Int) = (q.toNat : Int)) := fun c => e (u8_eq_of (by omega))
            have hfin : Hid (lt xs ys = decide ((p.toNat : Int) < (q.toNat : Int))) := hid (by
              rw [lt_at k xs ys hlt hlt' HE.out (by rw [← Hp.out, ← Hq.out]; exact e), ← Hp.out, ← Hq.out]
              simp [u8_lt_iff])
            clear e
            go_wp2
            go_quiet (fail)
            go_wp2
            go_quiet (fail)
            go_wp2
            go_ret
            refine ⟨?_, by first | exact ⟨_, rfl⟩ | (simp only [World.drewN_drewN]; exact ⟨_, rfl⟩)⟩
            rw [hfin.out]
            exact ret_bool (by simp)
        · have hd : decide (k < ys.length) = false := by simpa using hlt'
          obtain rfl : k = ys.length := by omega
          have hfin : Hid (lt xs ys = decide ((xs.length : Int) < (ys.length : Int))) := hid (by rw [lt_end _ xs ys hk hk' HE.out (.inr rfl)]; simp)
          go_wp2
          go_ret
          refine ⟨?_, by first | exact ⟨_, rfl⟩ | (simp only [World.drewN_drewN]; exact ⟨_, rfl⟩)⟩
          rw [hfin.out]
          exact ret_bool (by simp)
      · have hd : decide (k < xs.length) = false := by simpa using hlt
        obtain rfl : k = xs.length := by omega
        have hfin : Hid (lt xs ys = decide ((xs.length : Int) < (ys.length : Int))) := hid (by rw [lt_end _ xs ys hk hk' HE.out (.inl rfl)]; simp)
        go_wp2
        go_ret
        refine ⟨?_, by first | exact ⟨_, rfl⟩ | (simp only [World.drewN_drewN]; exact ⟨_, rfl⟩)⟩
        rw [hfin.out]
        exact ret_bool (by simp)
  · have hfin : Hid (lt xs ys = decide ((xs.length : Int) < (ys.length : Int))) := hid (by rw [lt_end 0 xs ys (Nat.zero_le _) (Nat.zero_le _) (by simp) (by omega)]; simp)
    obtain ⟨ao, ca, rfl, -, -⟩ := ha.val
    obtain ⟨bo, cb, rfl, -, -⟩ := hb.val
    clear ha hb
    by_cases h1 : 0 < xs.length
    all_goals
      go_enter Try.func33, Try.ntmps33
      go_wp2
      refine wp_loop_once ?_
      go_wp2
      go_ret
      refine ⟨?_, 0, rfl⟩
      rw [hfin.out]
      exact ret_bool (by simp)

end Go.Proofs.Ytaidgkdebocenaa
