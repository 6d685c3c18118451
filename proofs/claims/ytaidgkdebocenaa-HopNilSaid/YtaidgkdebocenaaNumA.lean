/- slices.Backward over bytes: what a loop over it is handed.
   Conditions: the bytes lie below what the loop's body may turn. · A drawn region of plain operations inside a fence (a round too): the loads first, in their order, then the rest one by one.
   The law of StillTail.lean, carried over to the fenced calculus for operations that can neither call nor defer. · num.Read of the bytes of a number.
   Conditions: at most 32 bytes, the first one not 0. -/
import Derived.RangeFuncNested
import Derived.RangeFuncBound
import Derived.RangeFuncCalls
import Derived.RangeFuncLeaves
import Derived.RangeFuncBox
import Derived.Shelf.Abstract
import Derived.Shelf.RegionOpen
import Derived.WalkKit
import Derived.OwnWalkIn
import Derived.TacticsInMore
import Derived.LoopNIn
import Derived.LoopIn
import Derived.Test.YtaidgkdebocenaaBase
import Derived.StillTail
import Derived.OrdersIn
import Derived.Test.YtaidgkdebocenaaReader2
import Derived.Test.YtaidgkdebocenaaOpen
import Derived.IntWalk

namespace Go.Proofs.Ytaidgkdebocenaa
open Go Go.RowKit Go.Shelf

attribute [local go_sem] Oper.semAt_some

/-- A round keeps all cells but those of block A. -/
def KC (A : Nat) (W W' : World) : Prop := ∀ b o v, b ≠ A → W.cell? ⟨b, o, none⟩ = some v → W'.cell? ⟨b, o, none⟩ = some v
theorem KC.refl (A : Nat) (W : World) : KC A W W := fun _ _ _ _ h => h
theorem KC.trans {A : Nat} {W1 W2 W3 : World} (h : KC A W1 W2) (h' : KC A W2 W3) : KC A W1 W3 := fun b o v hb hc => h' b o v hb (h b o v hb hc)
theorem KC.putObj {A : Nat} (n : Nat) : ∀ (W : World) (l : Nat) (o o' : Obj), n ≤ l → W.heap[l]? = some o → o.isCells = false → o.isWalk = false → KC A W (W.putObj l o') := fun W l o o' _ hl hc _ b off v _ h =>
  cell_kept h (grownBy_putObj' W l o') (fun r e => by cases e; exact ⟨_, hl, hc⟩)
theorem KC.setCell (A i : Nat) (W : World) (u : Value) : KC A W (W.setCell ⟨A, i, none⟩ u) := fun b o v hb h =>
  (World.cell?_of_block (Below.heap_setCell W ⟨A, i, none⟩ u b hb)).trans h
theorem KC.drew (A : Nat) (W : World) : KC A W W.drew := fun _ _ _ _ h => h

/-- What a round is handed: an index, and a byte. -/
abbrev Pr (len : Nat) := Fin len × UInt8
def Pr.enc {len : Nat} (x : Pr len) : Array Value := #[.int .i64 (x.1.val : Int), .int .u8 (x.2.toNat : Int)]
def proj {len : Nat} (l : List (Pr len)) : List (Nat × UInt8) := l.map fun x => (x.1.val, x.2)
/-- The last m bytes, the last one first. -/
def backL (xs : BS) (m : Nat) : List (Nat × UInt8) := (List.range m).map fun j => (xs.length - 1 - j, xs.getD (xs.length - 1 - j) 0)
theorem backL_succ (xs : BS) (m : Nat) : backL xs (m + 1) = backL xs m ++ [(xs.length - 1 - m, xs.getD (xs.length - 1 - m) 0)] := by simp [backL, List.range_succ]
theorem backL_length (xs : BS) (m : Nat) : (backL xs m).length = m := by simp [backL]
theorem proj_length {len : Nat} (l : List (Pr len)) : (proj l).length = l.length := by simp [proj]

set_option maxRecDepth 100000 in
set_option maxHeartbeats 2000000 in
theorem backF_in (n : Nat) (hn : 1 ≤ n) (l Bs A g off cap : Nat) (xs : BS) (hcap : xs.length ≤ 1000000) (hb : g ≠ A) (hB : Bs ≠ A) (J Jx : List (Pr xs.length) → World → Prop)
    (hY : ∀ pre x W, J pre W → pre.length < xs.length → YieldAt Fence.wide (n - 1) Try.prog l (Pr.enc x) W fun e W' =>
      (e = .returned (.bool true) ∧ J (pre ++ [x]) W' ∧ KC A W W') ∨ (e = .returned (.bool false) ∧ Jx (pre ++ [x]) W'))
    (W : World) (hBs : W.cell? ⟨Bs, 0, none⟩ = some (.slice (some ⟨g, off, none⟩) xs.length cap)) (hc : ∀ j (h : j < xs.length), W.cell? ⟨g, off + j, none⟩ = some (.int .u8 ((xs[j]).toNat : Int))) (h0 : J [] W) :
    CallsIn Fence.wide n Try.prog 203 #[.func (.yield l) #[] #[], .pointer (some ⟨Bs, 0, none⟩)] W fun e W' => (∃ v, e = .returned v) ∧
      ((∃ ys : List (Pr xs.length), proj ys = backL xs xs.length ∧ J ys W') ∨ (∃ pre : List (Pr xs.length), pre.length ≤ xs.length ∧ Jx pre W')) := by
  refine callsIn_of_wp Try.func203 rfl trivial ?_ rfl
  simp only [Try.ntmps203, List.size_toArray, List.length_cons, List.length_nil, Nat.reduceAdd, Nat.reduceSub, Array.replicate_succ, Array.replicate_zero, List.push_toArray, List.append_toArray, List.nil_append, List.cons_append]
  gi_wp2
  gi_loopw [3] (fun i wr => ∃ (r m : Nat) (pre : List (Pr xs.length)), r + m = xs.length ∧ i = .int .i64 ((r : Int) - 1) ∧ proj pre = backL xs m ∧ J pre wr ∧ KC A W wr)
    (fun i _ => (intOf i + 1).toNat)
  case atStart => exact ⟨xs.length, 0, [], rfl, rfl, rfl, h0, KC.refl _ _⟩
  case round =>
    obtain ⟨r, m, pre, hr, rfl, hpre, hJ, hbl⟩ := hrel
    have hpl : pre.length = m := by rw [← proj_length, hpre, backL_length]
    cases r with
    | zero =>
      rw [show (((0 : Nat) : Int) - 1) = -1 from rfl]
      gi_wp2
      go_end0
      exact ⟨⟨_, rfl⟩, .inl ⟨pre, by rw [hpre]; congr 1; omega, hJ⟩⟩
    | succ j =>
      rw [show (((j + 1 : Nat) : Int) - 1) = (j : Int) from by omega]
      have hj : j < xs.length := by omega
      have hji : (j : Int) < (xs.length : Int) := by omega
      obtain ⟨fn, tmps, assign, body, hy, hR⟩ := hY pre (⟨j, hj⟩, xs[j]) wr hJ (by omega)
      unfold Pr.enc at hy
      dsimp only at hy
      have hc1 : wr.cell? ⟨g, off + j, none⟩ = some (.int .u8 ((xs[j]).toNat : Int)) := hbl _ _ _ hb (hc j hj)
      have hB1 : wr.cell? ⟨Bs, 0, none⟩ = some (.slice (some ⟨g, off, none⟩) xs.length cap) := hbl _ _ _ hB hBs
      gi_wp2
      refine hR.mono ?_
      rintro e W3 (⟨rfl, hJ3, hk3⟩ | ⟨rfl, hJx3⟩)
      · gi_wp2
        have he : proj (pre ++ [(⟨j, hj⟩, xs[j])]) = backL xs (m + 1) := by
          rw [backL_succ, ← hpre, proj, List.map_append]
          have e1 : xs.length - 1 - m = j := by omega
          rw [e1]
          simp [proj, hj]
        go_roundw
        case rel => exact ⟨j, m + 1, pre ++ [(⟨j, hj⟩, xs[j])], by omega, rfl, he, hJ3, hbl.trans hk3⟩
        case measure => simp [intOf]
      · gi_wp2
        refine bodyPost_ret (results_none rfl _ _ _) rfl ?_
        exact ⟨⟨_, rfl⟩, .inr ⟨_, by simp; omega, hJx3⟩⟩

set_option maxRecDepth 100000 in
set_option maxHeartbeats 1000000 in
theorem backF_nil (n : Nat) (l Bs : Nat) (a : Option Addr) (cap : Nat) (J : World → Prop) (W : World) (hBs : W.cell? ⟨Bs, 0, none⟩ = some (.slice a 0 cap)) (h0 : J W) :
    CallsIn Fence.wide n Try.prog 203 #[.func (.yield l) #[] #[], .pointer (some ⟨Bs, 0, none⟩)] W fun e W' => (∃ v, e = .returned v) ∧ J W' := by
  refine callsIn_of_wp Try.func203 rfl trivial ?_ rfl
  simp only [Try.ntmps203, List.size_toArray, List.length_cons, List.length_nil, Nat.reduceAdd, Nat.reduceSub, Array.replicate_succ, Array.replicate_zero, List.push_toArray, List.append_toArray, List.nil_append, List.cons_append]
  gi_wp2
  gi_loopw [3] (fun i wr => i = .int .i64 (-1) ∧ J wr) (fun _ _ => 0)
  case atStart => exact ⟨rfl, h0⟩
  case round =>
    obtain ⟨rfl, hJs⟩ := hrel
    gi_wp2
    go_end0
    exact ⟨⟨_, rfl⟩, hJs⟩

set_option maxRecDepth 100000 in
theorem backward_in (n : Nat) (a : Option Addr) (len cap : Nat) (w : World) :
    CallsIn Fence.wide n Try.prog 194 #[.slice a len cap] w fun e w' => e = .returned (.func (.func 203) #[] #[.pointer (some ⟨w.heap.size, 0, none⟩)]) ∧ w' = w.alloc (.cells #[.slice a len cap] 33) := by
  refine callsIn_of_wp Try.func194 rfl trivial ?_ rfl
  simp only [Try.ntmps194, List.size_toArray, List.length_cons, List.length_nil, Nat.reduceAdd, Nat.reduceSub, Array.replicate_succ, Array.replicate_zero, List.push_toArray, List.append_toArray, List.nil_append, List.cons_append]
  gi_wp2
  go_ret
  exact ⟨rfl, rfl⟩

theorem backward_stops (n : Nat) (hn : 1 ≤ n) (Bs A : Nat) (a : Option Addr) (cap : Nat) (xs : BS) (hlen : xs.length ≤ 1000000) (w : World) (hBn : Bs ≠ A) (hBw : Bs < w.heap.size)
    (hc : w.cell? ⟨Bs, 0, none⟩ = some (.slice a xs.length cap)) (hI : BV w (.slice a xs.length cap) xs) (hg : ∀ g, (Value.slice a xs.length cap).ownBlock = some g → xs ≠ [] → g ≠ A ∧ g < w.heap.size) :
    SeqStopsK Fence.wide n Try.prog 203 #[.pointer (some ⟨Bs, 0, none⟩)] (Pr.enc (len := xs.length)) (KC A) (fun ys => proj ys = backL xs xs.length) (fun pre => pre.length ≤ xs.length) xs.length w := fun l J Jx W hW _ _ hY h0 => by
  have hc' := (hW.cell (p := ⟨Bs, 0, none⟩) hBw).trans hc
  obtain ⟨ao, cap', hv, h1, h2, h3, h4⟩ := hI
  cases hv
  rcases h4 with rfl | ⟨g, off, rfl, hcell⟩
  · exact (backF_nil n l Bs a cap (J []) W hc' h0).mono fun e W' ⟨he, hj⟩ => ⟨he, .inl ⟨_, rfl, hj⟩⟩
  · by_cases he : xs = []
    · subst he
      exact (backF_nil n l Bs _ cap (J []) W hc' h0).mono fun e W' ⟨he, hj⟩ => ⟨he, .inl ⟨_, rfl, hj⟩⟩
    · refine (backF_in n hn l Bs A g off cap xs hlen (hg g rfl he).1 hBn J Jx hY W hc' (fun j hj => ?_) h0).mono ?_
      · exact (hW.cell (p := ⟨g, off + j, none⟩) (hg g rfl he).2).trans (hcell j hj)
      · rintro e W' ⟨hv, h⟩
        exact ⟨hv, h⟩

end Go.Proofs.Ytaidgkdebocenaa

namespace Go.Proofs.Ytaidgkdebocenaa
open Go

def plainOp (o : Oper) : Bool :=
  match o.op with
  | .move _ | .assign _ | .binOp .. | .unOp .. | .convert .. | .indexAddr .. | .index .. | .load .. | .store .. | .fieldAddr .. | .field .. | .extract .. => true
  | _ => false

def PlainR : Result Next → Prop
  | .ok (.value _) _ => True
  | .ok .skip _ => True
  | .halt _ _ => True
  | _ => False

theorem plainV (s : Sem Value) (P : Program) (w : World) : PlainR ((do pure (Next.value (← s)) : Sem Next).run P w) := by
  rw [Sem.run_bind]
  generalize s.run P w = r
  cases r <;> trivial
theorem plainU (s : Sem Unit) (P : Program) (w : World) : PlainR ((do s; pure Next.skip : Sem Next).run P w) := by
  rw [Sem.run_bind]
  generalize s.run P w = r
  cases r <;> trivial

theorem plain_run {o : Oper} (h : plainOp o = true) (ρ : Operand → Value) (P : Program) (w : World) : PlainR ((execOp ρ o).run P w) := by
  unfold plainOp at h
  unfold execOp
  split at h
  all_goals first | (rename_i ho; simp only [ho]; first | exact plainV _ _ _ | exact plainU _ _ _ | trivial) | cases h

theorem plain_about {o : Oper} (h : plainOp o = true) (ρ : Operand → Value) (P : Program) (w : World) : o.about P w ρ = none := by
  unfold plainOp at h
  unfold Oper.about
  split at h
  all_goals first | (rename_i ho; simp only [ho]) | cases h

theorem plain_semAt {o : Oper} (h : plainOp o = true) (ro : Option Nat) (ρ : Operand → Value) : o.semAt ro ρ = execOp ρ o :=
  Oper.semAt_eq ro ρ o fun c hc => by unfold plainOp at h; rw [hc] at h; cases h

section
variable {F : Fence} {n : Nat} {P : Program} {ops : Array Oper} {Q Q' : Exit → Act → World → Prop} {md : Region.Mode}

theorem wpOpIn_of_plain {i : Nat} {K K' : Act → World → Prop} {a : Act} {w : World} (hp : ops.all plainOp = true) (hl : ¬ LetsOut Q') (hQ : ∀ c a w, Q' (.panic c) a w → Q (.panic c) a w)
    (hK : ∀ a w, K a w → K' a w) (h : wpOp P ops Q' i K a w) : wpOpIn F n P ops Q i K' a w := by
  unfold wpOp at h
  unfold wpOpIn
  cases ho : ops[i]? with
  | none => simp only [ho] at h ⊢; exact hK _ _ h
  | some o =>
    simp only [ho] at h ⊢
    obtain ⟨hi, he⟩ := Array.getElem?_eq_some_iff.1 ho
    have hpo : plainOp o = true := by
      have := Array.all_eq_true.1 hp i hi
      rwa [he] at this
    have hab : ∀ f, o.about P w a.eval = some f → F.fn f := fun f hf => by rw [plain_about hpo] at hf; cases hf
    split
    · rename_i hw
      simp only [hw, if_true] at h
      rcases h with h | h
      · unfold Oper.wp at h
        unfold Oper.wpIn
        rw [plain_semAt hpo]
        refine ⟨hab, ?_⟩
        have hr := plain_run hpo a.eval P w
        generalize (execOp a.eval o).run P w = r at h hr
        cases r with
        | ok x w' => cases x <;> first | exact hK _ _ h | exact hr.elim
        | halt x w' => cases x <;> first | exact hQ _ _ _ h | exact h.elim
      · exact absurd h.2 hl
    · rename_i hw
      simp only [hw] at h
      exact ⟨hab, hK _ _ h⟩

theorem wpAnyIn_of_plain (hp : ops.all plainOp = true) (hl : ¬ LetsOut Q') (hQ : ∀ c a w, Q' (.panic c) a w → Q (.panic c) a w) (hN : ∀ a w, Q' .normal a w → Q .normal a w) :
    ∀ (f : Nat) (listed : Array Bool) (a : Act) (w : World), wpAny P md ops Q' f listed a w → wpAnyIn F n P md ops Q f listed a w
  | 0, _, _, _, h => ⟨h.1, hN _ _ h.2⟩
  | f + 1, _, _, _, h => ⟨fun h0 => hN _ _ (h.1 h0), fun i hi => wpOpIn_of_plain hp hl hQ (fun _ _ h' => wpAnyIn_of_plain hp hl hQ hN f _ _ _ h') (h.2 i hi)⟩

/-- What stands behind a region of plain operations that runs through. -/
def OnlyOn (Q : Exit → Act → World → Prop) (e : Exit) (a : Act) (w : World) : Prop := e = .normal ∧ Q .normal a w

theorem wpIn_region_still_tail' {id : Nat} {a : Act} {w : World} {l : List Oper} (k : Nat) (hm : P.follows .mixedOrders = true) (hB : Region.lexTailB .any l.toArray k = true) (hp : l.toArray.all plainOp = true)
    (h : wpStill P l.toArray { w with drawn := w.drawn + 1 } (fun a' => wpList P l.toArray (OnlyOn Q) (l.drop k) a' { w with drawn := w.drawn + 1 }) (l.take k) a) : (Code.region id l.toArray true).wpIn F n P Q a w := by
  simp only [Region.lexTailB, Bool.and_eq_true, decide_eq_true_eq] at hB
  obtain ⟨⟨⟨⟨hsel, hn⟩, hs⟩, hc⟩, hlex⟩ := hB
  have hn' : k < l.length := by simpa using hn
  have htl : (l.take k).length = k := by simp; omega
  have hdl : (l.drop k).length = l.toArray.size - k := by simp
  have inv0 : HeadInv .any l.toArray k (Array.replicate l.toArray.size false) :=
    ⟨by simp, fun j oj _ hl => (by rw [getD_replicate_false] at hl; cases hl), fun t _ ht => getD_in (by simpa using ht) (getD_replicate_false _ _)⟩
  have H := wpAnyL_lex (md := .any) (g := l.toArray.size - k) hsel hs hc hn (l.take k) 0 _ a (fun j hj => by
    have hj' : j < k := by rw [htl] at hj; exact hj
    simp [hj']) (by simpa using htl) inv0 (by rw [htl]; exact hlex) h
  refine wpIn_region_any hm ?_
  have := wpAny_of_head (Q' := OnlyOn Q) (g := l.toArray.size - k) (fun listed a' hL => by
    have := wpAny_of_seq (md := .any) (Q' := OnlyOn Q) (l.drop k) k listed a' { w with drawn := w.drawn + 1 } (fun j => by simp [List.getElem?_drop]) (by rw [hdl]; exact hL.1) hL.2
    rwa [hdl] at this) _ _ _ H
  rw [htl, show k + (l.toArray.size - k) = l.toArray.size by omega] at this
  refine wpAnyIn_of_plain (Q' := OnlyOn Q) hp (fun ⟨_, _, h⟩ => nomatch h.1) (fun c a w h => nomatch h.1) (fun a w h => h.2) _ _ _ _ this
end
end Go.Proofs.Ytaidgkdebocenaa

namespace Go.Proofs.Ytaidgkdebocenaa
open Go Go.RowKit Go.Shelf

attribute [local go_sem] Oper.semAt_some

/-- A number's four parts. -/
def limb (n j : Nat) : Nat := n / 18446744073709551616 ^ j % 18446744073709551616
def numC (n : Nat) : List Value := [.int .u64 (limb n 0 : Nat), .int .u64 (limb n 1 : Nat), .int .u64 (limb n 2 : Nat), .int .u64 (limb n 3 : Nat)]
def numV (n : Nat) : Value := .agg (numC n).toArray

/-- What a round makes of the four parts. -/
def upR (len : Nat) (a : Nat → Int) (x : Nat × UInt8) : Nat → Int := fun j =>
  if j = (len - 1 - x.1) / 8 then bits BinOp.or IntKind.u64 (a j) (IntKind.u64.wrap ((x.2.toNat : Int) * 2 ^ (8 * ((len - 1 - x.1) % 8)))) else a j
def stR (len : Nat) (l : List (Nat × UInt8)) : Nat → Int := l.foldl (upR len) fun _ => 0

/-- The frame of num.Read where its loop stands; behind the assignment of the loop's variables. -/
def frR (h len pc x0 : Nat) (g off : Nat) (s5 s6 s25 s26 : Value) : Array Value := #[.slice (some ⟨g, off, none⟩) len pc, .pointer (some ⟨h, 0, none⟩), .pointer (some ⟨h + 1, 0, none⟩), .int .i64 0, .pointer (some ⟨h + 1 + 1, 0, none⟩), s5, s6, undef, .slice (some ⟨g, off, none⟩) len pc, .int .i64 (len : Int), .bool false,
  .bool false, .slice (some ⟨g, off, none⟩) len pc, .int .i64 (len : Int), .bool true, .bool true, .slice (some ⟨g, off, none⟩) len pc, .pointer (some ⟨g, off, none⟩), .int .u8 (x0 : Int), .bool false, .bool false, .bool false, undef, .slice (some ⟨g, off, none⟩) len pc,
  .func (.func 203) #[] #[.pointer (some ⟨h + 1 + 1 + 1, 0, none⟩)], s25, s26, undef, undef, undef, undef, undef, undef, undef, undef, undef, undef, undef, undef, undef, undef, undef, undef, undef, undef]

theorem u64_in (b : Nat) (hb : b < 18446744073709551616) : IntKind.u64.wrap (b : Int) = (b : Int) := by
  have q1 : IntKind.u64.bits = 64 := rfl
  have q2 : IntKind.u64.signed = false := rfl
  unfold IntKind.wrap
  rw [q1, q2]
  simp only [Bool.false_and, Bool.false_eq_true, if_false]
  omega

theorem shl_run (b r : Nat) (hb : b < 256) (hr : r < 8) (w : World) : (Op.shift BinOp.shl IntKind.u64 (IntKind.u64.wrap (b : Int)) IntKind.i64 (IntKind.i64.wrap (8 * (r : Int)))).run Try.prog w = .ok (.int .u64 (IntKind.u64.wrap ((b : Int) * 2 ^ (8 * r)))) w := by
  have q1 : IntKind.u64.bits = 64 := rfl
  have h2 : IntKind.i64.wrap (8 * (r : Int)) = 8 * (r : Int) := IntWalk.i64_in _ (by omega)
  rw [u64_in b (by omega), h2]
  unfold Op.shift
  have h3 : ¬ (8 * (r : Int)) < 0 := by omega
  have h4 : (8 * (r : Int)).toNat = 8 * r := by omega
  have h5 : min (8 * r) 64 = 8 * r := by omega
  simp [h3, h4, q1, h5]

set_option maxRecDepth 100000 in
set_option maxHeartbeats 4000000 in
theorem numRead_some {w : World} {xs : BS} {g off pc x0 : Nat} (h32 : xs.length ≤ 32) (hl1 : (0 : Int) < (xs.length : Int)) (hpc1 : xs.length ≤ pc) (hpc2 : pc ≤ 9223372036854775807) (hbv : BV w (.slice (some ⟨g, off, none⟩) xs.length pc) xs) (hgw : g < w.heap.size)
    (c0 : w.cell? ⟨g, off, none⟩ = some (.int .u8 (x0 : Int))) (hx0 : ((x0 : Int) == 0) = false) :
    Calls Try.prog 167 #[.slice (some ⟨g, off, none⟩) xs.length pc] w fun e w' => (∃ m : Nat → Int, m = stR xs.length (backL xs xs.length) ∧ e = .returned (.tuple #[.agg #[.int .u64 (m 0), .int .u64 (m 1), .int .u64 (m 2), .int .u64 (m 3)], .int .i64 0])) ∧ Below w.heap.size w w' := by
  have t32 : decide ((32 : Int) < (xs.length : Int)) = false := by simp; omega
  have hl0 : decide ((0 : Int) < (xs.length : Int)) = true := by simp; omega
  refine (callsIn_wide (n := 3)).1 ?_
  refine callsIn_of_wp_marks Try.func167 rfl trivial ?_ rfl
  simp only [Try.ntmps167, List.size_toArray, List.length_cons, List.length_nil, Nat.reduceAdd, Nat.reduceSub, Array.replicate_succ, Array.replicate_zero, List.push_toArray, List.append_toArray, List.nil_append, List.cons_append]
  have HBV := hid hbv
  clear hbv
  gi_wp2_with (refine ⟨trivial, ?_⟩; gi_at_call 194; refine (backward_in 2 _ _ _ _).mono ?_; rintro e w' ⟨rfl, rfl⟩)
  obtain ⟨w1, hw1⟩ : ∃ w1, w1 = w.alloc (.cells #[.slice (some ⟨g, off, none⟩) xs.length pc] 33) := ⟨_, rfl⟩
  obtain ⟨w2, hw2⟩ : ∃ w2, w2 = w1.alloc (.cells #[.int .u64 0, .int .u64 0, .int .u64 0, .int .u64 0] 79) := ⟨_, rfl⟩
  obtain ⟨w3, hw3⟩ : ∃ w3, w3 = w2.alloc (.cells #[.int .u64 0, .int .u64 0, .int .u64 0, .int .u64 0] 79) := ⟨_, rfl⟩
  obtain ⟨W0, hW0⟩ : ∃ W0, W0 = w3.alloc (.cells #[.slice (some ⟨g, off, none⟩) xs.length pc] 33) := ⟨_, rfl⟩
  rw [← hw1, ← hw2, ← hw3, ← hW0]
  have s1 : w1.heap.size = w.heap.size + 1 := by rw [hw1, World.size_alloc]
  have s2 : w2.heap.size = w.heap.size + 1 + 1 := by rw [hw2, World.size_alloc, s1]
  have s3 : w3.heap.size = w.heap.size + 1 + 1 + 1 := by rw [hw3, World.size_alloc, s2]
  have hsz : W0.heap.size = w.heap.size + 1 + 1 + 1 + 1 := by rw [hW0, World.size_alloc, s3]
  have e1 : Ext w w1 := by rw [hw1]; exact (Ext.refl w).alloc _
  have e2 : Ext w1 w2 := by rw [hw2]; exact (Ext.refl w1).alloc _
  have e3 : Ext w2 w3 := by rw [hw3]; exact (Ext.refl w2).alloc _
  have e4 : Ext w3 W0 := by rw [hW0]; exact (Ext.refl w3).alloc _
  have hE : Ext w W0 := ((e1.trans e2).trans e3).trans e4
  have hB0 : Below w.heap.size w W0 := Ext.below hE
  have b1 : W0.heap[w.heap.size]? = some (.cells #[.slice (some ⟨g, off, none⟩) xs.length pc] 33 (0, 0)) := ((e2.trans e3).trans e4).heap (by rw [hw1]; exact heap_alloc_new w _)
  have b2 : W0.heap[w.heap.size + 1]? = some (.cells #[.int .u64 0, .int .u64 0, .int .u64 0, .int .u64 0] 79 (0, 0)) := (e3.trans e4).heap (by rw [hw2, ← s1]; exact heap_alloc_new w1 _)
  have b3 : W0.heap[w.heap.size + 1 + 1]? = some (.cells #[.int .u64 0, .int .u64 0, .int .u64 0, .int .u64 0] 79 (0, 0)) := e4.heap (by rw [hw3, ← s2]; exact heap_alloc_new w2 _)
  have b4 : W0.heap[w.heap.size + 1 + 1 + 1]? = some (.cells #[.slice (some ⟨g, off, none⟩) xs.length pc] 33 (0, 0)) := by rw [hW0, ← s3]; exact heap_alloc_new w3 _
  have kP : W0.cell? ⟨w.heap.size, 0, none⟩ = some (.slice (some ⟨g, off, none⟩) xs.length pc) := by rw [cell_of_row W0 _ 0 _ _ _ b1]; rfl
  have kR : ∀ j, j < 4 → W0.cell? ⟨w.heap.size + 1, j, none⟩ = some (.int .u64 0) ∧ W0.frozen? ⟨w.heap.size + 1, j, none⟩ = false := by
    intro j hj
    rw [cell_of_row W0 _ j _ _ _ b2, frozen_of_row W0 _ j _ _ b2]
    have : j = 0 ∨ j = 1 ∨ j = 2 ∨ j = 3 := by omega
    rcases this with rfl | rfl | rfl | rfl <;> exact ⟨rfl, rfl⟩
  have kA : ∀ j, j < 4 → W0.cell? ⟨w.heap.size + 1 + 1, j, none⟩ = some (.int .u64 (stR xs.length (proj ([] : List (Pr xs.length))) j)) ∧ W0.frozen? ⟨w.heap.size + 1 + 1, j, none⟩ = false := by
    intro j hj
    rw [cell_of_row W0 _ j _ _ _ b3, frozen_of_row W0 _ j _ _ b3]
    have : j = 0 ∨ j = 1 ∨ j = 2 ∨ j = 3 := by omega
    rcases this with rfl | rfl | rfl | rfl <;> exact ⟨rfl, rfl⟩
  have kB : W0.cell? ⟨w.heap.size + 1 + 1 + 1, 0, none⟩ = some (.slice (some ⟨g, off, none⟩) xs.length pc) := by rw [cell_of_row W0 _ 0 _ _ _ b4]; rfl
  clear hW0 hw1 hw2 hw3 b1 b2 b3 b4 e1 e2 e3 e4
  have hgg : ∀ g', (Value.slice (some ⟨g, off, none⟩) xs.length pc).ownBlock = some g' → xs ≠ [] → g' ≠ w.heap.size + 1 + 1 ∧ g' < W0.heap.size := by
    intro g' hg' _
    have e : g = g' := by simpa [Value.ownBlock] using hg'
    subst e
    exact ⟨by omega, by omega⟩
  refine wpIn_rangeFunc_ownG rfl (show 1 ≤ 3 by decide) (gf := 203) (lb := #[.pointer (some ⟨w.heap.size + 1 + 1 + 1, 0, none⟩)]) rfl trivial (enters_of Try.func203 (by kernel_rfl) rfl)
    (backward_stops 2 (by decide) (w.heap.size + 1 + 1 + 1) (w.heap.size + 1 + 1) _ pc xs (by omega) W0 (by omega) (by omega) kB (HBV.out.ext hE) hgg) KC.trans (KC.putObj _) (Below.refl _ _) (fun _ => rfl)
    (fun pre W => (W.cell? ⟨w.heap.size, 0, none⟩ = some (.slice (some ⟨g, off, none⟩) xs.length pc) ∧ (∀ j, j < 4 → W.cell? ⟨w.heap.size + 1, j, none⟩ = some (.int .u64 0) ∧ W.frozen? ⟨w.heap.size + 1, j, none⟩ = false) ∧
      (∀ j, j < 4 → W.cell? ⟨w.heap.size + 1 + 1, j, none⟩ = some (.int .u64 (stR xs.length (proj pre) j)) ∧ W.frozen? ⟨w.heap.size + 1 + 1, j, none⟩ = false)) ∧ Below w.heap.size w W)
    (fun _ _ _ => False)
    (OwnFrom.and (Own.from (fun s A B row hs hg hr => ⟨cell_kept hs.1 hg hr, fun j hj => ⟨cell_kept (hs.2.1 j hj).1 hg hr, (frozen_kept (hs.2.1 j hj).1 hg hr).trans (hs.2.1 j hj).2⟩, fun j hj => ⟨cell_kept (hs.2.2 j hj).1 hg hr, (frozen_kept (hs.2.2 j hj).1 hg hr).trans (hs.2.2 j hj).2⟩⟩) _) (ownFrom_below (Nat.le_refl _) (by omega)))
    (fun _ _ _ _ _ hs _ _ => hs)
    ⟨⟨kP, kR, kA⟩, hB0⟩
    (fun x => { tmps := frR w.heap.size xs.length pc x0 g off (.int .i64 (x.1.val : Int)) (.int .u8 (x.2.toNat : Int)) (.int .i64 (x.1.val : Int)) (.int .u8 (x.2.toNat : Int)), defers := [] }) ?assign ?body ?done ?stop
  case assign =>
    intro l x W K hK
    unfold frR at hK
    unfold Pr.enc
    gi_wp2
    exact hK
  case body =>
    rintro l pre x W ⟨⟨hp, hr, ha⟩, hB⟩ _
    unfold frR
    have HR := hid (And.intro hr (And.intro ha hB))
    have hi := x.1.isLt
    have hb := x.2.toNat_lt
    obtain ⟨i, hie⟩ : ∃ i, i = x.1.val := ⟨_, rfl⟩
    obtain ⟨b, hbe⟩ : ∃ b, b = x.2.toNat := ⟨_, rfl⟩
    rw [← hie] at hi
    rw [← hbe] at hb
    dsimp only
    rw [← hie, ← hbe]
    obtain ⟨k, hk⟩ : ∃ k, k = xs.length - 1 - i := ⟨_, rfl⟩
    have hk32 : k < 32 := by omega
    have hsum : (xs.length : Int) - 1 - (i : Int) = (k : Int) := by omega
    have Hx := hid (And.intro hie (And.intro hbe hk))
    clear hr ha hB hie hbe hk
    obtain ⟨q, hq⟩ : ∃ q, q = k / 8 := ⟨_, rfl⟩
    obtain ⟨r, hr⟩ : ∃ r, r = k % 8 := ⟨_, rfl⟩
    have hq4 : q < 4 := by omega
    have hr8 : r < 8 := by omega
    obtain ⟨a0, f0⟩ := HR.out.2.1 q hq4
    obtain ⟨u, hu⟩ : ∃ u, u = stR xs.length (proj pre) q := ⟨_, rfl⟩
    rw [← hu] at a0
    have hlt := World.block_lt_of_cell? _ _ a0
    have hsh := shl_run b r hb hr8
    have hbw := u64_in b (by omega)
    have h8w : IntKind.i64.wrap (8 * (r : Int)) = 8 * (r : Int) := IntWalk.i64_in _ (by omega)
    rw [hbw, h8w] at hsh
    have hqw : IntKind.i64.wrap (q : Int) = (q : Int) := IntWalk.i64_in _ (by omega)
    have hrw : IntKind.i64.wrap (r : Int) = (r : Int) := IntWalk.i64_in _ (by omega)
    have hdq : Int.tdiv (k : Int) 8 = (q : Int) := by rw [hq]; rfl
    have hmr : Int.tmod (k : Int) 8 = (r : Int) := by rw [hr]; rfl
    have hq0 : (0 : Int) ≤ (q : Int) := by omega
    have hq4' : (q : Int) < 4 := by omega
    have hqn : ((q : Int)).toNat = q := rfl
    have Hq := hid (And.intro hq (And.intro hr hu))
    clear hq hr hu
    gi_wp2
    refine wpIn_region_still_tail' 11 (by kernel_rfl) (by kernel_rfl) (by kernel_rfl) ?_
    simp only [List.take_succ_cons, List.take_zero, List.drop_succ_cons, List.drop_zero]
    repeat still_step
    refine wpStill_nil ?_
    go_wp2
    refine ⟨rfl, ?_⟩
    gi_wp2
    obtain ⟨hr, ha, hB⟩ := HR.out
    obtain ⟨hie, hbe, hk⟩ := Hx.out
    obtain ⟨hq, hr', hu⟩ := Hq.out
    obtain ⟨nv, hnv⟩ : ∃ nv, nv = Value.int IntKind.u64 (bits BinOp.or IntKind.u64 u (IntKind.u64.wrap ((b : Int) * 2 ^ (8 * r)))) := ⟨_, rfl⟩
    rw [← hnv]
    have hfar : ∀ p : Addr, p.block ≠ w.heap.size + 1 + 1 → ((W.setCell ⟨w.heap.size + 1 + 1, q, none⟩ nv).drew).cell? p = W.cell? p := fun p hp =>
      World.cell?_of_block (Below.heap_setCell W _ nv p.block hp)
    have hfz : ∀ p : Addr, ((W.setCell ⟨w.heap.size + 1 + 1, q, none⟩ nv).drew).frozen? p = W.frozen? p := fun p => by
      show (W.setCell _ nv).frozen? p = _
      simp
    refine ⟨((KeepsOthers.setCell _ _ _).trans (KeepsOthers.drew _)).from _, (KC.setCell _ _ _ _).trans (KC.drew _ _), ⟨?_, ?_, ?_⟩, (hB.setCell (p := ⟨w.heap.size + 1 + 1, q, none⟩) (by show w.heap.size ≤ w.heap.size + 1 + 1; omega) _).drew⟩
    · rw [hfar _ (by show w.heap.size ≠ _; omega)]; exact hp
    · intro j hj
      rw [hfar _ (by show w.heap.size + 1 ≠ _; omega), hfz]
      exact hr j hj
    · intro j hj
      rw [hfz]
      refine ⟨?_, (ha j hj).2⟩
      have hst : stR xs.length (proj (pre ++ [x])) j = upR xs.length (stR xs.length (proj pre)) (i, x.2) j := by
        rw [hie]
        simp [stR, proj, List.foldl_append]
      rw [hst]
      unfold upR
      dsimp only
      rw [← hk, ← hq, ← hr', ← hbe]
      by_cases hjq : j = q
      · subst hjq
        rw [if_pos rfl, ← hu, ← hnv]
        exact World.cell?_setCell_same' _ _ _ (by rw [a0]; rfl)
      · rw [if_neg hjq, ← (ha j hj).1]
        show (W.setCell _ nv).cell? _ = _
        apply World.cell?_setCell_other
        intro e
        exact hjq (by simpa using e.symm)
  case done =>
    rintro D ys W hD hys ⟨⟨hp, hr, ha⟩, hB⟩ hK
    obtain ⟨m, hm⟩ : ∃ m, m = stR xs.length (proj ys) := ⟨_, rfl⟩
    rw [← hm] at ha
    obtain ⟨a0, -⟩ := ha 0 (by decide)
    obtain ⟨a1, -⟩ := ha 1 (by decide)
    obtain ⟨a2, -⟩ := ha 2 (by decide)
    obtain ⟨a3, -⟩ := ha 3 (by decide)
    obtain ⟨r0, f0⟩ := hr 0 (by decide)
    obtain ⟨r1, f1⟩ := hr 1 (by decide)
    obtain ⟨r2, f2⟩ := hr 2 (by decide)
    obtain ⟨r3, f3⟩ := hr 3 (by decide)
    have hlt := World.block_lt_of_cell? _ _ a0
    have hlt' := World.block_lt_of_cell? _ _ r0
    have Hy := hid (And.intro hys (And.intro hm (And.intro hB hK)))
    clear hys hm hB ha hr
    gi_wp2
    obtain ⟨hys, hm, hB, hK⟩ := Hy.out
    obtain ⟨W4, hW4⟩ : ∃ W4, W4 = ((((W.setCell ⟨w.heap.size + 1, 0, none⟩ (.int .u64 (m 0))).setCell ⟨w.heap.size + 1, 1, none⟩ (.int .u64 (m 1))).setCell ⟨w.heap.size + 1, 2, none⟩ (.int .u64 (m 2))).setCell ⟨w.heap.size + 1, 3, none⟩ (.int .u64 (m 3))) := ⟨_, rfl⟩
    have hk4 : KeepsOthers W W4 := by
      rw [hW4]
      exact (((KeepsOthers.setCell _ _ _).trans (KeepsOthers.setCell _ _ _)).trans (KeepsOthers.setCell _ _ _)).trans (KeepsOthers.setCell _ _ _)
    have hb4 : Below w.heap.size w W4 := by
      rw [hW4]
      refine (((hB.setCell (p := ⟨w.heap.size + 1, 0, none⟩) ?_ _).setCell (p := ⟨w.heap.size + 1, 1, none⟩) ?_ _).setCell (p := ⟨w.heap.size + 1, 2, none⟩) ?_ _).setCell (p := ⟨w.heap.size + 1, 3, none⟩) ?_ _
      all_goals exact Nat.le_succ _
    have q0 : W4.cell? ⟨w.heap.size + 1, 0, none⟩ = some (.int .u64 (m 0)) := by rw [hW4]; simp [go_sem, r0, r1, r2, r3]
    have q1 : W4.cell? ⟨w.heap.size + 1, 1, none⟩ = some (.int .u64 (m 1)) := by rw [hW4]; simp [go_sem, r0, r1, r2, r3]
    have q2 : W4.cell? ⟨w.heap.size + 1, 2, none⟩ = some (.int .u64 (m 2)) := by rw [hW4]; simp [go_sem, r0, r1, r2, r3]
    have q3 : W4.cell? ⟨w.heap.size + 1, 3, none⟩ = some (.int .u64 (m 3)) := by rw [hW4]; simp [go_sem, r0, r1, r2, r3]
    have hK' := hk4.same D _ hK rfl
    have hsz4 : w.heap.size < W4.heap.size := Nat.lt_of_lt_of_le (by omega) hk4.size
    rw [← hW4]
    refine ⟨by simp, .inl ⟨_, _, rfl, run_takeDeferred hK', ?_⟩⟩
    have hg := grownBy_putObj' W4 D (.deferred none)
    have z0 := cell_kept q0 hg (fun r e => by cases e; exact ⟨_, hK', rfl⟩)
    have z1 := cell_kept q1 hg (fun r e => by cases e; exact ⟨_, hK', rfl⟩)
    have z2 := cell_kept q2 hg (fun r e => by cases e; exact ⟨_, hK', rfl⟩)
    have z3 := cell_kept q3 hg (fun r e => by cases e; exact ⟨_, hK', rfl⟩)
    refine ⟨.tuple #[.agg #[.int .u64 (m 0), .int .u64 (m 1), .int .u64 (m 2), .int .u64 (m 3)], .int .i64 0], ?_, ?_, hb4.trans (belowK_b (w := w) (Nat.le_refl _) W4 D _ _ (by omega) hK' rfl rfl)⟩
    · simp [results, Try.f167, go_sem, z0, z1, z2, z3]
    · rw [← hys, ← hm]
  case stop =>
    rintro D c pre W _ _ h _
    exact h.elim

end Go.Proofs.Ytaidgkdebocenaa
