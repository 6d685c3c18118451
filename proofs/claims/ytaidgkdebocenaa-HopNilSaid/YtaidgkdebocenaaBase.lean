/- Words that the proofs of this seat share: what a call keeps of memory, lists of bytes in memory, the order of keys.
   No conditions: definitions and lemmas. -/
import Derived.Test.YtaidgkdebocenaaProg
import Derived.WalkKit
import Derived.WalkSpells
import Derived.WalkLawsBesides
import Derived.Deep.Draws
namespace Go.Proofs.Ytaidgkdebocenaa
open Go Go.RowKit

/-! ### What a call keeps: all blocks but those of S -/

structure Keeps (S : Nat → Prop) (w w' : World) : Prop where
  os : w'.os = w.os
  tape : w'.tape = w.tape
  output : w'.output = w.output
  size : w.heap.size ≤ w'.heap.size
  block : ∀ k, k < w.heap.size → ¬ S k → w'.heap[k]? = w.heap[k]?

/-- Nothing that was there is turned. -/
def None1 : Nat → Prop := fun _ => False
abbrev Ext (w w' : World) : Prop := Keeps None1 w w'

namespace Keeps
variable {S S' : Nat → Prop} {w w1 w2 : World}

theorem refl (S : Nat → Prop) (w : World) : Keeps S w w := ⟨rfl, rfl, rfl, Nat.le_refl _, fun _ _ _ => rfl⟩

theorem trans' (h : Keeps S w w1) (h' : Keeps S' w1 w2) (hs : ∀ k, k < w.heap.size → S' k → S k) : Keeps S w w2 :=
  ⟨h'.os.trans h.os, h'.tape.trans h.tape, h'.output.trans h.output, Nat.le_trans h.size h'.size, fun k hk hS =>
    (h'.block k (Nat.lt_of_lt_of_le hk h.size) (fun c => hS (hs k hk c))).trans (h.block k hk hS)⟩

theorem trans (h : Keeps S w w1) (h' : Keeps S w1 w2) : Keeps S w w2 := h.trans' h' fun _ _ c => c
theorem ext (h : Keeps S w w1) (h' : Ext w1 w2) : Keeps S w w2 := h.trans' h' fun _ _ c => c.elim
theorem mono (h : Keeps S w w1) (hs : ∀ k, S k → S' k) : Keeps S' w w1 := ⟨h.os, h.tape, h.output, h.size, fun k hk hS => h.block k hk fun c => hS (hs k c)⟩
theorem monolt (h : Keeps S w w1) (hs : ∀ k, k < w.heap.size → S k → S' k) : Keeps S' w w1 := ⟨h.os, h.tape, h.output, h.size, fun k hk hS => h.block k hk fun c => hS (hs k hk c)⟩
theorem of_ext (h : Ext w w1) : Keeps S w w1 := h.mono fun _ c => c.elim

theorem alloc (h : Keeps S w w1) (o : Obj) : Keeps S w (w1.alloc o) :=
  h.trans ⟨rfl, rfl, rfl, by simp, fun k hk _ => Below.heap_alloc _ _ _ hk⟩
theorem drew (h : Keeps S w w1) : Keeps S w w1.drew := ⟨h.os, h.tape, h.output, h.size, h.block⟩
theorem drewN (h : Keeps S w w1) (n : Nat) : Keeps S w (w1.drewN n) := ⟨h.os, h.tape, h.output, h.size, h.block⟩
theorem setCell (h : Keeps S w w1) {a : Addr} (ha : a.block < w.heap.size → S a.block) (u : Value) : Keeps S w (w1.setCell a u) :=
  h.trans' (S' := fun k => k = a.block) ⟨rfl, rfl, rfl, by simp [World.setCell], fun k _ hS => Below.heap_setCell _ _ _ _ hS⟩ fun k hk e => by subst e; exact ha hk
theorem setRow (h : Keeps S w w1) {g : Nat} (ha : g < w.heap.size → S g) (cs : Array Value) : Keeps S w (w1.setRow g cs) :=
  h.trans' (S' := fun k => k = g) ⟨rfl, rfl, rfl, by simp [World.setRow], fun k _ hS => setRow_other w1 g k cs hS⟩ fun k hk e => by subst e; exact ha hk
theorem grown (h : Keeps S w w1) {row : Option Nat} (hg : w1.grownBy w2 row) (hr : ∀ k, row = some k → k < w.heap.size → S k) : Keeps S w w2 :=
  h.trans' (S' := fun k => row = some k) ⟨hg.os, hg.tape, hg.output, hg.size, fun k hk hS => hg.block k hk fun e => hS e.symm⟩ fun k hk e => hr k e hk

theorem heap (h : Keeps S w w1) {k : Nat} {o : Obj} (ho : w.heap[k]? = some o) (hS : ¬ S k) : w1.heap[k]? = some o := by
  have hk : k < w.heap.size := by
    rcases Nat.lt_or_ge k w.heap.size with h' | h'
    · exact h'
    · simp [Array.getElem?_eq_none h'] at ho
  rw [h.block k hk hS, ho]
theorem cell (h : Keeps S w w1) {a : Addr} {v : Value} (hc : w.cell? a = some v) (hS : ¬ S a.block) : w1.cell? a = some v :=
  (World.cell?_of_block (h.block a.block (World.block_lt_of_cell? w a hc) hS)).trans hc
theorem below (h : Keeps S w w1) {B : Nat} (hB : B ≤ w.heap.size) (hS : ∀ k, S k → B ≤ k) : Below B w w1 :=
  ⟨h.os, h.tape, h.output, h.size, fun k hk => h.block k (Nat.lt_of_lt_of_le hk hB) fun c => by have := hS k c; omega⟩
theorem ownsRow (h : Keeps S w w1) {base : Nat} {e : TypeId} {size : Nat} {v : Value} {n : Nat} {xs : List Value} (ho : w.ownsRow base e size v n xs)
    (hS : ∀ g, v.ownBlock = some g → ¬ S g) : w1.ownsRow base e size v n xs := by
  refine ⟨ho.1, ?_⟩
  rcases ho.2 with h2 | ⟨g, cap, cur, rfl, hg, hh, r⟩
  · exact .inl h2
  · exact .inr ⟨g, cap, cur, rfl, hg, h.heap hh (hS g rfl), r⟩
end Keeps

theorem Ext.refl (w : World) : Ext w w := Keeps.refl _ w
theorem Ext.trans {w w1 w2 : World} (h : Ext w w1) (h' : Ext w1 w2) : Ext w w2 := Keeps.trans h h'
theorem Ext.heap {w w1 : World} (h : Ext w w1) {k : Nat} {o : Obj} (ho : w.heap[k]? = some o) : w1.heap[k]? = some o := Keeps.heap h ho id
theorem Ext.cell {w w1 : World} (h : Ext w w1) {a : Addr} {v : Value} (hc : w.cell? a = some v) : w1.cell? a = some v := Keeps.cell h hc id
theorem Ext.of_drewN (w : World) (n : Nat) : Ext w (w.drewN n) := (Keeps.refl _ w).drewN n
theorem hid {p : Prop} (h : p) : Hid p := h
theorem lt_of_heap {w : World} {k : Nat} {o : Obj} (h : w.heap[k]? = some o) : k < w.heap.size := by
  rcases Nat.lt_or_ge k w.heap.size with h' | h'
  · exact h'
  · simp [Array.getElem?_eq_none h'] at h

/-- A bound that nothing here comes near. -/
def big : Nat := 1099511627776
theorem big_eq : big = 1099511627776 := rfl

/-! ### Lists of bytes in memory -/

abbrev BS := List UInt8

def bval (b : UInt8) : Value := .int .u8 b.toNat
def bcells (xs : BS) : List Value := xs.map bval
theorem bcells_length (xs : BS) : (bcells xs).length = xs.length := by simp [bcells]
theorem bcells_append (xs ys : BS) : bcells (xs ++ ys) = bcells xs ++ bcells ys := by simp [bcells]
theorem bcells_one (xs : BS) : ∀ u ∈ bcells xs, u.oneCell' = true := by
  intro u hu
  obtain ⟨b, _, rfl⟩ := List.mem_map.1 hu
  rfl

/-- The slice value v reads as the bytes xs. -/
def BV (w : World) (v : Value) (xs : BS) : Prop :=
  ∃ ao cap, v = .slice ao xs.length cap ∧ (ao = none → cap = 0 ∧ xs = []) ∧ xs.length ≤ cap ∧ cap ≤ maxLen ∧
    (xs = [] ∨ ∃ g off, ao = some ⟨g, off, none⟩ ∧ ∀ i (h : i < xs.length), w.cell? ⟨g, off + i, none⟩ = some (bval xs[i]))

theorem BV.nil (w : World) : BV w (.slice none 0 0) [] := ⟨none, 0, rfl, fun _ => ⟨rfl, rfl⟩, Nat.le_refl _, Nat.zero_le _, .inl rfl⟩

theorem BV.keeps {S : Nat → Prop} {w w' : World} {v : Value} {xs : BS} (h : BV w v xs) (hk : Keeps S w w') (hS : ∀ g, v.ownBlock = some g → xs ≠ [] → ¬ S g) : BV w' v xs := by
  obtain ⟨ao, cap, rfl, h1, h2, h3, h4⟩ := h
  refine ⟨ao, cap, rfl, h1, h2, h3, ?_⟩
  rcases h4 with h4 | ⟨g, off, rfl, hc⟩
  · exact .inl h4
  · by_cases he : xs = []
    · exact .inl he
    · exact .inr ⟨g, off, rfl, fun i hi => hk.cell (hc i hi) (hS g rfl he)⟩

theorem BV.ext {w w' : World} {v : Value} {xs : BS} (h : BV w v xs) (hk : Ext w w') : BV w' v xs := h.keeps hk fun _ _ _ c => c

theorem BV.block_lt {w : World} {v : Value} {xs : BS} (h : BV w v xs) {g : Nat} (hg : v.ownBlock = some g) (hne : xs ≠ []) : g < w.heap.size := by
  obtain ⟨ao, cap, rfl, h1, h2, h3, h4⟩ := h
  rcases h4 with h4 | ⟨g', off, rfl, hc⟩
  · exact absurd h4 hne
  · obtain rfl : g' = g := by simpa [Value.ownBlock] using hg
    have h0 : 0 < xs.length := List.length_pos_iff.2 hne
    exact World.block_lt_of_cell? w _ (hc 0 h0)

theorem Addr.add_plain (g o i : Nat) : (⟨g, o, none⟩ : Addr).add i = ⟨g, o + i, none⟩ := by unfold Addr.add; split <;> simp_all

theorem BV.cells {w : World} {xs : BS} {ao : Option Addr} {n cap : Nat} (h : BV w (.slice ao n cap) xs) : ∀ a, ao = some a → ∀ j u, (bcells xs)[j]? = some u → w.cell? (a.add j) = some u := by
  obtain ⟨ao', cap', hv, h1, h2, h3, h4⟩ := h
  intro a ha j u hu
  have hj : j < xs.length := by
    have := (List.getElem?_eq_some_iff.1 hu).1
    simpa [bcells] using this
  obtain ⟨rfl, -, rfl⟩ : ao = ao' ∧ n = xs.length ∧ cap = cap' := by simpa using hv
  rcases h4 with h4 | ⟨g, off, hao, hc⟩
  · subst h4; simp at hj
  · rw [hao] at ha
    obtain rfl := Option.some.inj ha
    rw [Addr.add_plain, hc j hj]
    have : (bcells xs)[j]? = some (bval xs[j]) := by simp [bcells, hj]
    rw [this] at hu; exact hu

theorem BV.of_owns {w : World} {base : Nat} {v : Value} {xs : BS} (h : w.ownsRow base 5 1 v xs.length (bcells xs)) : BV w v xs := by
  rcases h.2 with ⟨rfl, h0⟩ | ⟨g, cap, cur, rfl, hb, hg, hn, hc, hs, ht⟩
  · have : xs = [] := List.eq_nil_of_length_eq_zero h0
    subst this
    exact BV.nil w
  · refine ⟨_, cap, rfl, fun h => by simp at h, hn, hc, .inr ⟨g, 0, rfl, fun i hi => ?_⟩⟩
    rw [Nat.zero_add, cell_of_row w g i cur _ _ hg]
    have h1 : (cur.toList.take (xs.length * 1))[i]? = some (bval xs[i]) := by rw [ht]; simp [bcells, hi]
    rw [List.getElem?_take_of_lt (by omega)] at h1
    simpa using h1

theorem BV.owns_lt {w : World} {base : Nat} {e : TypeId} {size : Nat} {v : Value} {n : Nat} {xs : List Value} (h : w.ownsRow base e size v n xs) : ∀ g, v.ownBlock = some g → base ≤ g ∧ g < w.heap.size := h.lt

/-! ### append onto a row of the program's own -/

/-- What is appended: m elements, the cells 'news', at whatever address; nil: none. -/
def Src (w : World) (ao : Option Addr) (m c : Nat) (news : List Value) : Prop :=
  (ao = none → m = 0 ∧ c = 0) ∧ ∀ a, ao = some a → ∀ j u, news[j]? = some u → w.cell? (a.add j) = some u

theorem run_app {P : Program} {w : World} {base : Nat} (t ty e : TypeId) (size bytes : Nat) (z : Value) (ht : P.underlying t = some (.slice e))
    (hinfo : (P.info? e).map (fun i => (i.zero, i.size, i.bytes)) = some (some z, size, bytes)) (hzs : z.cells.size = size) (hsz : 0 < size)
    (v : Value) (n : Nat) (xs : List Value) (hown : w.ownsRow base e size v n xs)
    (ao : Option Addr) (m c : Nat) (news : List Value) (hl : news.length = m * size) (hsrc : Src w ao m c news) (h1 : ∀ u ∈ news, u.oneCell' = true)
    (h63 : n + m ≤ maxLen) (hbytes : (n + m) * bytes ≤ 140737488355328) (hbase : base ≤ w.heap.size) :
    ∃ v' w', (Builtin.append_ #[t, t] ty #[v, .slice ao m c]).run P w = .ok v' w' ∧ w'.ownsRow base e size v' (n + m) (xs ++ news) ∧ w.grownBy w' v.ownBlock ∧
      (∀ k, v'.ownBlock = some k → v.ownBlock = some k ∨ w.heap.size ≤ k) := by
  obtain ⟨i, hi, hz0, hz1, hz2⟩ := info_parts hinfo
  cases ao with
  | none =>
    obtain ⟨rfl, rfl⟩ := hsrc.1 rfl
    obtain rfl : news = [] := List.eq_nil_of_length_eq_zero (by simpa using hl)
    exact ⟨v, w, run_append_owned_none (P := P) w base t ty e i size ht hi v n xs hown, by simpa using hown, World.grownBy.refl _ _, fun k hk => .inl hk⟩
  | some a =>
    have hsrc := hsrc.2 a rfl
    obtain ⟨v', w', hr, ho', hg', hnil⟩ := run_append_own (P := P) w base t ty e i z size bytes ht hi hz0 hz1 hz2 hzs hsz v n xs hown a m c news hl hsrc h1 h63 hbytes hbase
    refine ⟨v', w', hr, ho', hg', ?_⟩
    subst hz1 hz2
    have hsmall : n + m ≤ 9223372036854775807 := by simp only [maxLen] at h63; omega
    rcases hown.2 with ⟨rfl, rfl⟩ | ⟨g, cap, cur, rfl, hbg, hg, hnc, hcm, hcs, htake⟩
    · by_cases hm : m = 0
      · have := hnil.2 ⟨rfl, hm⟩
        subst this
        intro k hk
        simp [Value.ownBlock] at hk
      · have hr2 := run_append_nil (P := P) w t ty e i z ht hi hz0 a m c news hl hsrc (by omega) (by omega) (by have hb := hbytes; simp only [Nat.zero_add] at hb; omega)
        rw [hr2] at hr
        obtain ⟨rfl, -⟩ := Result.ok.inj hr
        intro k hk
        simp [Value.ownBlock] at hk
        omega
    · by_cases hroom : n + m ≤ cap
      · have hfit : n * i.size + news.length ≤ cur.size := by rw [hl, hcs, ← Nat.add_mul]; exact Nat.mul_le_mul_right _ hroom
        have hr2 := run_append_room (P := P) w t ty e i ht hi g n cap cur hg a m c news hl hsrc h1 hroom hfit
        rw [hr2] at hr
        obtain ⟨rfl, -⟩ := Result.ok.inj hr
        exact fun k hk => .inl hk
      · have holds : ∀ j u, xs[j]? = some u → w.cell? ((⟨g, 0, none⟩ : Addr).add j) = some u := hown.cells (g := g) rfl
        have hr2 := run_append_grow (P := P) w t ty e i z ht hi hz0 ⟨g, 0, none⟩ n cap xs hown.1 holds a m c news hl hsrc (by omega) (by omega) (growslice_fits (by omega) hbytes)
        rw [hr2] at hr
        obtain ⟨rfl, -⟩ := Result.ok.inj hr
        intro k hk
        simp [Value.ownBlock] at hk
        omega

/-- The same as a step of a walk. -/
theorem wpList_app {P : Program} {w : World} {ops : Array Oper} {rest : List Oper} {o : Oper} {a : Act} {Q : Exit → Act → World → Prop} (hgd : o.guard = none) (s x : Operand) (t : TypeId)
    (ho : o.op = .call { callee := .builtin .append, args := #[s, x], argTypes := #[t, t] })
    {base : Nat} (e : TypeId) (size bytes : Nat) (z : Value) (ht : P.underlying t = some (.slice e))
    (hinfo : (P.info? e).map (fun i => (i.zero, i.size, i.bytes)) = some (some z, size, bytes)) (hzs : z.cells.size = size) (hsz : 0 < size)
    {v : Value} {n : Nat} {xs : List Value} (hs : a.eval s = v) (hown : w.ownsRow base e size v n xs)
    {ao : Option Addr} {m c : Nat} {news : List Value} (hx : a.eval x = .slice ao m c) (hl : news.length = m * size) (hsrc : Src w ao m c news) (h1 : ∀ u ∈ news, u.oneCell' = true)
    (h63 : n + m ≤ maxLen) (hbytes : (n + m) * bytes ≤ 140737488355328) (hbase : base ≤ w.heap.size)
    (h : ∀ v' w', w'.ownsRow base e size v' (n + m) (xs ++ news) → w.grownBy w' v.ownBlock → (∀ k, v'.ownBlock = some k → v.ownBlock = some k ∨ w.heap.size ≤ k) → wpList P ops Q rest (a.put o.dst v') w') :
    wpList P ops Q (o :: rest) a w := by
  refine wpList_plain hgd fun K hK => ?_
  obtain ⟨v', w', hr, h2, h3, h4⟩ := run_app (P := P) t o.type e size bytes z ht hinfo hzs hsz v n xs hown ao m c news hl hsrc h1 h63 hbytes hbase
  unfold Oper.wp execOp
  simp only [ho, resolve, invoke, builtin, Sem.run_bind, Sem.run_pure, Result.andThen_ok, List.map_toArray, List.map_cons, List.map_nil, hs, hx, hr]
  exact hK _ _ (h v' w' h2 h3 h4)

theorem Src.bytes {w : World} {ao : Option Addr} {n cap : Nat} {xs : BS} (h : BV w (.slice ao n cap) xs) : Src w ao n cap (bcells xs) := by
  refine ⟨fun e => ?_, h.cells⟩
  obtain ⟨ao', cap', hv, h1, h2, h3, h4⟩ := h
  obtain ⟨rfl, rfl, rfl⟩ : ao = ao' ∧ n = xs.length ∧ cap = cap' := by simpa using hv
  obtain ⟨rfl, rfl⟩ := h1 e
  exact ⟨rfl, rfl⟩

/-! ### The model's readings of bytes -/

theorem run_loadBytes {P : Program} (w : World) : ∀ (xs : BS) (a : Addr) (acc : ByteArray), (∀ j u, (bcells xs)[j]? = some u → w.cell? (a.add j) = some u) →
    (Extern.Bytes.loadBytes a xs.length acc).run P w = .ok ⟨acc.data ++ xs.toArray⟩ w
  | [], a, acc, _ => by simp [Extern.Bytes.loadBytes]
  | x :: xs, a, acc, h => by
    have h0 : w.cell? a = some (bval x) := by simpa [Addr.add] using h 0 (bval x) rfl
    have hr := run_loadBytes (P := P) w xs (a.add 1) (acc.push x) (fun j u hj => by
      have := h (j + 1) u (by simpa [bcells] using hj)
      rw [← this]
      congr 1
      unfold Addr.add
      by_cases hj0 : j = 0
      · subst hj0; simp
      · simp [hj0, Nat.add_assoc, Nat.add_comm 1 j])
    have hx : ((x.toNat : Int).toNat).toUInt8 = x := by simp
    have hl : (load a).run P w = .ok (bval x) w := by simp [load, Sem.run, h0]
    simp only [List.length_cons, Extern.Bytes.loadBytes, Sem.run_bind, hl, Result.andThen_ok]
    simp only [bval, hx]
    rw [hr]
    simp

theorem run_bytesOf {P : Program} {w : World} {v : Value} {xs : BS} (h : BV w v xs) : (Extern.Bytes.bytesOf v).run P w = .ok ⟨xs.toArray⟩ w := by
  have hh := h
  obtain ⟨ao, cap, rfl, h1, h2, h3, h4⟩ := h
  cases ao with
  | none =>
    obtain ⟨rfl, rfl⟩ := h1 rfl
    simp [Extern.Bytes.bytesOf]
    rfl
  | some a =>
    have := run_loadBytes (P := P) w xs a .empty (hh.cells a rfl)
    simp only [Extern.Bytes.bytesOf, this]
    simp [ByteArray.empty, ByteArray.emptyWithCapacity]
    rfl

/-- Does a key stand ahead of another one? -/
def lt : BS → BS → Bool
  | [], [] => false
  | [], _ :: _ => true
  | _ :: _, [] => false
  | a :: la, b :: lb => if a = b then lt la lb else decide (a < b)

theorem lt_irrefl : ∀ a, lt a a = false
  | [] => rfl
  | a :: la => by simp [lt, lt_irrefl la]

theorem u8_lt_iff (a b : UInt8) : a < b ↔ a.toNat < b.toNat := UInt8.lt_iff_toNat_lt
theorem u8_eq_of {a b : UInt8} (h : a.toNat = b.toNat) : a = b := UInt8.toNat_inj.1 h

theorem lt_asymm : ∀ a b, lt a b = true → lt b a = false
  | [], [], _ => rfl
  | [], _ :: _, _ => rfl
  | _ :: _, [], h => by simp [lt] at h
  | a :: la, b :: lb, h => by
    unfold lt at h ⊢
    by_cases e : a = b
    · rw [if_pos e] at h; rw [if_pos e.symm]; exact lt_asymm la lb h
    · rw [if_neg e] at h; rw [if_neg (Ne.symm e)]
      simp only [decide_eq_true_eq, decide_eq_false_iff_not, u8_lt_iff] at *
      omega

theorem lt_total : ∀ a b, lt a b = false → lt b a = false → a = b
  | [], [], _, _ => rfl
  | [], _ :: _, h, _ => by simp [lt] at h
  | _ :: _, [], _, h => by simp [lt] at h
  | a :: la, b :: lb, h, h' => by
    unfold lt at h h'
    by_cases e : a = b
    · subst e
      simp only [if_true] at h h'
      rw [lt_total la lb h h']
    · rw [if_neg e] at h; rw [if_neg (Ne.symm e)] at h'
      simp only [decide_eq_false_iff_not, u8_lt_iff] at h h'
      exact absurd (u8_eq_of (by omega)) e

theorem lt_trans : ∀ a b c, lt a b = true → lt b c = true → lt a c = true
  | [], b, [], h, h' => by cases b <;> simp [lt] at h h'
  | [], _, _ :: _, _, _ => rfl
  | _ :: _, [], _, h, _ => by simp [lt] at h
  | _ :: _, _ :: _, [], _, h => by simp [lt] at h
  | a :: la, b :: lb, c :: lc, h, h' => by
    unfold lt at h h' ⊢
    by_cases e : a = b
    · subst e
      simp only [if_true] at h
      by_cases e' : a = c
      · subst e'; simp only [if_true] at h' ⊢; exact lt_trans la lb lc h h'
      · rw [if_neg e'] at h' ⊢; exact h'
    · rw [if_neg e] at h
      by_cases e' : b = c
      · subst e'; rw [if_neg e]; exact h
      · rw [if_neg e'] at h'
        simp only [decide_eq_true_eq, u8_lt_iff] at h h'
        have : a ≠ c := fun e'' => by subst e''; omega
        rw [if_neg this]
        simp only [decide_eq_true_eq, u8_lt_iff]
        omega

theorem lt_of_not_of_ne {a b : BS} (h : lt a b = false) (hne : a ≠ b) : lt b a = true := by
  cases hb : lt b a with
  | true => rfl
  | false => exact absurd (lt_total a b h hb) hne

theorem lt_le_trans {a b c : BS} (h : lt b a = false) (h' : lt b c = true) : lt a c = true := by
  by_cases e : a = b
  · subst e; exact h'
  · exact lt_trans _ _ _ (lt_of_not_of_ne h (Ne.symm e)) h'

theorem lt_lt_trans {a b c : BS} (h : lt a b = true) (h' : lt c b = false) : lt a c = true := by
  by_cases e : b = c
  · subst e; exact h
  · exact lt_trans _ _ _ h (lt_of_not_of_ne h' (Ne.symm e))

/-- The model's comparison. -/
def cmpI (a b : BS) : Int := if lt a b then -1 else if lt b a then 1 else 0

end Go.Proofs.Ytaidgkdebocenaa
