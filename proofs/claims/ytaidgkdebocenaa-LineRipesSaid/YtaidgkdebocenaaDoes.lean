/- jointurelaw05.does: one deed on both stores.
   Conditions: both stores lie in memory; they are small; key and value shorter than 2^40. -/
import Derived.Test.YtaidgkdebocenaaPure
import Derived.Deep.CutRange
namespace Go.Proofs.Ytaidgkdebocenaa
open Go Go.RowKit

/-- What a deed leaves: both stores have done it; of old memory their own blocks alone are turned. -/
structure Both (w : World) (s : SG) (m : RG) (a : AS) (r : RS) (w' : World) (s' : SG) (m' : RG) : Prop where
  rs : SRep w' s'
  rm : RRep w' m'
  bs : s'.b = s.b
  bm : m'.b = m.b
  as_ : abs s' = a
  am : rabs m' = r
  keeps : Keeps (fun k => Foot s k ∨ RFoot m k) w w'
  fs : ∀ k, Foot s' k → Foot s k ∨ w.heap.size ≤ k
  fm : ∀ k, RFoot m' k → RFoot m k ∨ w.heap.size ≤ k

def RSorted (r : RS) : Prop := SortedM r.M

def doesB (d : Nat) (a : AS) (r : RS) : Bool := if d % 8 < 6 then true else decide (a.marks = []) == decide (r.was = [])

theorem Both.store {w w' : World} {s s' : SG} {m : RG} {a : AS} (hs : SRep w s) (hm : RRep w m) (h : Moved w s a w' s') : Both w s m a (rabs m) w' s' m :=
  ⟨h.rep, hm.keeps h.keeps hs.far, h.b, rfl, h.abs, rfl, h.keeps.mono fun _ c => .inl c, h.foot, fun _ c => .inl c⟩
theorem Both.ref {w w' : World} {s : SG} {m m' : RG} {r : RS} (hs : SRep w s) (hm : RRep w m) (h : RMoved w m r w' m') : Both w s m (abs s) r w' s m' :=
  ⟨hs.rkeeps hm h.keeps, h.rep, rfl, h.b, rfl, h.abs, h.keeps.mono fun _ c => .inr c, fun _ c => .inl c, h.foot⟩
theorem Both.trans {w w1 w2 : World} {s s1 s2 : SG} {m m1 m2 : RG} {a a2 : AS} {r r2 : RS} (h : Both w s m a r w1 s1 m1) (h' : Both w1 s1 m1 a2 r2 w2 s2 m2) : Both w s m a2 r2 w2 s2 m2 :=
  ⟨h'.rs, h'.rm, h'.bs.trans h.bs, h'.bm.trans h.bm, h'.as_, h'.am, h.keeps.trans' h'.keeps (fun k hk c => c.elim (fun c => .inl ((h.fs k c).resolve_right (by omega))) (fun c => .inr ((h.fm k c).resolve_right (by omega)))),
   fun k hk => (h'.fs k hk).elim (h.fs k) (fun c => .inr (Nat.le_trans h.keeps.size c)), fun k hk => (h'.fm k hk).elim (h.fm k) (fun c => .inr (Nat.le_trans h.keeps.size c))⟩
theorem Both.after {w w1 w2 : World} {s s2 : SG} {m m2 : RG} {a : AS} {r : RS} (h : Ext w w1) (h' : Both w1 s m a r w2 s2 m2) : Both w s m a r w2 s2 m2 :=
  ⟨h'.rs, h'.rm, h'.bs, h'.bm, h'.as_, h'.am, (Keeps.of_ext h).trans' h'.keeps (fun _ _ c => c), fun k hk => (h'.fs k hk).imp id (Nat.le_trans h.size), fun k hk => (h'.fm k hk).imp id (Nat.le_trans h.size)⟩

theorem rmoved_set {w w' : World} {m : RG} {lv' : Value} {new : Ent} {is : Bool} (hso : SortedM (rabs m).M) (hR : RRep w' { m with lv := lv', L := refSet m.L new is }) (hk : Keeps (fun k => k = m.b) w w') :
    RMoved w m { rabs m with M := putM (rabs m).M new.key new.val is } w' { m with lv := lv', L := refSet m.L new is } :=
  ⟨hR, rfl, by simp only [rabs]; rw [refSet_abs (sorted_of_abs hso)], hk.mono fun k c => .inl c, fun k c => .inl c⟩

theorem stepA_set {d : Nat} {k v : BS} {a : AS} (h : d % 8 < 3) : stepA d k v a = doM a k v true := by simp [stepA, h]
theorem stepA_del {d : Nat} {k v : BS} {a : AS} (h : d % 8 = 3) : stepA d k v a = doM a k [] false := by simp [stepA, h]
theorem stepA_beg {d : Nat} {k v : BS} {a : AS} (h : d % 8 = 4 ∨ d % 8 = 5) : stepA d k v a = beginM a := by rcases h with h | h <;> simp [stepA, h]
theorem stepA_com {d : Nat} {k v : BS} {a : AS} (h : d % 8 = 6) : stepA d k v a = commitM a := by simp [stepA, h]
theorem stepA_rol {d : Nat} {k v : BS} {a : AS} (h : d % 8 = 7) : stepA d k v a = rollM a := by simp [stepA, h]
theorem stepR_set {d : Nat} {k v : BS} {a : RS} (h : d % 8 < 3) : stepR d k v a = { a with M := putM a.M k v true } := by simp [stepR, h]
theorem stepR_del {d : Nat} {k v : BS} {a : RS} (h : d % 8 = 3) : stepR d k v a = { a with M := putM a.M k [] false } := by simp [stepR, h]
theorem stepR_beg {d : Nat} {k v : BS} {a : RS} (h : d % 8 = 4 ∨ d % 8 = 5) : stepR d k v a = { a with was := a.was ++ [a.M] } := by rcases h with h | h <;> simp [stepR, h]
theorem stepR_com {d : Nat} {k v : BS} {a : RS} (h : d % 8 = 6) : stepR d k v a = endR true a := by simp [stepR, h]
theorem stepR_rol {d : Nat} {k v : BS} {a : RS} (h : d % 8 = 7) : stepR d k v a = endR false a := by simp [stepR, h]

def DoesPost (w : World) (s : SG) (m : RG) (d : UInt8) (key val : BS) (e : Ending) (w' : World) : Prop :=
  e = .returned (.bool (doesB d.toNat (abs s) (rabs m))) ∧ ∃ s' m', Both w s m (stepA d.toNat key val (abs s)) (stepR d.toNat key val (rabs m)) w' s' m'

theorem Ext.drewOne (w : World) : Ext w w.drew := (Ext.refl w).drew

/-- Join of bytes and none, at any world behind W. -/
theorem joined {W : World} {v : Value} {xs : BS} (h : BV W v xs) (hl : xs.length ≤ big) (w' : World) (hE : Ext W w') :
    Calls Try.prog 35 #[v, .slice none 0 0] w' fun e w'' => ∃ a c, e = .returned (.slice a xs.length c) ∧ OB w'' (.slice a xs.length c) xs ∧ Ext W w'' ∧ Ext w' w'' := by
  refine (r01join_c (h.ext hE) hl).mono ?_
  rintro e w2 ⟨v', rfl, hv, hE2⟩
  obtain ⟨a, c, rfl⟩ := owns_slice hv
  exact ⟨a, c, rfl, OB.of_owns hv, hE.trans hE2, hE2⟩

set_option maxRecDepth 100000 in
set_option maxHeartbeats 4000000 in
theorem does5_c {w : World} {s : SG} {m : RG} {d : UInt8} {kv vv : Value} {key val : BS} (hs : SRep w s) (hm : RRep w m) (hk : BV w kv key) (hv : BV w vv val) (hf : Fit (abs s)) (hso : SortedM (rabs m).M) (hml : (rabs m).M.length ≤ big) (hmw : (rabs m).was.length < big)
    (hkl : key.length ≤ big) (hvl : val.length ≤ big) :
    Calls Try.prog 28 #[.pointer (some ⟨s.b, 0, none⟩), .pointer (some ⟨m.b, 0, none⟩), .agg #[.int .u8 d.toNat, kv, vv]] w (DoesPost w s m d key val) := by
  obtain ⟨ka, kcap, rfl, -, -⟩ := hk.val
  obtain ⟨va, vcap, rfl, -, -⟩ := hv.val
  obtain ⟨W, hW⟩ : ∃ W, W = w.alloc (.cells #[.int .u8 d.toNat, .slice ka key.length kcap, .slice va val.length vcap] 35) := ⟨_, rfl⟩
  have hE : Ext w W := by rw [hW]; exact (Ext.refl w).alloc _
  have C0 : W.cell? ⟨w.heap.size, 0, none⟩ = some (.int .u8 d.toNat) := by rw [hW]; simp
  have C1 : W.cell? ⟨w.heap.size, 1, none⟩ = some (.slice ka key.length kcap) := by rw [hW]; simp
  have C2 : W.cell? ⟨w.heap.size, 2, none⟩ = some (.slice va val.length vcap) := by rw [hW]; simp
  have HJ1 := hid (joined (hk.ext hE) hkl)
  have HJ2 := hid (joined (hv.ext hE) hvl)
  have HE := hid hE
  have HW := hid hW
  have HC := hid (And.intro C0 (And.intro C1 C2))
  have HF := hid (And.intro hf (And.intro hso (And.intro hml (And.intro hmw (And.intro hkl hvl)))))
  have HS := hid hs
  have HM := hid hm
  have HK := hid hk
  have HV := hid hv
  have hn := d.toNat_lt
  obtain ⟨n, hnn⟩ : ∃ n, n = d.toNat := ⟨_, rfl⟩
  unfold DoesPost
  rw [← hnn] at C0 HW HC hn ⊢
  clear hE hW hf hso hml hmw hkl hvl hs hm hk hv hnn
  go_enter Try.func28, Try.ntmps28
  go_upto_region 1 with fail
  go_cut [7, 8] from 9 to 14 (fun v7 v8 wx => ∃ ja jc ua uc, v7 = .slice ja key.length jc ∧ v8 = .slice ua val.length uc ∧ OB wx v7 key ∧ OB wx v8 val ∧ Ext W wx)
  case first =>
    have d1 := C1
    have d2 := C2
    rw [← HW.out]
    have HD := hid (Ext.drewOne W)
    go_region_with (first | (go_at_call 35; first | (with_reducible refine (HJ1.out _ HD.out).mono ?_; rintro e w1 ⟨ja, jc, rfl, hj, hE1, -⟩; have d12 := hE1.cell C2) | (with_reducible refine (HJ2.out _ hE1).mono ?_; rintro e w2 ⟨ua, uc, rfl, hu, hE2, hE12⟩)))
    all_goals (go_wp2_with fail)
    all_goals (go_meet)
    all_goals (exact ⟨ja, jc, ua, uc, rfl, rfl, hj.ext hE12, hu, hE2⟩)
  case rest =>
    obtain ⟨ja, jc, ua, uc, rfl, rfl, hj, hu, hEc⟩ := hcut
    have e0 := hEc.cell C0
    have e1 := hEc.cell C1
    have e2 := hEc.cell C2
    have HEc := hid (HE.out.trans hEc)
    have HJ := hid hj
    have HU := hid hu
    clear hj hu hEc C0 C1 C2 HJ1 HJ2
    have h8 : n % 8 = 0 ∨ n % 8 = 1 ∨ n % 8 = 2 ∨ n % 8 = 3 ∨ n % 8 = 4 ∨ n % 8 = 5 ∨ n % 8 = 6 ∨ n % 8 = 7 := by omega
    rcases h8 with h0 | h0 | h0 | h0 | h0 | h0 | h0 | h0
    · have hr : (n : Int) % 8 = 0 := by omega
      have HSet := hid (set_c (HS.out.ext HEc.out) (HK.out.ext HEc.out) (HV.out.ext HEc.out) HF.out.1.small HF.out.2.2.2.2.1 HF.out.2.2.2.2.2)
      go_wp2_with fail
      refine HSet.out.mono ?_
      rintro e w3 ⟨rfl, s', hM⟩
      have hRm := (HM.out.ext HEc.out).keeps hM.keeps (HS.out.ext HEc.out).far
      have HRS := hid (r05set_c (new := ⟨.slice ja key.length jc, .slice ua val.length uc, key, val⟩) (is := true) hRm (HJ.out.keeps hM.keeps (HS.out.ext HEc.out).nb) (HU.out.keeps hM.keeps (HS.out.ext HEc.out).nb) (by simpa [rabs, absL] using HF.out.2.2.1))
      have HMv := hid hM
      have HRm := hid hRm
      clear hM hRm HSet
      dsimp only at HRS
      go_wp2_with fail
      refine HRS.out.mono ?_
      rintro e w4 ⟨rfl, lv', hR4, hK4⟩
      have hB := (Both.store (HS.out.ext HEc.out) (HM.out.ext HEc.out) HMv.out).trans (Both.ref HMv.out.rep HRm.out (rmoved_set HF.out.2.1 hR4 hK4))
      have HB := hid (Both.after HEc.out hB)
      clear hB hR4 hK4 HRS
      go_wp2_with fail
      go_ret
      have e1 := HB.out
      rw [HMv.out.abs] at e1
      rw [stepA_set (by omega), stepR_set (by omega)]
      exact ⟨by simp [doesB, h0], _, _, e1⟩
    · have hr : (n : Int) % 8 = 1 := by omega
      have HSet := hid (set_c (HS.out.ext HEc.out) (HK.out.ext HEc.out) (HV.out.ext HEc.out) HF.out.1.small HF.out.2.2.2.2.1 HF.out.2.2.2.2.2)
      go_wp2_with fail
      refine HSet.out.mono ?_
      rintro e w3 ⟨rfl, s', hM⟩
      have hRm := (HM.out.ext HEc.out).keeps hM.keeps (HS.out.ext HEc.out).far
      have HRS := hid (r05set_c (new := ⟨.slice ja key.length jc, .slice ua val.length uc, key, val⟩) (is := true) hRm (HJ.out.keeps hM.keeps (HS.out.ext HEc.out).nb) (HU.out.keeps hM.keeps (HS.out.ext HEc.out).nb) (by simpa [rabs, absL] using HF.out.2.2.1))
      have HMv := hid hM
      have HRm := hid hRm
      clear hM hRm HSet
      dsimp only at HRS
      go_wp2_with fail
      refine HRS.out.mono ?_
      rintro e w4 ⟨rfl, lv', hR4, hK4⟩
      have hB := (Both.store (HS.out.ext HEc.out) (HM.out.ext HEc.out) HMv.out).trans (Both.ref HMv.out.rep HRm.out (rmoved_set HF.out.2.1 hR4 hK4))
      have HB := hid (Both.after HEc.out hB)
      clear hB hR4 hK4 HRS
      go_wp2_with fail
      go_ret
      have e1 := HB.out
      rw [HMv.out.abs] at e1
      rw [stepA_set (by omega), stepR_set (by omega)]
      exact ⟨by simp [doesB, h0], _, _, e1⟩
    · have hr : (n : Int) % 8 = 2 := by omega
      have HSet := hid (set_c (HS.out.ext HEc.out) (HK.out.ext HEc.out) (HV.out.ext HEc.out) HF.out.1.small HF.out.2.2.2.2.1 HF.out.2.2.2.2.2)
      go_wp2_with fail
      refine HSet.out.mono ?_
      rintro e w3 ⟨rfl, s', hM⟩
      have hRm := (HM.out.ext HEc.out).keeps hM.keeps (HS.out.ext HEc.out).far
      have HRS := hid (r05set_c (new := ⟨.slice ja key.length jc, .slice ua val.length uc, key, val⟩) (is := true) hRm (HJ.out.keeps hM.keeps (HS.out.ext HEc.out).nb) (HU.out.keeps hM.keeps (HS.out.ext HEc.out).nb) (by simpa [rabs, absL] using HF.out.2.2.1))
      have HMv := hid hM
      have HRm := hid hRm
      clear hM hRm HSet
      dsimp only at HRS
      go_wp2_with fail
      refine HRS.out.mono ?_
      rintro e w4 ⟨rfl, lv', hR4, hK4⟩
      have hB := (Both.store (HS.out.ext HEc.out) (HM.out.ext HEc.out) HMv.out).trans (Both.ref HMv.out.rep HRm.out (rmoved_set HF.out.2.1 hR4 hK4))
      have HB := hid (Both.after HEc.out hB)
      clear hB hR4 hK4 HRS
      go_wp2_with fail
      go_ret
      have e1 := HB.out
      rw [HMv.out.abs] at e1
      rw [stepA_set (by omega), stepR_set (by omega)]
      exact ⟨by simp [doesB, h0], _, _, e1⟩
    · have hr : (n : Int) % 8 = 3 := by omega
      have HSet := hid (delete_c (HS.out.ext HEc.out) (HK.out.ext HEc.out) HF.out.1.small HF.out.2.2.2.2.1)
      go_wp2_with fail
      refine HSet.out.mono ?_
      rintro e w3 ⟨rfl, s', hM⟩
      have hRm := (HM.out.ext HEc.out).keeps hM.keeps (HS.out.ext HEc.out).far
      have HRS := hid (r05set_c (new := ⟨.slice ja key.length jc, .slice none 0 0, key, []⟩) (is := false) hRm (HJ.out.keeps hM.keeps (HS.out.ext HEc.out).nb) (OB.nil _) (by simpa [rabs, absL] using HF.out.2.2.1))
      have HMv := hid hM
      have HRm := hid hRm
      clear hM hRm HSet
      dsimp only at HRS
      go_wp2_with fail
      refine HRS.out.mono ?_
      rintro e w4 ⟨rfl, lv', hR4, hK4⟩
      have hB := (Both.store (HS.out.ext HEc.out) (HM.out.ext HEc.out) HMv.out).trans (Both.ref HMv.out.rep HRm.out (rmoved_set HF.out.2.1 hR4 hK4))
      have HB := hid (Both.after HEc.out hB)
      clear hB hR4 hK4 HRS
      go_wp2_with fail
      go_ret
      have e1 := HB.out
      rw [HMv.out.abs] at e1
      rw [stepA_del h0, stepR_del h0]
      exact ⟨by simp [doesB, h0], _, _, e1⟩
    · have hr : (n : Int) % 8 = 4 := by omega
      have HSet := hid (begin_c (HS.out.ext HEc.out) HF.out.1.small)
      go_wp2_with fail
      refine HSet.out.mono ?_
      rintro e w3 ⟨rfl, s', hM⟩
      have hRm := (HM.out.ext HEc.out).keeps hM.keeps (HS.out.ext HEc.out).far
      have HRS := hid (r05begin_c hRm (by simpa [rabs] using HF.out.2.2.2.1))
      have HMv := hid hM
      have HRm := hid hRm
      clear hM hRm HSet
      go_wp2_with fail
      refine HRS.out.mono ?_
      rintro e w4 ⟨rfl, m', hR4⟩
      have hB := (Both.store (HS.out.ext HEc.out) (HM.out.ext HEc.out) HMv.out).trans (Both.ref HMv.out.rep HRm.out hR4)
      have HB := hid (Both.after HEc.out hB)
      clear hB hR4 HRS
      go_wp2_with fail
      go_ret
      have e1 := HB.out
      rw [HMv.out.abs] at e1
      rw [stepA_beg (.inl h0), stepR_beg (.inl h0)]
      exact ⟨by simp [doesB, h0], _, _, e1⟩
    · have hr : (n : Int) % 8 = 5 := by omega
      have HSet := hid (begin_c (HS.out.ext HEc.out) HF.out.1.small)
      go_wp2_with fail
      refine HSet.out.mono ?_
      rintro e w3 ⟨rfl, s', hM⟩
      have hRm := (HM.out.ext HEc.out).keeps hM.keeps (HS.out.ext HEc.out).far
      have HRS := hid (r05begin_c hRm (by simpa [rabs] using HF.out.2.2.2.1))
      have HMv := hid hM
      have HRm := hid hRm
      clear hM hRm HSet
      go_wp2_with fail
      refine HRS.out.mono ?_
      rintro e w4 ⟨rfl, m', hR4⟩
      have hB := (Both.store (HS.out.ext HEc.out) (HM.out.ext HEc.out) HMv.out).trans (Both.ref HMv.out.rep HRm.out hR4)
      have HB := hid (Both.after HEc.out hB)
      clear hB hR4 HRS
      go_wp2_with fail
      go_ret
      have e1 := HB.out
      rw [HMv.out.abs] at e1
      rw [stepA_beg (.inr h0), stepR_beg (.inr h0)]
      exact ⟨by simp [doesB, h0], _, _, e1⟩
    · have hr : (n : Int) % 8 = 6 := by omega
      have HSet := hid (commit_c (HS.out.ext HEc.out) HF.out.1.small)
      go_wp2_with fail
      refine HSet.out.mono ?_
      rintro e w3 ⟨rfl, s', hM⟩
      have hRm := (HM.out.ext HEc.out).keeps hM.keeps (HS.out.ext HEc.out).far
      have HRS := hid (r05end_c (stay := true) hRm (by simpa [rabs] using HF.out.2.2.2.1))
      have HMv := hid hM
      have HRm := hid hRm
      obtain ⟨b1, hb1⟩ : ∃ b1, b1 = (!decide (s.marks = [])) := ⟨_, rfl⟩
      obtain ⟨b2, hb2⟩ : ∃ b2, b2 = (!decide (m.was = [])) := ⟨_, rfl⟩
      rw [← hb1]
      rw [← hb2] at HRS
      have HB12 := hid (And.intro hb1 hb2)
      clear hM hRm HSet hb1 hb2
      go_wp2_with fail
      refine HRS.out.mono ?_
      rintro e w4 ⟨rfl, m', hR4⟩
      have hB := (Both.store (HS.out.ext HEc.out) (HM.out.ext HEc.out) HMv.out).trans (Both.ref HMv.out.rep HRm.out hR4)
      have HB := hid (Both.after HEc.out hB)
      clear hB hR4 HRS
      go_wp2_with fail
      go_ret
      refine ⟨?_, ?_⟩
      · have e1 : doesB n (abs s) (rabs m) = (b1 == b2) := by
          rw [HB12.out.1, HB12.out.2]
          have e2 : decide ((rabs m).was = []) = decide (m.was = []) := by simp [rabs]
          simp only [doesB, h0, e2]
          show (decide (s.marks = []) == decide (m.was = [])) = _
          cases decide (s.marks = []) <;> cases decide (m.was = []) <;> rfl
        rw [e1]
        rfl
      have e1 := HB.out
      rw [HMv.out.abs] at e1
      rw [stepA_com h0, stepR_com h0]
      exact ⟨_, _, e1⟩
    · have hr : (n : Int) % 8 = 7 := by omega
      have HSet := hid (rollback_c (HS.out.ext HEc.out) HF.out.1.small HF.out.1.two)
      go_wp2_with fail
      refine HSet.out.mono ?_
      rintro e w3 ⟨rfl, s', hM⟩
      have hRm := (HM.out.ext HEc.out).keeps hM.keeps (HS.out.ext HEc.out).far
      have HRS := hid (r05end_c (stay := false) hRm (by simpa [rabs] using HF.out.2.2.2.1))
      have HMv := hid hM
      have HRm := hid hRm
      obtain ⟨b1, hb1⟩ : ∃ b1, b1 = (!decide (s.marks = [])) := ⟨_, rfl⟩
      obtain ⟨b2, hb2⟩ : ∃ b2, b2 = (!decide (m.was = [])) := ⟨_, rfl⟩
      rw [← hb1]
      rw [← hb2] at HRS
      have HB12 := hid (And.intro hb1 hb2)
      clear hM hRm HSet hb1 hb2
      go_wp2_with fail
      refine HRS.out.mono ?_
      rintro e w4 ⟨rfl, m', hR4⟩
      have hB := (Both.store (HS.out.ext HEc.out) (HM.out.ext HEc.out) HMv.out).trans (Both.ref HMv.out.rep HRm.out hR4)
      have HB := hid (Both.after HEc.out hB)
      clear hB hR4 HRS
      go_wp2_with fail
      go_ret
      refine ⟨?_, ?_⟩
      · have e1 : doesB n (abs s) (rabs m) = (b1 == b2) := by
          rw [HB12.out.1, HB12.out.2]
          have e2 : decide ((rabs m).was = []) = decide (m.was = []) := by simp [rabs]
          simp only [doesB, h0, e2]
          show (decide (s.marks = []) == decide (m.was = [])) = _
          cases decide (s.marks = []) <;> cases decide (m.was = []) <;> rfl
        rw [e1]
        rfl
      have e1 := HB.out
      rw [HMv.out.abs] at e1
      rw [stepA_rol h0, stepR_rol h0]
      exact ⟨_, _, e1⟩

end Go.Proofs.Ytaidgkdebocenaa
