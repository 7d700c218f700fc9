/- Contracts: stamp.Name, stamp.move, stamp.edit, stamp.Good. Contract: stamp.edit. Contract: stamp.Good. Contracts: slices.IndexFunc, slices.ContainsFunc, obj.rise with closures. Contracts: the closures of obj.rightItem, rightDir, rightChange; rightItem, rightDir, rightLabel. Contracts: slices.Index and Contains of IDs, the closures of obj.rightChange, obj.rightChange. -/
import Derived.Test.YtefcalkbfaefgaaGreatNameXK
import Derived.Test.YtefcalkbfaefgaaGreatQFrK
import Derived.Test.YtefcalkbfaefgaaGreatEqsK
import Derived.Deep.LoopGhost
import Derived.Test.YtefcalkbfaefgaaGreatRiseWK
import Derived.Test.YtefcalkbfaefgaaGreatRegMK
namespace Go.Proofs.YtefcalkbfaefgaaGreat
open Go.RowKit
set_option linter.unusedVariables false
set_option linter.unusedSimpArgs false

theorem hasB_not (l : List UInt8) : (l.all fun b => decide (b ≠ 0) && decide (b ≠ 47) && decide (b ≠ 10)) = !hasB l := by
  unfold hasB
  induction l with
  | nil => rfl
  | cons b l ih => rw [List.all_cons, List.any_cons, ih]; simp [Bool.not_or]
set_option maxRecDepth 100000 in
theorem name_any (w : World) (l : List UInt8) (hl : l.length ≤ 140737488355328) : Calls Tryz.prog 90 #[.string (str l)] w (Gives w (.bool (nameOk l))) := by
  have hz := str_size l
  have hT : (str l).toList = l := str_toList l
  have hB : nameOk l = (decide (1 ≤ l.length) && decide (l.length ≤ 60) && decide (l ≠ [46]) && decide (l ≠ [46, 46]) && !hasB l) := by
    unfold nameOk; rw [hasB_not]
  have hC := Lib.hid (fun (h60 : l.length ≤ 60) => containsAny_chs w (str l) (by rw [hz]; omega))
  have HB := Lib.hid hB
  have HT := Lib.hid hT
  have e0 : (str l).data.toList = l := by simp [str]
  rw [e0] at hC
  clear hB hT e0
  by_cases h1 : 1 ≤ l.length
  · have i1 : (1 : Int) ≤ (l.length : Int) := by omega
    by_cases h2 : l.length ≤ 60
    · have i2 : (l.length : Int) ≤ 60 := by omega
      by_cases h3 : l = [46]
      · have a1 : (str l).toList = [46] := by rw [HT.out, h3]
        have a2 : ((str l).toList == [46]) = true := by rw [a1]; rfl
        have H := Lib.hid (HB.out.trans (by simp [h3]) : nameOk l = false)
        clear HB h3
        go_enter Tryz.func90, Tryz.ntmps90
        go_wp2_with fail
        go_ret
        exact ⟨by rw [H.out]; rfl, Fr.refl _ _⟩
      · have a1 : ¬ (str l).toList = [46] := by rw [HT.out]; exact h3
        have a2 : ((str l).toList == [46]) = false := by simpa using a1
        by_cases h4 : l = [46, 46]
        · have a3 : (str l).toList = [46, 46] := by rw [HT.out, h4]
          have a4 : ((str l).toList == [46, 46]) = true := by rw [a3]; rfl
          have H := Lib.hid (HB.out.trans (by simp [h4]) : nameOk l = false)
          clear HB h4 h3 a1
          go_enter Tryz.func90, Tryz.ntmps90
          go_wp2_with fail
          go_ret
          exact ⟨by rw [H.out]; rfl, Fr.refl _ _⟩
        · have a3 : ¬ (str l).toList = [46, 46] := by rw [HT.out]; exact h4
          have a4 : ((str l).toList == [46, 46]) = false := by simpa using a3
          have H := Lib.hid (HB.out.trans (by simp [h1, h2, h3, h4]) : nameOk l = !hasB l)
          clear HB h3 h4
          go_enter Tryz.func90, Tryz.ntmps90
          go_wp2_with fail
          go_at_call 106
          refine (hC.out (by omega)).mono ?_
          rintro e w1 ⟨rfl, hf⟩
          go_wp2_with fail
          go_ret
          exact ⟨by rw [H.out]; rfl, hf⟩
    · have i2 : ¬ (l.length : Int) ≤ 60 := by omega
      have H := Lib.hid (HB.out.trans (by simp [h2]) : nameOk l = false)
      clear HB
      go_enter Tryz.func90, Tryz.ntmps90
      go_wp2_with fail
      go_ret
      exact ⟨by rw [H.out]; rfl, Fr.refl _ _⟩
  · have i1 : ¬ (1 : Int) ≤ (l.length : Int) := by omega
    have H := Lib.hid (HB.out.trans (by simp [h1]) : nameOk l = false)
    clear HB
    go_enter Tryz.func90, Tryz.ntmps90
    go_wp2_with fail
    go_ret
    exact ⟨by rw [H.out]; rfl, Fr.refl _ _⟩

def opOf (r : OpW) (ov : List St) : Opn := ⟨r.Kind, r.At, r.Node, r.Parent, r.Name, r.Data, ov⟩
set_option maxRecDepth 100000 in
theorem move_any (w : World) (r : OpW) (hl : r.Name.length ≤ 140737488355328) (ov : List St) (hov : ov.length = r.n) : Calls Tryz.prog 61 #[.agg (codO.A r)] w (Gives w (.bool (moveOk (opOf r ov)))) := by
  have f0 : Fr noB w (w.alloc (.cells (codO.A r) 42)) := (Fr.refl noB w).alloc _
  obtain ⟨q1, q2, q3, q4, q5, q6, q7, q8, q9, q10⟩ := opAt (Cod.rd_new w 42 r)
  have hP : w.heap.size < (w.alloc (.cells (codO.A r) 42)).heap.size := by simp
  have hM : moveOk (opOf r ov) = (decide (cmpS r.Node r.At ≤ 0) && (rightS r.Parent || fixedS r.Parent) && nameOk r.Name && decide (r.Data = zID) && decide (r.n = 0)) := by unfold moveOk opOf; rw [hov]
  have HM := Lib.hid hM
  clear hM hov q2 q3 q10
  go_enter Tryz.func61, Tryz.ntmps61
  go_upto_region 1 with fail
  generalize w.alloc (.cells (codO.A r) 42) = W0 at f0 q1 q4 q5 q6 q7 q8 q9 hP ⊢
  generalize w.heap.size = P at q1 q4 q5 q6 q7 q8 q9 hP ⊢
  go_wp2_with (first
    | (go_at_call 22; refine (scmp_v _ r.Node r.At).mono ?_; rintro e w1 ⟨rfl, f1⟩; obtain ⟨L1, L2, L3, L4, L5, L6⟩ := f1.same)
    | (go_at_call 24; refine (right_v _ _).mono ?_; rintro e w2 ⟨rfl, f2⟩; replace f1 := f1.step0 f2; clear L1 L2 L3 L4 L5 L6; obtain ⟨L1, L2, L3, L4, L5, L6⟩ := f1.same)
    | (go_at_call 89; refine (fixed_v _ _).mono ?_; rintro e w2 ⟨rfl, f2⟩; replace f1 := f1.step0 f2; clear L1 L2 L3 L4 L5 L6; obtain ⟨L1, L2, L3, L4, L5, L6⟩ := f1.same)
    | (go_at_call 90; refine (name_any _ _ hl).mono ?_; rintro e w2 ⟨rfl, f2⟩; replace f1 := f1.step0 f2; clear L1 L2 L3 L4 L5 L6; obtain ⟨L1, L2, L3, L4, L5, L6⟩ := f1.same))
  all_goals clear L1 L2 L3 L4 L5 L6 q1 q4 q5 q6 q7 q8 q9 hP
  all_goals
    go_ret
    have hn0 : ((r.n : Int) == 0) = decide (r.n = 0) := by rw [Bool.eq_iff_iff]; simp
    refine ⟨?_, f0.step0 f1⟩
    rw [HM.out]
    first
    | (simp [*]; done)
    | (have hle : ¬ cmpS r.Node r.At ≤ 0 := by omega
       simp [hle]; done)
end Go.Proofs.YtefcalkbfaefgaaGreat
namespace Go.Proofs.YtefcalkbfaefgaaGreat
open Go.RowKit
set_option linter.unusedVariables false
set_option linter.unusedSimpArgs false

theorem all_take_succ {α : Type} (p : α → Bool) (l : List α) (k : Nat) (h : k < l.length) : (l.take (k + 1)).all p = ((l.take k).all p && p l[k]) := by
  rw [List.take_succ_eq_append_getElem h, List.all_append]; simp
theorem all_take_false {α : Type} {p : α → Bool} {l : List α} {k : Nat} (h : (l.take k).all p = false) : l.all p = false := by
  rw [← Bool.not_eq_true] at h ⊢
  intro ha
  apply h
  rw [List.all_eq_true] at ha ⊢
  exact fun x hx => ha x (List.mem_of_mem_take hx)
theorem rise_take_succ {α : Type} (cf : α → α → Int) (l : List α) (k : Nat) (h : k < l.length) (h0 : riseB cf (l.take k) = true) (h1 : ∀ (h : 0 < k), cf (l[k - 1]'(by omega)) l[k] < 0) : riseB cf (l.take (k + 1)) = true := by
  rw [riseB_iff] at h0 ⊢
  intro j hj
  rw [List.length_take] at hj
  simp only [List.getElem_take]
  rcases Nat.lt_or_ge (j + 1) k with hk | hk
  · have := h0 j (by rw [List.length_take]; omega)
    simpa only [List.getElem_take] using this
  · have e : j = k - 1 := by omega
    subst e
    have := h1 (by omega)
    simp only [show k - 1 + 1 = k by omega]
    exact this
theorem rise_false {α : Type} (cf : α → α → Int) (l : List α) (k : Nat) (h : k < l.length) (hk : 0 < k) (h1 : ¬ cf (l[k - 1]'(by omega)) l[k] < 0) : riseB cf l = false := by
  rw [← Bool.not_eq_true]
  intro h0
  rw [riseB_iff] at h0
  have := h0 (k - 1) (by omega)
  simp only [show k - 1 + 1 = k by omega] at this
  exact h1 this
theorem rise_zero {α : Type} (cf : α → α → Int) (l : List α) : riseB cf (l.take 0) = true := by simp [riseB]
/-- a row that lies somewhere -/
theorem Sl.adC {α : Type} {C : Cod α} {w : World} {A : Option Addr} {l : List α} (h : Sl w A (C.row l)) (hl : 0 < l.length) : ∃ g off, A = some ⟨g, off, none⟩ ∧ g < w.heap.size := by
  obtain ⟨g, off, e, hg, _⟩ := h (Cod.row_ne (by intro h0; subst h0; simp at hl))
  exact ⟨g, off, e, hg⟩
def EdR (W : World) (p : St → Bool) (ov : List St) (gk : Nat) (iv : Value) (wr : World) : Prop := ∃ k : Nat, iv = .int .i64 (k : Int) ∧ gk = ov.length - k ∧ k ≤ ov.length ∧ Fr noB W wr ∧ (ov.take k).all p = true ∧ riseB cmpS (ov.take k) = true
set_option maxRecDepth 100000 in
set_option maxHeartbeats 2000000 in
theorem edit_any (w : World) (r : OpW) (ov : List St) (hov : ov.length = r.n) (hs : Sl w r.A (codS.row ov)) (hb : ov.length ≤ 140737488355328) : Calls Tryz.prog 62 #[.agg (codO.A r)] w (Gives w (.bool (editOk (opOf r ov)))) := by
  have f0 : Fr noB w (w.alloc (.cells (codO.A r) 42)) := (Fr.refl noB w).alloc _
  obtain ⟨q1, q2, q3, q4, q5, q6, q7, q8, q9, q10⟩ := opAt (Cod.rd_new w 42 r)
  have hP : w.heap.size < (w.alloc (.cells (codO.A r) 42)).heap.size := by simp
  have hM : editOk (opOf r ov) = (decide (cmpS r.Node r.At < 0) && decide (r.Parent = zSt) && decide (r.Name = []) && decide (r.Data ≠ zID) && decide (r.n ≤ 64) && (ov.all fun s => rightS s && decide (cmpS s r.At < 0)) && riseB cmpS ov) := by unfold editOk opOf; rw [hov]
  have HM := Lib.hid hM
  replace hs := hs.fr0 f0
  clear hM q2 q3 q10
  go_enter Tryz.func62, Tryz.ntmps62
  go_upto_region 1 with fail
  generalize w.alloc (.cells (codO.A r) 42) = W0 at f0 hs q1 q4 q5 q6 q7 q8 q9 hP ⊢
  generalize w.heap.size = P at q1 q4 q5 q6 q7 q8 q9 hP ⊢
  have HOV := Lib.hid hov
  clear hov
  go_wp2_with ((go_at_call 22; refine (scmp_v _ r.Node r.At).mono ?_; rintro e w1 ⟨rfl, f1⟩; obtain ⟨L1, L2, L3, L4, L5, L6⟩ := f1.same))
  all_goals first
    | (go_ret
       refine ⟨?_, f0.step0 f1⟩
       rw [HM.out]
       try rw [str_toList] at *
       first
       | (simp [*]; done)
       | (have hle : ¬ cmpS r.Node r.At < 0 := by omega
          simp [hle]; done)
       | (have hle : ¬ r.n ≤ 64 := by omega
          simp [hle]; done))
    | skip
  have h1 : cmpS r.Node r.At < 0 ∧ (r.n : Int) ≤ 64 := ‹_›
  have h2 : r.Parent = zSt := ‹_›
  have h3 : (str r.Name).toList = [] := ‹_›
  have h4 : ¬ r.Data = zID := ‹_›
  rw [str_toList] at h3
  have HM2 : Hid (editOk (opOf r ov) = ((ov.all fun s => rightS s && decide (cmpS s r.At < 0)) && riseB cmpS ov)) := Lib.hid (by
    rw [HM.out]
    have h6 : r.n ≤ 64 := by omega
    simp [h1.1, h2, h3, h4, h6])
  clear HM h1 h2 h3 h4 L1 L2 L3 L4 L5 L6
  replace hs := hs.fr0 f1
  have r4 := (f1.same.st _ 1 hP).trans q4
  have r9 := (f1.same.cell _ 40 hP).trans q9
  have hP1 : P < w1.heap.size := Nat.lt_of_lt_of_le hP f1.size
  replace f0 := f0.step0 f1
  clear q1 q4 q5 q6 q7 q8 q9 hP f1 W0
  rw [← HOV.out] at r9 ⊢
  clear HOV
  generalize r.A = A at hs r9 ⊢
  generalize hpp : (fun s => rightS s && decide (cmpS s r.At < 0)) = pp at HM2
  have HPP := Lib.hid hpp
  clear hpp
  go_loopg [37] ov.length (fun gk iv wr => EdR w1 pp ov gk iv wr)
  case atStart => exact ⟨0, rfl, by omega, by omega, Fr.refl _ _, by simp, rise_zero _ _⟩
  case round =>
    obtain ⟨k, rfl, rfl, hk, hf, ha, hri⟩ := hrel
    have HA := Lib.hid ha
    have HRI := Lib.hid hri
    clear ha hri
    by_cases hlt : k < ov.length
    · have i1 : (k : Int) < (ov.length : Int) := by omega
      obtain ⟨g, off, rfl, hg⟩ := hs.adC (by omega)
      have e1 : codS.rd wr g (off + k * 2) = some ov[k] := (hs.fr0 hf).rd k hlt
      have e4 := (hf.same.st _ 1 hP1).trans r4
      have e9 := (hf.same.cell _ 40 hP1).trans r9
      have hP2 : P < wr.heap.size := Nat.lt_of_lt_of_le hP1 hf.size
      have hgw : g < wr.heap.size := Nat.lt_of_lt_of_le hg hf.size
      have i0 : (0 : Int) ≤ (k : Int) := by omega
      have hpx : pp ov[k] = (rightS ov[k] && decide (cmpS ov[k] r.At < 0)) := by rw [← HPP.out]
      have bad1 : pp ov[k] = false → editOk (opOf r ov) = false := fun h => by
        have h1 := all_take_succ pp ov k hlt
        rw [h, Bool.and_false] at h1
        rw [HM2.out, all_take_false h1]; rfl
      have good1 : pp ov[k] = true → (ov.take (k + 1)).all pp = true := fun h => by rw [all_take_succ pp ov k hlt, HA.out, h]; rfl
      have pv : ∀ (h : 0 < k), ∃ p, codS.rd wr g (off + (k - 1) * 2) = some p ∧ (¬ cmpS p ov[k] < 0 → editOk (opOf r ov) = false) ∧ (cmpS p ov[k] < 0 → riseB cmpS (ov.take (k + 1)) = true) := fun h =>
        ⟨ov[k - 1]'(by omega), (hs.fr0 hf).rd (k - 1) (by omega), fun h1 => by rw [HM2.out, rise_false cmpS ov k hlt h h1, Bool.and_false], fun h1 => rise_take_succ cmpS ov k hlt HRI.out (fun _ => h1)⟩
      have pz : k = 0 → riseB cmpS (ov.take (k + 1)) = true := fun h => rise_take_succ cmpS ov k hlt HRI.out (fun h' => absurd h' (by omega))
      generalize ov[k] = x at e1 hpx bad1 good1 pv
      have fA : Fr noB wr (wr.alloc (codS.o x)) := (Fr.refl noB wr).alloc _
      have n1 : codS.rd (wr.alloc (codS.o x)) wr.heap.size 0 = some x := Cod.rd_new' wr x
      have n2 : wr.heap.size < (wr.alloc (codS.o x)).heap.size := by simp
      have BAD1 := Lib.hid bad1
      have PV := Lib.hid pv
      have GOOD1 := Lib.hid good1
      have PZ := Lib.hid pz
      have HPX := Lib.hid hpx
      clear bad1 good1 hpx pv pz
      go_wp2_with fail
      have s4 := (fA.same.st _ 1 hP2).trans e4
      have s9 := (fA.same.cell _ 40 hP2).trans e9
      have hP3 := Nat.lt_of_lt_of_le hP2 fA.size
      have hg3 := Nat.lt_of_lt_of_le hgw fA.size
      replace fA := hf.step0 fA
      have pv' : ∀ (h : 0 < k), ∃ p, codS.rd (wr.alloc (codS.o x)) g (off + (k - 1) * 2) = some p ∧ (¬ cmpS p x < 0 → editOk (opOf r ov) = false) ∧ (cmpS p x < 0 → riseB cmpS (ov.take (k + 1)) = true) := fun h => by
        obtain ⟨p, h1, h2, h3⟩ := PV.out h
        exact ⟨p, (((Fr.refl noB wr).alloc (codS.o x)).same.st _ _ hgw).trans h1, fun h => h2 (by omega), h3⟩
      have PV' := Lib.hid pv'
      clear e1 e4 e9 hP2 hgw PV pv'
      generalize wr.alloc (codS.o x) = W at fA n1 n2 s4 s9 hP3 hg3 PV' ⊢
      generalize wr.heap.size = N at n1 n2 ⊢
      have C2 : ∀ w, Calls Tryz.prog 22 #[.agg (codS.A x), .agg (codS.A r.At)] w (Gives w (.int .i64 (cmpS x r.At))) := fun w => scmp_v w x r.At
      by_cases hr : rightS x = true
      · have C1 : ∀ w, Calls Tryz.prog 24 #[.agg (codS.A x)] w (Gives w (.bool true)) := fun w => Gives.val (right_v w x) (by rw [hr])
        by_cases hc : cmpS x r.At < 0
        · have GP : pp x = true := by rw [HPX.out, hr]; simp [hc]
          have hc1 : ¬ (0 : Int) ≤ cmpS x r.At := by omega
          by_cases hk0 : k = 0
          · have G1 := Lib.hid (GOOD1.out GP)
            have G2 := Lib.hid (PZ.out hk0)
            have j0 : ¬ (0 : Int) < (k : Int) := by omega
            have j9 : ¬ 0 < k := by omega
            clear GP hk0
            refine wp_region_fr (by kernel_rfl) (by kernel_rfl) ?_
            refine wpQ_take (v := ?_) (by rfl) (fun wS hS => ?_) ?_
            rotate_left
            · obtain ⟨L1, L2, L3, L4, L5, L6⟩ := Fr.same hS; go_simp; try with_reducible rfl
            try simp only [List.getElem_toArray, List.getElem_cons_zero, List.getElem_cons_succ, Act.put, List.setIfInBounds_toArray, List.set_cons_zero, List.set_cons_succ]
            refine wpQ_call (by rfl) (fun wS hS => ⟨_, _, ?qh263, Calls.fr hS (C1 _)⟩) ?qk263
            case qh263 => obtain ⟨L1, L2, L3, L4, L5, L6⟩ := Fr.same hS; go_simp; try with_reducible rfl
            try simp only [List.getElem_toArray, List.getElem_cons_zero, List.getElem_cons_succ, Act.put, List.setIfInBounds_toArray, List.set_cons_zero, List.set_cons_succ]
            iterate 5
              refine wpQ_take (v := ?_) (by rfl) (fun wS hS => ?_) ?_
              rotate_left
              · obtain ⟨L1, L2, L3, L4, L5, L6⟩ := Fr.same hS; go_simp; try with_reducible rfl
              try simp only [List.getElem_toArray, List.getElem_cons_zero, List.getElem_cons_succ, Act.put, List.setIfInBounds_toArray, List.set_cons_zero, List.set_cons_succ]
            refine wpQ_call (by rfl) (fun wS hS => ⟨_, _, ?qh271, Calls.fr hS (C2 _)⟩) ?qk271
            case qh271 => obtain ⟨L1, L2, L3, L4, L5, L6⟩ := Fr.same hS; go_simp; try with_reducible rfl
            try simp only [List.getElem_toArray, List.getElem_cons_zero, List.getElem_cons_succ, Act.put, List.setIfInBounds_toArray, List.set_cons_zero, List.set_cons_succ]
            iterate 6
              refine wpQ_take (v := ?_) (by rfl) (fun wS hS => ?_) ?_
              rotate_left
              · obtain ⟨L1, L2, L3, L4, L5, L6⟩ := Fr.same hS; go_simp; try with_reducible rfl
              try simp only [List.getElem_toArray, List.getElem_cons_zero, List.getElem_cons_succ, Act.put, List.setIfInBounds_toArray, List.set_cons_zero, List.set_cons_succ]
            iterate 9
              refine wpQ_off (by rfl) ?_
              try simp only [List.getElem_toArray, List.getElem_cons_zero, List.getElem_cons_succ, Act.put, List.setIfInBounds_toArray, List.set_cons_zero, List.set_cons_succ]
            iterate 2
              refine wpQ_take (v := ?_) (by rfl) (fun wS hS => ?_) ?_
              rotate_left
              · obtain ⟨L1, L2, L3, L4, L5, L6⟩ := Fr.same hS; go_simp; try with_reducible rfl
              try simp only [List.getElem_toArray, List.getElem_cons_zero, List.getElem_cons_succ, Act.put, List.setIfInBounds_toArray, List.set_cons_zero, List.set_cons_succ]
            refine wpQ_nil ?_
            intro w1 f1
            go_wp2_with fail
            go_roundg (ov.length - (k + 1))
            case measure => omega
            case rel => exact ⟨k + 1, by simp, rfl, by omega, fA.step0 f1, G1.out, G2.out⟩
          · have hk1 : 0 < k := by omega
            have j0 : (0 : Int) < (k : Int) := by omega
            have m1 : IntKind.i64.wrap ((k : Int) - 1) = ((k - 1 : Nat) : Int) := by rw [IntKind.wrap_i64]; omega
            obtain ⟨p, e2, B2, G2⟩ := PV'.out hk1
            have GG2 := Lib.hid G2
            have BB2 := Lib.hid B2
            have q2 : k - 1 < ov.length := by omega
            clear G2 B2
            generalize hqe : k - 1 = q at m1 e2 q2
            have C3 : ∀ w, Calls Tryz.prog 22 #[.agg (codS.A p), .agg (codS.A x)] w (Gives w (.int .i64 (cmpS p x))) := fun w => scmp_v w p x
            have j1 : (0 : Int) ≤ (q : Int) := by omega
            have j2 : (q : Int) < (ov.length : Int) := by omega
            by_cases hpc : cmpS p x < 0
            · have hpc1 : ¬ (0 : Int) ≤ cmpS p x := by omega
              have G1 := Lib.hid (GOOD1.out GP)
              have G2 := Lib.hid (GG2.out hpc)
              clear GP hqe hk0
              refine wp_region_fr (by kernel_rfl) (by kernel_rfl) ?_
              refine wpQ_take (v := ?_) (by rfl) (fun wS hS => ?_) ?_
              rotate_left
              · obtain ⟨L1, L2, L3, L4, L5, L6⟩ := Fr.same hS; go_simp; try with_reducible rfl
              try simp only [List.getElem_toArray, List.getElem_cons_zero, List.getElem_cons_succ, Act.put, List.setIfInBounds_toArray, List.set_cons_zero, List.set_cons_succ]
              refine wpQ_call (by rfl) (fun wS hS => ⟨_, _, ?qh315, Calls.fr hS (C1 _)⟩) ?qk315
              case qh315 => obtain ⟨L1, L2, L3, L4, L5, L6⟩ := Fr.same hS; go_simp; try with_reducible rfl
              try simp only [List.getElem_toArray, List.getElem_cons_zero, List.getElem_cons_succ, Act.put, List.setIfInBounds_toArray, List.set_cons_zero, List.set_cons_succ]
              iterate 5
                refine wpQ_take (v := ?_) (by rfl) (fun wS hS => ?_) ?_
                rotate_left
                · obtain ⟨L1, L2, L3, L4, L5, L6⟩ := Fr.same hS; go_simp; try with_reducible rfl
                try simp only [List.getElem_toArray, List.getElem_cons_zero, List.getElem_cons_succ, Act.put, List.setIfInBounds_toArray, List.set_cons_zero, List.set_cons_succ]
              refine wpQ_call (by rfl) (fun wS hS => ⟨_, _, ?qh323, Calls.fr hS (C2 _)⟩) ?qk323
              case qh323 => obtain ⟨L1, L2, L3, L4, L5, L6⟩ := Fr.same hS; go_simp; try with_reducible rfl
              try simp only [List.getElem_toArray, List.getElem_cons_zero, List.getElem_cons_succ, Act.put, List.setIfInBounds_toArray, List.set_cons_zero, List.set_cons_succ]
              iterate 13
                refine wpQ_take (v := ?_) (by rfl) (fun wS hS => ?_) ?_
                rotate_left
                · obtain ⟨L1, L2, L3, L4, L5, L6⟩ := Fr.same hS; go_simp; try with_reducible rfl
                try simp only [List.getElem_toArray, List.getElem_cons_zero, List.getElem_cons_succ, Act.put, List.setIfInBounds_toArray, List.set_cons_zero, List.set_cons_succ]
              refine wpQ_call (by rfl) (fun wS hS => ⟨_, _, ?qh331, Calls.fr hS (C3 _)⟩) ?qk331
              case qh331 => obtain ⟨L1, L2, L3, L4, L5, L6⟩ := Fr.same hS; go_simp; try with_reducible rfl
              try simp only [List.getElem_toArray, List.getElem_cons_zero, List.getElem_cons_succ, Act.put, List.setIfInBounds_toArray, List.set_cons_zero, List.set_cons_succ]
              iterate 3
                refine wpQ_take (v := ?_) (by rfl) (fun wS hS => ?_) ?_
                rotate_left
                · obtain ⟨L1, L2, L3, L4, L5, L6⟩ := Fr.same hS; go_simp; try with_reducible rfl
                try simp only [List.getElem_toArray, List.getElem_cons_zero, List.getElem_cons_succ, Act.put, List.setIfInBounds_toArray, List.set_cons_zero, List.set_cons_succ]
              refine wpQ_nil ?_
              intro w1 f1
              go_wp2_with fail
              go_roundg (ov.length - (k + 1))
              case measure => omega
              case rel => exact ⟨k + 1, by simp, rfl, by omega, fA.step0 f1, G1.out, G2.out⟩
            · have hpc1 : (0 : Int) ≤ cmpS p x := by omega
              have E0 := BB2.out hpc
              clear GP hqe hk0
              have E := Lib.hid E0
              clear E0
              refine wp_region_fr (by kernel_rfl) (by kernel_rfl) ?_
              refine wpQ_take (v := ?_) (by rfl) (fun wS hS => ?_) ?_
              rotate_left
              · obtain ⟨L1, L2, L3, L4, L5, L6⟩ := Fr.same hS; go_simp; try with_reducible rfl
              try simp only [List.getElem_toArray, List.getElem_cons_zero, List.getElem_cons_succ, Act.put, List.setIfInBounds_toArray, List.set_cons_zero, List.set_cons_succ]
              refine wpQ_call (by rfl) (fun wS hS => ⟨_, _, ?qh355, Calls.fr hS (C1 _)⟩) ?qk355
              case qh355 => obtain ⟨L1, L2, L3, L4, L5, L6⟩ := Fr.same hS; go_simp; try with_reducible rfl
              try simp only [List.getElem_toArray, List.getElem_cons_zero, List.getElem_cons_succ, Act.put, List.setIfInBounds_toArray, List.set_cons_zero, List.set_cons_succ]
              iterate 5
                refine wpQ_take (v := ?_) (by rfl) (fun wS hS => ?_) ?_
                rotate_left
                · obtain ⟨L1, L2, L3, L4, L5, L6⟩ := Fr.same hS; go_simp; try with_reducible rfl
                try simp only [List.getElem_toArray, List.getElem_cons_zero, List.getElem_cons_succ, Act.put, List.setIfInBounds_toArray, List.set_cons_zero, List.set_cons_succ]
              refine wpQ_call (by rfl) (fun wS hS => ⟨_, _, ?qh363, Calls.fr hS (C2 _)⟩) ?qk363
              case qh363 => obtain ⟨L1, L2, L3, L4, L5, L6⟩ := Fr.same hS; go_simp; try with_reducible rfl
              try simp only [List.getElem_toArray, List.getElem_cons_zero, List.getElem_cons_succ, Act.put, List.setIfInBounds_toArray, List.set_cons_zero, List.set_cons_succ]
              iterate 13
                refine wpQ_take (v := ?_) (by rfl) (fun wS hS => ?_) ?_
                rotate_left
                · obtain ⟨L1, L2, L3, L4, L5, L6⟩ := Fr.same hS; go_simp; try with_reducible rfl
                try simp only [List.getElem_toArray, List.getElem_cons_zero, List.getElem_cons_succ, Act.put, List.setIfInBounds_toArray, List.set_cons_zero, List.set_cons_succ]
              refine wpQ_call (by rfl) (fun wS hS => ⟨_, _, ?qh371, Calls.fr hS (C3 _)⟩) ?qk371
              case qh371 => obtain ⟨L1, L2, L3, L4, L5, L6⟩ := Fr.same hS; go_simp; try with_reducible rfl
              try simp only [List.getElem_toArray, List.getElem_cons_zero, List.getElem_cons_succ, Act.put, List.setIfInBounds_toArray, List.set_cons_zero, List.set_cons_succ]
              iterate 3
                refine wpQ_take (v := ?_) (by rfl) (fun wS hS => ?_) ?_
                rotate_left
                · obtain ⟨L1, L2, L3, L4, L5, L6⟩ := Fr.same hS; go_simp; try with_reducible rfl
                try simp only [List.getElem_toArray, List.getElem_cons_zero, List.getElem_cons_succ, Act.put, List.setIfInBounds_toArray, List.set_cons_zero, List.set_cons_succ]
              refine wpQ_nil ?_
              intro w1 f1
              go_wp2_with fail
              go_ret
              exact ⟨by rw [E.out]; rfl, (f0.step0 fA).step0 f1⟩
        · have hc1 : (0 : Int) ≤ cmpS x r.At := by omega
          have E0 := BAD1.out (by rw [HPX.out]; simp [hc])
          have E := Lib.hid E0
          clear E0
          refine wp_region_fr (by kernel_rfl) (by kernel_rfl) ?_
          refine wpQ_take (v := ?_) (by rfl) (fun wS hS => ?_) ?_
          rotate_left
          · obtain ⟨L1, L2, L3, L4, L5, L6⟩ := Fr.same hS; go_simp; try with_reducible rfl
          try simp only [List.getElem_toArray, List.getElem_cons_zero, List.getElem_cons_succ, Act.put, List.setIfInBounds_toArray, List.set_cons_zero, List.set_cons_succ]
          refine wpQ_call (by rfl) (fun wS hS => ⟨_, _, ?qh393, Calls.fr hS (C1 _)⟩) ?qk393
          case qh393 => obtain ⟨L1, L2, L3, L4, L5, L6⟩ := Fr.same hS; go_simp; try with_reducible rfl
          try simp only [List.getElem_toArray, List.getElem_cons_zero, List.getElem_cons_succ, Act.put, List.setIfInBounds_toArray, List.set_cons_zero, List.set_cons_succ]
          iterate 5
            refine wpQ_take (v := ?_) (by rfl) (fun wS hS => ?_) ?_
            rotate_left
            · obtain ⟨L1, L2, L3, L4, L5, L6⟩ := Fr.same hS; go_simp; try with_reducible rfl
            try simp only [List.getElem_toArray, List.getElem_cons_zero, List.getElem_cons_succ, Act.put, List.setIfInBounds_toArray, List.set_cons_zero, List.set_cons_succ]
          refine wpQ_call (by rfl) (fun wS hS => ⟨_, _, ?qh401, Calls.fr hS (C2 _)⟩) ?qk401
          case qh401 => obtain ⟨L1, L2, L3, L4, L5, L6⟩ := Fr.same hS; go_simp; try with_reducible rfl
          try simp only [List.getElem_toArray, List.getElem_cons_zero, List.getElem_cons_succ, Act.put, List.setIfInBounds_toArray, List.set_cons_zero, List.set_cons_succ]
          iterate 3
            refine wpQ_take (v := ?_) (by rfl) (fun wS hS => ?_) ?_
            rotate_left
            · obtain ⟨L1, L2, L3, L4, L5, L6⟩ := Fr.same hS; go_simp; try with_reducible rfl
            try simp only [List.getElem_toArray, List.getElem_cons_zero, List.getElem_cons_succ, Act.put, List.setIfInBounds_toArray, List.set_cons_zero, List.set_cons_succ]
          iterate 13
            refine wpQ_off (by rfl) ?_
            try simp only [List.getElem_toArray, List.getElem_cons_zero, List.getElem_cons_succ, Act.put, List.setIfInBounds_toArray, List.set_cons_zero, List.set_cons_succ]
          refine wpQ_take (v := ?_) (by rfl) (fun wS hS => ?_) ?_
          rotate_left
          · obtain ⟨L1, L2, L3, L4, L5, L6⟩ := Fr.same hS; go_simp; try with_reducible rfl
          try simp only [List.getElem_toArray, List.getElem_cons_zero, List.getElem_cons_succ, Act.put, List.setIfInBounds_toArray, List.set_cons_zero, List.set_cons_succ]
          refine wpQ_nil ?_
          intro w1 f1
          go_wp2_with fail
          go_ret
          exact ⟨by rw [E.out]; rfl, (f0.step0 fA).step0 f1⟩
      · have hr' : rightS x = false := by simpa using hr
        have C1 : ∀ w, Calls Tryz.prog 24 #[.agg (codS.A x)] w (Gives w (.bool false)) := fun w => Gives.val (right_v w x) (by rw [hr'])
        have E0 := BAD1.out (by rw [HPX.out]; simp [hr'])
        clear hr
        have E := Lib.hid E0
        clear E0
        refine wp_region_fr (by kernel_rfl) (by kernel_rfl) ?_
        refine wpQ_take (v := ?_) (by rfl) (fun wS hS => ?_) ?_
        rotate_left
        · obtain ⟨L1, L2, L3, L4, L5, L6⟩ := Fr.same hS; go_simp; try with_reducible rfl
        try simp only [List.getElem_toArray, List.getElem_cons_zero, List.getElem_cons_succ, Act.put, List.setIfInBounds_toArray, List.set_cons_zero, List.set_cons_succ]
        refine wpQ_call (by rfl) (fun wS hS => ⟨_, _, ?qh432, Calls.fr hS (C1 _)⟩) ?qk432
        case qh432 => obtain ⟨L1, L2, L3, L4, L5, L6⟩ := Fr.same hS; go_simp; try with_reducible rfl
        try simp only [List.getElem_toArray, List.getElem_cons_zero, List.getElem_cons_succ, Act.put, List.setIfInBounds_toArray, List.set_cons_zero, List.set_cons_succ]
        iterate 2
          refine wpQ_take (v := ?_) (by rfl) (fun wS hS => ?_) ?_
          rotate_left
          · obtain ⟨L1, L2, L3, L4, L5, L6⟩ := Fr.same hS; go_simp; try with_reducible rfl
          try simp only [List.getElem_toArray, List.getElem_cons_zero, List.getElem_cons_succ, Act.put, List.setIfInBounds_toArray, List.set_cons_zero, List.set_cons_succ]
        iterate 5
          refine wpQ_off (by rfl) ?_
          try simp only [List.getElem_toArray, List.getElem_cons_zero, List.getElem_cons_succ, Act.put, List.setIfInBounds_toArray, List.set_cons_zero, List.set_cons_succ]
        iterate 2
          refine wpQ_take (v := ?_) (by rfl) (fun wS hS => ?_) ?_
          rotate_left
          · obtain ⟨L1, L2, L3, L4, L5, L6⟩ := Fr.same hS; go_simp; try with_reducible rfl
          try simp only [List.getElem_toArray, List.getElem_cons_zero, List.getElem_cons_succ, Act.put, List.setIfInBounds_toArray, List.set_cons_zero, List.set_cons_succ]
        iterate 13
          refine wpQ_off (by rfl) ?_
          try simp only [List.getElem_toArray, List.getElem_cons_zero, List.getElem_cons_succ, Act.put, List.setIfInBounds_toArray, List.set_cons_zero, List.set_cons_succ]
        refine wpQ_take (v := ?_) (by rfl) (fun wS hS => ?_) ?_
        rotate_left
        · obtain ⟨L1, L2, L3, L4, L5, L6⟩ := Fr.same hS; go_simp; try with_reducible rfl
        try simp only [List.getElem_toArray, List.getElem_cons_zero, List.getElem_cons_succ, Act.put, List.setIfInBounds_toArray, List.set_cons_zero, List.set_cons_succ]
        refine wpQ_nil ?_
        intro w1 f1
        go_wp2_with fail
        go_ret
        exact ⟨by rw [E.out]; rfl, (f0.step0 fA).step0 f1⟩
    · have hkl : k = ov.length := by omega
      subst hkl
      have e : editOk (opOf r ov) = true := by
        have h1 := HA.out
        have h2 := HRI.out
        rw [List.take_length] at h1 h2
        rw [HM2.out, h1, h2]; rfl
      have E := Lib.hid e
      clear e hlt
      go_wp2_with fail
      go_ret
      exact ⟨by rw [E.out]; rfl, f0.step0 hf⟩
end Go.Proofs.YtefcalkbfaefgaaGreat
namespace Go.Proofs.YtefcalkbfaefgaaGreat
open Go.RowKit
set_option linter.unusedVariables false
set_option linter.unusedSimpArgs false

/-- an operation as it lies in memory, with its row -/
structure OpIn (w : World) (r : OpW) (o : Opn) : Prop where
  eq : o = opOf r o.Over
  len : o.Over.length = r.n
  sl : Sl w r.A (codS.row o.Over)
  bd : o.Over.length ≤ 140737488355328
  nm : r.Name.length ≤ 140737488355328
theorem OpIn.fr {w w' : World} {r : OpW} {o : Opn} (h : OpIn w r o) (f : Fr noB w w') : OpIn w' r o := ⟨h.eq, h.len, h.sl.fr0 f, h.bd, h.nm⟩
set_option maxRecDepth 100000 in
set_option maxHeartbeats 2000000 in
theorem sgood_any (w : World) (r : OpW) (o : Opn) (h : OpIn w r o) : Calls Tryz.prog 30 #[.agg (codO.A r)] w (Gives w (.bool (goodOp o))) := by
  obtain ⟨he, hlen, hs, hbd, hnm⟩ := h
  generalize o.Over = ov at he hlen hs hbd
  subst he
  have f0 : Fr noB w (w.alloc (.cells (codO.A r) 42)) := (Fr.refl noB w).alloc _
  obtain ⟨q1, q2, q3, q4, q5, q6, q7, q8, q9, q10⟩ := opAt (Cod.rd_new w 42 r)
  have hP : w.heap.size < (w.alloc (.cells (codO.A r) 42)).heap.size := by simp
  have hM : goodOp (opOf r ov) = (rightS r.At && rightS r.Node && (if r.Kind = 1 then moveOk (opOf r ov) else if r.Kind = 2 then editOk (opOf r ov) else false)) := rfl
  have HM := Lib.hid hM
  have HL := Lib.hid hlen
  replace hs := hs.fr0 f0
  clear hM hlen q2 q3 q6 q7 q8 q9
  go_enter Tryz.func30, Tryz.ntmps30
  go_upto_region 1 with fail
  generalize w.alloc (.cells (codO.A r) 42) = W0 at f0 hs q1 q4 q5 q10 hP ⊢
  generalize w.heap.size = P at q1 q4 q5 q10 hP ⊢
  have f1 : Fr noB W0 W0 := Fr.refl _ _
  obtain ⟨L1, L2, L3, L4, L5, L6⟩ := f1.same
  go_wp2_with (first
    | (go_at_call 24; refine (right_v _ _).mono ?_; rintro e w2 ⟨rfl, f2⟩; replace f1 := f1.step0 f2; clear L1 L2 L3 L4 L5 L6; obtain ⟨L1, L2, L3, L4, L5, L6⟩ := f1.same)
    | (go_at_call 61; refine (move_any _ r hnm ov HL.out).mono ?_; rintro e w2 ⟨rfl, f2⟩; replace f1 := f1.step0 f2; clear L1 L2 L3 L4 L5 L6; obtain ⟨L1, L2, L3, L4, L5, L6⟩ := f1.same)
    | (go_at_call 62; refine (edit_any _ r ov HL.out (hs.fr0 f1) hbd).mono ?_; rintro e w2 ⟨rfl, f2⟩; replace f1 := f1.step0 f2; clear L1 L2 L3 L4 L5 L6; obtain ⟨L1, L2, L3, L4, L5, L6⟩ := f1.same))
  all_goals clear L1 L2 L3 L4 L5 L6 q1 q4 q5 q10 hP
  all_goals
    go_ret
    refine ⟨?_, f0.step0 f1⟩
    rw [HM.out]
    first
    | (simp [*]; done)
    | (simp_all; done)
end Go.Proofs.YtefcalkbfaefgaaGreat
namespace Go.Proofs.YtefcalkbfaefgaaGreat
open Go.RowKit
set_option linter.unusedVariables false
set_option linter.unusedSimpArgs false

def IxR (W : World) (n : Nat) (p : Nat → Bool) (gk : Nat) (iv : Value) (wr : World) : Prop := ∃ k : Nat, iv = .int .i64 (k : Int) ∧ gk = n - k ∧ k ≤ n ∧ (∀ j, j < k → p j = false) ∧ Fr noB W wr
theorem any_hit {n : Nat} {p : Nat → Bool} {k : Nat} (hk : k < n) (h : p k = true) : (List.range n).any p = true := List.any_eq_true.2 ⟨k, List.mem_range.2 hk, h⟩
theorem any_none {n : Nat} {p : Nat → Bool} (h : ∀ j, j < n → p j = false) : (List.range n).any p = false := by
  rw [← Bool.not_eq_true]
  intro ha
  obtain ⟨k, hk, hp⟩ := List.any_eq_true.1 ha
  rw [h k (List.mem_range.1 hk)] at hp; cases hp
/-- an index that was found, or -1 -/
def IxTo (w : World) (b : Bool) (e : Ending) (w' : World) : Prop := ∃ z : Int, e = .returned (.int .i64 z) ∧ decide (0 ≤ z) = b ∧ Fr noB w w'
set_option maxRecDepth 100000 in
set_option maxHeartbeats 1000000 in
theorem itIndexF_any (w : World) (A : Option Addr) (c n : Nat) (l : List ItW) (hn : l.length = n) (hs : Sl w A (codT.row l)) (hb : l.length ≤ 140737488355328) (cp : Value) (p : Nat → Bool)
    (hf : ∀ w', Fr noB w w' → ∀ i (hi : i < l.length), Calls Tryz.prog 111 #[.agg (codT.A l[i])] w' (Gives w' (.bool (p i)))) :
    Calls Tryz.prog 118 #[.slice A n c, .func (.func 111) #[] #[]] w (IxTo w ((List.range l.length).any p)) := by
  subst hn
  go_enter Tryz.func118, Tryz.ntmps118
  go_wp2_with fail
  go_loopg [8] l.length (fun gk iv wr => IxR w l.length p gk iv wr)
  case atStart => exact ⟨0, rfl, by omega, by omega, fun j hj => absurd hj (by omega), Fr.refl _ _⟩
  case round =>
    obtain ⟨k, rfl, rfl, hk, hj, hf0⟩ := hrel
    have HJ := Lib.hid hj
    clear hj
    by_cases hlt : k < l.length
    · have i1 : (k : Int) < (l.length : Int) := by omega
      have i0 : (0 : Int) ≤ (k : Int) := by omega
      obtain ⟨g, off, rfl, hg⟩ := hs.adC (by omega)
      have e1 : codT.rd wr g (off + k * 38) = some l[k] := (hs.fr0 hf0).rd k hlt
      have hc := hf wr hf0 k hlt
      generalize l[k] = x at e1 hc
      by_cases hp : p k = true
      · rw [hp] at hc
        have HP := Lib.hid (any_hit hlt hp)
        clear hp
        go_wp2_with (go_at_call 111; refine hc.mono ?_; rintro e w1 ⟨rfl, f1⟩)
        go_ret
        exact ⟨k, rfl, by rw [HP.out]; simp, hf0.step0 f1⟩
      · have hp' : p k = false := by simpa using hp
        rw [hp'] at hc
        have HP := Lib.hid hp'
        clear hp hp'
        go_wp2_with (go_at_call 111; refine hc.mono ?_; rintro e w1 ⟨rfl, f1⟩)
        go_roundg (l.length - (k + 1))
        case measure => omega
        case rel => exact ⟨k + 1, by simp, rfl, by omega, fun j hj => by
          rcases Nat.lt_or_ge j k with h | h
          · exact HJ.out j h
          · have : j = k := by omega
            rw [this]; exact HP.out, hf0.step0 f1⟩
    · have hkl : k = l.length := by omega
      subst hkl
      have i1 : ¬ (l.length : Int) < (l.length : Int) := by omega
      have HP := Lib.hid (any_none HJ.out)
      go_wp2_with fail
      go_ret
      exact ⟨-1, rfl, by rw [HP.out]; rfl, hf0⟩
set_option maxRecDepth 100000 in
theorem itContainsF_any (w : World) (A : Option Addr) (c n : Nat) (l : List ItW) (hn : l.length = n) (hs : Sl w A (codT.row l)) (hb : l.length ≤ 140737488355328) (cp : Value) (p : Nat → Bool)
    (hf : ∀ w', Fr noB w w' → ∀ i (hi : i < l.length), Calls Tryz.prog 111 #[.agg (codT.A l[i])] w' (Gives w' (.bool (p i)))) :
    Calls Tryz.prog 110 #[.slice A n c, .func (.func 111) #[] #[]] w (Gives w (.bool ((List.range l.length).any p))) := by
  have h := Lib.hid (itIndexF_any w A c n l hn hs hb cp p hf)
  clear hf hs
  subst hn
  generalize (List.range l.length).any p = b at h
  go_enter Tryz.func110, Tryz.ntmps110
  go_wp2_with (go_at_call 118; refine h.out.mono ?_; rintro e w1 ⟨z, rfl, hz, f1⟩)
  go_ret
  exact ⟨by rw [← hz]; rfl, f1⟩
set_option maxRecDepth 100000 in
set_option maxHeartbeats 1000000 in
theorem oRiseItem_any (w : World) (A : Option Addr) (c n : Nat) (l : List ItW) (hn : l.length = n) (hs : Sl w A (codT.row l)) (hb : l.length ≤ 140737488355328) (cf : ItW → ItW → Int)
    (hf : ∀ w x y, Calls Tryz.prog 114 #[.agg (codT.A x), .agg (codT.A y)] w (Gives w (.int .i64 (cf x y)))) :
    Calls Tryz.prog 113 #[.slice A n c, .func (.func 114) #[] #[]] w (Gives w (.bool (riseB cf l))) := by
  subst hn
  have HRI := Lib.hid (riseB_iff cf l)
  go_enter Tryz.func113, Tryz.ntmps113
  go_wp2_with fail
  go_loopg [5] l.length (fun gk iv wr => RisR w l.length (fun i j => if h : i < l.length ∧ j < l.length then cf (l[i]'h.1) (l[j]'h.2) else 0) gk iv wr)
  case atStart => exact ⟨1, rfl, by omega, by omega, .inr rfl, fun j hj => by omega, Fr.refl _ _⟩
  case round =>
    obtain ⟨k, rfl, rfl, hk1, hk2, hj, hf0⟩ := hrel
    by_cases hlt : k < l.length
    · have i0 : (0 : Int) ≤ (k : Int) := by omega
      have i1 : (k : Int) < (l.length : Int) := by omega
      obtain ⟨g, off, rfl, hg⟩ := hs.adC (by omega)
      have q2 : k - 1 < l.length := by omega
      have r1 : codT.rd wr g (off + (k - 1) * 38) = some (l[k - 1]'q2) := (hs.fr0 hf0).rd (k - 1) q2
      have r2 : codT.rd wr g (off + k * 38) = some l[k] := (hs.fr0 hf0).rd k hlt
      have hgw : g < wr.heap.size := Nat.lt_of_lt_of_le hg hf0.size
      have hbad : ¬ cf (l[k - 1]'q2) l[k] < 0 → riseB cf l = false := fun h => by
        rw [← Bool.not_eq_true]
        intro ht
        have := HRI.out.1 ht (k - 1) (by omega)
        simp only [show k - 1 + 1 = k by omega] at this
        exact h this
      have hok : cf (l[k - 1]'q2) l[k] < 0 → ∀ j, j + 1 < k + 1 → (fun i j => if h : i < l.length ∧ j < l.length then cf (l[i]'h.1) (l[j]'h.2) else 0) j (j + 1) < 0 := fun h j hjk => by
        rcases Nat.lt_or_ge (j + 1) k with h1 | h1
        · exact hj j h1
        · have e : j = k - 1 := by omega
          subst e
          simp only
          rw [dif_pos ⟨by omega, by omega⟩]
          simp only [show k - 1 + 1 = k by omega]
          exact h
      generalize l[k - 1]'q2 = p at r1 hbad hok
      generalize l[k] = p2 at r2 hbad hok
      have HBAD := Lib.hid hbad
      have HOK := Lib.hid hok
      clear hbad hok hj
      generalize hqe : k - 1 = q at r1 q2
      have m1 : IntKind.i64.wrap ((k : Int) - 1) = (q : Int) := by rw [IntKind.wrap_i64]; omega
      have j0 : (0 : Int) ≤ (q : Int) := by omega
      have j1 : (q : Int) < (l.length : Int) := by omega
      clear hqe
      have C1 := fun w => hf w p p2
      generalize cf p p2 = z at C1 HBAD HOK
      by_cases hz : z < 0
      · have hz2 : ¬ (0 : Int) ≤ z := by omega
        have H := Lib.hid (HOK.out hz)
        go_wp2_with fail
        refine wp_region_fr (by kernel_rfl) (by kernel_rfl) ?_
        iterate 10
          refine wpQ_take (v := ?_) (by rfl) (fun wS hS => ?_) ?_
          rotate_left
          · obtain ⟨L1, L2, L3, L4, L5, L6⟩ := Fr.same hS; go_simp; try with_reducible rfl
          try simp only [List.getElem_toArray, List.getElem_cons_zero, List.getElem_cons_succ, Act.put, List.setIfInBounds_toArray, List.set_cons_zero, List.set_cons_succ]
        refine wpQ_call (by rfl) (fun wS hS => ⟨_, _, ?qh341, Calls.fr hS (C1 _)⟩) ?qk341
        case qh341 => obtain ⟨L1, L2, L3, L4, L5, L6⟩ := Fr.same hS; go_simp; try with_reducible rfl
        try simp only [List.getElem_toArray, List.getElem_cons_zero, List.getElem_cons_succ, Act.put, List.setIfInBounds_toArray, List.set_cons_zero, List.set_cons_succ]
        refine wpQ_take (v := ?_) (by rfl) (fun wS hS => ?_) ?_
        rotate_left
        · obtain ⟨L1, L2, L3, L4, L5, L6⟩ := Fr.same hS; go_simp; try with_reducible rfl
        try simp only [List.getElem_toArray, List.getElem_cons_zero, List.getElem_cons_succ, Act.put, List.setIfInBounds_toArray, List.set_cons_zero, List.set_cons_succ]
        refine wpQ_nil ?_
        intro w1 f1
        go_wp2_with fail
        go_roundg (l.length + 1 - (k + 1))
        case measure => omega
        case rel => exact ⟨k + 1, by simp, rfl, by omega, by omega, H.out, hf0.step0 f1⟩
      · have hz2 : (0 : Int) ≤ z := by omega
        have H := Lib.hid (HBAD.out hz)
        clear hz
        go_wp2_with fail
        refine wp_region_fr (by kernel_rfl) (by kernel_rfl) ?_
        iterate 10
          refine wpQ_take (v := ?_) (by rfl) (fun wS hS => ?_) ?_
          rotate_left
          · obtain ⟨L1, L2, L3, L4, L5, L6⟩ := Fr.same hS; go_simp; try with_reducible rfl
          try simp only [List.getElem_toArray, List.getElem_cons_zero, List.getElem_cons_succ, Act.put, List.setIfInBounds_toArray, List.set_cons_zero, List.set_cons_succ]
        refine wpQ_call (by rfl) (fun wS hS => ⟨_, _, ?qh364, Calls.fr hS (C1 _)⟩) ?qk364
        case qh364 => obtain ⟨L1, L2, L3, L4, L5, L6⟩ := Fr.same hS; go_simp; try with_reducible rfl
        try simp only [List.getElem_toArray, List.getElem_cons_zero, List.getElem_cons_succ, Act.put, List.setIfInBounds_toArray, List.set_cons_zero, List.set_cons_succ]
        refine wpQ_take (v := ?_) (by rfl) (fun wS hS => ?_) ?_
        rotate_left
        · obtain ⟨L1, L2, L3, L4, L5, L6⟩ := Fr.same hS; go_simp; try with_reducible rfl
        try simp only [List.getElem_toArray, List.getElem_cons_zero, List.getElem_cons_succ, Act.put, List.setIfInBounds_toArray, List.set_cons_zero, List.set_cons_succ]
        refine wpQ_nil ?_
        intro w1 f1
        go_wp2_with fail
        go_ret
        exact ⟨by rw [H.out]; rfl, hf0.step0 f1⟩
    · have e : riseB cf l = true := HRI.out.2 (fun j h => by
        have h1 := hj j (by omega)
        simp only at h1
        rw [dif_pos ⟨by omega, h⟩] at h1
        exact h1)
      have E := Lib.hid e
      clear e hj
      go_wp2_with fail
      go_ret
      exact ⟨by rw [E.out]; rfl, hf0⟩
set_option maxRecDepth 100000 in
set_option maxHeartbeats 1000000 in
theorem oRiseHead_any (w : World) (A : Option Addr) (c n : Nat) (l : List Hd) (hn : l.length = n) (hs : Sl w A (codH.row l)) (hb : l.length ≤ 140737488355328) (cf : Hd → Hd → Int)
    (hf : ∀ w x y, Calls Tryz.prog 120 #[.agg (codH.A x), .agg (codH.A y)] w (Gives w (.int .i64 (cf x y)))) :
    Calls Tryz.prog 119 #[.slice A n c, .func (.func 120) #[] #[]] w (Gives w (.bool (riseB cf l))) := by
  subst hn
  have HRI := Lib.hid (riseB_iff cf l)
  go_enter Tryz.func119, Tryz.ntmps119
  go_wp2_with fail
  go_loopg [5] l.length (fun gk iv wr => RisR w l.length (fun i j => if h : i < l.length ∧ j < l.length then cf (l[i]'h.1) (l[j]'h.2) else 0) gk iv wr)
  case atStart => exact ⟨1, rfl, by omega, by omega, .inr rfl, fun j hj => by omega, Fr.refl _ _⟩
  case round =>
    obtain ⟨k, rfl, rfl, hk1, hk2, hj, hf0⟩ := hrel
    by_cases hlt : k < l.length
    · have i0 : (0 : Int) ≤ (k : Int) := by omega
      have i1 : (k : Int) < (l.length : Int) := by omega
      obtain ⟨g, off, rfl, hg⟩ := hs.adC (by omega)
      have q2 : k - 1 < l.length := by omega
      have r1 : codH.rd wr g (off + (k - 1) * 34) = some (l[k - 1]'q2) := (hs.fr0 hf0).rd (k - 1) q2
      have r2 : codH.rd wr g (off + k * 34) = some l[k] := (hs.fr0 hf0).rd k hlt
      have hgw : g < wr.heap.size := Nat.lt_of_lt_of_le hg hf0.size
      have hbad : ¬ cf (l[k - 1]'q2) l[k] < 0 → riseB cf l = false := fun h => by
        rw [← Bool.not_eq_true]
        intro ht
        have := HRI.out.1 ht (k - 1) (by omega)
        simp only [show k - 1 + 1 = k by omega] at this
        exact h this
      have hok : cf (l[k - 1]'q2) l[k] < 0 → ∀ j, j + 1 < k + 1 → (fun i j => if h : i < l.length ∧ j < l.length then cf (l[i]'h.1) (l[j]'h.2) else 0) j (j + 1) < 0 := fun h j hjk => by
        rcases Nat.lt_or_ge (j + 1) k with h1 | h1
        · exact hj j h1
        · have e : j = k - 1 := by omega
          subst e
          simp only
          rw [dif_pos ⟨by omega, by omega⟩]
          simp only [show k - 1 + 1 = k by omega]
          exact h
      generalize l[k - 1]'q2 = p at r1 hbad hok
      generalize l[k] = p2 at r2 hbad hok
      have HBAD := Lib.hid hbad
      have HOK := Lib.hid hok
      clear hbad hok hj
      generalize hqe : k - 1 = q at r1 q2
      have m1 : IntKind.i64.wrap ((k : Int) - 1) = (q : Int) := by rw [IntKind.wrap_i64]; omega
      have j0 : (0 : Int) ≤ (q : Int) := by omega
      have j1 : (q : Int) < (l.length : Int) := by omega
      clear hqe
      have C1 := fun w => hf w p p2
      generalize cf p p2 = z at C1 HBAD HOK
      by_cases hz : z < 0
      · have hz2 : ¬ (0 : Int) ≤ z := by omega
        have H := Lib.hid (HOK.out hz)
        go_wp2_with fail
        refine wp_region_fr (by kernel_rfl) (by kernel_rfl) ?_
        iterate 10
          refine wpQ_take (v := ?_) (by rfl) (fun wS hS => ?_) ?_
          rotate_left
          · obtain ⟨L1, L2, L3, L4, L5, L6⟩ := Fr.same hS; go_simp; try with_reducible rfl
          try simp only [List.getElem_toArray, List.getElem_cons_zero, List.getElem_cons_succ, Act.put, List.setIfInBounds_toArray, List.set_cons_zero, List.set_cons_succ]
        refine wpQ_call (by rfl) (fun wS hS => ⟨_, _, ?qh444, Calls.fr hS (C1 _)⟩) ?qk444
        case qh444 => obtain ⟨L1, L2, L3, L4, L5, L6⟩ := Fr.same hS; go_simp; try with_reducible rfl
        try simp only [List.getElem_toArray, List.getElem_cons_zero, List.getElem_cons_succ, Act.put, List.setIfInBounds_toArray, List.set_cons_zero, List.set_cons_succ]
        refine wpQ_take (v := ?_) (by rfl) (fun wS hS => ?_) ?_
        rotate_left
        · obtain ⟨L1, L2, L3, L4, L5, L6⟩ := Fr.same hS; go_simp; try with_reducible rfl
        try simp only [List.getElem_toArray, List.getElem_cons_zero, List.getElem_cons_succ, Act.put, List.setIfInBounds_toArray, List.set_cons_zero, List.set_cons_succ]
        refine wpQ_nil ?_
        intro w1 f1
        go_wp2_with fail
        go_roundg (l.length + 1 - (k + 1))
        case measure => omega
        case rel => exact ⟨k + 1, by simp, rfl, by omega, by omega, H.out, hf0.step0 f1⟩
      · have hz2 : (0 : Int) ≤ z := by omega
        have H := Lib.hid (HBAD.out hz)
        clear hz
        go_wp2_with fail
        refine wp_region_fr (by kernel_rfl) (by kernel_rfl) ?_
        iterate 10
          refine wpQ_take (v := ?_) (by rfl) (fun wS hS => ?_) ?_
          rotate_left
          · obtain ⟨L1, L2, L3, L4, L5, L6⟩ := Fr.same hS; go_simp; try with_reducible rfl
          try simp only [List.getElem_toArray, List.getElem_cons_zero, List.getElem_cons_succ, Act.put, List.setIfInBounds_toArray, List.set_cons_zero, List.set_cons_succ]
        refine wpQ_call (by rfl) (fun wS hS => ⟨_, _, ?qh467, Calls.fr hS (C1 _)⟩) ?qk467
        case qh467 => obtain ⟨L1, L2, L3, L4, L5, L6⟩ := Fr.same hS; go_simp; try with_reducible rfl
        try simp only [List.getElem_toArray, List.getElem_cons_zero, List.getElem_cons_succ, Act.put, List.setIfInBounds_toArray, List.set_cons_zero, List.set_cons_succ]
        refine wpQ_take (v := ?_) (by rfl) (fun wS hS => ?_) ?_
        rotate_left
        · obtain ⟨L1, L2, L3, L4, L5, L6⟩ := Fr.same hS; go_simp; try with_reducible rfl
        try simp only [List.getElem_toArray, List.getElem_cons_zero, List.getElem_cons_succ, Act.put, List.setIfInBounds_toArray, List.set_cons_zero, List.set_cons_succ]
        refine wpQ_nil ?_
        intro w1 f1
        go_wp2_with fail
        go_ret
        exact ⟨by rw [H.out]; rfl, hf0.step0 f1⟩
    · have e : riseB cf l = true := HRI.out.2 (fun j h => by
        have h1 := hj j (by omega)
        simp only at h1
        rw [dif_pos ⟨by omega, h⟩] at h1
        exact h1)
      have E := Lib.hid e
      clear e hj
      go_wp2_with fail
      go_ret
      exact ⟨by rw [E.out]; rfl, hf0⟩
end Go.Proofs.YtefcalkbfaefgaaGreat
namespace Go.Proofs.YtefcalkbfaefgaaGreat
open Go.RowKit
set_option linter.unusedVariables false
set_option linter.unusedSimpArgs false

set_option maxRecDepth 100000 in
theorem oRD2_any (w : World) (x y : ItW) : Calls Tryz.prog 114 #[.agg (codT.A x), .agg (codT.A y)] w (Gives w (.int .i64 (cmpS x.Node y.Node))) := by
  have f0 : Fr noB w ((w.alloc (.cells (codT.A x) 140)).alloc (.cells (codT.A y) 140)) := ((Fr.refl noB w).alloc _).alloc _
  have hz : (w.alloc (.cells (codT.A x) 140)).heap.size = w.heap.size + 1 := by simp
  have q1 := (itAt (Cod.rd_fr0 (Cod.rd_new w 140 x) ((Fr.refl noB _).alloc (.cells (codT.A y) 140)))).node
  have q2 := (itAt (Cod.rd_new (w.alloc (.cells (codT.A x) 140)) 140 y)).node
  rw [hz] at q2
  clear hz
  go_enter Tryz.func114, Tryz.ntmps114
  go_upto_region 1 with fail
  generalize (w.alloc (.cells (codT.A x) 140)).alloc (.cells (codT.A y) 140) = W0 at f0 q1 q2 ⊢
  generalize w.heap.size = P at q1 q2 ⊢
  go_wp2_with (go_at_call 22; refine (scmp_v _ x.Node y.Node).mono ?_; rintro e w1 ⟨rfl, f1⟩)
  go_ret
  exact ⟨rfl, f0.step0 f1⟩
set_option maxRecDepth 100000 in
theorem oRI1_any (w : World) (x y : Hd) : Calls Tryz.prog 120 #[.agg (codH.A x), .agg (codH.A y)] w (Gives w (.int .i64 (cmpS x.At y.At))) := by
  have f0 : Fr noB w ((w.alloc (.cells (codH.A x) 93)).alloc (.cells (codH.A y) 93)) := ((Fr.refl noB w).alloc _).alloc _
  have hz : (w.alloc (.cells (codH.A x) 93)).heap.size = w.heap.size + 1 := by simp
  have q1 := (hdAt (Cod.rd_fr0 (Cod.rd_new w 93 x) ((Fr.refl noB _).alloc (.cells (codH.A y) 93)))).At
  have q2 := (hdAt (Cod.rd_new (w.alloc (.cells (codH.A x) 93)) 93 y)).At
  rw [hz] at q2
  clear hz
  go_enter Tryz.func120, Tryz.ntmps120
  go_upto_region 1 with fail
  generalize (w.alloc (.cells (codH.A x) 93)).alloc (.cells (codH.A y) 93) = W0 at f0 q1 q2 ⊢
  generalize w.heap.size = P at q1 q2 ⊢
  go_wp2_with (go_at_call 22; refine (scmp_v _ x.At y.At).mono ?_; rintro e w1 ⟨rfl, f1⟩)
  go_ret
  exact ⟨rfl, f0.step0 f1⟩

/-- an item as it lies in memory, with its row -/
def itOf (r : ItW) (hs : List Hd) : It := ⟨r.Node, r.At, r.Name, r.Sub, hs⟩
structure ItIn (w : World) (r : ItW) (x : It) : Prop where
  eq : x = itOf r x.Heads
  len : x.Heads.length = r.n
  sl : Sl w r.A (codH.row x.Heads)
  bd : x.Heads.length ≤ 140737488355328
  nm : r.Name.length ≤ 140737488355328
theorem ItIn.fr {w w' : World} {r : ItW} {o : It} (h : ItIn w r o) (f : Fr noB w w') : ItIn w' r o := ⟨h.eq, h.len, h.sl.fr0 f, h.bd, h.nm⟩
def HdR (W : World) (p : Hd → Bool) (hs : List Hd) (gk : Nat) (iv : Value) (wr : World) : Prop := ∃ k : Nat, iv = .int .i64 (k : Int) ∧ gk = hs.length - k ∧ k ≤ hs.length ∧ Fr noB W wr ∧ (hs.take k).all p = true
set_option maxRecDepth 100000 in
set_option maxHeartbeats 2000000 in
theorem rightItem_any (w : World) (r : ItW) (x : It) (h : ItIn w r x) : Calls Tryz.prog 112 #[.agg (codT.A r)] w (Gives w (.bool (rightIt x))) := by
  obtain ⟨he, hlen, hs, hbd, hnm⟩ := h
  generalize x.Heads = hd at he hlen hs hbd
  subst he
  have f0 : Fr noB w (w.alloc (.cells (codT.A r) 140)) := (Fr.refl noB w).alloc _
  obtain ⟨q1, q2, q3, q4, q5, q6⟩ := itAt (Cod.rd_new w 140 r)
  have hP : w.heap.size < (w.alloc (.cells (codT.A r) 140)).heap.size := by simp
  have hM : rightIt (itOf r hd) = (rightS r.Node && rightS r.At && decide (0 ≤ cmpS r.At r.Node) && nameOk r.Name && decide (r.n ≤ 1000) && (hd.all fun h => rightS h.At && decide (0 < cmpS h.At r.Node) && decide (h.Data ≠ zID)) && riseB (fun a b : Hd => cmpS a.At b.At) hd) := by unfold rightIt itOf; rw [hlen]
  have HM := Lib.hid hM
  have HL := Lib.hid hlen
  replace hs := hs.fr0 f0
  clear hM hlen q4 q6
  go_enter Tryz.func112, Tryz.ntmps112
  go_upto_region 1 with fail
  generalize w.alloc (.cells (codT.A r) 140) = W0 at f0 hs q1 q2 q3 q5 hP ⊢
  generalize w.heap.size = P at q1 q2 q3 q5 hP ⊢
  have f1 : Fr noB W0 W0 := Fr.refl _ _
  obtain ⟨L1, L2, L3, L4, L5, L6⟩ := f1.same
  go_wp2_with (first
    | (go_at_call 24; refine (right_v _ _).mono ?_; rintro e w2 ⟨rfl, f2⟩; replace f1 := f1.step0 f2; clear L1 L2 L3 L4 L5 L6; obtain ⟨L1, L2, L3, L4, L5, L6⟩ := f1.same)
    | (go_at_call 22; refine (scmp_v _ r.At r.Node).mono ?_; rintro e w2 ⟨rfl, f2⟩; replace f1 := f1.step0 f2; clear L1 L2 L3 L4 L5 L6; obtain ⟨L1, L2, L3, L4, L5, L6⟩ := f1.same)
    | (go_at_call 90; refine (name_any _ _ hnm).mono ?_; rintro e w2 ⟨rfl, f2⟩; replace f1 := f1.step0 f2; clear L1 L2 L3 L4 L5 L6; obtain ⟨L1, L2, L3, L4, L5, L6⟩ := f1.same))
  all_goals first
    | (go_ret
       refine ⟨?_, f0.step0 f1⟩
       rw [HM.out]
       first
       | (simp [*]; done)
       | (have hle : ¬ 0 ≤ cmpS r.At r.Node := by omega
          simp [hle]; done)
       | (have hle : ¬ r.n ≤ 1000 := by omega
          simp [hle]; done))
    | skip
  have HM2 : Hid (rightIt (itOf r hd) = ((hd.all fun h => rightS h.At && decide (0 < cmpS h.At r.Node) && decide (h.Data ≠ zID)) && riseB (fun a b : Hd => cmpS a.At b.At) hd)) := Lib.hid (by
    rw [HM.out]
    have h6 : r.n ≤ 1000 := by omega
    simp [*])
  clear HM L1 L2 L3 L4 L5 L6
  replace hs := hs.fr0 f1
  have r4 := (f1.same.st _ 0 hP).trans q1
  have r9 := (f1.same.cell _ 37 hP).trans q5
  have hP1 : P < w2.heap.size := Nat.lt_of_lt_of_le hP f1.size
  replace f0 := f0.step0 f1
  clear q1 q2 q3 q5 hP f1
  rw [← HL.out] at r9 ⊢
  clear HL
  generalize r.A = A at hs r9 ⊢
  generalize hpp : (fun h : Hd => rightS h.At && decide (0 < cmpS h.At r.Node) && decide (h.Data ≠ zID)) = pp at HM2
  have HPP := Lib.hid hpp
  clear hpp
  go_loopg [38] hd.length (fun gk iv wr => HdR w2 pp hd gk iv wr)
  case atStart => exact ⟨0, rfl, by omega, by omega, Fr.refl _ _, by simp⟩
  case round =>
    obtain ⟨k, rfl, rfl, hk, hf, ha⟩ := hrel
    have HA := Lib.hid ha
    clear ha
    by_cases hlt : k < hd.length
    · have i1 : (k : Int) < (hd.length : Int) := by omega
      obtain ⟨g, off, rfl, hg⟩ := hs.adC (by omega)
      have e1 : codH.rd wr g (off + k * 34) = some hd[k] := (hs.fr0 hf).rd k hlt
      have e4 := (hf.same.st _ 0 hP1).trans r4
      have hP2 : P < wr.heap.size := Nat.lt_of_lt_of_le hP1 hf.size
      have i0 : (0 : Int) ≤ (k : Int) := by omega
      have hpx : pp hd[k] = (rightS hd[k].At && decide (0 < cmpS hd[k].At r.Node) && decide (hd[k].Data ≠ zID)) := by rw [← HPP.out]
      have bad1 : pp hd[k] = false → rightIt (itOf r hd) = false := fun h => by
        have h1 := all_take_succ pp hd k hlt
        rw [h, Bool.and_false] at h1
        rw [HM2.out, all_take_false h1]; rfl
      have good1 : pp hd[k] = true → (hd.take (k + 1)).all pp = true := fun h => by rw [all_take_succ pp hd k hlt, HA.out, h]; rfl
      generalize hd[k] = x at e1 hpx bad1 good1
      have fA : Fr noB wr (wr.alloc (codH.o x)) := (Fr.refl noB wr).alloc _
      obtain ⟨n1, n2, n3⟩ := hdAt (Cod.rd_new' wr x)
      have n4 : wr.heap.size < (wr.alloc (codH.o x)).heap.size := by simp
      have BAD1 := Lib.hid bad1
      have GOOD1 := Lib.hid good1
      have HPX := Lib.hid hpx
      clear bad1 good1 hpx n3
      go_wp2_with fail
      have s4 := (fA.same.st _ 0 hP2).trans e4
      have hP3 := Nat.lt_of_lt_of_le hP2 fA.size
      replace fA := hf.step0 fA
      clear e1 e4 hP2
      generalize wr.alloc (codH.o x) = W at fA n1 n2 s4 hP3 n4 ⊢
      generalize wr.heap.size = N at n1 n2 n4 ⊢
      have f1 : Fr noB W W := Fr.refl _ _
      obtain ⟨L1, L2, L3, L4, L5, L6⟩ := f1.same
      go_wp2_with (first
        | (go_at_call 24; refine (right_v _ x.At).mono ?_; rintro e w3 ⟨rfl, f2⟩; replace f1 := f1.step0 f2; clear L1 L2 L3 L4 L5 L6; obtain ⟨L1, L2, L3, L4, L5, L6⟩ := f1.same)
        | (go_at_call 22; refine (scmp_v _ x.At r.Node).mono ?_; rintro e w3 ⟨rfl, f2⟩; replace f1 := f1.step0 f2; clear L1 L2 L3 L4 L5 L6; obtain ⟨L1, L2, L3, L4, L5, L6⟩ := f1.same))
      all_goals clear L1 L2 L3 L4 L5 L6 n1 n2 n4 s4
      all_goals first
        | (go_ret
           refine ⟨?_, (f0.step0 fA).step0 f1⟩
           rw [BAD1.out (by
             rw [HPX.out]
             first
             | (simp [*]; done)
             | (have hle : ¬ 0 < cmpS x.At r.Node := by omega
                simp [hle]; done)
             | (rename_i hor
                rcases hor with b | b
                · exfalso; omega
                · simp [b]))]
           rfl)
        | (have G1 := GOOD1.out (by
             rw [HPX.out]
             have hle : 0 < cmpS x.At r.Node := by omega
             simp [*])
           go_roundg (hd.length - (k + 1))
           case measure => omega
           case rel => exact ⟨k + 1, by simp, rfl, by omega, fA.step0 f1, G1⟩)
    · have hkl : k = hd.length := by omega
      subst hkl
      have i1 : ¬ (hd.length : Int) < (hd.length : Int) := by omega
      have e9 := (hf.same.cell _ 37 hP1).trans r9
      have h1 := HA.out
      rw [List.take_length] at h1
      have E : Hid (rightIt (itOf r hd) = riseB (fun a b : Hd => cmpS a.At b.At) hd) := Lib.hid (by rw [HM2.out, h1, Bool.true_and])
      clear h1 hlt
      have hr := oRiseHead_any wr A r.c hd.length hd rfl (hs.fr0 hf) hbd (fun a b => cmpS a.At b.At) oRI1_any
      generalize riseB (fun a b : Hd => cmpS a.At b.At) hd = b at E hr
      go_wp2_with (go_at_call 119; refine hr.mono ?_; rintro e w3 ⟨rfl, f2⟩)
      go_ret
      exact ⟨by rw [E.out]; rfl, (f0.step0 hf).step0 f2⟩
/-- a row of items -/
structure ItsIn (w : World) (rs : List ItW) (xs : List It) : Prop where
  len : rs.length = xs.length
  at_ : ∀ i (h : i < rs.length) (h' : i < xs.length), ItIn w rs[i] xs[i]
theorem ItsIn.fr {w w' : World} {rs : List ItW} {xs : List It} (h : ItsIn w rs xs) (f : Fr noB w w') : ItsIn w' rs xs := ⟨h.len, fun i h1 h2 => (h.at_ i h1 h2).fr f⟩
set_option maxRecDepth 100000 in
theorem rd1_any (w : World) (r : ItW) (x : It) (h : ItIn w r x) : Calls Tryz.prog 111 #[.agg (codT.A r)] w (Gives w (.bool (!rightIt x))) := by
  have f0 : Fr noB w (w.alloc (.cells (codT.A r) 140)) := (Fr.refl noB w).alloc _
  have q := Cod.rd_new (C := codT) w 140 r
  have hc := Lib.hid (rightItem_any _ r x (h.fr f0))
  go_enter Tryz.func111, Tryz.ntmps111
  go_upto_region 1 with fail
  generalize w.alloc (.cells (codT.A r) 140) = W0 at f0 q hc ⊢
  go_wp2_with (go_at_call 112; refine hc.out.mono ?_; rintro e w1 ⟨rfl, f1⟩)
  go_ret
  exact ⟨by cases rightIt x <;> rfl, f0.step0 f1⟩
theorem riseB_map {α β : Type} (f : α → β) (cf : β → β → Int) : ∀ l : List α, riseB cf (l.map f) = riseB (fun a b => cf (f a) (f b)) l
  | [] => rfl
  | [x] => rfl
  | x :: y :: l => by
    have := riseB_map f cf (y :: l)
    simp only [List.map_cons] at this ⊢
    unfold riseB
    rw [this]
theorem any_not {α : Type} (p : α → Bool) (l : List α) : l.any (fun x => !p x) = !l.all p := by
  induction l with
  | nil => rfl
  | cons x l ih => rw [List.any_cons, List.all_cons, ih, Bool.not_and]
theorem any_range {α : Type} (l : List α) (p : α → Bool) (q : Nat → Bool) (h : ∀ i (hi : i < l.length), q i = p l[i]) : (List.range l.length).any q = l.any p := by
  rw [Bool.eq_iff_iff, List.any_eq_true, List.any_eq_true]
  constructor
  · rintro ⟨i, hi, hq⟩
    have hi := List.mem_range.1 hi
    exact ⟨l[i], List.getElem_mem hi, by rw [← h i hi]; exact hq⟩
  · rintro ⟨x, hx, hp⟩
    obtain ⟨i, hi, rfl⟩ := List.mem_iff_getElem.1 hx
    exact ⟨i, List.mem_range.2 hi, by rw [h i hi]; exact hp⟩
set_option maxRecDepth 100000 in
set_option maxHeartbeats 1000000 in
theorem rightDir_any (w : World) (A : Option Addr) (c n : Nat) (rs : List ItW) (xs : List It) (hn : rs.length = n) (hs : Sl w A (codT.row rs)) (hb : rs.length ≤ 140737488355328) (h : ItsIn w rs xs) :
    Calls Tryz.prog 100 #[.slice A n c] w (Gives w (.bool (rightDr xs))) := by
  subst hn
  have hl := h.len
  have hM : rightDr xs = (decide (rs.length ≤ 1000) && (!(List.range rs.length).any fun i => if hi : i < xs.length then !rightIt xs[i] else true) && riseB (fun a b : ItW => cmpS a.Node b.Node) rs) := by
    unfold rightDr
    rw [hl]
    congr 1
    · congr 1
      rw [any_range xs (fun x => !rightIt x) _ (fun i hi => by rw [dif_pos hi]), any_not, Bool.not_not]
    · have e : xs.map (·.Node) = rs.map (·.Node) := by
        refine List.ext_getElem (by simp [hl]) fun i h1 h2 => ?_
        simp only [List.getElem_map]
        have := (h.at_ i (by simpa using h2) (by simpa using h1)).eq
        rw [this]; rfl
      have e1 := riseB_map (fun x : It => x.Node) cmpS xs
      have e2 := riseB_map (fun x : ItW => x.Node) cmpS rs
      rw [← e1, ← e2, e]
  have HM := Lib.hid hM
  clear hM
  have hC := fun w1 (hf : Fr noB w w1) => itContainsF_any w1 A c rs.length rs rfl (hs.fr0 hf) hb (.bool false) (fun i => if hi : i < xs.length then !rightIt xs[i] else true) (fun w' hf' i hi => by
    rw [dif_pos (by omega)]
    exact rd1_any w' rs[i] (xs[i]'(by omega)) ((h.fr (hf.step0 hf')).at_ i hi (by omega)))
  have hR := fun w1 (hf : Fr noB w w1) => oRiseItem_any w1 A c rs.length rs rfl (hs.fr0 hf) hb (fun a b => cmpS a.Node b.Node) oRD2_any
  have HC := Lib.hid hC
  have HR := Lib.hid hR
  clear hC hR hl
  generalize (List.range rs.length).any (fun i => if hi : i < xs.length then !rightIt xs[i] else true) = b1 at HC HM
  generalize riseB (fun a b : ItW => cmpS a.Node b.Node) rs = b2 at HR HM
  have f1 : Fr noB w w := Fr.refl _ _
  go_enter Tryz.func100, Tryz.ntmps100
  go_wp2_with (first
    | (go_at_call 110; refine (HC.out _ f1).mono ?_; rintro e w3 ⟨rfl, f2⟩; replace f1 := f1.step0 f2)
    | (go_at_call 113; refine (HR.out _ f1).mono ?_; rintro e w3 ⟨rfl, f2⟩; replace f1 := f1.step0 f2))
  all_goals
    go_ret
    refine ⟨?_, f1⟩
    rw [HM.out]
    first
    | (simp [*]; done)
    | (have hle : ¬ rs.length ≤ 1000 := by omega
       simp [hle]; done)
    | (have hle : rs.length ≤ 1000 := by omega
       simp [*]; done)
end Go.Proofs.YtefcalkbfaefgaaGreat
namespace Go.Proofs.YtefcalkbfaefgaaGreat
open Go.RowKit
set_option linter.unusedVariables false
set_option linter.unusedSimpArgs false

/-- a row of operations -/
structure OpsIn (w : World) (rs : List OpW) (xs : List Opn) : Prop where
  len : rs.length = xs.length
  at_ : ∀ i (h : i < rs.length) (h' : i < xs.length), OpIn w rs[i] xs[i]
theorem OpsIn.fr {w w' : World} {rs : List OpW} {xs : List Opn} (h : OpsIn w rs xs) (f : Fr noB w w') : OpsIn w' rs xs := ⟨h.len, fun i h1 h2 => (h.at_ i h1 h2).fr f⟩
/-- a commit as it lies in memory -/
structure CgIn (w : World) (r : CgW) (rs : List OpW) (c : Chg) : Prop where
  time : c.Time = r.Time
  R : c.R = r.R
  tree : c.Tree = r.Tree
  msg : c.Msg = r.Msg
  pl : c.Parents.length = r.pn
  ps : Sl w r.PA (idc c.Parents)
  ol : rs.length = r.on
  os : Sl w r.OA (codO.row rs)
  ops : OpsIn w rs c.Ops
  pb : c.Parents.length ≤ 140737488355328
  ob : rs.length ≤ 140737488355328
  mb : r.Msg.length ≤ 140737488355328
theorem CgIn.fr {w w' : World} {r : CgW} {rs : List OpW} {c : Chg} (h : CgIn w r rs c) (f : Fr noB w w') : CgIn w' r rs c :=
  ⟨h.time, h.R, h.tree, h.msg, h.pl, h.ps.fr0 f, h.ol, h.os.fr0 f, h.ops.fr f, h.pb, h.ob, h.mb⟩
@[simp] theorem run_store_fn (P : Program) (w : World) (a : Addr) (m : Mode) (f : Fn) (g c : Array Value) : (store a (.func f g c) m).run P w = stored P w a (.func f g c) m := run_store P w a _ m rfl
end Go.Proofs.YtefcalkbfaefgaaGreat
