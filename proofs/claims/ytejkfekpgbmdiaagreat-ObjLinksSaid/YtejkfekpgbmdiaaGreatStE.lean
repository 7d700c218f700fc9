/- Contracts: stamp.Name, stamp.move, stamp.edit, stamp.Good. Contract: stamp.edit. -/
import Derived.Test.YtejkfekpgbmdiaaGreatNameX
import Derived.Test.YtejkfekpgbmdiaaGreatQFr
import Derived.Test.YtejkfekpgbmdiaaGreatEqs
import Derived.Deep.LoopGhost
import Derived.Test.YtejkfekpgbmdiaaGreatRiseW
namespace Go.Proofs.YtejkfekpgbmdiaaGreat
open Go.RowKit
set_option linter.unusedVariables false
set_option linter.unusedSimpArgs false

theorem hasB_not (l : List UInt8) : (l.all fun b => decide (b ≠ 0) && decide (b ≠ 47) && decide (b ≠ 10)) = !hasB l := by
  unfold hasB
  induction l with
  | nil => rfl
  | cons b l ih => rw [List.all_cons, List.any_cons, ih]; simp [Bool.not_or]
set_option maxRecDepth 100000 in
theorem name_any (w : World) (l : List UInt8) (hl : l.length ≤ 140737488355328) : Calls Tryz.prog 107 #[.string (str l)] w (Gives w (.bool (nameOk l))) := by
  have hz := str_size l
  have hT : (str l).toList = l := str_toList l
  have hB : nameOk l = (decide (1 ≤ l.length) && decide (l.length ≤ 60) && decide (l ≠ [46]) && decide (l ≠ [46, 46]) && !hasB l) := by
    unfold nameOk; rw [hasB_not]
  have hC := Lib.hid (fun (h60 : l.length ≤ 60) => containsAny_chs w (str l) (by rw [hz]; omega))
  have HB := Lib.hid hB
  have HT := Lib.hid hT
  have e0 : (str l).data.toList = l := by simp [str]
  rw [e0] at hC
  clear hB hT e0
  by_cases h1 : 1 ≤ l.length
  · have i1 : (1 : Int) ≤ (l.length : Int) := by omega
    by_cases h2 : l.length ≤ 60
    · have i2 : (l.length : Int) ≤ 60 := by omega
      by_cases h3 : l = [46]
      · have a1 : (str l).toList = [46] := by rw [HT.out, h3]
        have a2 : ((str l).toList == [46]) = true := by rw [a1]; rfl
        have H := Lib.hid (HB.out.trans (by simp [h3]) : nameOk l = false)
        clear HB h3
        go_enter Tryz.func107, Tryz.ntmps107
        go_wp2_with fail
        go_ret
        exact ⟨by rw [H.out]; rfl, Fr.refl _ _⟩
      · have a1 : ¬ (str l).toList = [46] := by rw [HT.out]; exact h3
        have a2 : ((str l).toList == [46]) = false := by simpa using a1
        by_cases h4 : l = [46, 46]
        · have a3 : (str l).toList = [46, 46] := by rw [HT.out, h4]
          have a4 : ((str l).toList == [46, 46]) = true := by rw [a3]; rfl
          have H := Lib.hid (HB.out.trans (by simp [h4]) : nameOk l = false)
          clear HB h4 h3 a1
          go_enter Tryz.func107, Tryz.ntmps107
          go_wp2_with fail
          go_ret
          exact ⟨by rw [H.out]; rfl, Fr.refl _ _⟩
        · have a3 : ¬ (str l).toList = [46, 46] := by rw [HT.out]; exact h4
          have a4 : ((str l).toList == [46, 46]) = false := by simpa using a3
          have H := Lib.hid (HB.out.trans (by simp [h1, h2, h3, h4]) : nameOk l = !hasB l)
          clear HB h3 h4
          go_enter Tryz.func107, Tryz.ntmps107
          go_wp2_with fail
          go_at_call 131
          refine (hC.out (by omega)).mono ?_
          rintro e w1 ⟨rfl, hf⟩
          go_wp2_with fail
          go_ret
          exact ⟨by rw [H.out]; rfl, hf⟩
    · have i2 : ¬ (l.length : Int) ≤ 60 := by omega
      have H := Lib.hid (HB.out.trans (by simp [h2]) : nameOk l = false)
      clear HB
      go_enter Tryz.func107, Tryz.ntmps107
      go_wp2_with fail
      go_ret
      exact ⟨by rw [H.out]; rfl, Fr.refl _ _⟩
  · have i1 : ¬ (1 : Int) ≤ (l.length : Int) := by omega
    have H := Lib.hid (HB.out.trans (by simp [h1]) : nameOk l = false)
    clear HB
    go_enter Tryz.func107, Tryz.ntmps107
    go_wp2_with fail
    go_ret
    exact ⟨by rw [H.out]; rfl, Fr.refl _ _⟩

def opOf (r : OpW) (ov : List St) : Opn := ⟨r.Kind, r.At, r.Node, r.Parent, r.Name, r.Data, ov⟩
set_option maxRecDepth 100000 in
theorem move_any (w : World) (r : OpW) (hl : r.Name.length ≤ 140737488355328) (ov : List St) (hov : ov.length = r.n) : Calls Tryz.prog 127 #[.agg (codO.A r)] w (Gives w (.bool (moveOk (opOf r ov)))) := by
  have f0 : Fr noB w (w.alloc (.cells (codO.A r) 72)) := (Fr.refl noB w).alloc _
  obtain ⟨q1, q2, q3, q4, q5, q6, q7, q8, q9, q10⟩ := opAt (Cod.rd_new w 72 r)
  have hP : w.heap.size < (w.alloc (.cells (codO.A r) 72)).heap.size := by simp
  have hM : moveOk (opOf r ov) = (decide (cmpS r.Node r.At ≤ 0) && (rightS r.Parent || fixedS r.Parent) && nameOk r.Name && decide (r.Data = zID) && decide (r.n = 0)) := by unfold moveOk opOf; rw [hov]
  have HM := Lib.hid hM
  clear hM hov q2 q3 q10
  go_enter Tryz.func127, Tryz.ntmps127
  go_upto_region 1 with fail
  generalize w.alloc (.cells (codO.A r) 72) = W0 at f0 q1 q4 q5 q6 q7 q8 q9 hP ⊢
  generalize w.heap.size = P at q1 q4 q5 q6 q7 q8 q9 hP ⊢
  go_wp2_with (first
    | (go_at_call 84; refine (scmp_v _ r.Node r.At).mono ?_; rintro e w1 ⟨rfl, f1⟩; obtain ⟨L1, L2, L3, L4, L5, L6⟩ := f1.same)
    | (go_at_call 99; refine (right_v _ _).mono ?_; rintro e w2 ⟨rfl, f2⟩; replace f1 := f1.step0 f2; clear L1 L2 L3 L4 L5 L6; obtain ⟨L1, L2, L3, L4, L5, L6⟩ := f1.same)
    | (go_at_call 139; refine (fixed_v _ _).mono ?_; rintro e w2 ⟨rfl, f2⟩; replace f1 := f1.step0 f2; clear L1 L2 L3 L4 L5 L6; obtain ⟨L1, L2, L3, L4, L5, L6⟩ := f1.same)
    | (go_at_call 107; refine (name_any _ _ hl).mono ?_; rintro e w2 ⟨rfl, f2⟩; replace f1 := f1.step0 f2; clear L1 L2 L3 L4 L5 L6; obtain ⟨L1, L2, L3, L4, L5, L6⟩ := f1.same))
  all_goals clear L1 L2 L3 L4 L5 L6 q1 q4 q5 q6 q7 q8 q9 hP
  all_goals
    go_ret
    have hn0 : ((r.n : Int) == 0) = decide (r.n = 0) := by rw [Bool.eq_iff_iff]; simp
    refine ⟨?_, f0.step0 f1⟩
    rw [HM.out]
    first
    | (simp [*]; done)
    | (have hle : ¬ cmpS r.Node r.At ≤ 0 := by omega
       simp [hle]; done)
end Go.Proofs.YtejkfekpgbmdiaaGreat
namespace Go.Proofs.YtejkfekpgbmdiaaGreat
open Go.RowKit
set_option linter.unusedVariables false
set_option linter.unusedSimpArgs false

theorem all_take_succ {α : Type} (p : α → Bool) (l : List α) (k : Nat) (h : k < l.length) : (l.take (k + 1)).all p = ((l.take k).all p && p l[k]) := by
  rw [List.take_succ_eq_append_getElem h, List.all_append]; simp
theorem all_take_false {α : Type} {p : α → Bool} {l : List α} {k : Nat} (h : (l.take k).all p = false) : l.all p = false := by
  rw [← Bool.not_eq_true] at h ⊢
  intro ha
  apply h
  rw [List.all_eq_true] at ha ⊢
  exact fun x hx => ha x (List.mem_of_mem_take hx)
theorem rise_take_succ {α : Type} (cf : α → α → Int) (l : List α) (k : Nat) (h : k < l.length) (h0 : riseB cf (l.take k) = true) (h1 : ∀ (h : 0 < k), cf (l[k - 1]'(by omega)) l[k] < 0) : riseB cf (l.take (k + 1)) = true := by
  rw [riseB_iff] at h0 ⊢
  intro j hj
  rw [List.length_take] at hj
  simp only [List.getElem_take]
  rcases Nat.lt_or_ge (j + 1) k with hk | hk
  · have := h0 j (by rw [List.length_take]; omega)
    simpa only [List.getElem_take] using this
  · have e : j = k - 1 := by omega
    subst e
    have := h1 (by omega)
    simp only [show k - 1 + 1 = k by omega]
    exact this
theorem rise_false {α : Type} (cf : α → α → Int) (l : List α) (k : Nat) (h : k < l.length) (hk : 0 < k) (h1 : ¬ cf (l[k - 1]'(by omega)) l[k] < 0) : riseB cf l = false := by
  rw [← Bool.not_eq_true]
  intro h0
  rw [riseB_iff] at h0
  have := h0 (k - 1) (by omega)
  simp only [show k - 1 + 1 = k by omega] at this
  exact h1 this
theorem rise_zero {α : Type} (cf : α → α → Int) (l : List α) : riseB cf (l.take 0) = true := by simp [riseB]
/-- a row that lies somewhere -/
theorem Sl.adC {α : Type} {C : Cod α} {w : World} {A : Option Addr} {l : List α} (h : Sl w A (C.row l)) (hl : 0 < l.length) : ∃ g off, A = some ⟨g, off, none⟩ ∧ g < w.heap.size := by
  obtain ⟨g, off, e, hg, _⟩ := h (Cod.row_ne (by intro h0; subst h0; simp at hl))
  exact ⟨g, off, e, hg⟩
def EdR (W : World) (p : St → Bool) (ov : List St) (gk : Nat) (iv : Value) (wr : World) : Prop := ∃ k : Nat, iv = .int .i64 (k : Int) ∧ gk = ov.length - k ∧ k ≤ ov.length ∧ Fr noB W wr ∧ (ov.take k).all p = true ∧ riseB cmpS (ov.take k) = true
set_option maxRecDepth 100000 in
set_option maxHeartbeats 2000000 in
theorem edit_any (w : World) (r : OpW) (ov : List St) (hov : ov.length = r.n) (hs : Sl w r.A (codS.row ov)) (hb : ov.length ≤ 140737488355328) : Calls Tryz.prog 128 #[.agg (codO.A r)] w (Gives w (.bool (editOk (opOf r ov)))) := by
  have f0 : Fr noB w (w.alloc (.cells (codO.A r) 72)) := (Fr.refl noB w).alloc _
  obtain ⟨q1, q2, q3, q4, q5, q6, q7, q8, q9, q10⟩ := opAt (Cod.rd_new w 72 r)
  have hP : w.heap.size < (w.alloc (.cells (codO.A r) 72)).heap.size := by simp
  have hM : editOk (opOf r ov) = (decide (cmpS r.Node r.At < 0) && decide (r.Parent = zSt) && decide (r.Name = []) && decide (r.Data ≠ zID) && decide (r.n ≤ 64) && (ov.all fun s => rightS s && decide (cmpS s r.At < 0)) && riseB cmpS ov) := by unfold editOk opOf; rw [hov]
  have HM := Lib.hid hM
  replace hs := hs.fr0 f0
  clear hM q2 q3 q10
  go_enter Tryz.func128, Tryz.ntmps128
  go_upto_region 1 with fail
  generalize w.alloc (.cells (codO.A r) 72) = W0 at f0 hs q1 q4 q5 q6 q7 q8 q9 hP ⊢
  generalize w.heap.size = P at q1 q4 q5 q6 q7 q8 q9 hP ⊢
  have HOV := Lib.hid hov
  clear hov
  go_wp2_with ((go_at_call 84; refine (scmp_v _ r.Node r.At).mono ?_; rintro e w1 ⟨rfl, f1⟩; obtain ⟨L1, L2, L3, L4, L5, L6⟩ := f1.same))
  all_goals first
    | (go_ret
       refine ⟨?_, f0.step0 f1⟩
       rw [HM.out]
       try rw [str_toList] at *
       first
       | (simp [*]; done)
       | (have hle : ¬ cmpS r.Node r.At < 0 := by omega
          simp [hle]; done)
       | (have hle : ¬ r.n ≤ 64 := by omega
          simp [hle]; done))
    | skip
  have h1 : cmpS r.Node r.At < 0 ∧ (r.n : Int) ≤ 64 := ‹_›
  have h2 : r.Parent = zSt := ‹_›
  have h3 : (str r.Name).toList = [] := ‹_›
  have h4 : ¬ r.Data = zID := ‹_›
  rw [str_toList] at h3
  have HM2 : Hid (editOk (opOf r ov) = ((ov.all fun s => rightS s && decide (cmpS s r.At < 0)) && riseB cmpS ov)) := Lib.hid (by
    rw [HM.out]
    have h6 : r.n ≤ 64 := by omega
    simp [h1.1, h2, h3, h4, h6])
  clear HM h1 h2 h3 h4 L1 L2 L3 L4 L5 L6
  replace hs := hs.fr0 f1
  have r4 := (f1.same.st _ 1 hP).trans q4
  have r9 := (f1.same.cell _ 40 hP).trans q9
  have hP1 : P < w1.heap.size := Nat.lt_of_lt_of_le hP f1.size
  replace f0 := f0.step0 f1
  clear q1 q4 q5 q6 q7 q8 q9 hP f1 W0
  rw [← HOV.out] at r9 ⊢
  clear HOV
  generalize r.A = A at hs r9 ⊢
  generalize hpp : (fun s => rightS s && decide (cmpS s r.At < 0)) = pp at HM2
  have HPP := Lib.hid hpp
  clear hpp
  go_loopg [37] ov.length (fun gk iv wr => EdR w1 pp ov gk iv wr)
  case atStart => exact ⟨0, rfl, by omega, by omega, Fr.refl _ _, by simp, rise_zero _ _⟩
  case round =>
    obtain ⟨k, rfl, rfl, hk, hf, ha, hri⟩ := hrel
    have HA := Lib.hid ha
    have HRI := Lib.hid hri
    clear ha hri
    by_cases hlt : k < ov.length
    · have i1 : (k : Int) < (ov.length : Int) := by omega
      obtain ⟨g, off, rfl, hg⟩ := hs.adC (by omega)
      have e1 : codS.rd wr g (off + k * 2) = some ov[k] := (hs.fr0 hf).rd k hlt
      have e4 := (hf.same.st _ 1 hP1).trans r4
      have e9 := (hf.same.cell _ 40 hP1).trans r9
      have hP2 : P < wr.heap.size := Nat.lt_of_lt_of_le hP1 hf.size
      have hgw : g < wr.heap.size := Nat.lt_of_lt_of_le hg hf.size
      have i0 : (0 : Int) ≤ (k : Int) := by omega
      have hpx : pp ov[k] = (rightS ov[k] && decide (cmpS ov[k] r.At < 0)) := by rw [← HPP.out]
      have bad1 : pp ov[k] = false → editOk (opOf r ov) = false := fun h => by
        have h1 := all_take_succ pp ov k hlt
        rw [h, Bool.and_false] at h1
        rw [HM2.out, all_take_false h1]; rfl
      have good1 : pp ov[k] = true → (ov.take (k + 1)).all pp = true := fun h => by rw [all_take_succ pp ov k hlt, HA.out, h]; rfl
      have pv : ∀ (h : 0 < k), ∃ p, codS.rd wr g (off + (k - 1) * 2) = some p ∧ (¬ cmpS p ov[k] < 0 → editOk (opOf r ov) = false) ∧ (cmpS p ov[k] < 0 → riseB cmpS (ov.take (k + 1)) = true) := fun h =>
        ⟨ov[k - 1]'(by omega), (hs.fr0 hf).rd (k - 1) (by omega), fun h1 => by rw [HM2.out, rise_false cmpS ov k hlt h h1, Bool.and_false], fun h1 => rise_take_succ cmpS ov k hlt HRI.out (fun _ => h1)⟩
      have pz : k = 0 → riseB cmpS (ov.take (k + 1)) = true := fun h => rise_take_succ cmpS ov k hlt HRI.out (fun h' => absurd h' (by omega))
      generalize ov[k] = x at e1 hpx bad1 good1 pv
      have fA : Fr noB wr (wr.alloc (codS.o x)) := (Fr.refl noB wr).alloc _
      have n1 : codS.rd (wr.alloc (codS.o x)) wr.heap.size 0 = some x := Cod.rd_new' wr x
      have n2 : wr.heap.size < (wr.alloc (codS.o x)).heap.size := by simp
      have BAD1 := Lib.hid bad1
      have PV := Lib.hid pv
      have GOOD1 := Lib.hid good1
      have PZ := Lib.hid pz
      have HPX := Lib.hid hpx
      clear bad1 good1 hpx pv pz
      go_wp2_with fail
      have s4 := (fA.same.st _ 1 hP2).trans e4
      have s9 := (fA.same.cell _ 40 hP2).trans e9
      have hP3 := Nat.lt_of_lt_of_le hP2 fA.size
      have hg3 := Nat.lt_of_lt_of_le hgw fA.size
      replace fA := hf.step0 fA
      have pv' : ∀ (h : 0 < k), ∃ p, codS.rd (wr.alloc (codS.o x)) g (off + (k - 1) * 2) = some p ∧ (¬ cmpS p x < 0 → editOk (opOf r ov) = false) ∧ (cmpS p x < 0 → riseB cmpS (ov.take (k + 1)) = true) := fun h => by
        obtain ⟨p, h1, h2, h3⟩ := PV.out h
        exact ⟨p, (((Fr.refl noB wr).alloc (codS.o x)).same.st _ _ hgw).trans h1, fun h => h2 (by omega), h3⟩
      have PV' := Lib.hid pv'
      clear e1 e4 e9 hP2 hgw PV pv'
      generalize wr.alloc (codS.o x) = W at fA n1 n2 s4 s9 hP3 hg3 PV' ⊢
      generalize wr.heap.size = N at n1 n2 ⊢
      have C2 : ∀ w, Calls Tryz.prog 84 #[.agg (codS.A x), .agg (codS.A r.At)] w (Gives w (.int .i64 (cmpS x r.At))) := fun w => scmp_v w x r.At
      by_cases hr : rightS x = true
      · have C1 : ∀ w, Calls Tryz.prog 99 #[.agg (codS.A x)] w (Gives w (.bool true)) := fun w => Gives.val (right_v w x) (by rw [hr])
        by_cases hc : cmpS x r.At < 0
        · have GP : pp x = true := by rw [HPX.out, hr]; simp [hc]
          have hc1 : ¬ (0 : Int) ≤ cmpS x r.At := by omega
          by_cases hk0 : k = 0
          · have G1 := Lib.hid (GOOD1.out GP)
            have G2 := Lib.hid (PZ.out hk0)
            have j0 : ¬ (0 : Int) < (k : Int) := by omega
            have j9 : ¬ 0 < k := by omega
            clear GP hk0
            refine wp_region_fr (by kernel_rfl) (by kernel_rfl) ?_
            refine wpQ_take (v := ?qv259) (by rfl) (fun wS hS => ?qh259) ?qk259
            case qh259 => obtain ⟨L1, L2, L3, L4, L5, L6⟩ := Fr.same hS; go_simp; try with_reducible rfl
            try simp only [List.getElem_toArray, List.getElem_cons_zero, List.getElem_cons_succ, Act.put, List.setIfInBounds_toArray, List.set_cons_zero, List.set_cons_succ]
            refine wpQ_call (by rfl) (fun wS hS => ⟨_, _, ?qh262, Calls.fr hS (C1 _)⟩) ?qk262
            case qh262 => obtain ⟨L1, L2, L3, L4, L5, L6⟩ := Fr.same hS; go_simp; try with_reducible rfl
            try simp only [List.getElem_toArray, List.getElem_cons_zero, List.getElem_cons_succ, Act.put, List.setIfInBounds_toArray, List.set_cons_zero, List.set_cons_succ]
            refine wpQ_take (v := ?qv265) (by rfl) (fun wS hS => ?qh265) ?qk265
            case qh265 => obtain ⟨L1, L2, L3, L4, L5, L6⟩ := Fr.same hS; go_simp; try with_reducible rfl
            try simp only [List.getElem_toArray, List.getElem_cons_zero, List.getElem_cons_succ, Act.put, List.setIfInBounds_toArray, List.set_cons_zero, List.set_cons_succ]
            refine wpQ_take (v := ?qv268) (by rfl) (fun wS hS => ?qh268) ?qk268
            case qh268 => obtain ⟨L1, L2, L3, L4, L5, L6⟩ := Fr.same hS; go_simp; try with_reducible rfl
            try simp only [List.getElem_toArray, List.getElem_cons_zero, List.getElem_cons_succ, Act.put, List.setIfInBounds_toArray, List.set_cons_zero, List.set_cons_succ]
            refine wpQ_take (v := ?qv271) (by rfl) (fun wS hS => ?qh271) ?qk271
            case qh271 => obtain ⟨L1, L2, L3, L4, L5, L6⟩ := Fr.same hS; go_simp; try with_reducible rfl
            try simp only [List.getElem_toArray, List.getElem_cons_zero, List.getElem_cons_succ, Act.put, List.setIfInBounds_toArray, List.set_cons_zero, List.set_cons_succ]
            refine wpQ_take (v := ?qv274) (by rfl) (fun wS hS => ?qh274) ?qk274
            case qh274 => obtain ⟨L1, L2, L3, L4, L5, L6⟩ := Fr.same hS; go_simp; try with_reducible rfl
            try simp only [List.getElem_toArray, List.getElem_cons_zero, List.getElem_cons_succ, Act.put, List.setIfInBounds_toArray, List.set_cons_zero, List.set_cons_succ]
            refine wpQ_take (v := ?qv277) (by rfl) (fun wS hS => ?qh277) ?qk277
            case qh277 => obtain ⟨L1, L2, L3, L4, L5, L6⟩ := Fr.same hS; go_simp; try with_reducible rfl
            try simp only [List.getElem_toArray, List.getElem_cons_zero, List.getElem_cons_succ, Act.put, List.setIfInBounds_toArray, List.set_cons_zero, List.set_cons_succ]
            refine wpQ_call (by rfl) (fun wS hS => ⟨_, _, ?qh280, Calls.fr hS (C2 _)⟩) ?qk280
            case qh280 => obtain ⟨L1, L2, L3, L4, L5, L6⟩ := Fr.same hS; go_simp; try with_reducible rfl
            try simp only [List.getElem_toArray, List.getElem_cons_zero, List.getElem_cons_succ, Act.put, List.setIfInBounds_toArray, List.set_cons_zero, List.set_cons_succ]
            refine wpQ_take (v := ?qv283) (by rfl) (fun wS hS => ?qh283) ?qk283
            case qh283 => obtain ⟨L1, L2, L3, L4, L5, L6⟩ := Fr.same hS; go_simp; try with_reducible rfl
            try simp only [List.getElem_toArray, List.getElem_cons_zero, List.getElem_cons_succ, Act.put, List.setIfInBounds_toArray, List.set_cons_zero, List.set_cons_succ]
            refine wpQ_take (v := ?qv286) (by rfl) (fun wS hS => ?qh286) ?qk286
            case qh286 => obtain ⟨L1, L2, L3, L4, L5, L6⟩ := Fr.same hS; go_simp; try with_reducible rfl
            try simp only [List.getElem_toArray, List.getElem_cons_zero, List.getElem_cons_succ, Act.put, List.setIfInBounds_toArray, List.set_cons_zero, List.set_cons_succ]
            refine wpQ_take (v := ?qv289) (by rfl) (fun wS hS => ?qh289) ?qk289
            case qh289 => obtain ⟨L1, L2, L3, L4, L5, L6⟩ := Fr.same hS; go_simp; try with_reducible rfl
            try simp only [List.getElem_toArray, List.getElem_cons_zero, List.getElem_cons_succ, Act.put, List.setIfInBounds_toArray, List.set_cons_zero, List.set_cons_succ]
            refine wpQ_take (v := ?qv292) (by rfl) (fun wS hS => ?qh292) ?qk292
            case qh292 => obtain ⟨L1, L2, L3, L4, L5, L6⟩ := Fr.same hS; go_simp; try with_reducible rfl
            try simp only [List.getElem_toArray, List.getElem_cons_zero, List.getElem_cons_succ, Act.put, List.setIfInBounds_toArray, List.set_cons_zero, List.set_cons_succ]
            refine wpQ_take (v := ?qv295) (by rfl) (fun wS hS => ?qh295) ?qk295
            case qh295 => obtain ⟨L1, L2, L3, L4, L5, L6⟩ := Fr.same hS; go_simp; try with_reducible rfl
            try simp only [List.getElem_toArray, List.getElem_cons_zero, List.getElem_cons_succ, Act.put, List.setIfInBounds_toArray, List.set_cons_zero, List.set_cons_succ]
            refine wpQ_take (v := ?qv298) (by rfl) (fun wS hS => ?qh298) ?qk298
            case qh298 => obtain ⟨L1, L2, L3, L4, L5, L6⟩ := Fr.same hS; go_simp; try with_reducible rfl
            try simp only [List.getElem_toArray, List.getElem_cons_zero, List.getElem_cons_succ, Act.put, List.setIfInBounds_toArray, List.set_cons_zero, List.set_cons_succ]
            refine wpQ_off (by rfl) ?_
            try simp only [List.getElem_toArray, List.getElem_cons_zero, List.getElem_cons_succ, Act.put, List.setIfInBounds_toArray, List.set_cons_zero, List.set_cons_succ]
            refine wpQ_off (by rfl) ?_
            try simp only [List.getElem_toArray, List.getElem_cons_zero, List.getElem_cons_succ, Act.put, List.setIfInBounds_toArray, List.set_cons_zero, List.set_cons_succ]
            refine wpQ_off (by rfl) ?_
            try simp only [List.getElem_toArray, List.getElem_cons_zero, List.getElem_cons_succ, Act.put, List.setIfInBounds_toArray, List.set_cons_zero, List.set_cons_succ]
            refine wpQ_off (by rfl) ?_
            try simp only [List.getElem_toArray, List.getElem_cons_zero, List.getElem_cons_succ, Act.put, List.setIfInBounds_toArray, List.set_cons_zero, List.set_cons_succ]
            refine wpQ_off (by rfl) ?_
            try simp only [List.getElem_toArray, List.getElem_cons_zero, List.getElem_cons_succ, Act.put, List.setIfInBounds_toArray, List.set_cons_zero, List.set_cons_succ]
            refine wpQ_off (by rfl) ?_
            try simp only [List.getElem_toArray, List.getElem_cons_zero, List.getElem_cons_succ, Act.put, List.setIfInBounds_toArray, List.set_cons_zero, List.set_cons_succ]
            refine wpQ_off (by rfl) ?_
            try simp only [List.getElem_toArray, List.getElem_cons_zero, List.getElem_cons_succ, Act.put, List.setIfInBounds_toArray, List.set_cons_zero, List.set_cons_succ]
            refine wpQ_off (by rfl) ?_
            try simp only [List.getElem_toArray, List.getElem_cons_zero, List.getElem_cons_succ, Act.put, List.setIfInBounds_toArray, List.set_cons_zero, List.set_cons_succ]
            refine wpQ_off (by rfl) ?_
            try simp only [List.getElem_toArray, List.getElem_cons_zero, List.getElem_cons_succ, Act.put, List.setIfInBounds_toArray, List.set_cons_zero, List.set_cons_succ]
            refine wpQ_take (v := ?qv319) (by rfl) (fun wS hS => ?qh319) ?qk319
            case qh319 => obtain ⟨L1, L2, L3, L4, L5, L6⟩ := Fr.same hS; go_simp; try with_reducible rfl
            try simp only [List.getElem_toArray, List.getElem_cons_zero, List.getElem_cons_succ, Act.put, List.setIfInBounds_toArray, List.set_cons_zero, List.set_cons_succ]
            refine wpQ_take (v := ?qv322) (by rfl) (fun wS hS => ?qh322) ?qk322
            case qh322 => obtain ⟨L1, L2, L3, L4, L5, L6⟩ := Fr.same hS; go_simp; try with_reducible rfl
            try simp only [List.getElem_toArray, List.getElem_cons_zero, List.getElem_cons_succ, Act.put, List.setIfInBounds_toArray, List.set_cons_zero, List.set_cons_succ]
            refine wpQ_nil ?_
            intro w1 f1
            go_wp2_with fail
            go_roundg (ov.length - (k + 1))
            case measure => omega
            case rel => exact ⟨k + 1, by simp, rfl, by omega, fA.step0 f1, G1.out, G2.out⟩
          · have hk1 : 0 < k := by omega
            have j0 : (0 : Int) < (k : Int) := by omega
            have m1 : IntKind.i64.wrap ((k : Int) - 1) = ((k - 1 : Nat) : Int) := by rw [IntKind.wrap_i64]; omega
            obtain ⟨p, e2, B2, G2⟩ := PV'.out hk1
            have GG2 := Lib.hid G2
            have BB2 := Lib.hid B2
            have q2 : k - 1 < ov.length := by omega
            clear G2 B2
            generalize hqe : k - 1 = q at m1 e2 q2
            have C3 : ∀ w, Calls Tryz.prog 84 #[.agg (codS.A p), .agg (codS.A x)] w (Gives w (.int .i64 (cmpS p x))) := fun w => scmp_v w p x
            have j1 : (0 : Int) ≤ (q : Int) := by omega
            have j2 : (q : Int) < (ov.length : Int) := by omega
            by_cases hpc : cmpS p x < 0
            · have hpc1 : ¬ (0 : Int) ≤ cmpS p x := by omega
              have G1 := Lib.hid (GOOD1.out GP)
              have G2 := Lib.hid (GG2.out hpc)
              clear GP hqe hk0
              refine wp_region_fr (by kernel_rfl) (by kernel_rfl) ?_
              refine wpQ_take (v := ?qv349) (by rfl) (fun wS hS => ?qh349) ?qk349
              case qh349 => obtain ⟨L1, L2, L3, L4, L5, L6⟩ := Fr.same hS; go_simp; try with_reducible rfl
              try simp only [List.getElem_toArray, List.getElem_cons_zero, List.getElem_cons_succ, Act.put, List.setIfInBounds_toArray, List.set_cons_zero, List.set_cons_succ]
              refine wpQ_call (by rfl) (fun wS hS => ⟨_, _, ?qh352, Calls.fr hS (C1 _)⟩) ?qk352
              case qh352 => obtain ⟨L1, L2, L3, L4, L5, L6⟩ := Fr.same hS; go_simp; try with_reducible rfl
              try simp only [List.getElem_toArray, List.getElem_cons_zero, List.getElem_cons_succ, Act.put, List.setIfInBounds_toArray, List.set_cons_zero, List.set_cons_succ]
              refine wpQ_take (v := ?qv355) (by rfl) (fun wS hS => ?qh355) ?qk355
              case qh355 => obtain ⟨L1, L2, L3, L4, L5, L6⟩ := Fr.same hS; go_simp; try with_reducible rfl
              try simp only [List.getElem_toArray, List.getElem_cons_zero, List.getElem_cons_succ, Act.put, List.setIfInBounds_toArray, List.set_cons_zero, List.set_cons_succ]
              refine wpQ_take (v := ?qv358) (by rfl) (fun wS hS => ?qh358) ?qk358
              case qh358 => obtain ⟨L1, L2, L3, L4, L5, L6⟩ := Fr.same hS; go_simp; try with_reducible rfl
              try simp only [List.getElem_toArray, List.getElem_cons_zero, List.getElem_cons_succ, Act.put, List.setIfInBounds_toArray, List.set_cons_zero, List.set_cons_succ]
              refine wpQ_take (v := ?qv361) (by rfl) (fun wS hS => ?qh361) ?qk361
              case qh361 => obtain ⟨L1, L2, L3, L4, L5, L6⟩ := Fr.same hS; go_simp; try with_reducible rfl
              try simp only [List.getElem_toArray, List.getElem_cons_zero, List.getElem_cons_succ, Act.put, List.setIfInBounds_toArray, List.set_cons_zero, List.set_cons_succ]
              refine wpQ_take (v := ?qv364) (by rfl) (fun wS hS => ?qh364) ?qk364
              case qh364 => obtain ⟨L1, L2, L3, L4, L5, L6⟩ := Fr.same hS; go_simp; try with_reducible rfl
              try simp only [List.getElem_toArray, List.getElem_cons_zero, List.getElem_cons_succ, Act.put, List.setIfInBounds_toArray, List.set_cons_zero, List.set_cons_succ]
              refine wpQ_take (v := ?qv367) (by rfl) (fun wS hS => ?qh367) ?qk367
              case qh367 => obtain ⟨L1, L2, L3, L4, L5, L6⟩ := Fr.same hS; go_simp; try with_reducible rfl
              try simp only [List.getElem_toArray, List.getElem_cons_zero, List.getElem_cons_succ, Act.put, List.setIfInBounds_toArray, List.set_cons_zero, List.set_cons_succ]
              refine wpQ_call (by rfl) (fun wS hS => ⟨_, _, ?qh370, Calls.fr hS (C2 _)⟩) ?qk370
              case qh370 => obtain ⟨L1, L2, L3, L4, L5, L6⟩ := Fr.same hS; go_simp; try with_reducible rfl
              try simp only [List.getElem_toArray, List.getElem_cons_zero, List.getElem_cons_succ, Act.put, List.setIfInBounds_toArray, List.set_cons_zero, List.set_cons_succ]
              refine wpQ_take (v := ?qv373) (by rfl) (fun wS hS => ?qh373) ?qk373
              case qh373 => obtain ⟨L1, L2, L3, L4, L5, L6⟩ := Fr.same hS; go_simp; try with_reducible rfl
              try simp only [List.getElem_toArray, List.getElem_cons_zero, List.getElem_cons_succ, Act.put, List.setIfInBounds_toArray, List.set_cons_zero, List.set_cons_succ]
              refine wpQ_take (v := ?qv376) (by rfl) (fun wS hS => ?qh376) ?qk376
              case qh376 => obtain ⟨L1, L2, L3, L4, L5, L6⟩ := Fr.same hS; go_simp; try with_reducible rfl
              try simp only [List.getElem_toArray, List.getElem_cons_zero, List.getElem_cons_succ, Act.put, List.setIfInBounds_toArray, List.set_cons_zero, List.set_cons_succ]
              refine wpQ_take (v := ?qv379) (by rfl) (fun wS hS => ?qh379) ?qk379
              case qh379 => obtain ⟨L1, L2, L3, L4, L5, L6⟩ := Fr.same hS; go_simp; try with_reducible rfl
              try simp only [List.getElem_toArray, List.getElem_cons_zero, List.getElem_cons_succ, Act.put, List.setIfInBounds_toArray, List.set_cons_zero, List.set_cons_succ]
              refine wpQ_take (v := ?qv382) (by rfl) (fun wS hS => ?qh382) ?qk382
              case qh382 => obtain ⟨L1, L2, L3, L4, L5, L6⟩ := Fr.same hS; go_simp; try with_reducible rfl
              try simp only [List.getElem_toArray, List.getElem_cons_zero, List.getElem_cons_succ, Act.put, List.setIfInBounds_toArray, List.set_cons_zero, List.set_cons_succ]
              refine wpQ_take (v := ?qv385) (by rfl) (fun wS hS => ?qh385) ?qk385
              case qh385 => obtain ⟨L1, L2, L3, L4, L5, L6⟩ := Fr.same hS; go_simp; try with_reducible rfl
              try simp only [List.getElem_toArray, List.getElem_cons_zero, List.getElem_cons_succ, Act.put, List.setIfInBounds_toArray, List.set_cons_zero, List.set_cons_succ]
              refine wpQ_take (v := ?qv388) (by rfl) (fun wS hS => ?qh388) ?qk388
              case qh388 => obtain ⟨L1, L2, L3, L4, L5, L6⟩ := Fr.same hS; go_simp; try with_reducible rfl
              try simp only [List.getElem_toArray, List.getElem_cons_zero, List.getElem_cons_succ, Act.put, List.setIfInBounds_toArray, List.set_cons_zero, List.set_cons_succ]
              refine wpQ_take (v := ?qv391) (by rfl) (fun wS hS => ?qh391) ?qk391
              case qh391 => obtain ⟨L1, L2, L3, L4, L5, L6⟩ := Fr.same hS; go_simp; try with_reducible rfl
              try simp only [List.getElem_toArray, List.getElem_cons_zero, List.getElem_cons_succ, Act.put, List.setIfInBounds_toArray, List.set_cons_zero, List.set_cons_succ]
              refine wpQ_take (v := ?qv394) (by rfl) (fun wS hS => ?qh394) ?qk394
              case qh394 => obtain ⟨L1, L2, L3, L4, L5, L6⟩ := Fr.same hS; go_simp; try with_reducible rfl
              try simp only [List.getElem_toArray, List.getElem_cons_zero, List.getElem_cons_succ, Act.put, List.setIfInBounds_toArray, List.set_cons_zero, List.set_cons_succ]
              refine wpQ_take (v := ?qv397) (by rfl) (fun wS hS => ?qh397) ?qk397
              case qh397 => obtain ⟨L1, L2, L3, L4, L5, L6⟩ := Fr.same hS; go_simp; try with_reducible rfl
              try simp only [List.getElem_toArray, List.getElem_cons_zero, List.getElem_cons_succ, Act.put, List.setIfInBounds_toArray, List.set_cons_zero, List.set_cons_succ]
              refine wpQ_take (v := ?qv400) (by rfl) (fun wS hS => ?qh400) ?qk400
              case qh400 => obtain ⟨L1, L2, L3, L4, L5, L6⟩ := Fr.same hS; go_simp; try with_reducible rfl
              try simp only [List.getElem_toArray, List.getElem_cons_zero, List.getElem_cons_succ, Act.put, List.setIfInBounds_toArray, List.set_cons_zero, List.set_cons_succ]
              refine wpQ_take (v := ?qv403) (by rfl) (fun wS hS => ?qh403) ?qk403
              case qh403 => obtain ⟨L1, L2, L3, L4, L5, L6⟩ := Fr.same hS; go_simp; try with_reducible rfl
              try simp only [List.getElem_toArray, List.getElem_cons_zero, List.getElem_cons_succ, Act.put, List.setIfInBounds_toArray, List.set_cons_zero, List.set_cons_succ]
              refine wpQ_take (v := ?qv406) (by rfl) (fun wS hS => ?qh406) ?qk406
              case qh406 => obtain ⟨L1, L2, L3, L4, L5, L6⟩ := Fr.same hS; go_simp; try with_reducible rfl
              try simp only [List.getElem_toArray, List.getElem_cons_zero, List.getElem_cons_succ, Act.put, List.setIfInBounds_toArray, List.set_cons_zero, List.set_cons_succ]
              refine wpQ_take (v := ?qv409) (by rfl) (fun wS hS => ?qh409) ?qk409
              case qh409 => obtain ⟨L1, L2, L3, L4, L5, L6⟩ := Fr.same hS; go_simp; try with_reducible rfl
              try simp only [List.getElem_toArray, List.getElem_cons_zero, List.getElem_cons_succ, Act.put, List.setIfInBounds_toArray, List.set_cons_zero, List.set_cons_succ]
              refine wpQ_call (by rfl) (fun wS hS => ⟨_, _, ?qh412, Calls.fr hS (C3 _)⟩) ?qk412
              case qh412 => obtain ⟨L1, L2, L3, L4, L5, L6⟩ := Fr.same hS; go_simp; try with_reducible rfl
              try simp only [List.getElem_toArray, List.getElem_cons_zero, List.getElem_cons_succ, Act.put, List.setIfInBounds_toArray, List.set_cons_zero, List.set_cons_succ]
              refine wpQ_take (v := ?qv415) (by rfl) (fun wS hS => ?qh415) ?qk415
              case qh415 => obtain ⟨L1, L2, L3, L4, L5, L6⟩ := Fr.same hS; go_simp; try with_reducible rfl
              try simp only [List.getElem_toArray, List.getElem_cons_zero, List.getElem_cons_succ, Act.put, List.setIfInBounds_toArray, List.set_cons_zero, List.set_cons_succ]
              refine wpQ_take (v := ?qv418) (by rfl) (fun wS hS => ?qh418) ?qk418
              case qh418 => obtain ⟨L1, L2, L3, L4, L5, L6⟩ := Fr.same hS; go_simp; try with_reducible rfl
              try simp only [List.getElem_toArray, List.getElem_cons_zero, List.getElem_cons_succ, Act.put, List.setIfInBounds_toArray, List.set_cons_zero, List.set_cons_succ]
              refine wpQ_take (v := ?qv421) (by rfl) (fun wS hS => ?qh421) ?qk421
              case qh421 => obtain ⟨L1, L2, L3, L4, L5, L6⟩ := Fr.same hS; go_simp; try with_reducible rfl
              try simp only [List.getElem_toArray, List.getElem_cons_zero, List.getElem_cons_succ, Act.put, List.setIfInBounds_toArray, List.set_cons_zero, List.set_cons_succ]
              refine wpQ_nil ?_
              intro w1 f1
              go_wp2_with fail
              go_roundg (ov.length - (k + 1))
              case measure => omega
              case rel => exact ⟨k + 1, by simp, rfl, by omega, fA.step0 f1, G1.out, G2.out⟩
            · have hpc1 : (0 : Int) ≤ cmpS p x := by omega
              have E0 := BB2.out hpc
              clear GP hqe hk0
              have E := Lib.hid E0
              clear E0
              refine wp_region_fr (by kernel_rfl) (by kernel_rfl) ?_
              refine wpQ_take (v := ?qv436) (by rfl) (fun wS hS => ?qh436) ?qk436
              case qh436 => obtain ⟨L1, L2, L3, L4, L5, L6⟩ := Fr.same hS; go_simp; try with_reducible rfl
              try simp only [List.getElem_toArray, List.getElem_cons_zero, List.getElem_cons_succ, Act.put, List.setIfInBounds_toArray, List.set_cons_zero, List.set_cons_succ]
              refine wpQ_call (by rfl) (fun wS hS => ⟨_, _, ?qh439, Calls.fr hS (C1 _)⟩) ?qk439
              case qh439 => obtain ⟨L1, L2, L3, L4, L5, L6⟩ := Fr.same hS; go_simp; try with_reducible rfl
              try simp only [List.getElem_toArray, List.getElem_cons_zero, List.getElem_cons_succ, Act.put, List.setIfInBounds_toArray, List.set_cons_zero, List.set_cons_succ]
              refine wpQ_take (v := ?qv442) (by rfl) (fun wS hS => ?qh442) ?qk442
              case qh442 => obtain ⟨L1, L2, L3, L4, L5, L6⟩ := Fr.same hS; go_simp; try with_reducible rfl
              try simp only [List.getElem_toArray, List.getElem_cons_zero, List.getElem_cons_succ, Act.put, List.setIfInBounds_toArray, List.set_cons_zero, List.set_cons_succ]
              refine wpQ_take (v := ?qv445) (by rfl) (fun wS hS => ?qh445) ?qk445
              case qh445 => obtain ⟨L1, L2, L3, L4, L5, L6⟩ := Fr.same hS; go_simp; try with_reducible rfl
              try simp only [List.getElem_toArray, List.getElem_cons_zero, List.getElem_cons_succ, Act.put, List.setIfInBounds_toArray, List.set_cons_zero, List.set_cons_succ]
              refine wpQ_take (v := ?qv448) (by rfl) (fun wS hS => ?qh448) ?qk448
              case qh448 => obtain ⟨L1, L2, L3, L4, L5, L6⟩ := Fr.same hS; go_simp; try with_reducible rfl
              try simp only [List.getElem_toArray, List.getElem_cons_zero, List.getElem_cons_succ, Act.put, List.setIfInBounds_toArray, List.set_cons_zero, List.set_cons_succ]
              refine wpQ_take (v := ?qv451) (by rfl) (fun wS hS => ?qh451) ?qk451
              case qh451 => obtain ⟨L1, L2, L3, L4, L5, L6⟩ := Fr.same hS; go_simp; try with_reducible rfl
              try simp only [List.getElem_toArray, List.getElem_cons_zero, List.getElem_cons_succ, Act.put, List.setIfInBounds_toArray, List.set_cons_zero, List.set_cons_succ]
              refine wpQ_take (v := ?qv454) (by rfl) (fun wS hS => ?qh454) ?qk454
              case qh454 => obtain ⟨L1, L2, L3, L4, L5, L6⟩ := Fr.same hS; go_simp; try with_reducible rfl
              try simp only [List.getElem_toArray, List.getElem_cons_zero, List.getElem_cons_succ, Act.put, List.setIfInBounds_toArray, List.set_cons_zero, List.set_cons_succ]
              refine wpQ_call (by rfl) (fun wS hS => ⟨_, _, ?qh457, Calls.fr hS (C2 _)⟩) ?qk457
              case qh457 => obtain ⟨L1, L2, L3, L4, L5, L6⟩ := Fr.same hS; go_simp; try with_reducible rfl
              try simp only [List.getElem_toArray, List.getElem_cons_zero, List.getElem_cons_succ, Act.put, List.setIfInBounds_toArray, List.set_cons_zero, List.set_cons_succ]
              refine wpQ_take (v := ?qv460) (by rfl) (fun wS hS => ?qh460) ?qk460
              case qh460 => obtain ⟨L1, L2, L3, L4, L5, L6⟩ := Fr.same hS; go_simp; try with_reducible rfl
              try simp only [List.getElem_toArray, List.getElem_cons_zero, List.getElem_cons_succ, Act.put, List.setIfInBounds_toArray, List.set_cons_zero, List.set_cons_succ]
              refine wpQ_take (v := ?qv463) (by rfl) (fun wS hS => ?qh463) ?qk463
              case qh463 => obtain ⟨L1, L2, L3, L4, L5, L6⟩ := Fr.same hS; go_simp; try with_reducible rfl
              try simp only [List.getElem_toArray, List.getElem_cons_zero, List.getElem_cons_succ, Act.put, List.setIfInBounds_toArray, List.set_cons_zero, List.set_cons_succ]
              refine wpQ_take (v := ?qv466) (by rfl) (fun wS hS => ?qh466) ?qk466
              case qh466 => obtain ⟨L1, L2, L3, L4, L5, L6⟩ := Fr.same hS; go_simp; try with_reducible rfl
              try simp only [List.getElem_toArray, List.getElem_cons_zero, List.getElem_cons_succ, Act.put, List.setIfInBounds_toArray, List.set_cons_zero, List.set_cons_succ]
              refine wpQ_take (v := ?qv469) (by rfl) (fun wS hS => ?qh469) ?qk469
              case qh469 => obtain ⟨L1, L2, L3, L4, L5, L6⟩ := Fr.same hS; go_simp; try with_reducible rfl
              try simp only [List.getElem_toArray, List.getElem_cons_zero, List.getElem_cons_succ, Act.put, List.setIfInBounds_toArray, List.set_cons_zero, List.set_cons_succ]
              refine wpQ_take (v := ?qv472) (by rfl) (fun wS hS => ?qh472) ?qk472
              case qh472 => obtain ⟨L1, L2, L3, L4, L5, L6⟩ := Fr.same hS; go_simp; try with_reducible rfl
              try simp only [List.getElem_toArray, List.getElem_cons_zero, List.getElem_cons_succ, Act.put, List.setIfInBounds_toArray, List.set_cons_zero, List.set_cons_succ]
              refine wpQ_take (v := ?qv475) (by rfl) (fun wS hS => ?qh475) ?qk475
              case qh475 => obtain ⟨L1, L2, L3, L4, L5, L6⟩ := Fr.same hS; go_simp; try with_reducible rfl
              try simp only [List.getElem_toArray, List.getElem_cons_zero, List.getElem_cons_succ, Act.put, List.setIfInBounds_toArray, List.set_cons_zero, List.set_cons_succ]
              refine wpQ_take (v := ?qv478) (by rfl) (fun wS hS => ?qh478) ?qk478
              case qh478 => obtain ⟨L1, L2, L3, L4, L5, L6⟩ := Fr.same hS; go_simp; try with_reducible rfl
              try simp only [List.getElem_toArray, List.getElem_cons_zero, List.getElem_cons_succ, Act.put, List.setIfInBounds_toArray, List.set_cons_zero, List.set_cons_succ]
              refine wpQ_take (v := ?qv481) (by rfl) (fun wS hS => ?qh481) ?qk481
              case qh481 => obtain ⟨L1, L2, L3, L4, L5, L6⟩ := Fr.same hS; go_simp; try with_reducible rfl
              try simp only [List.getElem_toArray, List.getElem_cons_zero, List.getElem_cons_succ, Act.put, List.setIfInBounds_toArray, List.set_cons_zero, List.set_cons_succ]
              refine wpQ_take (v := ?qv484) (by rfl) (fun wS hS => ?qh484) ?qk484
              case qh484 => obtain ⟨L1, L2, L3, L4, L5, L6⟩ := Fr.same hS; go_simp; try with_reducible rfl
              try simp only [List.getElem_toArray, List.getElem_cons_zero, List.getElem_cons_succ, Act.put, List.setIfInBounds_toArray, List.set_cons_zero, List.set_cons_succ]
              refine wpQ_take (v := ?qv487) (by rfl) (fun wS hS => ?qh487) ?qk487
              case qh487 => obtain ⟨L1, L2, L3, L4, L5, L6⟩ := Fr.same hS; go_simp; try with_reducible rfl
              try simp only [List.getElem_toArray, List.getElem_cons_zero, List.getElem_cons_succ, Act.put, List.setIfInBounds_toArray, List.set_cons_zero, List.set_cons_succ]
              refine wpQ_take (v := ?qv490) (by rfl) (fun wS hS => ?qh490) ?qk490
              case qh490 => obtain ⟨L1, L2, L3, L4, L5, L6⟩ := Fr.same hS; go_simp; try with_reducible rfl
              try simp only [List.getElem_toArray, List.getElem_cons_zero, List.getElem_cons_succ, Act.put, List.setIfInBounds_toArray, List.set_cons_zero, List.set_cons_succ]
              refine wpQ_take (v := ?qv493) (by rfl) (fun wS hS => ?qh493) ?qk493
              case qh493 => obtain ⟨L1, L2, L3, L4, L5, L6⟩ := Fr.same hS; go_simp; try with_reducible rfl
              try simp only [List.getElem_toArray, List.getElem_cons_zero, List.getElem_cons_succ, Act.put, List.setIfInBounds_toArray, List.set_cons_zero, List.set_cons_succ]
              refine wpQ_take (v := ?qv496) (by rfl) (fun wS hS => ?qh496) ?qk496
              case qh496 => obtain ⟨L1, L2, L3, L4, L5, L6⟩ := Fr.same hS; go_simp; try with_reducible rfl
              try simp only [List.getElem_toArray, List.getElem_cons_zero, List.getElem_cons_succ, Act.put, List.setIfInBounds_toArray, List.set_cons_zero, List.set_cons_succ]
              refine wpQ_call (by rfl) (fun wS hS => ⟨_, _, ?qh499, Calls.fr hS (C3 _)⟩) ?qk499
              case qh499 => obtain ⟨L1, L2, L3, L4, L5, L6⟩ := Fr.same hS; go_simp; try with_reducible rfl
              try simp only [List.getElem_toArray, List.getElem_cons_zero, List.getElem_cons_succ, Act.put, List.setIfInBounds_toArray, List.set_cons_zero, List.set_cons_succ]
              refine wpQ_take (v := ?qv502) (by rfl) (fun wS hS => ?qh502) ?qk502
              case qh502 => obtain ⟨L1, L2, L3, L4, L5, L6⟩ := Fr.same hS; go_simp; try with_reducible rfl
              try simp only [List.getElem_toArray, List.getElem_cons_zero, List.getElem_cons_succ, Act.put, List.setIfInBounds_toArray, List.set_cons_zero, List.set_cons_succ]
              refine wpQ_take (v := ?qv505) (by rfl) (fun wS hS => ?qh505) ?qk505
              case qh505 => obtain ⟨L1, L2, L3, L4, L5, L6⟩ := Fr.same hS; go_simp; try with_reducible rfl
              try simp only [List.getElem_toArray, List.getElem_cons_zero, List.getElem_cons_succ, Act.put, List.setIfInBounds_toArray, List.set_cons_zero, List.set_cons_succ]
              refine wpQ_take (v := ?qv508) (by rfl) (fun wS hS => ?qh508) ?qk508
              case qh508 => obtain ⟨L1, L2, L3, L4, L5, L6⟩ := Fr.same hS; go_simp; try with_reducible rfl
              try simp only [List.getElem_toArray, List.getElem_cons_zero, List.getElem_cons_succ, Act.put, List.setIfInBounds_toArray, List.set_cons_zero, List.set_cons_succ]
              refine wpQ_nil ?_
              intro w1 f1
              go_wp2_with fail
              go_ret
              exact ⟨by rw [E.out]; rfl, (f0.step0 fA).step0 f1⟩
        · have hc1 : (0 : Int) ≤ cmpS x r.At := by omega
          have E0 := BAD1.out (by rw [HPX.out]; simp [hc])
          have E := Lib.hid E0
          clear E0
          refine wp_region_fr (by kernel_rfl) (by kernel_rfl) ?_
          refine wpQ_take (v := ?qv521) (by rfl) (fun wS hS => ?qh521) ?qk521
          case qh521 => obtain ⟨L1, L2, L3, L4, L5, L6⟩ := Fr.same hS; go_simp; try with_reducible rfl
          try simp only [List.getElem_toArray, List.getElem_cons_zero, List.getElem_cons_succ, Act.put, List.setIfInBounds_toArray, List.set_cons_zero, List.set_cons_succ]
          refine wpQ_call (by rfl) (fun wS hS => ⟨_, _, ?qh524, Calls.fr hS (C1 _)⟩) ?qk524
          case qh524 => obtain ⟨L1, L2, L3, L4, L5, L6⟩ := Fr.same hS; go_simp; try with_reducible rfl
          try simp only [List.getElem_toArray, List.getElem_cons_zero, List.getElem_cons_succ, Act.put, List.setIfInBounds_toArray, List.set_cons_zero, List.set_cons_succ]
          refine wpQ_take (v := ?qv527) (by rfl) (fun wS hS => ?qh527) ?qk527
          case qh527 => obtain ⟨L1, L2, L3, L4, L5, L6⟩ := Fr.same hS; go_simp; try with_reducible rfl
          try simp only [List.getElem_toArray, List.getElem_cons_zero, List.getElem_cons_succ, Act.put, List.setIfInBounds_toArray, List.set_cons_zero, List.set_cons_succ]
          refine wpQ_take (v := ?qv530) (by rfl) (fun wS hS => ?qh530) ?qk530
          case qh530 => obtain ⟨L1, L2, L3, L4, L5, L6⟩ := Fr.same hS; go_simp; try with_reducible rfl
          try simp only [List.getElem_toArray, List.getElem_cons_zero, List.getElem_cons_succ, Act.put, List.setIfInBounds_toArray, List.set_cons_zero, List.set_cons_succ]
          refine wpQ_take (v := ?qv533) (by rfl) (fun wS hS => ?qh533) ?qk533
          case qh533 => obtain ⟨L1, L2, L3, L4, L5, L6⟩ := Fr.same hS; go_simp; try with_reducible rfl
          try simp only [List.getElem_toArray, List.getElem_cons_zero, List.getElem_cons_succ, Act.put, List.setIfInBounds_toArray, List.set_cons_zero, List.set_cons_succ]
          refine wpQ_take (v := ?qv536) (by rfl) (fun wS hS => ?qh536) ?qk536
          case qh536 => obtain ⟨L1, L2, L3, L4, L5, L6⟩ := Fr.same hS; go_simp; try with_reducible rfl
          try simp only [List.getElem_toArray, List.getElem_cons_zero, List.getElem_cons_succ, Act.put, List.setIfInBounds_toArray, List.set_cons_zero, List.set_cons_succ]
          refine wpQ_take (v := ?qv539) (by rfl) (fun wS hS => ?qh539) ?qk539
          case qh539 => obtain ⟨L1, L2, L3, L4, L5, L6⟩ := Fr.same hS; go_simp; try with_reducible rfl
          try simp only [List.getElem_toArray, List.getElem_cons_zero, List.getElem_cons_succ, Act.put, List.setIfInBounds_toArray, List.set_cons_zero, List.set_cons_succ]
          refine wpQ_call (by rfl) (fun wS hS => ⟨_, _, ?qh542, Calls.fr hS (C2 _)⟩) ?qk542
          case qh542 => obtain ⟨L1, L2, L3, L4, L5, L6⟩ := Fr.same hS; go_simp; try with_reducible rfl
          try simp only [List.getElem_toArray, List.getElem_cons_zero, List.getElem_cons_succ, Act.put, List.setIfInBounds_toArray, List.set_cons_zero, List.set_cons_succ]
          refine wpQ_take (v := ?qv545) (by rfl) (fun wS hS => ?qh545) ?qk545
          case qh545 => obtain ⟨L1, L2, L3, L4, L5, L6⟩ := Fr.same hS; go_simp; try with_reducible rfl
          try simp only [List.getElem_toArray, List.getElem_cons_zero, List.getElem_cons_succ, Act.put, List.setIfInBounds_toArray, List.set_cons_zero, List.set_cons_succ]
          refine wpQ_take (v := ?qv548) (by rfl) (fun wS hS => ?qh548) ?qk548
          case qh548 => obtain ⟨L1, L2, L3, L4, L5, L6⟩ := Fr.same hS; go_simp; try with_reducible rfl
          try simp only [List.getElem_toArray, List.getElem_cons_zero, List.getElem_cons_succ, Act.put, List.setIfInBounds_toArray, List.set_cons_zero, List.set_cons_succ]
          refine wpQ_take (v := ?qv551) (by rfl) (fun wS hS => ?qh551) ?qk551
          case qh551 => obtain ⟨L1, L2, L3, L4, L5, L6⟩ := Fr.same hS; go_simp; try with_reducible rfl
          try simp only [List.getElem_toArray, List.getElem_cons_zero, List.getElem_cons_succ, Act.put, List.setIfInBounds_toArray, List.set_cons_zero, List.set_cons_succ]
          refine wpQ_off (by rfl) ?_
          try simp only [List.getElem_toArray, List.getElem_cons_zero, List.getElem_cons_succ, Act.put, List.setIfInBounds_toArray, List.set_cons_zero, List.set_cons_succ]
          refine wpQ_off (by rfl) ?_
          try simp only [List.getElem_toArray, List.getElem_cons_zero, List.getElem_cons_succ, Act.put, List.setIfInBounds_toArray, List.set_cons_zero, List.set_cons_succ]
          refine wpQ_off (by rfl) ?_
          try simp only [List.getElem_toArray, List.getElem_cons_zero, List.getElem_cons_succ, Act.put, List.setIfInBounds_toArray, List.set_cons_zero, List.set_cons_succ]
          refine wpQ_off (by rfl) ?_
          try simp only [List.getElem_toArray, List.getElem_cons_zero, List.getElem_cons_succ, Act.put, List.setIfInBounds_toArray, List.set_cons_zero, List.set_cons_succ]
          refine wpQ_off (by rfl) ?_
          try simp only [List.getElem_toArray, List.getElem_cons_zero, List.getElem_cons_succ, Act.put, List.setIfInBounds_toArray, List.set_cons_zero, List.set_cons_succ]
          refine wpQ_off (by rfl) ?_
          try simp only [List.getElem_toArray, List.getElem_cons_zero, List.getElem_cons_succ, Act.put, List.setIfInBounds_toArray, List.set_cons_zero, List.set_cons_succ]
          refine wpQ_off (by rfl) ?_
          try simp only [List.getElem_toArray, List.getElem_cons_zero, List.getElem_cons_succ, Act.put, List.setIfInBounds_toArray, List.set_cons_zero, List.set_cons_succ]
          refine wpQ_off (by rfl) ?_
          try simp only [List.getElem_toArray, List.getElem_cons_zero, List.getElem_cons_succ, Act.put, List.setIfInBounds_toArray, List.set_cons_zero, List.set_cons_succ]
          refine wpQ_off (by rfl) ?_
          try simp only [List.getElem_toArray, List.getElem_cons_zero, List.getElem_cons_succ, Act.put, List.setIfInBounds_toArray, List.set_cons_zero, List.set_cons_succ]
          refine wpQ_off (by rfl) ?_
          try simp only [List.getElem_toArray, List.getElem_cons_zero, List.getElem_cons_succ, Act.put, List.setIfInBounds_toArray, List.set_cons_zero, List.set_cons_succ]
          refine wpQ_off (by rfl) ?_
          try simp only [List.getElem_toArray, List.getElem_cons_zero, List.getElem_cons_succ, Act.put, List.setIfInBounds_toArray, List.set_cons_zero, List.set_cons_succ]
          refine wpQ_off (by rfl) ?_
          try simp only [List.getElem_toArray, List.getElem_cons_zero, List.getElem_cons_succ, Act.put, List.setIfInBounds_toArray, List.set_cons_zero, List.set_cons_succ]
          refine wpQ_off (by rfl) ?_
          try simp only [List.getElem_toArray, List.getElem_cons_zero, List.getElem_cons_succ, Act.put, List.setIfInBounds_toArray, List.set_cons_zero, List.set_cons_succ]
          refine wpQ_take (v := ?qv580) (by rfl) (fun wS hS => ?qh580) ?qk580
          case qh580 => obtain ⟨L1, L2, L3, L4, L5, L6⟩ := Fr.same hS; go_simp; try with_reducible rfl
          try simp only [List.getElem_toArray, List.getElem_cons_zero, List.getElem_cons_succ, Act.put, List.setIfInBounds_toArray, List.set_cons_zero, List.set_cons_succ]
          refine wpQ_nil ?_
          intro w1 f1
          go_wp2_with fail
          go_ret
          exact ⟨by rw [E.out]; rfl, (f0.step0 fA).step0 f1⟩
      · have hr' : rightS x = false := by simpa using hr
        have C1 : ∀ w, Calls Tryz.prog 99 #[.agg (codS.A x)] w (Gives w (.bool false)) := fun w => Gives.val (right_v w x) (by rw [hr'])
        have E0 := BAD1.out (by rw [HPX.out]; simp [hr'])
        clear hr
        have E := Lib.hid E0
        clear E0
        refine wp_region_fr (by kernel_rfl) (by kernel_rfl) ?_
        refine wpQ_take (v := ?qv595) (by rfl) (fun wS hS => ?qh595) ?qk595
        case qh595 => obtain ⟨L1, L2, L3, L4, L5, L6⟩ := Fr.same hS; go_simp; try with_reducible rfl
        try simp only [List.getElem_toArray, List.getElem_cons_zero, List.getElem_cons_succ, Act.put, List.setIfInBounds_toArray, List.set_cons_zero, List.set_cons_succ]
        refine wpQ_call (by rfl) (fun wS hS => ⟨_, _, ?qh598, Calls.fr hS (C1 _)⟩) ?qk598
        case qh598 => obtain ⟨L1, L2, L3, L4, L5, L6⟩ := Fr.same hS; go_simp; try with_reducible rfl
        try simp only [List.getElem_toArray, List.getElem_cons_zero, List.getElem_cons_succ, Act.put, List.setIfInBounds_toArray, List.set_cons_zero, List.set_cons_succ]
        refine wpQ_take (v := ?qv601) (by rfl) (fun wS hS => ?qh601) ?qk601
        case qh601 => obtain ⟨L1, L2, L3, L4, L5, L6⟩ := Fr.same hS; go_simp; try with_reducible rfl
        try simp only [List.getElem_toArray, List.getElem_cons_zero, List.getElem_cons_succ, Act.put, List.setIfInBounds_toArray, List.set_cons_zero, List.set_cons_succ]
        refine wpQ_take (v := ?qv604) (by rfl) (fun wS hS => ?qh604) ?qk604
        case qh604 => obtain ⟨L1, L2, L3, L4, L5, L6⟩ := Fr.same hS; go_simp; try with_reducible rfl
        try simp only [List.getElem_toArray, List.getElem_cons_zero, List.getElem_cons_succ, Act.put, List.setIfInBounds_toArray, List.set_cons_zero, List.set_cons_succ]
        refine wpQ_off (by rfl) ?_
        try simp only [List.getElem_toArray, List.getElem_cons_zero, List.getElem_cons_succ, Act.put, List.setIfInBounds_toArray, List.set_cons_zero, List.set_cons_succ]
        refine wpQ_off (by rfl) ?_
        try simp only [List.getElem_toArray, List.getElem_cons_zero, List.getElem_cons_succ, Act.put, List.setIfInBounds_toArray, List.set_cons_zero, List.set_cons_succ]
        refine wpQ_off (by rfl) ?_
        try simp only [List.getElem_toArray, List.getElem_cons_zero, List.getElem_cons_succ, Act.put, List.setIfInBounds_toArray, List.set_cons_zero, List.set_cons_succ]
        refine wpQ_off (by rfl) ?_
        try simp only [List.getElem_toArray, List.getElem_cons_zero, List.getElem_cons_succ, Act.put, List.setIfInBounds_toArray, List.set_cons_zero, List.set_cons_succ]
        refine wpQ_off (by rfl) ?_
        try simp only [List.getElem_toArray, List.getElem_cons_zero, List.getElem_cons_succ, Act.put, List.setIfInBounds_toArray, List.set_cons_zero, List.set_cons_succ]
        refine wpQ_take (v := ?qv617) (by rfl) (fun wS hS => ?qh617) ?qk617
        case qh617 => obtain ⟨L1, L2, L3, L4, L5, L6⟩ := Fr.same hS; go_simp; try with_reducible rfl
        try simp only [List.getElem_toArray, List.getElem_cons_zero, List.getElem_cons_succ, Act.put, List.setIfInBounds_toArray, List.set_cons_zero, List.set_cons_succ]
        refine wpQ_take (v := ?qv620) (by rfl) (fun wS hS => ?qh620) ?qk620
        case qh620 => obtain ⟨L1, L2, L3, L4, L5, L6⟩ := Fr.same hS; go_simp; try with_reducible rfl
        try simp only [List.getElem_toArray, List.getElem_cons_zero, List.getElem_cons_succ, Act.put, List.setIfInBounds_toArray, List.set_cons_zero, List.set_cons_succ]
        refine wpQ_off (by rfl) ?_
        try simp only [List.getElem_toArray, List.getElem_cons_zero, List.getElem_cons_succ, Act.put, List.setIfInBounds_toArray, List.set_cons_zero, List.set_cons_succ]
        refine wpQ_off (by rfl) ?_
        try simp only [List.getElem_toArray, List.getElem_cons_zero, List.getElem_cons_succ, Act.put, List.setIfInBounds_toArray, List.set_cons_zero, List.set_cons_succ]
        refine wpQ_off (by rfl) ?_
        try simp only [List.getElem_toArray, List.getElem_cons_zero, List.getElem_cons_succ, Act.put, List.setIfInBounds_toArray, List.set_cons_zero, List.set_cons_succ]
        refine wpQ_off (by rfl) ?_
        try simp only [List.getElem_toArray, List.getElem_cons_zero, List.getElem_cons_succ, Act.put, List.setIfInBounds_toArray, List.set_cons_zero, List.set_cons_succ]
        refine wpQ_off (by rfl) ?_
        try simp only [List.getElem_toArray, List.getElem_cons_zero, List.getElem_cons_succ, Act.put, List.setIfInBounds_toArray, List.set_cons_zero, List.set_cons_succ]
        refine wpQ_off (by rfl) ?_
        try simp only [List.getElem_toArray, List.getElem_cons_zero, List.getElem_cons_succ, Act.put, List.setIfInBounds_toArray, List.set_cons_zero, List.set_cons_succ]
        refine wpQ_off (by rfl) ?_
        try simp only [List.getElem_toArray, List.getElem_cons_zero, List.getElem_cons_succ, Act.put, List.setIfInBounds_toArray, List.set_cons_zero, List.set_cons_succ]
        refine wpQ_off (by rfl) ?_
        try simp only [List.getElem_toArray, List.getElem_cons_zero, List.getElem_cons_succ, Act.put, List.setIfInBounds_toArray, List.set_cons_zero, List.set_cons_succ]
        refine wpQ_off (by rfl) ?_
        try simp only [List.getElem_toArray, List.getElem_cons_zero, List.getElem_cons_succ, Act.put, List.setIfInBounds_toArray, List.set_cons_zero, List.set_cons_succ]
        refine wpQ_off (by rfl) ?_
        try simp only [List.getElem_toArray, List.getElem_cons_zero, List.getElem_cons_succ, Act.put, List.setIfInBounds_toArray, List.set_cons_zero, List.set_cons_succ]
        refine wpQ_off (by rfl) ?_
        try simp only [List.getElem_toArray, List.getElem_cons_zero, List.getElem_cons_succ, Act.put, List.setIfInBounds_toArray, List.set_cons_zero, List.set_cons_succ]
        refine wpQ_off (by rfl) ?_
        try simp only [List.getElem_toArray, List.getElem_cons_zero, List.getElem_cons_succ, Act.put, List.setIfInBounds_toArray, List.set_cons_zero, List.set_cons_succ]
        refine wpQ_off (by rfl) ?_
        try simp only [List.getElem_toArray, List.getElem_cons_zero, List.getElem_cons_succ, Act.put, List.setIfInBounds_toArray, List.set_cons_zero, List.set_cons_succ]
        refine wpQ_take (v := ?qv649) (by rfl) (fun wS hS => ?qh649) ?qk649
        case qh649 => obtain ⟨L1, L2, L3, L4, L5, L6⟩ := Fr.same hS; go_simp; try with_reducible rfl
        try simp only [List.getElem_toArray, List.getElem_cons_zero, List.getElem_cons_succ, Act.put, List.setIfInBounds_toArray, List.set_cons_zero, List.set_cons_succ]
        refine wpQ_nil ?_
        intro w1 f1
        go_wp2_with fail
        go_ret
        exact ⟨by rw [E.out]; rfl, (f0.step0 fA).step0 f1⟩
    · have hkl : k = ov.length := by omega
      subst hkl
      have e : editOk (opOf r ov) = true := by
        have h1 := HA.out
        have h2 := HRI.out
        rw [List.take_length] at h1 h2
        rw [HM2.out, h1, h2]; rfl
      have E := Lib.hid e
      clear e hlt
      go_wp2_with fail
      go_ret
      exact ⟨by rw [E.out]; rfl, f0.step0 hf⟩
end Go.Proofs.YtejkfekpgbmdiaaGreat
