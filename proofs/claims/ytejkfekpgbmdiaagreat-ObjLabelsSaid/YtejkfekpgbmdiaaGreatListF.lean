/- Contract: stamp.Good. Contracts: slices.IndexFunc, slices.ContainsFunc, obj.rise with closures. -/
import Derived.Test.YtejkfekpgbmdiaaGreatStE
namespace Go.Proofs.YtejkfekpgbmdiaaGreat
open Go.RowKit
set_option linter.unusedVariables false
set_option linter.unusedSimpArgs false

/-- an operation as it lies in memory, with its row -/
structure OpIn (w : World) (r : OpW) (o : Opn) : Prop where
  eq : o = opOf r o.Over
  len : o.Over.length = r.n
  sl : Sl w r.A (codS.row o.Over)
  bd : o.Over.length ≤ 140737488355328
  nm : r.Name.length ≤ 140737488355328
theorem OpIn.fr {w w' : World} {r : OpW} {o : Opn} (h : OpIn w r o) (f : Fr noB w w') : OpIn w' r o := ⟨h.eq, h.len, h.sl.fr0 f, h.bd, h.nm⟩
set_option maxRecDepth 100000 in
set_option maxHeartbeats 2000000 in
theorem sgood_any (w : World) (r : OpW) (o : Opn) (h : OpIn w r o) : Calls Tryz.prog 96 #[.agg (codO.A r)] w (Gives w (.bool (goodOp o))) := by
  obtain ⟨he, hlen, hs, hbd, hnm⟩ := h
  generalize o.Over = ov at he hlen hs hbd
  subst he
  have f0 : Fr noB w (w.alloc (.cells (codO.A r) 72)) := (Fr.refl noB w).alloc _
  obtain ⟨q1, q2, q3, q4, q5, q6, q7, q8, q9, q10⟩ := opAt (Cod.rd_new w 72 r)
  have hP : w.heap.size < (w.alloc (.cells (codO.A r) 72)).heap.size := by simp
  have hM : goodOp (opOf r ov) = (rightS r.At && rightS r.Node && (if r.Kind = 1 then moveOk (opOf r ov) else if r.Kind = 2 then editOk (opOf r ov) else false)) := rfl
  have HM := Lib.hid hM
  have HL := Lib.hid hlen
  replace hs := hs.fr0 f0
  clear hM hlen q2 q3 q6 q7 q8 q9
  go_enter Tryz.func96, Tryz.ntmps96
  go_upto_region 1 with fail
  generalize w.alloc (.cells (codO.A r) 72) = W0 at f0 hs q1 q4 q5 q10 hP ⊢
  generalize w.heap.size = P at q1 q4 q5 q10 hP ⊢
  have f1 : Fr noB W0 W0 := Fr.refl _ _
  obtain ⟨L1, L2, L3, L4, L5, L6⟩ := f1.same
  go_wp2_with (first
    | (go_at_call 99; refine (right_v _ _).mono ?_; rintro e w2 ⟨rfl, f2⟩; replace f1 := f1.step0 f2; clear L1 L2 L3 L4 L5 L6; obtain ⟨L1, L2, L3, L4, L5, L6⟩ := f1.same)
    | (go_at_call 127; refine (move_any _ r hnm ov HL.out).mono ?_; rintro e w2 ⟨rfl, f2⟩; replace f1 := f1.step0 f2; clear L1 L2 L3 L4 L5 L6; obtain ⟨L1, L2, L3, L4, L5, L6⟩ := f1.same)
    | (go_at_call 128; refine (edit_any _ r ov HL.out (hs.fr0 f1) hbd).mono ?_; rintro e w2 ⟨rfl, f2⟩; replace f1 := f1.step0 f2; clear L1 L2 L3 L4 L5 L6; obtain ⟨L1, L2, L3, L4, L5, L6⟩ := f1.same))
  all_goals clear L1 L2 L3 L4 L5 L6 q1 q4 q5 q10 hP
  all_goals
    go_ret
    refine ⟨?_, f0.step0 f1⟩
    rw [HM.out]
    first
    | (simp [*]; done)
    | (simp_all; done)
end Go.Proofs.YtejkfekpgbmdiaaGreat
namespace Go.Proofs.YtejkfekpgbmdiaaGreat
open Go.RowKit
set_option linter.unusedVariables false
set_option linter.unusedSimpArgs false

def IxR (W : World) (n : Nat) (p : Nat → Bool) (gk : Nat) (iv : Value) (wr : World) : Prop := ∃ k : Nat, iv = .int .i64 (k : Int) ∧ gk = n - k ∧ k ≤ n ∧ (∀ j, j < k → p j = false) ∧ Fr noB W wr
theorem any_hit {n : Nat} {p : Nat → Bool} {k : Nat} (hk : k < n) (h : p k = true) : (List.range n).any p = true := List.any_eq_true.2 ⟨k, List.mem_range.2 hk, h⟩
theorem any_none {n : Nat} {p : Nat → Bool} (h : ∀ j, j < n → p j = false) : (List.range n).any p = false := by
  rw [← Bool.not_eq_true]
  intro ha
  obtain ⟨k, hk, hp⟩ := List.any_eq_true.1 ha
  rw [h k (List.mem_range.1 hk)] at hp; cases hp
/-- an index that was found, or -1 -/
def IxTo (w : World) (b : Bool) (e : Ending) (w' : World) : Prop := ∃ z : Int, e = .returned (.int .i64 z) ∧ decide (0 ≤ z) = b ∧ Fr noB w w'
set_option maxRecDepth 100000 in
set_option maxHeartbeats 1000000 in
theorem opIndexF_any (w : World) (A : Option Addr) (c n : Nat) (l : List OpW) (hn : l.length = n) (hs : Sl w A (codO.row l)) (hb : l.length ≤ 140737488355328) (cp : Value) (p : Nat → Bool)
    (hf : ∀ w', Fr noB w w' → ∀ i (hi : i < l.length), Calls Tryz.prog 101 #[.agg (codO.A l[i]), cp] w' (Gives w' (.bool (p i)))) :
    Calls Tryz.prog 130 #[.slice A n c, .func (.func 101) #[] #[cp]] w (IxTo w ((List.range l.length).any p)) := by
  subst hn
  go_enter Tryz.func130, Tryz.ntmps130
  go_wp2_with fail
  go_loopg [8] l.length (fun gk iv wr => IxR w l.length p gk iv wr)
  case atStart => exact ⟨0, rfl, by omega, by omega, fun j hj => absurd hj (by omega), Fr.refl _ _⟩
  case round =>
    obtain ⟨k, rfl, rfl, hk, hj, hf0⟩ := hrel
    have HJ := Lib.hid hj
    clear hj
    by_cases hlt : k < l.length
    · have i1 : (k : Int) < (l.length : Int) := by omega
      have i0 : (0 : Int) ≤ (k : Int) := by omega
      obtain ⟨g, off, rfl, hg⟩ := hs.adC (by omega)
      have e1 : codO.rd wr g (off + k * 41) = some l[k] := (hs.fr0 hf0).rd k hlt
      have hc := hf wr hf0 k hlt
      generalize l[k] = x at e1 hc
      by_cases hp : p k = true
      · rw [hp] at hc
        have HP := Lib.hid (any_hit hlt hp)
        clear hp
        go_wp2_with (go_at_call 101; refine hc.mono ?_; rintro e w1 ⟨rfl, f1⟩)
        go_ret
        exact ⟨k, rfl, by rw [HP.out]; simp, hf0.step0 f1⟩
      · have hp' : p k = false := by simpa using hp
        rw [hp'] at hc
        have HP := Lib.hid hp'
        clear hp hp'
        go_wp2_with (go_at_call 101; refine hc.mono ?_; rintro e w1 ⟨rfl, f1⟩)
        go_roundg (l.length - (k + 1))
        case measure => omega
        case rel => exact ⟨k + 1, by simp, rfl, by omega, fun j hj => by
          rcases Nat.lt_or_ge j k with h | h
          · exact HJ.out j h
          · have : j = k := by omega
            rw [this]; exact HP.out, hf0.step0 f1⟩
    · have hkl : k = l.length := by omega
      subst hkl
      have i1 : ¬ (l.length : Int) < (l.length : Int) := by omega
      have HP := Lib.hid (any_none HJ.out)
      go_wp2_with fail
      go_ret
      exact ⟨-1, rfl, by rw [HP.out]; rfl, hf0⟩
set_option maxRecDepth 100000 in
theorem opContainsF_any (w : World) (A : Option Addr) (c n : Nat) (l : List OpW) (hn : l.length = n) (hs : Sl w A (codO.row l)) (hb : l.length ≤ 140737488355328) (cp : Value) (p : Nat → Bool)
    (hf : ∀ w', Fr noB w w' → ∀ i (hi : i < l.length), Calls Tryz.prog 101 #[.agg (codO.A l[i]), cp] w' (Gives w' (.bool (p i)))) :
    Calls Tryz.prog 100 #[.slice A n c, .func (.func 101) #[] #[cp]] w (Gives w (.bool ((List.range l.length).any p))) := by
  have h := Lib.hid (opIndexF_any w A c n l hn hs hb cp p hf)
  clear hf hs
  subst hn
  generalize (List.range l.length).any p = b at h
  go_enter Tryz.func100, Tryz.ntmps100
  go_wp2_with (go_at_call 130; refine h.out.mono ?_; rintro e w1 ⟨z, rfl, hz, f1⟩)
  go_ret
  exact ⟨by rw [← hz]; rfl, f1⟩
set_option maxRecDepth 100000 in
set_option maxHeartbeats 1000000 in
theorem itIndexF_any (w : World) (A : Option Addr) (c n : Nat) (l : List ItW) (hn : l.length = n) (hs : Sl w A (codT.row l)) (hb : l.length ≤ 140737488355328) (cp : Value) (p : Nat → Bool)
    (hf : ∀ w', Fr noB w w' → ∀ i (hi : i < l.length), Calls Tryz.prog 80 #[.agg (codT.A l[i])] w' (Gives w' (.bool (p i)))) :
    Calls Tryz.prog 110 #[.slice A n c, .func (.func 80) #[] #[]] w (IxTo w ((List.range l.length).any p)) := by
  subst hn
  go_enter Tryz.func110, Tryz.ntmps110
  go_wp2_with fail
  go_loopg [8] l.length (fun gk iv wr => IxR w l.length p gk iv wr)
  case atStart => exact ⟨0, rfl, by omega, by omega, fun j hj => absurd hj (by omega), Fr.refl _ _⟩
  case round =>
    obtain ⟨k, rfl, rfl, hk, hj, hf0⟩ := hrel
    have HJ := Lib.hid hj
    clear hj
    by_cases hlt : k < l.length
    · have i1 : (k : Int) < (l.length : Int) := by omega
      have i0 : (0 : Int) ≤ (k : Int) := by omega
      obtain ⟨g, off, rfl, hg⟩ := hs.adC (by omega)
      have e1 : codT.rd wr g (off + k * 38) = some l[k] := (hs.fr0 hf0).rd k hlt
      have hc := hf wr hf0 k hlt
      generalize l[k] = x at e1 hc
      by_cases hp : p k = true
      · rw [hp] at hc
        have HP := Lib.hid (any_hit hlt hp)
        clear hp
        go_wp2_with (go_at_call 80; refine hc.mono ?_; rintro e w1 ⟨rfl, f1⟩)
        go_ret
        exact ⟨k, rfl, by rw [HP.out]; simp, hf0.step0 f1⟩
      · have hp' : p k = false := by simpa using hp
        rw [hp'] at hc
        have HP := Lib.hid hp'
        clear hp hp'
        go_wp2_with (go_at_call 80; refine hc.mono ?_; rintro e w1 ⟨rfl, f1⟩)
        go_roundg (l.length - (k + 1))
        case measure => omega
        case rel => exact ⟨k + 1, by simp, rfl, by omega, fun j hj => by
          rcases Nat.lt_or_ge j k with h | h
          · exact HJ.out j h
          · have : j = k := by omega
            rw [this]; exact HP.out, hf0.step0 f1⟩
    · have hkl : k = l.length := by omega
      subst hkl
      have i1 : ¬ (l.length : Int) < (l.length : Int) := by omega
      have HP := Lib.hid (any_none HJ.out)
      go_wp2_with fail
      go_ret
      exact ⟨-1, rfl, by rw [HP.out]; rfl, hf0⟩
set_option maxRecDepth 100000 in
theorem itContainsF_any (w : World) (A : Option Addr) (c n : Nat) (l : List ItW) (hn : l.length = n) (hs : Sl w A (codT.row l)) (hb : l.length ≤ 140737488355328) (cp : Value) (p : Nat → Bool)
    (hf : ∀ w', Fr noB w w' → ∀ i (hi : i < l.length), Calls Tryz.prog 80 #[.agg (codT.A l[i])] w' (Gives w' (.bool (p i)))) :
    Calls Tryz.prog 79 #[.slice A n c, .func (.func 80) #[] #[]] w (Gives w (.bool ((List.range l.length).any p))) := by
  have h := Lib.hid (itIndexF_any w A c n l hn hs hb cp p hf)
  clear hf hs
  subst hn
  generalize (List.range l.length).any p = b at h
  go_enter Tryz.func79, Tryz.ntmps79
  go_wp2_with (go_at_call 110; refine h.out.mono ?_; rintro e w1 ⟨z, rfl, hz, f1⟩)
  go_ret
  exact ⟨by rw [← hz]; rfl, f1⟩
set_option maxRecDepth 100000 in
set_option maxHeartbeats 1000000 in
theorem oRiseOp_any (w : World) (A : Option Addr) (c n : Nat) (l : List OpW) (hn : l.length = n) (hs : Sl w A (codO.row l)) (hb : l.length ≤ 140737488355328) (cf : OpW → OpW → Int)
    (hf : ∀ w x y, Calls Tryz.prog 103 #[.agg (codO.A x), .agg (codO.A y)] w (Gives w (.int .i64 (cf x y)))) :
    Calls Tryz.prog 102 #[.slice A n c, .func (.func 103) #[] #[]] w (Gives w (.bool (riseB cf l))) := by
  subst hn
  have HRI := Lib.hid (riseB_iff cf l)
  go_enter Tryz.func102, Tryz.ntmps102
  go_wp2_with fail
  go_loopg [5] l.length (fun gk iv wr => RisR w l.length (fun i j => if h : i < l.length ∧ j < l.length then cf (l[i]'h.1) (l[j]'h.2) else 0) gk iv wr)
  case atStart => exact ⟨1, rfl, by omega, by omega, .inr rfl, fun j hj => by omega, Fr.refl _ _⟩
  case round =>
    obtain ⟨k, rfl, rfl, hk1, hk2, hj, hf0⟩ := hrel
    by_cases hlt : k < l.length
    · have i0 : (0 : Int) ≤ (k : Int) := by omega
      have i1 : (k : Int) < (l.length : Int) := by omega
      obtain ⟨g, off, rfl, hg⟩ := hs.adC (by omega)
      have q2 : k - 1 < l.length := by omega
      have r1 : codO.rd wr g (off + (k - 1) * 41) = some (l[k - 1]'q2) := (hs.fr0 hf0).rd (k - 1) q2
      have r2 : codO.rd wr g (off + k * 41) = some l[k] := (hs.fr0 hf0).rd k hlt
      have hgw : g < wr.heap.size := Nat.lt_of_lt_of_le hg hf0.size
      have hbad : ¬ cf (l[k - 1]'q2) l[k] < 0 → riseB cf l = false := fun h => by
        rw [← Bool.not_eq_true]
        intro ht
        have := HRI.out.1 ht (k - 1) (by omega)
        simp only [show k - 1 + 1 = k by omega] at this
        exact h this
      have hok : cf (l[k - 1]'q2) l[k] < 0 → ∀ j, j + 1 < k + 1 → (fun i j => if h : i < l.length ∧ j < l.length then cf (l[i]'h.1) (l[j]'h.2) else 0) j (j + 1) < 0 := fun h j hjk => by
        rcases Nat.lt_or_ge (j + 1) k with h1 | h1
        · exact hj j h1
        · have e : j = k - 1 := by omega
          subst e
          simp only
          rw [dif_pos ⟨by omega, by omega⟩]
          simp only [show k - 1 + 1 = k by omega]
          exact h
      generalize l[k - 1]'q2 = p at r1 hbad hok
      generalize l[k] = p2 at r2 hbad hok
      have HBAD := Lib.hid hbad
      have HOK := Lib.hid hok
      clear hbad hok hj
      generalize hqe : k - 1 = q at r1 q2
      have m1 : IntKind.i64.wrap ((k : Int) - 1) = (q : Int) := by rw [IntKind.wrap_i64]; omega
      have j0 : (0 : Int) ≤ (q : Int) := by omega
      have j1 : (q : Int) < (l.length : Int) := by omega
      clear hqe
      have C1 := fun w => hf w p p2
      generalize cf p p2 = z at C1 HBAD HOK
      by_cases hz : z < 0
      · have hz2 : ¬ (0 : Int) ≤ z := by omega
        have H := Lib.hid (HOK.out hz)
        go_wp2_with fail
        refine wp_region_fr (by kernel_rfl) (by kernel_rfl) ?_
        iterate 10
          refine wpQ_take (v := ?_) (by rfl) (fun wS hS => ?_) ?_
          rotate_left
          · obtain ⟨L1, L2, L3, L4, L5, L6⟩ := Fr.same hS; go_simp; try with_reducible rfl
          try simp only [List.getElem_toArray, List.getElem_cons_zero, List.getElem_cons_succ, Act.put, List.setIfInBounds_toArray, List.set_cons_zero, List.set_cons_succ]
        refine wpQ_call (by rfl) (fun wS hS => ⟨_, _, ?qh238, Calls.fr hS (C1 _)⟩) ?qk238
        case qh238 => obtain ⟨L1, L2, L3, L4, L5, L6⟩ := Fr.same hS; go_simp; try with_reducible rfl
        try simp only [List.getElem_toArray, List.getElem_cons_zero, List.getElem_cons_succ, Act.put, List.setIfInBounds_toArray, List.set_cons_zero, List.set_cons_succ]
        refine wpQ_take (v := ?_) (by rfl) (fun wS hS => ?_) ?_
        rotate_left
        · obtain ⟨L1, L2, L3, L4, L5, L6⟩ := Fr.same hS; go_simp; try with_reducible rfl
        try simp only [List.getElem_toArray, List.getElem_cons_zero, List.getElem_cons_succ, Act.put, List.setIfInBounds_toArray, List.set_cons_zero, List.set_cons_succ]
        refine wpQ_nil ?_
        intro w1 f1
        go_wp2_with fail
        go_roundg (l.length + 1 - (k + 1))
        case measure => omega
        case rel => exact ⟨k + 1, by simp, rfl, by omega, by omega, H.out, hf0.step0 f1⟩
      · have hz2 : (0 : Int) ≤ z := by omega
        have H := Lib.hid (HBAD.out hz)
        clear hz
        go_wp2_with fail
        refine wp_region_fr (by kernel_rfl) (by kernel_rfl) ?_
        iterate 10
          refine wpQ_take (v := ?_) (by rfl) (fun wS hS => ?_) ?_
          rotate_left
          · obtain ⟨L1, L2, L3, L4, L5, L6⟩ := Fr.same hS; go_simp; try with_reducible rfl
          try simp only [List.getElem_toArray, List.getElem_cons_zero, List.getElem_cons_succ, Act.put, List.setIfInBounds_toArray, List.set_cons_zero, List.set_cons_succ]
        refine wpQ_call (by rfl) (fun wS hS => ⟨_, _, ?qh261, Calls.fr hS (C1 _)⟩) ?qk261
        case qh261 => obtain ⟨L1, L2, L3, L4, L5, L6⟩ := Fr.same hS; go_simp; try with_reducible rfl
        try simp only [List.getElem_toArray, List.getElem_cons_zero, List.getElem_cons_succ, Act.put, List.setIfInBounds_toArray, List.set_cons_zero, List.set_cons_succ]
        refine wpQ_take (v := ?_) (by rfl) (fun wS hS => ?_) ?_
        rotate_left
        · obtain ⟨L1, L2, L3, L4, L5, L6⟩ := Fr.same hS; go_simp; try with_reducible rfl
        try simp only [List.getElem_toArray, List.getElem_cons_zero, List.getElem_cons_succ, Act.put, List.setIfInBounds_toArray, List.set_cons_zero, List.set_cons_succ]
        refine wpQ_nil ?_
        intro w1 f1
        go_wp2_with fail
        go_ret
        exact ⟨by rw [H.out]; rfl, hf0.step0 f1⟩
    · have e : riseB cf l = true := HRI.out.2 (fun j h => by
        have h1 := hj j (by omega)
        simp only at h1
        rw [dif_pos ⟨by omega, h⟩] at h1
        exact h1)
      have E := Lib.hid e
      clear e hj
      go_wp2_with fail
      go_ret
      exact ⟨by rw [E.out]; rfl, hf0⟩
set_option maxRecDepth 100000 in
set_option maxHeartbeats 1000000 in
theorem oRiseItem_any (w : World) (A : Option Addr) (c n : Nat) (l : List ItW) (hn : l.length = n) (hs : Sl w A (codT.row l)) (hb : l.length ≤ 140737488355328) (cf : ItW → ItW → Int)
    (hf : ∀ w x y, Calls Tryz.prog 83 #[.agg (codT.A x), .agg (codT.A y)] w (Gives w (.int .i64 (cf x y)))) :
    Calls Tryz.prog 82 #[.slice A n c, .func (.func 83) #[] #[]] w (Gives w (.bool (riseB cf l))) := by
  subst hn
  have HRI := Lib.hid (riseB_iff cf l)
  go_enter Tryz.func82, Tryz.ntmps82
  go_wp2_with fail
  go_loopg [5] l.length (fun gk iv wr => RisR w l.length (fun i j => if h : i < l.length ∧ j < l.length then cf (l[i]'h.1) (l[j]'h.2) else 0) gk iv wr)
  case atStart => exact ⟨1, rfl, by omega, by omega, .inr rfl, fun j hj => by omega, Fr.refl _ _⟩
  case round =>
    obtain ⟨k, rfl, rfl, hk1, hk2, hj, hf0⟩ := hrel
    by_cases hlt : k < l.length
    · have i0 : (0 : Int) ≤ (k : Int) := by omega
      have i1 : (k : Int) < (l.length : Int) := by omega
      obtain ⟨g, off, rfl, hg⟩ := hs.adC (by omega)
      have q2 : k - 1 < l.length := by omega
      have r1 : codT.rd wr g (off + (k - 1) * 38) = some (l[k - 1]'q2) := (hs.fr0 hf0).rd (k - 1) q2
      have r2 : codT.rd wr g (off + k * 38) = some l[k] := (hs.fr0 hf0).rd k hlt
      have hgw : g < wr.heap.size := Nat.lt_of_lt_of_le hg hf0.size
      have hbad : ¬ cf (l[k - 1]'q2) l[k] < 0 → riseB cf l = false := fun h => by
        rw [← Bool.not_eq_true]
        intro ht
        have := HRI.out.1 ht (k - 1) (by omega)
        simp only [show k - 1 + 1 = k by omega] at this
        exact h this
      have hok : cf (l[k - 1]'q2) l[k] < 0 → ∀ j, j + 1 < k + 1 → (fun i j => if h : i < l.length ∧ j < l.length then cf (l[i]'h.1) (l[j]'h.2) else 0) j (j + 1) < 0 := fun h j hjk => by
        rcases Nat.lt_or_ge (j + 1) k with h1 | h1
        · exact hj j h1
        · have e : j = k - 1 := by omega
          subst e
          simp only
          rw [dif_pos ⟨by omega, by omega⟩]
          simp only [show k - 1 + 1 = k by omega]
          exact h
      generalize l[k - 1]'q2 = p at r1 hbad hok
      generalize l[k] = p2 at r2 hbad hok
      have HBAD := Lib.hid hbad
      have HOK := Lib.hid hok
      clear hbad hok hj
      generalize hqe : k - 1 = q at r1 q2
      have m1 : IntKind.i64.wrap ((k : Int) - 1) = (q : Int) := by rw [IntKind.wrap_i64]; omega
      have j0 : (0 : Int) ≤ (q : Int) := by omega
      have j1 : (q : Int) < (l.length : Int) := by omega
      clear hqe
      have C1 := fun w => hf w p p2
      generalize cf p p2 = z at C1 HBAD HOK
      by_cases hz : z < 0
      · have hz2 : ¬ (0 : Int) ≤ z := by omega
        have H := Lib.hid (HOK.out hz)
        go_wp2_with fail
        refine wp_region_fr (by kernel_rfl) (by kernel_rfl) ?_
        iterate 10
          refine wpQ_take (v := ?_) (by rfl) (fun wS hS => ?_) ?_
          rotate_left
          · obtain ⟨L1, L2, L3, L4, L5, L6⟩ := Fr.same hS; go_simp; try with_reducible rfl
          try simp only [List.getElem_toArray, List.getElem_cons_zero, List.getElem_cons_succ, Act.put, List.setIfInBounds_toArray, List.set_cons_zero, List.set_cons_succ]
        refine wpQ_call (by rfl) (fun wS hS => ⟨_, _, ?qh341, Calls.fr hS (C1 _)⟩) ?qk341
        case qh341 => obtain ⟨L1, L2, L3, L4, L5, L6⟩ := Fr.same hS; go_simp; try with_reducible rfl
        try simp only [List.getElem_toArray, List.getElem_cons_zero, List.getElem_cons_succ, Act.put, List.setIfInBounds_toArray, List.set_cons_zero, List.set_cons_succ]
        refine wpQ_take (v := ?_) (by rfl) (fun wS hS => ?_) ?_
        rotate_left
        · obtain ⟨L1, L2, L3, L4, L5, L6⟩ := Fr.same hS; go_simp; try with_reducible rfl
        try simp only [List.getElem_toArray, List.getElem_cons_zero, List.getElem_cons_succ, Act.put, List.setIfInBounds_toArray, List.set_cons_zero, List.set_cons_succ]
        refine wpQ_nil ?_
        intro w1 f1
        go_wp2_with fail
        go_roundg (l.length + 1 - (k + 1))
        case measure => omega
        case rel => exact ⟨k + 1, by simp, rfl, by omega, by omega, H.out, hf0.step0 f1⟩
      · have hz2 : (0 : Int) ≤ z := by omega
        have H := Lib.hid (HBAD.out hz)
        clear hz
        go_wp2_with fail
        refine wp_region_fr (by kernel_rfl) (by kernel_rfl) ?_
        iterate 10
          refine wpQ_take (v := ?_) (by rfl) (fun wS hS => ?_) ?_
          rotate_left
          · obtain ⟨L1, L2, L3, L4, L5, L6⟩ := Fr.same hS; go_simp; try with_reducible rfl
          try simp only [List.getElem_toArray, List.getElem_cons_zero, List.getElem_cons_succ, Act.put, List.setIfInBounds_toArray, List.set_cons_zero, List.set_cons_succ]
        refine wpQ_call (by rfl) (fun wS hS => ⟨_, _, ?qh364, Calls.fr hS (C1 _)⟩) ?qk364
        case qh364 => obtain ⟨L1, L2, L3, L4, L5, L6⟩ := Fr.same hS; go_simp; try with_reducible rfl
        try simp only [List.getElem_toArray, List.getElem_cons_zero, List.getElem_cons_succ, Act.put, List.setIfInBounds_toArray, List.set_cons_zero, List.set_cons_succ]
        refine wpQ_take (v := ?_) (by rfl) (fun wS hS => ?_) ?_
        rotate_left
        · obtain ⟨L1, L2, L3, L4, L5, L6⟩ := Fr.same hS; go_simp; try with_reducible rfl
        try simp only [List.getElem_toArray, List.getElem_cons_zero, List.getElem_cons_succ, Act.put, List.setIfInBounds_toArray, List.set_cons_zero, List.set_cons_succ]
        refine wpQ_nil ?_
        intro w1 f1
        go_wp2_with fail
        go_ret
        exact ⟨by rw [H.out]; rfl, hf0.step0 f1⟩
    · have e : riseB cf l = true := HRI.out.2 (fun j h => by
        have h1 := hj j (by omega)
        simp only at h1
        rw [dif_pos ⟨by omega, h⟩] at h1
        exact h1)
      have E := Lib.hid e
      clear e hj
      go_wp2_with fail
      go_ret
      exact ⟨by rw [E.out]; rfl, hf0⟩
set_option maxRecDepth 100000 in
set_option maxHeartbeats 1000000 in
theorem oRiseHead_any (w : World) (A : Option Addr) (c n : Nat) (l : List Hd) (hn : l.length = n) (hs : Sl w A (codH.row l)) (hb : l.length ≤ 140737488355328) (cf : Hd → Hd → Int)
    (hf : ∀ w x y, Calls Tryz.prog 112 #[.agg (codH.A x), .agg (codH.A y)] w (Gives w (.int .i64 (cf x y)))) :
    Calls Tryz.prog 111 #[.slice A n c, .func (.func 112) #[] #[]] w (Gives w (.bool (riseB cf l))) := by
  subst hn
  have HRI := Lib.hid (riseB_iff cf l)
  go_enter Tryz.func111, Tryz.ntmps111
  go_wp2_with fail
  go_loopg [5] l.length (fun gk iv wr => RisR w l.length (fun i j => if h : i < l.length ∧ j < l.length then cf (l[i]'h.1) (l[j]'h.2) else 0) gk iv wr)
  case atStart => exact ⟨1, rfl, by omega, by omega, .inr rfl, fun j hj => by omega, Fr.refl _ _⟩
  case round =>
    obtain ⟨k, rfl, rfl, hk1, hk2, hj, hf0⟩ := hrel
    by_cases hlt : k < l.length
    · have i0 : (0 : Int) ≤ (k : Int) := by omega
      have i1 : (k : Int) < (l.length : Int) := by omega
      obtain ⟨g, off, rfl, hg⟩ := hs.adC (by omega)
      have q2 : k - 1 < l.length := by omega
      have r1 : codH.rd wr g (off + (k - 1) * 34) = some (l[k - 1]'q2) := (hs.fr0 hf0).rd (k - 1) q2
      have r2 : codH.rd wr g (off + k * 34) = some l[k] := (hs.fr0 hf0).rd k hlt
      have hgw : g < wr.heap.size := Nat.lt_of_lt_of_le hg hf0.size
      have hbad : ¬ cf (l[k - 1]'q2) l[k] < 0 → riseB cf l = false := fun h => by
        rw [← Bool.not_eq_true]
        intro ht
        have := HRI.out.1 ht (k - 1) (by omega)
        simp only [show k - 1 + 1 = k by omega] at this
        exact h this
      have hok : cf (l[k - 1]'q2) l[k] < 0 → ∀ j, j + 1 < k + 1 → (fun i j => if h : i < l.length ∧ j < l.length then cf (l[i]'h.1) (l[j]'h.2) else 0) j (j + 1) < 0 := fun h j hjk => by
        rcases Nat.lt_or_ge (j + 1) k with h1 | h1
        · exact hj j h1
        · have e : j = k - 1 := by omega
          subst e
          simp only
          rw [dif_pos ⟨by omega, by omega⟩]
          simp only [show k - 1 + 1 = k by omega]
          exact h
      generalize l[k - 1]'q2 = p at r1 hbad hok
      generalize l[k] = p2 at r2 hbad hok
      have HBAD := Lib.hid hbad
      have HOK := Lib.hid hok
      clear hbad hok hj
      generalize hqe : k - 1 = q at r1 q2
      have m1 : IntKind.i64.wrap ((k : Int) - 1) = (q : Int) := by rw [IntKind.wrap_i64]; omega
      have j0 : (0 : Int) ≤ (q : Int) := by omega
      have j1 : (q : Int) < (l.length : Int) := by omega
      clear hqe
      have C1 := fun w => hf w p p2
      generalize cf p p2 = z at C1 HBAD HOK
      by_cases hz : z < 0
      · have hz2 : ¬ (0 : Int) ≤ z := by omega
        have H := Lib.hid (HOK.out hz)
        go_wp2_with fail
        refine wp_region_fr (by kernel_rfl) (by kernel_rfl) ?_
        iterate 10
          refine wpQ_take (v := ?_) (by rfl) (fun wS hS => ?_) ?_
          rotate_left
          · obtain ⟨L1, L2, L3, L4, L5, L6⟩ := Fr.same hS; go_simp; try with_reducible rfl
          try simp only [List.getElem_toArray, List.getElem_cons_zero, List.getElem_cons_succ, Act.put, List.setIfInBounds_toArray, List.set_cons_zero, List.set_cons_succ]
        refine wpQ_call (by rfl) (fun wS hS => ⟨_, _, ?qh444, Calls.fr hS (C1 _)⟩) ?qk444
        case qh444 => obtain ⟨L1, L2, L3, L4, L5, L6⟩ := Fr.same hS; go_simp; try with_reducible rfl
        try simp only [List.getElem_toArray, List.getElem_cons_zero, List.getElem_cons_succ, Act.put, List.setIfInBounds_toArray, List.set_cons_zero, List.set_cons_succ]
        refine wpQ_take (v := ?_) (by rfl) (fun wS hS => ?_) ?_
        rotate_left
        · obtain ⟨L1, L2, L3, L4, L5, L6⟩ := Fr.same hS; go_simp; try with_reducible rfl
        try simp only [List.getElem_toArray, List.getElem_cons_zero, List.getElem_cons_succ, Act.put, List.setIfInBounds_toArray, List.set_cons_zero, List.set_cons_succ]
        refine wpQ_nil ?_
        intro w1 f1
        go_wp2_with fail
        go_roundg (l.length + 1 - (k + 1))
        case measure => omega
        case rel => exact ⟨k + 1, by simp, rfl, by omega, by omega, H.out, hf0.step0 f1⟩
      · have hz2 : (0 : Int) ≤ z := by omega
        have H := Lib.hid (HBAD.out hz)
        clear hz
        go_wp2_with fail
        refine wp_region_fr (by kernel_rfl) (by kernel_rfl) ?_
        iterate 10
          refine wpQ_take (v := ?_) (by rfl) (fun wS hS => ?_) ?_
          rotate_left
          · obtain ⟨L1, L2, L3, L4, L5, L6⟩ := Fr.same hS; go_simp; try with_reducible rfl
          try simp only [List.getElem_toArray, List.getElem_cons_zero, List.getElem_cons_succ, Act.put, List.setIfInBounds_toArray, List.set_cons_zero, List.set_cons_succ]
        refine wpQ_call (by rfl) (fun wS hS => ⟨_, _, ?qh467, Calls.fr hS (C1 _)⟩) ?qk467
        case qh467 => obtain ⟨L1, L2, L3, L4, L5, L6⟩ := Fr.same hS; go_simp; try with_reducible rfl
        try simp only [List.getElem_toArray, List.getElem_cons_zero, List.getElem_cons_succ, Act.put, List.setIfInBounds_toArray, List.set_cons_zero, List.set_cons_succ]
        refine wpQ_take (v := ?_) (by rfl) (fun wS hS => ?_) ?_
        rotate_left
        · obtain ⟨L1, L2, L3, L4, L5, L6⟩ := Fr.same hS; go_simp; try with_reducible rfl
        try simp only [List.getElem_toArray, List.getElem_cons_zero, List.getElem_cons_succ, Act.put, List.setIfInBounds_toArray, List.set_cons_zero, List.set_cons_succ]
        refine wpQ_nil ?_
        intro w1 f1
        go_wp2_with fail
        go_ret
        exact ⟨by rw [H.out]; rfl, hf0.step0 f1⟩
    · have e : riseB cf l = true := HRI.out.2 (fun j h => by
        have h1 := hj j (by omega)
        simp only at h1
        rw [dif_pos ⟨by omega, h⟩] at h1
        exact h1)
      have E := Lib.hid e
      clear e hj
      go_wp2_with fail
      go_ret
      exact ⟨by rw [E.out]; rfl, hf0⟩
end Go.Proofs.YtejkfekpgbmdiaaGreat
