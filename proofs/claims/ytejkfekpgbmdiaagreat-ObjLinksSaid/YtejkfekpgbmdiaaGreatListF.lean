/- Contract: stamp.Good. Contracts: slices.IndexFunc, slices.ContainsFunc, obj.rise with closures. -/
import Derived.Test.YtejkfekpgbmdiaaGreatStE
namespace Go.Proofs.YtejkfekpgbmdiaaGreat
open Go.RowKit
set_option linter.unusedVariables false
set_option linter.unusedSimpArgs false

/-- an operation as it lies in memory, with its row -/
structure OpIn (w : World) (r : OpW) (o : Opn) : Prop where
  eq : o = opOf r o.Over
  len : o.Over.length = r.n
  sl : Sl w r.A (codS.row o.Over)
  bd : o.Over.length ≤ 140737488355328
  nm : r.Name.length ≤ 140737488355328
theorem OpIn.fr {w w' : World} {r : OpW} {o : Opn} (h : OpIn w r o) (f : Fr noB w w') : OpIn w' r o := ⟨h.eq, h.len, h.sl.fr0 f, h.bd, h.nm⟩
set_option maxRecDepth 100000 in
set_option maxHeartbeats 2000000 in
theorem sgood_any (w : World) (r : OpW) (o : Opn) (h : OpIn w r o) : Calls Tryz.prog 96 #[.agg (codO.A r)] w (Gives w (.bool (goodOp o))) := by
  obtain ⟨he, hlen, hs, hbd, hnm⟩ := h
  generalize o.Over = ov at he hlen hs hbd
  subst he
  have f0 : Fr noB w (w.alloc (.cells (codO.A r) 72)) := (Fr.refl noB w).alloc _
  obtain ⟨q1, q2, q3, q4, q5, q6, q7, q8, q9, q10⟩ := opAt (Cod.rd_new w 72 r)
  have hP : w.heap.size < (w.alloc (.cells (codO.A r) 72)).heap.size := by simp
  have hM : goodOp (opOf r ov) = (rightS r.At && rightS r.Node && (if r.Kind = 1 then moveOk (opOf r ov) else if r.Kind = 2 then editOk (opOf r ov) else false)) := rfl
  have HM := Lib.hid hM
  have HL := Lib.hid hlen
  replace hs := hs.fr0 f0
  clear hM hlen q2 q3 q6 q7 q8 q9
  go_enter Tryz.func96, Tryz.ntmps96
  go_upto_region 1 with fail
  generalize w.alloc (.cells (codO.A r) 72) = W0 at f0 hs q1 q4 q5 q10 hP ⊢
  generalize w.heap.size = P at q1 q4 q5 q10 hP ⊢
  have f1 : Fr noB W0 W0 := Fr.refl _ _
  obtain ⟨L1, L2, L3, L4, L5, L6⟩ := f1.same
  go_wp2_with (first
    | (go_at_call 99; refine (right_v _ _).mono ?_; rintro e w2 ⟨rfl, f2⟩; replace f1 := f1.step0 f2; clear L1 L2 L3 L4 L5 L6; obtain ⟨L1, L2, L3, L4, L5, L6⟩ := f1.same)
    | (go_at_call 127; refine (move_any _ r hnm ov HL.out).mono ?_; rintro e w2 ⟨rfl, f2⟩; replace f1 := f1.step0 f2; clear L1 L2 L3 L4 L5 L6; obtain ⟨L1, L2, L3, L4, L5, L6⟩ := f1.same)
    | (go_at_call 128; refine (edit_any _ r ov HL.out (hs.fr0 f1) hbd).mono ?_; rintro e w2 ⟨rfl, f2⟩; replace f1 := f1.step0 f2; clear L1 L2 L3 L4 L5 L6; obtain ⟨L1, L2, L3, L4, L5, L6⟩ := f1.same))
  all_goals clear L1 L2 L3 L4 L5 L6 q1 q4 q5 q10 hP
  all_goals
    go_ret
    refine ⟨?_, f0.step0 f1⟩
    rw [HM.out]
    first
    | (simp [*]; done)
    | (simp_all; done)
end Go.Proofs.YtejkfekpgbmdiaaGreat
namespace Go.Proofs.YtejkfekpgbmdiaaGreat
open Go.RowKit
set_option linter.unusedVariables false
set_option linter.unusedSimpArgs false

def IxR (W : World) (n : Nat) (p : Nat → Bool) (gk : Nat) (iv : Value) (wr : World) : Prop := ∃ k : Nat, iv = .int .i64 (k : Int) ∧ gk = n - k ∧ k ≤ n ∧ (∀ j, j < k → p j = false) ∧ Fr noB W wr
theorem any_hit {n : Nat} {p : Nat → Bool} {k : Nat} (hk : k < n) (h : p k = true) : (List.range n).any p = true := List.any_eq_true.2 ⟨k, List.mem_range.2 hk, h⟩
theorem any_none {n : Nat} {p : Nat → Bool} (h : ∀ j, j < n → p j = false) : (List.range n).any p = false := by
  rw [← Bool.not_eq_true]
  intro ha
  obtain ⟨k, hk, hp⟩ := List.any_eq_true.1 ha
  rw [h k (List.mem_range.1 hk)] at hp; cases hp
/-- an index that was found, or -1 -/
def IxTo (w : World) (b : Bool) (e : Ending) (w' : World) : Prop := ∃ z : Int, e = .returned (.int .i64 z) ∧ decide (0 ≤ z) = b ∧ Fr noB w w'
set_option maxRecDepth 100000 in
set_option maxHeartbeats 1000000 in
theorem opIndexF_any (w : World) (A : Option Addr) (c n : Nat) (l : List OpW) (hn : l.length = n) (hs : Sl w A (codO.row l)) (hb : l.length ≤ 140737488355328) (cp : Value) (p : Nat → Bool)
    (hf : ∀ w', Fr noB w w' → ∀ i (hi : i < l.length), Calls Tryz.prog 101 #[.agg (codO.A l[i]), cp] w' (Gives w' (.bool (p i)))) :
    Calls Tryz.prog 130 #[.slice A n c, .func (.func 101) #[] #[cp]] w (IxTo w ((List.range l.length).any p)) := by
  subst hn
  go_enter Tryz.func130, Tryz.ntmps130
  go_wp2_with fail
  go_loopg [8] l.length (fun gk iv wr => IxR w l.length p gk iv wr)
  case atStart => exact ⟨0, rfl, by omega, by omega, fun j hj => absurd hj (by omega), Fr.refl _ _⟩
  case round =>
    obtain ⟨k, rfl, rfl, hk, hj, hf0⟩ := hrel
    have HJ := Lib.hid hj
    clear hj
    by_cases hlt : k < l.length
    · have i1 : (k : Int) < (l.length : Int) := by omega
      have i0 : (0 : Int) ≤ (k : Int) := by omega
      obtain ⟨g, off, rfl, hg⟩ := hs.adC (by omega)
      have e1 : codO.rd wr g (off + k * 41) = some l[k] := (hs.fr0 hf0).rd k hlt
      have hc := hf wr hf0 k hlt
      generalize l[k] = x at e1 hc
      by_cases hp : p k = true
      · rw [hp] at hc
        have HP := Lib.hid (any_hit hlt hp)
        clear hp
        go_wp2_with (go_at_call 101; refine hc.mono ?_; rintro e w1 ⟨rfl, f1⟩)
        go_ret
        exact ⟨k, rfl, by rw [HP.out]; simp, hf0.step0 f1⟩
      · have hp' : p k = false := by simpa using hp
        rw [hp'] at hc
        have HP := Lib.hid hp'
        clear hp hp'
        go_wp2_with (go_at_call 101; refine hc.mono ?_; rintro e w1 ⟨rfl, f1⟩)
        go_roundg (l.length - (k + 1))
        case measure => omega
        case rel => exact ⟨k + 1, by simp, rfl, by omega, fun j hj => by
          rcases Nat.lt_or_ge j k with h | h
          · exact HJ.out j h
          · have : j = k := by omega
            rw [this]; exact HP.out, hf0.step0 f1⟩
    · have hkl : k = l.length := by omega
      subst hkl
      have i1 : ¬ (l.length : Int) < (l.length : Int) := by omega
      have HP := Lib.hid (any_none HJ.out)
      go_wp2_with fail
      go_ret
      exact ⟨-1, rfl, by rw [HP.out]; rfl, hf0⟩
set_option maxRecDepth 100000 in
theorem opContainsF_any (w : World) (A : Option Addr) (c n : Nat) (l : List OpW) (hn : l.length = n) (hs : Sl w A (codO.row l)) (hb : l.length ≤ 140737488355328) (cp : Value) (p : Nat → Bool)
    (hf : ∀ w', Fr noB w w' → ∀ i (hi : i < l.length), Calls Tryz.prog 101 #[.agg (codO.A l[i]), cp] w' (Gives w' (.bool (p i)))) :
    Calls Tryz.prog 100 #[.slice A n c, .func (.func 101) #[] #[cp]] w (Gives w (.bool ((List.range l.length).any p))) := by
  have h := Lib.hid (opIndexF_any w A c n l hn hs hb cp p hf)
  clear hf hs
  subst hn
  generalize (List.range l.length).any p = b at h
  go_enter Tryz.func100, Tryz.ntmps100
  go_wp2_with (go_at_call 130; refine h.out.mono ?_; rintro e w1 ⟨z, rfl, hz, f1⟩)
  go_ret
  exact ⟨by rw [← hz]; rfl, f1⟩
set_option maxRecDepth 100000 in
set_option maxHeartbeats 1000000 in
theorem itIndexF_any (w : World) (A : Option Addr) (c n : Nat) (l : List ItW) (hn : l.length = n) (hs : Sl w A (codT.row l)) (hb : l.length ≤ 140737488355328) (cp : Value) (p : Nat → Bool)
    (hf : ∀ w', Fr noB w w' → ∀ i (hi : i < l.length), Calls Tryz.prog 80 #[.agg (codT.A l[i])] w' (Gives w' (.bool (p i)))) :
    Calls Tryz.prog 110 #[.slice A n c, .func (.func 80) #[] #[]] w (IxTo w ((List.range l.length).any p)) := by
  subst hn
  go_enter Tryz.func110, Tryz.ntmps110
  go_wp2_with fail
  go_loopg [8] l.length (fun gk iv wr => IxR w l.length p gk iv wr)
  case atStart => exact ⟨0, rfl, by omega, by omega, fun j hj => absurd hj (by omega), Fr.refl _ _⟩
  case round =>
    obtain ⟨k, rfl, rfl, hk, hj, hf0⟩ := hrel
    have HJ := Lib.hid hj
    clear hj
    by_cases hlt : k < l.length
    · have i1 : (k : Int) < (l.length : Int) := by omega
      have i0 : (0 : Int) ≤ (k : Int) := by omega
      obtain ⟨g, off, rfl, hg⟩ := hs.adC (by omega)
      have e1 : codT.rd wr g (off + k * 38) = some l[k] := (hs.fr0 hf0).rd k hlt
      have hc := hf wr hf0 k hlt
      generalize l[k] = x at e1 hc
      by_cases hp : p k = true
      · rw [hp] at hc
        have HP := Lib.hid (any_hit hlt hp)
        clear hp
        go_wp2_with (go_at_call 80; refine hc.mono ?_; rintro e w1 ⟨rfl, f1⟩)
        go_ret
        exact ⟨k, rfl, by rw [HP.out]; simp, hf0.step0 f1⟩
      · have hp' : p k = false := by simpa using hp
        rw [hp'] at hc
        have HP := Lib.hid hp'
        clear hp hp'
        go_wp2_with (go_at_call 80; refine hc.mono ?_; rintro e w1 ⟨rfl, f1⟩)
        go_roundg (l.length - (k + 1))
        case measure => omega
        case rel => exact ⟨k + 1, by simp, rfl, by omega, fun j hj => by
          rcases Nat.lt_or_ge j k with h | h
          · exact HJ.out j h
          · have : j = k := by omega
            rw [this]; exact HP.out, hf0.step0 f1⟩
    · have hkl : k = l.length := by omega
      subst hkl
      have i1 : ¬ (l.length : Int) < (l.length : Int) := by omega
      have HP := Lib.hid (any_none HJ.out)
      go_wp2_with fail
      go_ret
      exact ⟨-1, rfl, by rw [HP.out]; rfl, hf0⟩
set_option maxRecDepth 100000 in
theorem itContainsF_any (w : World) (A : Option Addr) (c n : Nat) (l : List ItW) (hn : l.length = n) (hs : Sl w A (codT.row l)) (hb : l.length ≤ 140737488355328) (cp : Value) (p : Nat → Bool)
    (hf : ∀ w', Fr noB w w' → ∀ i (hi : i < l.length), Calls Tryz.prog 80 #[.agg (codT.A l[i])] w' (Gives w' (.bool (p i)))) :
    Calls Tryz.prog 79 #[.slice A n c, .func (.func 80) #[] #[]] w (Gives w (.bool ((List.range l.length).any p))) := by
  have h := Lib.hid (itIndexF_any w A c n l hn hs hb cp p hf)
  clear hf hs
  subst hn
  generalize (List.range l.length).any p = b at h
  go_enter Tryz.func79, Tryz.ntmps79
  go_wp2_with (go_at_call 110; refine h.out.mono ?_; rintro e w1 ⟨z, rfl, hz, f1⟩)
  go_ret
  exact ⟨by rw [← hz]; rfl, f1⟩
set_option maxRecDepth 100000 in
set_option maxHeartbeats 1000000 in
theorem oRiseOp_any (w : World) (A : Option Addr) (c n : Nat) (l : List OpW) (hn : l.length = n) (hs : Sl w A (codO.row l)) (hb : l.length ≤ 140737488355328) (cf : OpW → OpW → Int)
    (hf : ∀ w x y, Calls Tryz.prog 103 #[.agg (codO.A x), .agg (codO.A y)] w (Gives w (.int .i64 (cf x y)))) :
    Calls Tryz.prog 102 #[.slice A n c, .func (.func 103) #[] #[]] w (Gives w (.bool (riseB cf l))) := by
  subst hn
  have HRI := Lib.hid (riseB_iff cf l)
  go_enter Tryz.func102, Tryz.ntmps102
  go_wp2_with fail
  go_loopg [5] l.length (fun gk iv wr => RisR w l.length (fun i j => if h : i < l.length ∧ j < l.length then cf (l[i]'h.1) (l[j]'h.2) else 0) gk iv wr)
  case atStart => exact ⟨1, rfl, by omega, by omega, .inr rfl, fun j hj => by omega, Fr.refl _ _⟩
  case round =>
    obtain ⟨k, rfl, rfl, hk1, hk2, hj, hf0⟩ := hrel
    by_cases hlt : k < l.length
    · have i0 : (0 : Int) ≤ (k : Int) := by omega
      have i1 : (k : Int) < (l.length : Int) := by omega
      obtain ⟨g, off, rfl, hg⟩ := hs.adC (by omega)
      have q2 : k - 1 < l.length := by omega
      have r1 : codO.rd wr g (off + (k - 1) * 41) = some (l[k - 1]'q2) := (hs.fr0 hf0).rd (k - 1) q2
      have r2 : codO.rd wr g (off + k * 41) = some l[k] := (hs.fr0 hf0).rd k hlt
      have hgw : g < wr.heap.size := Nat.lt_of_lt_of_le hg hf0.size
      have hbad : ¬ cf (l[k - 1]'q2) l[k] < 0 → riseB cf l = false := fun h => by
        rw [← Bool.not_eq_true]
        intro ht
        have := HRI.out.1 ht (k - 1) (by omega)
        simp only [show k - 1 + 1 = k by omega] at this
        exact h this
      have hok : cf (l[k - 1]'q2) l[k] < 0 → ∀ j, j + 1 < k + 1 → (fun i j => if h : i < l.length ∧ j < l.length then cf (l[i]'h.1) (l[j]'h.2) else 0) j (j + 1) < 0 := fun h j hjk => by
        rcases Nat.lt_or_ge (j + 1) k with h1 | h1
        · exact hj j h1
        · have e : j = k - 1 := by omega
          subst e
          simp only
          rw [dif_pos ⟨by omega, by omega⟩]
          simp only [show k - 1 + 1 = k by omega]
          exact h
      generalize l[k - 1]'q2 = p at r1 hbad hok
      generalize l[k] = p2 at r2 hbad hok
      have HBAD := Lib.hid hbad
      have HOK := Lib.hid hok
      clear hbad hok hj
      generalize hqe : k - 1 = q at r1 q2
      have m1 : IntKind.i64.wrap ((k : Int) - 1) = (q : Int) := by rw [IntKind.wrap_i64]; omega
      have j0 : (0 : Int) ≤ (q : Int) := by omega
      have j1 : (q : Int) < (l.length : Int) := by omega
      clear hqe
      have C1 := fun w => hf w p p2
      generalize cf p p2 = z at C1 HBAD HOK
      by_cases hz : z < 0
      · have hz2 : ¬ (0 : Int) ≤ z := by omega
        have H := Lib.hid (HOK.out hz)
        go_wp2_with fail
        refine wp_region_fr (by kernel_rfl) (by kernel_rfl) ?_
        refine wpQ_take (v := ?qv233) (by rfl) (fun wS hS => ?qh233) ?qk233
        case qh233 => obtain ⟨L1, L2, L3, L4, L5, L6⟩ := Fr.same hS; go_simp; try with_reducible rfl
        try simp only [List.getElem_toArray, List.getElem_cons_zero, List.getElem_cons_succ, Act.put, List.setIfInBounds_toArray, List.set_cons_zero, List.set_cons_succ]
        refine wpQ_take (v := ?qv236) (by rfl) (fun wS hS => ?qh236) ?qk236
        case qh236 => obtain ⟨L1, L2, L3, L4, L5, L6⟩ := Fr.same hS; go_simp; try with_reducible rfl
        try simp only [List.getElem_toArray, List.getElem_cons_zero, List.getElem_cons_succ, Act.put, List.setIfInBounds_toArray, List.set_cons_zero, List.set_cons_succ]
        refine wpQ_take (v := ?qv239) (by rfl) (fun wS hS => ?qh239) ?qk239
        case qh239 => obtain ⟨L1, L2, L3, L4, L5, L6⟩ := Fr.same hS; go_simp; try with_reducible rfl
        try simp only [List.getElem_toArray, List.getElem_cons_zero, List.getElem_cons_succ, Act.put, List.setIfInBounds_toArray, List.set_cons_zero, List.set_cons_succ]
        refine wpQ_take (v := ?qv242) (by rfl) (fun wS hS => ?qh242) ?qk242
        case qh242 => obtain ⟨L1, L2, L3, L4, L5, L6⟩ := Fr.same hS; go_simp; try with_reducible rfl
        try simp only [List.getElem_toArray, List.getElem_cons_zero, List.getElem_cons_succ, Act.put, List.setIfInBounds_toArray, List.set_cons_zero, List.set_cons_succ]
        refine wpQ_take (v := ?qv245) (by rfl) (fun wS hS => ?qh245) ?qk245
        case qh245 => obtain ⟨L1, L2, L3, L4, L5, L6⟩ := Fr.same hS; go_simp; try with_reducible rfl
        try simp only [List.getElem_toArray, List.getElem_cons_zero, List.getElem_cons_succ, Act.put, List.setIfInBounds_toArray, List.set_cons_zero, List.set_cons_succ]
        refine wpQ_take (v := ?qv248) (by rfl) (fun wS hS => ?qh248) ?qk248
        case qh248 => obtain ⟨L1, L2, L3, L4, L5, L6⟩ := Fr.same hS; go_simp; try with_reducible rfl
        try simp only [List.getElem_toArray, List.getElem_cons_zero, List.getElem_cons_succ, Act.put, List.setIfInBounds_toArray, List.set_cons_zero, List.set_cons_succ]
        refine wpQ_take (v := ?qv251) (by rfl) (fun wS hS => ?qh251) ?qk251
        case qh251 => obtain ⟨L1, L2, L3, L4, L5, L6⟩ := Fr.same hS; go_simp; try with_reducible rfl
        try simp only [List.getElem_toArray, List.getElem_cons_zero, List.getElem_cons_succ, Act.put, List.setIfInBounds_toArray, List.set_cons_zero, List.set_cons_succ]
        refine wpQ_take (v := ?qv254) (by rfl) (fun wS hS => ?qh254) ?qk254
        case qh254 => obtain ⟨L1, L2, L3, L4, L5, L6⟩ := Fr.same hS; go_simp; try with_reducible rfl
        try simp only [List.getElem_toArray, List.getElem_cons_zero, List.getElem_cons_succ, Act.put, List.setIfInBounds_toArray, List.set_cons_zero, List.set_cons_succ]
        refine wpQ_take (v := ?qv257) (by rfl) (fun wS hS => ?qh257) ?qk257
        case qh257 => obtain ⟨L1, L2, L3, L4, L5, L6⟩ := Fr.same hS; go_simp; try with_reducible rfl
        try simp only [List.getElem_toArray, List.getElem_cons_zero, List.getElem_cons_succ, Act.put, List.setIfInBounds_toArray, List.set_cons_zero, List.set_cons_succ]
        refine wpQ_take (v := ?qv260) (by rfl) (fun wS hS => ?qh260) ?qk260
        case qh260 => obtain ⟨L1, L2, L3, L4, L5, L6⟩ := Fr.same hS; go_simp; try with_reducible rfl
        try simp only [List.getElem_toArray, List.getElem_cons_zero, List.getElem_cons_succ, Act.put, List.setIfInBounds_toArray, List.set_cons_zero, List.set_cons_succ]
        refine wpQ_call (by rfl) (fun wS hS => ⟨_, _, ?qh263, Calls.fr hS (C1 _)⟩) ?qk263
        case qh263 => obtain ⟨L1, L2, L3, L4, L5, L6⟩ := Fr.same hS; go_simp; try with_reducible rfl
        try simp only [List.getElem_toArray, List.getElem_cons_zero, List.getElem_cons_succ, Act.put, List.setIfInBounds_toArray, List.set_cons_zero, List.set_cons_succ]
        refine wpQ_take (v := ?qv266) (by rfl) (fun wS hS => ?qh266) ?qk266
        case qh266 => obtain ⟨L1, L2, L3, L4, L5, L6⟩ := Fr.same hS; go_simp; try with_reducible rfl
        try simp only [List.getElem_toArray, List.getElem_cons_zero, List.getElem_cons_succ, Act.put, List.setIfInBounds_toArray, List.set_cons_zero, List.set_cons_succ]
        refine wpQ_nil ?_
        intro w1 f1
        go_wp2_with fail
        go_roundg (l.length + 1 - (k + 1))
        case measure => omega
        case rel => exact ⟨k + 1, by simp, rfl, by omega, by omega, H.out, hf0.step0 f1⟩
      · have hz2 : (0 : Int) ≤ z := by omega
        have H := Lib.hid (HBAD.out hz)
        clear hz
        go_wp2_with fail
        refine wp_region_fr (by kernel_rfl) (by kernel_rfl) ?_
        refine wpQ_take (v := ?qv280) (by rfl) (fun wS hS => ?qh280) ?qk280
        case qh280 => obtain ⟨L1, L2, L3, L4, L5, L6⟩ := Fr.same hS; go_simp; try with_reducible rfl
        try simp only [List.getElem_toArray, List.getElem_cons_zero, List.getElem_cons_succ, Act.put, List.setIfInBounds_toArray, List.set_cons_zero, List.set_cons_succ]
        refine wpQ_take (v := ?qv283) (by rfl) (fun wS hS => ?qh283) ?qk283
        case qh283 => obtain ⟨L1, L2, L3, L4, L5, L6⟩ := Fr.same hS; go_simp; try with_reducible rfl
        try simp only [List.getElem_toArray, List.getElem_cons_zero, List.getElem_cons_succ, Act.put, List.setIfInBounds_toArray, List.set_cons_zero, List.set_cons_succ]
        refine wpQ_take (v := ?qv286) (by rfl) (fun wS hS => ?qh286) ?qk286
        case qh286 => obtain ⟨L1, L2, L3, L4, L5, L6⟩ := Fr.same hS; go_simp; try with_reducible rfl
        try simp only [List.getElem_toArray, List.getElem_cons_zero, List.getElem_cons_succ, Act.put, List.setIfInBounds_toArray, List.set_cons_zero, List.set_cons_succ]
        refine wpQ_take (v := ?qv289) (by rfl) (fun wS hS => ?qh289) ?qk289
        case qh289 => obtain ⟨L1, L2, L3, L4, L5, L6⟩ := Fr.same hS; go_simp; try with_reducible rfl
        try simp only [List.getElem_toArray, List.getElem_cons_zero, List.getElem_cons_succ, Act.put, List.setIfInBounds_toArray, List.set_cons_zero, List.set_cons_succ]
        refine wpQ_take (v := ?qv292) (by rfl) (fun wS hS => ?qh292) ?qk292
        case qh292 => obtain ⟨L1, L2, L3, L4, L5, L6⟩ := Fr.same hS; go_simp; try with_reducible rfl
        try simp only [List.getElem_toArray, List.getElem_cons_zero, List.getElem_cons_succ, Act.put, List.setIfInBounds_toArray, List.set_cons_zero, List.set_cons_succ]
        refine wpQ_take (v := ?qv295) (by rfl) (fun wS hS => ?qh295) ?qk295
        case qh295 => obtain ⟨L1, L2, L3, L4, L5, L6⟩ := Fr.same hS; go_simp; try with_reducible rfl
        try simp only [List.getElem_toArray, List.getElem_cons_zero, List.getElem_cons_succ, Act.put, List.setIfInBounds_toArray, List.set_cons_zero, List.set_cons_succ]
        refine wpQ_take (v := ?qv298) (by rfl) (fun wS hS => ?qh298) ?qk298
        case qh298 => obtain ⟨L1, L2, L3, L4, L5, L6⟩ := Fr.same hS; go_simp; try with_reducible rfl
        try simp only [List.getElem_toArray, List.getElem_cons_zero, List.getElem_cons_succ, Act.put, List.setIfInBounds_toArray, List.set_cons_zero, List.set_cons_succ]
        refine wpQ_take (v := ?qv301) (by rfl) (fun wS hS => ?qh301) ?qk301
        case qh301 => obtain ⟨L1, L2, L3, L4, L5, L6⟩ := Fr.same hS; go_simp; try with_reducible rfl
        try simp only [List.getElem_toArray, List.getElem_cons_zero, List.getElem_cons_succ, Act.put, List.setIfInBounds_toArray, List.set_cons_zero, List.set_cons_succ]
        refine wpQ_take (v := ?qv304) (by rfl) (fun wS hS => ?qh304) ?qk304
        case qh304 => obtain ⟨L1, L2, L3, L4, L5, L6⟩ := Fr.same hS; go_simp; try with_reducible rfl
        try simp only [List.getElem_toArray, List.getElem_cons_zero, List.getElem_cons_succ, Act.put, List.setIfInBounds_toArray, List.set_cons_zero, List.set_cons_succ]
        refine wpQ_take (v := ?qv307) (by rfl) (fun wS hS => ?qh307) ?qk307
        case qh307 => obtain ⟨L1, L2, L3, L4, L5, L6⟩ := Fr.same hS; go_simp; try with_reducible rfl
        try simp only [List.getElem_toArray, List.getElem_cons_zero, List.getElem_cons_succ, Act.put, List.setIfInBounds_toArray, List.set_cons_zero, List.set_cons_succ]
        refine wpQ_call (by rfl) (fun wS hS => ⟨_, _, ?qh310, Calls.fr hS (C1 _)⟩) ?qk310
        case qh310 => obtain ⟨L1, L2, L3, L4, L5, L6⟩ := Fr.same hS; go_simp; try with_reducible rfl
        try simp only [List.getElem_toArray, List.getElem_cons_zero, List.getElem_cons_succ, Act.put, List.setIfInBounds_toArray, List.set_cons_zero, List.set_cons_succ]
        refine wpQ_take (v := ?qv313) (by rfl) (fun wS hS => ?qh313) ?qk313
        case qh313 => obtain ⟨L1, L2, L3, L4, L5, L6⟩ := Fr.same hS; go_simp; try with_reducible rfl
        try simp only [List.getElem_toArray, List.getElem_cons_zero, List.getElem_cons_succ, Act.put, List.setIfInBounds_toArray, List.set_cons_zero, List.set_cons_succ]
        refine wpQ_nil ?_
        intro w1 f1
        go_wp2_with fail
        go_ret
        exact ⟨by rw [H.out]; rfl, hf0.step0 f1⟩
    · have e : riseB cf l = true := HRI.out.2 (fun j h => by
        have h1 := hj j (by omega)
        simp only at h1
        rw [dif_pos ⟨by omega, h⟩] at h1
        exact h1)
      have E := Lib.hid e
      clear e hj
      go_wp2_with fail
      go_ret
      exact ⟨by rw [E.out]; rfl, hf0⟩
set_option maxRecDepth 100000 in
set_option maxHeartbeats 1000000 in
theorem oRiseItem_any (w : World) (A : Option Addr) (c n : Nat) (l : List ItW) (hn : l.length = n) (hs : Sl w A (codT.row l)) (hb : l.length ≤ 140737488355328) (cf : ItW → ItW → Int)
    (hf : ∀ w x y, Calls Tryz.prog 83 #[.agg (codT.A x), .agg (codT.A y)] w (Gives w (.int .i64 (cf x y)))) :
    Calls Tryz.prog 82 #[.slice A n c, .func (.func 83) #[] #[]] w (Gives w (.bool (riseB cf l))) := by
  subst hn
  have HRI := Lib.hid (riseB_iff cf l)
  go_enter Tryz.func82, Tryz.ntmps82
  go_wp2_with fail
  go_loopg [5] l.length (fun gk iv wr => RisR w l.length (fun i j => if h : i < l.length ∧ j < l.length then cf (l[i]'h.1) (l[j]'h.2) else 0) gk iv wr)
  case atStart => exact ⟨1, rfl, by omega, by omega, .inr rfl, fun j hj => by omega, Fr.refl _ _⟩
  case round =>
    obtain ⟨k, rfl, rfl, hk1, hk2, hj, hf0⟩ := hrel
    by_cases hlt : k < l.length
    · have i0 : (0 : Int) ≤ (k : Int) := by omega
      have i1 : (k : Int) < (l.length : Int) := by omega
      obtain ⟨g, off, rfl, hg⟩ := hs.adC (by omega)
      have q2 : k - 1 < l.length := by omega
      have r1 : codT.rd wr g (off + (k - 1) * 38) = some (l[k - 1]'q2) := (hs.fr0 hf0).rd (k - 1) q2
      have r2 : codT.rd wr g (off + k * 38) = some l[k] := (hs.fr0 hf0).rd k hlt
      have hgw : g < wr.heap.size := Nat.lt_of_lt_of_le hg hf0.size
      have hbad : ¬ cf (l[k - 1]'q2) l[k] < 0 → riseB cf l = false := fun h => by
        rw [← Bool.not_eq_true]
        intro ht
        have := HRI.out.1 ht (k - 1) (by omega)
        simp only [show k - 1 + 1 = k by omega] at this
        exact h this
      have hok : cf (l[k - 1]'q2) l[k] < 0 → ∀ j, j + 1 < k + 1 → (fun i j => if h : i < l.length ∧ j < l.length then cf (l[i]'h.1) (l[j]'h.2) else 0) j (j + 1) < 0 := fun h j hjk => by
        rcases Nat.lt_or_ge (j + 1) k with h1 | h1
        · exact hj j h1
        · have e : j = k - 1 := by omega
          subst e
          simp only
          rw [dif_pos ⟨by omega, by omega⟩]
          simp only [show k - 1 + 1 = k by omega]
          exact h
      generalize l[k - 1]'q2 = p at r1 hbad hok
      generalize l[k] = p2 at r2 hbad hok
      have HBAD := Lib.hid hbad
      have HOK := Lib.hid hok
      clear hbad hok hj
      generalize hqe : k - 1 = q at r1 q2
      have m1 : IntKind.i64.wrap ((k : Int) - 1) = (q : Int) := by rw [IntKind.wrap_i64]; omega
      have j0 : (0 : Int) ≤ (q : Int) := by omega
      have j1 : (q : Int) < (l.length : Int) := by omega
      clear hqe
      have C1 := fun w => hf w p p2
      generalize cf p p2 = z at C1 HBAD HOK
      by_cases hz : z < 0
      · have hz2 : ¬ (0 : Int) ≤ z := by omega
        have H := Lib.hid (HOK.out hz)
        go_wp2_with fail
        refine wp_region_fr (by kernel_rfl) (by kernel_rfl) ?_
        refine wpQ_take (v := ?qv384) (by rfl) (fun wS hS => ?qh384) ?qk384
        case qh384 => obtain ⟨L1, L2, L3, L4, L5, L6⟩ := Fr.same hS; go_simp; try with_reducible rfl
        try simp only [List.getElem_toArray, List.getElem_cons_zero, List.getElem_cons_succ, Act.put, List.setIfInBounds_toArray, List.set_cons_zero, List.set_cons_succ]
        refine wpQ_take (v := ?qv387) (by rfl) (fun wS hS => ?qh387) ?qk387
        case qh387 => obtain ⟨L1, L2, L3, L4, L5, L6⟩ := Fr.same hS; go_simp; try with_reducible rfl
        try simp only [List.getElem_toArray, List.getElem_cons_zero, List.getElem_cons_succ, Act.put, List.setIfInBounds_toArray, List.set_cons_zero, List.set_cons_succ]
        refine wpQ_take (v := ?qv390) (by rfl) (fun wS hS => ?qh390) ?qk390
        case qh390 => obtain ⟨L1, L2, L3, L4, L5, L6⟩ := Fr.same hS; go_simp; try with_reducible rfl
        try simp only [List.getElem_toArray, List.getElem_cons_zero, List.getElem_cons_succ, Act.put, List.setIfInBounds_toArray, List.set_cons_zero, List.set_cons_succ]
        refine wpQ_take (v := ?qv393) (by rfl) (fun wS hS => ?qh393) ?qk393
        case qh393 => obtain ⟨L1, L2, L3, L4, L5, L6⟩ := Fr.same hS; go_simp; try with_reducible rfl
        try simp only [List.getElem_toArray, List.getElem_cons_zero, List.getElem_cons_succ, Act.put, List.setIfInBounds_toArray, List.set_cons_zero, List.set_cons_succ]
        refine wpQ_take (v := ?qv396) (by rfl) (fun wS hS => ?qh396) ?qk396
        case qh396 => obtain ⟨L1, L2, L3, L4, L5, L6⟩ := Fr.same hS; go_simp; try with_reducible rfl
        try simp only [List.getElem_toArray, List.getElem_cons_zero, List.getElem_cons_succ, Act.put, List.setIfInBounds_toArray, List.set_cons_zero, List.set_cons_succ]
        refine wpQ_take (v := ?qv399) (by rfl) (fun wS hS => ?qh399) ?qk399
        case qh399 => obtain ⟨L1, L2, L3, L4, L5, L6⟩ := Fr.same hS; go_simp; try with_reducible rfl
        try simp only [List.getElem_toArray, List.getElem_cons_zero, List.getElem_cons_succ, Act.put, List.setIfInBounds_toArray, List.set_cons_zero, List.set_cons_succ]
        refine wpQ_take (v := ?qv402) (by rfl) (fun wS hS => ?qh402) ?qk402
        case qh402 => obtain ⟨L1, L2, L3, L4, L5, L6⟩ := Fr.same hS; go_simp; try with_reducible rfl
        try simp only [List.getElem_toArray, List.getElem_cons_zero, List.getElem_cons_succ, Act.put, List.setIfInBounds_toArray, List.set_cons_zero, List.set_cons_succ]
        refine wpQ_take (v := ?qv405) (by rfl) (fun wS hS => ?qh405) ?qk405
        case qh405 => obtain ⟨L1, L2, L3, L4, L5, L6⟩ := Fr.same hS; go_simp; try with_reducible rfl
        try simp only [List.getElem_toArray, List.getElem_cons_zero, List.getElem_cons_succ, Act.put, List.setIfInBounds_toArray, List.set_cons_zero, List.set_cons_succ]
        refine wpQ_take (v := ?qv408) (by rfl) (fun wS hS => ?qh408) ?qk408
        case qh408 => obtain ⟨L1, L2, L3, L4, L5, L6⟩ := Fr.same hS; go_simp; try with_reducible rfl
        try simp only [List.getElem_toArray, List.getElem_cons_zero, List.getElem_cons_succ, Act.put, List.setIfInBounds_toArray, List.set_cons_zero, List.set_cons_succ]
        refine wpQ_take (v := ?qv411) (by rfl) (fun wS hS => ?qh411) ?qk411
        case qh411 => obtain ⟨L1, L2, L3, L4, L5, L6⟩ := Fr.same hS; go_simp; try with_reducible rfl
        try simp only [List.getElem_toArray, List.getElem_cons_zero, List.getElem_cons_succ, Act.put, List.setIfInBounds_toArray, List.set_cons_zero, List.set_cons_succ]
        refine wpQ_call (by rfl) (fun wS hS => ⟨_, _, ?qh414, Calls.fr hS (C1 _)⟩) ?qk414
        case qh414 => obtain ⟨L1, L2, L3, L4, L5, L6⟩ := Fr.same hS; go_simp; try with_reducible rfl
        try simp only [List.getElem_toArray, List.getElem_cons_zero, List.getElem_cons_succ, Act.put, List.setIfInBounds_toArray, List.set_cons_zero, List.set_cons_succ]
        refine wpQ_take (v := ?qv417) (by rfl) (fun wS hS => ?qh417) ?qk417
        case qh417 => obtain ⟨L1, L2, L3, L4, L5, L6⟩ := Fr.same hS; go_simp; try with_reducible rfl
        try simp only [List.getElem_toArray, List.getElem_cons_zero, List.getElem_cons_succ, Act.put, List.setIfInBounds_toArray, List.set_cons_zero, List.set_cons_succ]
        refine wpQ_nil ?_
        intro w1 f1
        go_wp2_with fail
        go_roundg (l.length + 1 - (k + 1))
        case measure => omega
        case rel => exact ⟨k + 1, by simp, rfl, by omega, by omega, H.out, hf0.step0 f1⟩
      · have hz2 : (0 : Int) ≤ z := by omega
        have H := Lib.hid (HBAD.out hz)
        clear hz
        go_wp2_with fail
        refine wp_region_fr (by kernel_rfl) (by kernel_rfl) ?_
        refine wpQ_take (v := ?qv431) (by rfl) (fun wS hS => ?qh431) ?qk431
        case qh431 => obtain ⟨L1, L2, L3, L4, L5, L6⟩ := Fr.same hS; go_simp; try with_reducible rfl
        try simp only [List.getElem_toArray, List.getElem_cons_zero, List.getElem_cons_succ, Act.put, List.setIfInBounds_toArray, List.set_cons_zero, List.set_cons_succ]
        refine wpQ_take (v := ?qv434) (by rfl) (fun wS hS => ?qh434) ?qk434
        case qh434 => obtain ⟨L1, L2, L3, L4, L5, L6⟩ := Fr.same hS; go_simp; try with_reducible rfl
        try simp only [List.getElem_toArray, List.getElem_cons_zero, List.getElem_cons_succ, Act.put, List.setIfInBounds_toArray, List.set_cons_zero, List.set_cons_succ]
        refine wpQ_take (v := ?qv437) (by rfl) (fun wS hS => ?qh437) ?qk437
        case qh437 => obtain ⟨L1, L2, L3, L4, L5, L6⟩ := Fr.same hS; go_simp; try with_reducible rfl
        try simp only [List.getElem_toArray, List.getElem_cons_zero, List.getElem_cons_succ, Act.put, List.setIfInBounds_toArray, List.set_cons_zero, List.set_cons_succ]
        refine wpQ_take (v := ?qv440) (by rfl) (fun wS hS => ?qh440) ?qk440
        case qh440 => obtain ⟨L1, L2, L3, L4, L5, L6⟩ := Fr.same hS; go_simp; try with_reducible rfl
        try simp only [List.getElem_toArray, List.getElem_cons_zero, List.getElem_cons_succ, Act.put, List.setIfInBounds_toArray, List.set_cons_zero, List.set_cons_succ]
        refine wpQ_take (v := ?qv443) (by rfl) (fun wS hS => ?qh443) ?qk443
        case qh443 => obtain ⟨L1, L2, L3, L4, L5, L6⟩ := Fr.same hS; go_simp; try with_reducible rfl
        try simp only [List.getElem_toArray, List.getElem_cons_zero, List.getElem_cons_succ, Act.put, List.setIfInBounds_toArray, List.set_cons_zero, List.set_cons_succ]
        refine wpQ_take (v := ?qv446) (by rfl) (fun wS hS => ?qh446) ?qk446
        case qh446 => obtain ⟨L1, L2, L3, L4, L5, L6⟩ := Fr.same hS; go_simp; try with_reducible rfl
        try simp only [List.getElem_toArray, List.getElem_cons_zero, List.getElem_cons_succ, Act.put, List.setIfInBounds_toArray, List.set_cons_zero, List.set_cons_succ]
        refine wpQ_take (v := ?qv449) (by rfl) (fun wS hS => ?qh449) ?qk449
        case qh449 => obtain ⟨L1, L2, L3, L4, L5, L6⟩ := Fr.same hS; go_simp; try with_reducible rfl
        try simp only [List.getElem_toArray, List.getElem_cons_zero, List.getElem_cons_succ, Act.put, List.setIfInBounds_toArray, List.set_cons_zero, List.set_cons_succ]
        refine wpQ_take (v := ?qv452) (by rfl) (fun wS hS => ?qh452) ?qk452
        case qh452 => obtain ⟨L1, L2, L3, L4, L5, L6⟩ := Fr.same hS; go_simp; try with_reducible rfl
        try simp only [List.getElem_toArray, List.getElem_cons_zero, List.getElem_cons_succ, Act.put, List.setIfInBounds_toArray, List.set_cons_zero, List.set_cons_succ]
        refine wpQ_take (v := ?qv455) (by rfl) (fun wS hS => ?qh455) ?qk455
        case qh455 => obtain ⟨L1, L2, L3, L4, L5, L6⟩ := Fr.same hS; go_simp; try with_reducible rfl
        try simp only [List.getElem_toArray, List.getElem_cons_zero, List.getElem_cons_succ, Act.put, List.setIfInBounds_toArray, List.set_cons_zero, List.set_cons_succ]
        refine wpQ_take (v := ?qv458) (by rfl) (fun wS hS => ?qh458) ?qk458
        case qh458 => obtain ⟨L1, L2, L3, L4, L5, L6⟩ := Fr.same hS; go_simp; try with_reducible rfl
        try simp only [List.getElem_toArray, List.getElem_cons_zero, List.getElem_cons_succ, Act.put, List.setIfInBounds_toArray, List.set_cons_zero, List.set_cons_succ]
        refine wpQ_call (by rfl) (fun wS hS => ⟨_, _, ?qh461, Calls.fr hS (C1 _)⟩) ?qk461
        case qh461 => obtain ⟨L1, L2, L3, L4, L5, L6⟩ := Fr.same hS; go_simp; try with_reducible rfl
        try simp only [List.getElem_toArray, List.getElem_cons_zero, List.getElem_cons_succ, Act.put, List.setIfInBounds_toArray, List.set_cons_zero, List.set_cons_succ]
        refine wpQ_take (v := ?qv464) (by rfl) (fun wS hS => ?qh464) ?qk464
        case qh464 => obtain ⟨L1, L2, L3, L4, L5, L6⟩ := Fr.same hS; go_simp; try with_reducible rfl
        try simp only [List.getElem_toArray, List.getElem_cons_zero, List.getElem_cons_succ, Act.put, List.setIfInBounds_toArray, List.set_cons_zero, List.set_cons_succ]
        refine wpQ_nil ?_
        intro w1 f1
        go_wp2_with fail
        go_ret
        exact ⟨by rw [H.out]; rfl, hf0.step0 f1⟩
    · have e : riseB cf l = true := HRI.out.2 (fun j h => by
        have h1 := hj j (by omega)
        simp only at h1
        rw [dif_pos ⟨by omega, h⟩] at h1
        exact h1)
      have E := Lib.hid e
      clear e hj
      go_wp2_with fail
      go_ret
      exact ⟨by rw [E.out]; rfl, hf0⟩
set_option maxRecDepth 100000 in
set_option maxHeartbeats 1000000 in
theorem oRiseHead_any (w : World) (A : Option Addr) (c n : Nat) (l : List Hd) (hn : l.length = n) (hs : Sl w A (codH.row l)) (hb : l.length ≤ 140737488355328) (cf : Hd → Hd → Int)
    (hf : ∀ w x y, Calls Tryz.prog 112 #[.agg (codH.A x), .agg (codH.A y)] w (Gives w (.int .i64 (cf x y)))) :
    Calls Tryz.prog 111 #[.slice A n c, .func (.func 112) #[] #[]] w (Gives w (.bool (riseB cf l))) := by
  subst hn
  have HRI := Lib.hid (riseB_iff cf l)
  go_enter Tryz.func111, Tryz.ntmps111
  go_wp2_with fail
  go_loopg [5] l.length (fun gk iv wr => RisR w l.length (fun i j => if h : i < l.length ∧ j < l.length then cf (l[i]'h.1) (l[j]'h.2) else 0) gk iv wr)
  case atStart => exact ⟨1, rfl, by omega, by omega, .inr rfl, fun j hj => by omega, Fr.refl _ _⟩
  case round =>
    obtain ⟨k, rfl, rfl, hk1, hk2, hj, hf0⟩ := hrel
    by_cases hlt : k < l.length
    · have i0 : (0 : Int) ≤ (k : Int) := by omega
      have i1 : (k : Int) < (l.length : Int) := by omega
      obtain ⟨g, off, rfl, hg⟩ := hs.adC (by omega)
      have q2 : k - 1 < l.length := by omega
      have r1 : codH.rd wr g (off + (k - 1) * 34) = some (l[k - 1]'q2) := (hs.fr0 hf0).rd (k - 1) q2
      have r2 : codH.rd wr g (off + k * 34) = some l[k] := (hs.fr0 hf0).rd k hlt
      have hgw : g < wr.heap.size := Nat.lt_of_lt_of_le hg hf0.size
      have hbad : ¬ cf (l[k - 1]'q2) l[k] < 0 → riseB cf l = false := fun h => by
        rw [← Bool.not_eq_true]
        intro ht
        have := HRI.out.1 ht (k - 1) (by omega)
        simp only [show k - 1 + 1 = k by omega] at this
        exact h this
      have hok : cf (l[k - 1]'q2) l[k] < 0 → ∀ j, j + 1 < k + 1 → (fun i j => if h : i < l.length ∧ j < l.length then cf (l[i]'h.1) (l[j]'h.2) else 0) j (j + 1) < 0 := fun h j hjk => by
        rcases Nat.lt_or_ge (j + 1) k with h1 | h1
        · exact hj j h1
        · have e : j = k - 1 := by omega
          subst e
          simp only
          rw [dif_pos ⟨by omega, by omega⟩]
          simp only [show k - 1 + 1 = k by omega]
          exact h
      generalize l[k - 1]'q2 = p at r1 hbad hok
      generalize l[k] = p2 at r2 hbad hok
      have HBAD := Lib.hid hbad
      have HOK := Lib.hid hok
      clear hbad hok hj
      generalize hqe : k - 1 = q at r1 q2
      have m1 : IntKind.i64.wrap ((k : Int) - 1) = (q : Int) := by rw [IntKind.wrap_i64]; omega
      have j0 : (0 : Int) ≤ (q : Int) := by omega
      have j1 : (q : Int) < (l.length : Int) := by omega
      clear hqe
      have C1 := fun w => hf w p p2
      generalize cf p p2 = z at C1 HBAD HOK
      by_cases hz : z < 0
      · have hz2 : ¬ (0 : Int) ≤ z := by omega
        have H := Lib.hid (HOK.out hz)
        go_wp2_with fail
        refine wp_region_fr (by kernel_rfl) (by kernel_rfl) ?_
        refine wpQ_take (v := ?qv535) (by rfl) (fun wS hS => ?qh535) ?qk535
        case qh535 => obtain ⟨L1, L2, L3, L4, L5, L6⟩ := Fr.same hS; go_simp; try with_reducible rfl
        try simp only [List.getElem_toArray, List.getElem_cons_zero, List.getElem_cons_succ, Act.put, List.setIfInBounds_toArray, List.set_cons_zero, List.set_cons_succ]
        refine wpQ_take (v := ?qv538) (by rfl) (fun wS hS => ?qh538) ?qk538
        case qh538 => obtain ⟨L1, L2, L3, L4, L5, L6⟩ := Fr.same hS; go_simp; try with_reducible rfl
        try simp only [List.getElem_toArray, List.getElem_cons_zero, List.getElem_cons_succ, Act.put, List.setIfInBounds_toArray, List.set_cons_zero, List.set_cons_succ]
        refine wpQ_take (v := ?qv541) (by rfl) (fun wS hS => ?qh541) ?qk541
        case qh541 => obtain ⟨L1, L2, L3, L4, L5, L6⟩ := Fr.same hS; go_simp; try with_reducible rfl
        try simp only [List.getElem_toArray, List.getElem_cons_zero, List.getElem_cons_succ, Act.put, List.setIfInBounds_toArray, List.set_cons_zero, List.set_cons_succ]
        refine wpQ_take (v := ?qv544) (by rfl) (fun wS hS => ?qh544) ?qk544
        case qh544 => obtain ⟨L1, L2, L3, L4, L5, L6⟩ := Fr.same hS; go_simp; try with_reducible rfl
        try simp only [List.getElem_toArray, List.getElem_cons_zero, List.getElem_cons_succ, Act.put, List.setIfInBounds_toArray, List.set_cons_zero, List.set_cons_succ]
        refine wpQ_take (v := ?qv547) (by rfl) (fun wS hS => ?qh547) ?qk547
        case qh547 => obtain ⟨L1, L2, L3, L4, L5, L6⟩ := Fr.same hS; go_simp; try with_reducible rfl
        try simp only [List.getElem_toArray, List.getElem_cons_zero, List.getElem_cons_succ, Act.put, List.setIfInBounds_toArray, List.set_cons_zero, List.set_cons_succ]
        refine wpQ_take (v := ?qv550) (by rfl) (fun wS hS => ?qh550) ?qk550
        case qh550 => obtain ⟨L1, L2, L3, L4, L5, L6⟩ := Fr.same hS; go_simp; try with_reducible rfl
        try simp only [List.getElem_toArray, List.getElem_cons_zero, List.getElem_cons_succ, Act.put, List.setIfInBounds_toArray, List.set_cons_zero, List.set_cons_succ]
        refine wpQ_take (v := ?qv553) (by rfl) (fun wS hS => ?qh553) ?qk553
        case qh553 => obtain ⟨L1, L2, L3, L4, L5, L6⟩ := Fr.same hS; go_simp; try with_reducible rfl
        try simp only [List.getElem_toArray, List.getElem_cons_zero, List.getElem_cons_succ, Act.put, List.setIfInBounds_toArray, List.set_cons_zero, List.set_cons_succ]
        refine wpQ_take (v := ?qv556) (by rfl) (fun wS hS => ?qh556) ?qk556
        case qh556 => obtain ⟨L1, L2, L3, L4, L5, L6⟩ := Fr.same hS; go_simp; try with_reducible rfl
        try simp only [List.getElem_toArray, List.getElem_cons_zero, List.getElem_cons_succ, Act.put, List.setIfInBounds_toArray, List.set_cons_zero, List.set_cons_succ]
        refine wpQ_take (v := ?qv559) (by rfl) (fun wS hS => ?qh559) ?qk559
        case qh559 => obtain ⟨L1, L2, L3, L4, L5, L6⟩ := Fr.same hS; go_simp; try with_reducible rfl
        try simp only [List.getElem_toArray, List.getElem_cons_zero, List.getElem_cons_succ, Act.put, List.setIfInBounds_toArray, List.set_cons_zero, List.set_cons_succ]
        refine wpQ_take (v := ?qv562) (by rfl) (fun wS hS => ?qh562) ?qk562
        case qh562 => obtain ⟨L1, L2, L3, L4, L5, L6⟩ := Fr.same hS; go_simp; try with_reducible rfl
        try simp only [List.getElem_toArray, List.getElem_cons_zero, List.getElem_cons_succ, Act.put, List.setIfInBounds_toArray, List.set_cons_zero, List.set_cons_succ]
        refine wpQ_call (by rfl) (fun wS hS => ⟨_, _, ?qh565, Calls.fr hS (C1 _)⟩) ?qk565
        case qh565 => obtain ⟨L1, L2, L3, L4, L5, L6⟩ := Fr.same hS; go_simp; try with_reducible rfl
        try simp only [List.getElem_toArray, List.getElem_cons_zero, List.getElem_cons_succ, Act.put, List.setIfInBounds_toArray, List.set_cons_zero, List.set_cons_succ]
        refine wpQ_take (v := ?qv568) (by rfl) (fun wS hS => ?qh568) ?qk568
        case qh568 => obtain ⟨L1, L2, L3, L4, L5, L6⟩ := Fr.same hS; go_simp; try with_reducible rfl
        try simp only [List.getElem_toArray, List.getElem_cons_zero, List.getElem_cons_succ, Act.put, List.setIfInBounds_toArray, List.set_cons_zero, List.set_cons_succ]
        refine wpQ_nil ?_
        intro w1 f1
        go_wp2_with fail
        go_roundg (l.length + 1 - (k + 1))
        case measure => omega
        case rel => exact ⟨k + 1, by simp, rfl, by omega, by omega, H.out, hf0.step0 f1⟩
      · have hz2 : (0 : Int) ≤ z := by omega
        have H := Lib.hid (HBAD.out hz)
        clear hz
        go_wp2_with fail
        refine wp_region_fr (by kernel_rfl) (by kernel_rfl) ?_
        refine wpQ_take (v := ?qv582) (by rfl) (fun wS hS => ?qh582) ?qk582
        case qh582 => obtain ⟨L1, L2, L3, L4, L5, L6⟩ := Fr.same hS; go_simp; try with_reducible rfl
        try simp only [List.getElem_toArray, List.getElem_cons_zero, List.getElem_cons_succ, Act.put, List.setIfInBounds_toArray, List.set_cons_zero, List.set_cons_succ]
        refine wpQ_take (v := ?qv585) (by rfl) (fun wS hS => ?qh585) ?qk585
        case qh585 => obtain ⟨L1, L2, L3, L4, L5, L6⟩ := Fr.same hS; go_simp; try with_reducible rfl
        try simp only [List.getElem_toArray, List.getElem_cons_zero, List.getElem_cons_succ, Act.put, List.setIfInBounds_toArray, List.set_cons_zero, List.set_cons_succ]
        refine wpQ_take (v := ?qv588) (by rfl) (fun wS hS => ?qh588) ?qk588
        case qh588 => obtain ⟨L1, L2, L3, L4, L5, L6⟩ := Fr.same hS; go_simp; try with_reducible rfl
        try simp only [List.getElem_toArray, List.getElem_cons_zero, List.getElem_cons_succ, Act.put, List.setIfInBounds_toArray, List.set_cons_zero, List.set_cons_succ]
        refine wpQ_take (v := ?qv591) (by rfl) (fun wS hS => ?qh591) ?qk591
        case qh591 => obtain ⟨L1, L2, L3, L4, L5, L6⟩ := Fr.same hS; go_simp; try with_reducible rfl
        try simp only [List.getElem_toArray, List.getElem_cons_zero, List.getElem_cons_succ, Act.put, List.setIfInBounds_toArray, List.set_cons_zero, List.set_cons_succ]
        refine wpQ_take (v := ?qv594) (by rfl) (fun wS hS => ?qh594) ?qk594
        case qh594 => obtain ⟨L1, L2, L3, L4, L5, L6⟩ := Fr.same hS; go_simp; try with_reducible rfl
        try simp only [List.getElem_toArray, List.getElem_cons_zero, List.getElem_cons_succ, Act.put, List.setIfInBounds_toArray, List.set_cons_zero, List.set_cons_succ]
        refine wpQ_take (v := ?qv597) (by rfl) (fun wS hS => ?qh597) ?qk597
        case qh597 => obtain ⟨L1, L2, L3, L4, L5, L6⟩ := Fr.same hS; go_simp; try with_reducible rfl
        try simp only [List.getElem_toArray, List.getElem_cons_zero, List.getElem_cons_succ, Act.put, List.setIfInBounds_toArray, List.set_cons_zero, List.set_cons_succ]
        refine wpQ_take (v := ?qv600) (by rfl) (fun wS hS => ?qh600) ?qk600
        case qh600 => obtain ⟨L1, L2, L3, L4, L5, L6⟩ := Fr.same hS; go_simp; try with_reducible rfl
        try simp only [List.getElem_toArray, List.getElem_cons_zero, List.getElem_cons_succ, Act.put, List.setIfInBounds_toArray, List.set_cons_zero, List.set_cons_succ]
        refine wpQ_take (v := ?qv603) (by rfl) (fun wS hS => ?qh603) ?qk603
        case qh603 => obtain ⟨L1, L2, L3, L4, L5, L6⟩ := Fr.same hS; go_simp; try with_reducible rfl
        try simp only [List.getElem_toArray, List.getElem_cons_zero, List.getElem_cons_succ, Act.put, List.setIfInBounds_toArray, List.set_cons_zero, List.set_cons_succ]
        refine wpQ_take (v := ?qv606) (by rfl) (fun wS hS => ?qh606) ?qk606
        case qh606 => obtain ⟨L1, L2, L3, L4, L5, L6⟩ := Fr.same hS; go_simp; try with_reducible rfl
        try simp only [List.getElem_toArray, List.getElem_cons_zero, List.getElem_cons_succ, Act.put, List.setIfInBounds_toArray, List.set_cons_zero, List.set_cons_succ]
        refine wpQ_take (v := ?qv609) (by rfl) (fun wS hS => ?qh609) ?qk609
        case qh609 => obtain ⟨L1, L2, L3, L4, L5, L6⟩ := Fr.same hS; go_simp; try with_reducible rfl
        try simp only [List.getElem_toArray, List.getElem_cons_zero, List.getElem_cons_succ, Act.put, List.setIfInBounds_toArray, List.set_cons_zero, List.set_cons_succ]
        refine wpQ_call (by rfl) (fun wS hS => ⟨_, _, ?qh612, Calls.fr hS (C1 _)⟩) ?qk612
        case qh612 => obtain ⟨L1, L2, L3, L4, L5, L6⟩ := Fr.same hS; go_simp; try with_reducible rfl
        try simp only [List.getElem_toArray, List.getElem_cons_zero, List.getElem_cons_succ, Act.put, List.setIfInBounds_toArray, List.set_cons_zero, List.set_cons_succ]
        refine wpQ_take (v := ?qv615) (by rfl) (fun wS hS => ?qh615) ?qk615
        case qh615 => obtain ⟨L1, L2, L3, L4, L5, L6⟩ := Fr.same hS; go_simp; try with_reducible rfl
        try simp only [List.getElem_toArray, List.getElem_cons_zero, List.getElem_cons_succ, Act.put, List.setIfInBounds_toArray, List.set_cons_zero, List.set_cons_succ]
        refine wpQ_nil ?_
        intro w1 f1
        go_wp2_with fail
        go_ret
        exact ⟨by rw [H.out]; rfl, hf0.step0 f1⟩
    · have e : riseB cf l = true := HRI.out.2 (fun j h => by
        have h1 := hj j (by omega)
        simp only at h1
        rw [dif_pos ⟨by omega, h⟩] at h1
        exact h1)
      have E := Lib.hid e
      clear e hj
      go_wp2_with fail
      go_ret
      exact ⟨by rw [E.out]; rfl, hf0⟩
end Go.Proofs.YtejkfekpgbmdiaaGreat
