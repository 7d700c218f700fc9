/- Contracts: the closures of obj.rightItem, rightDir, rightChange; rightItem, rightDir, rightLabel. Contracts: slices.Index and Contains of IDs, the closures of obj.rightChange, obj.rightChange. -/
import Derived.Test.YtejkfekpgbmdiaaGreatListF
import Derived.Test.YtejkfekpgbmdiaaGreatRegM
namespace Go.Proofs.YtejkfekpgbmdiaaGreat
open Go.RowKit
set_option linter.unusedVariables false
set_option linter.unusedSimpArgs false

set_option maxRecDepth 100000 in
theorem oRC3_any (w : World) (x y : OpW) : Calls Tryz.prog 103 #[.agg (codO.A x), .agg (codO.A y)] w (Gives w (.int .i64 (cmpS x.At y.At))) := by
  have f0 : Fr noB w ((w.alloc (.cells (codO.A x) 72)).alloc (.cells (codO.A y) 72)) := ((Fr.refl noB w).alloc _).alloc _
  have hz : (w.alloc (.cells (codO.A x) 72)).heap.size = w.heap.size + 1 := by simp
  have q1 := (opAt (Cod.rd_fr0 (Cod.rd_new w 72 x) ((Fr.refl noB _).alloc (.cells (codO.A y) 72)))).At
  have q2 := (opAt (Cod.rd_new (w.alloc (.cells (codO.A x) 72)) 72 y)).At
  rw [hz] at q2
  clear hz
  go_enter Tryz.func103, Tryz.ntmps103
  go_upto_region 1 with fail
  generalize (w.alloc (.cells (codO.A x) 72)).alloc (.cells (codO.A y) 72) = W0 at f0 q1 q2 ⊢
  generalize w.heap.size = P at q1 q2 ⊢
  go_wp2_with (go_at_call 84; refine (scmp_v _ x.At y.At).mono ?_; rintro e w1 ⟨rfl, f1⟩)
  go_ret
  exact ⟨rfl, f0.step0 f1⟩
set_option maxRecDepth 100000 in
theorem oRD2_any (w : World) (x y : ItW) : Calls Tryz.prog 83 #[.agg (codT.A x), .agg (codT.A y)] w (Gives w (.int .i64 (cmpS x.Node y.Node))) := by
  have f0 : Fr noB w ((w.alloc (.cells (codT.A x) 77)).alloc (.cells (codT.A y) 77)) := ((Fr.refl noB w).alloc _).alloc _
  have hz : (w.alloc (.cells (codT.A x) 77)).heap.size = w.heap.size + 1 := by simp
  have q1 := (itAt (Cod.rd_fr0 (Cod.rd_new w 77 x) ((Fr.refl noB _).alloc (.cells (codT.A y) 77)))).node
  have q2 := (itAt (Cod.rd_new (w.alloc (.cells (codT.A x) 77)) 77 y)).node
  rw [hz] at q2
  clear hz
  go_enter Tryz.func83, Tryz.ntmps83
  go_upto_region 1 with fail
  generalize (w.alloc (.cells (codT.A x) 77)).alloc (.cells (codT.A y) 77) = W0 at f0 q1 q2 ⊢
  generalize w.heap.size = P at q1 q2 ⊢
  go_wp2_with (go_at_call 84; refine (scmp_v _ x.Node y.Node).mono ?_; rintro e w1 ⟨rfl, f1⟩)
  go_ret
  exact ⟨rfl, f0.step0 f1⟩
set_option maxRecDepth 100000 in
theorem oRI1_any (w : World) (x y : Hd) : Calls Tryz.prog 112 #[.agg (codH.A x), .agg (codH.A y)] w (Gives w (.int .i64 (cmpS x.At y.At))) := by
  have f0 : Fr noB w ((w.alloc (.cells (codH.A x) 84)).alloc (.cells (codH.A y) 84)) := ((Fr.refl noB w).alloc _).alloc _
  have hz : (w.alloc (.cells (codH.A x) 84)).heap.size = w.heap.size + 1 := by simp
  have q1 := (hdAt (Cod.rd_fr0 (Cod.rd_new w 84 x) ((Fr.refl noB _).alloc (.cells (codH.A y) 84)))).At
  have q2 := (hdAt (Cod.rd_new (w.alloc (.cells (codH.A x) 84)) 84 y)).At
  rw [hz] at q2
  clear hz
  go_enter Tryz.func112, Tryz.ntmps112
  go_upto_region 1 with fail
  generalize (w.alloc (.cells (codH.A x) 84)).alloc (.cells (codH.A y) 84) = W0 at f0 q1 q2 ⊢
  generalize w.heap.size = P at q1 q2 ⊢
  go_wp2_with (go_at_call 84; refine (scmp_v _ x.At y.At).mono ?_; rintro e w1 ⟨rfl, f1⟩)
  go_ret
  exact ⟨rfl, f0.step0 f1⟩

/-- an item as it lies in memory, with its row -/
def itOf (r : ItW) (hs : List Hd) : It := ⟨r.Node, r.At, r.Name, r.Sub, hs⟩
structure ItIn (w : World) (r : ItW) (x : It) : Prop where
  eq : x = itOf r x.Heads
  len : x.Heads.length = r.n
  sl : Sl w r.A (codH.row x.Heads)
  bd : x.Heads.length ≤ 140737488355328
  nm : r.Name.length ≤ 140737488355328
theorem ItIn.fr {w w' : World} {r : ItW} {o : It} (h : ItIn w r o) (f : Fr noB w w') : ItIn w' r o := ⟨h.eq, h.len, h.sl.fr0 f, h.bd, h.nm⟩
def HdR (W : World) (p : Hd → Bool) (hs : List Hd) (gk : Nat) (iv : Value) (wr : World) : Prop := ∃ k : Nat, iv = .int .i64 (k : Int) ∧ gk = hs.length - k ∧ k ≤ hs.length ∧ Fr noB W wr ∧ (hs.take k).all p = true
set_option maxRecDepth 100000 in
set_option maxHeartbeats 2000000 in
theorem rightItem_any (w : World) (r : ItW) (x : It) (h : ItIn w r x) : Calls Tryz.prog 81 #[.agg (codT.A r)] w (Gives w (.bool (rightIt x))) := by
  obtain ⟨he, hlen, hs, hbd, hnm⟩ := h
  generalize x.Heads = hd at he hlen hs hbd
  subst he
  have f0 : Fr noB w (w.alloc (.cells (codT.A r) 77)) := (Fr.refl noB w).alloc _
  obtain ⟨q1, q2, q3, q4, q5, q6⟩ := itAt (Cod.rd_new w 77 r)
  have hP : w.heap.size < (w.alloc (.cells (codT.A r) 77)).heap.size := by simp
  have hM : rightIt (itOf r hd) = (rightS r.Node && rightS r.At && decide (0 ≤ cmpS r.At r.Node) && nameOk r.Name && decide (r.n ≤ 1000) && (hd.all fun h => rightS h.At && decide (0 < cmpS h.At r.Node) && decide (h.Data ≠ zID)) && riseB (fun a b : Hd => cmpS a.At b.At) hd) := by unfold rightIt itOf; rw [hlen]
  have HM := Lib.hid hM
  have HL := Lib.hid hlen
  replace hs := hs.fr0 f0
  clear hM hlen q4 q6
  go_enter Tryz.func81, Tryz.ntmps81
  go_upto_region 1 with fail
  generalize w.alloc (.cells (codT.A r) 77) = W0 at f0 hs q1 q2 q3 q5 hP ⊢
  generalize w.heap.size = P at q1 q2 q3 q5 hP ⊢
  have f1 : Fr noB W0 W0 := Fr.refl _ _
  obtain ⟨L1, L2, L3, L4, L5, L6⟩ := f1.same
  go_wp2_with (first
    | (go_at_call 99; refine (right_v _ _).mono ?_; rintro e w2 ⟨rfl, f2⟩; replace f1 := f1.step0 f2; clear L1 L2 L3 L4 L5 L6; obtain ⟨L1, L2, L3, L4, L5, L6⟩ := f1.same)
    | (go_at_call 84; refine (scmp_v _ r.At r.Node).mono ?_; rintro e w2 ⟨rfl, f2⟩; replace f1 := f1.step0 f2; clear L1 L2 L3 L4 L5 L6; obtain ⟨L1, L2, L3, L4, L5, L6⟩ := f1.same)
    | (go_at_call 107; refine (name_any _ _ hnm).mono ?_; rintro e w2 ⟨rfl, f2⟩; replace f1 := f1.step0 f2; clear L1 L2 L3 L4 L5 L6; obtain ⟨L1, L2, L3, L4, L5, L6⟩ := f1.same))
  all_goals first
    | (go_ret
       refine ⟨?_, f0.step0 f1⟩
       rw [HM.out]
       first
       | (simp [*]; done)
       | (have hle : ¬ 0 ≤ cmpS r.At r.Node := by omega
          simp [hle]; done)
       | (have hle : ¬ r.n ≤ 1000 := by omega
          simp [hle]; done))
    | skip
  have HM2 : Hid (rightIt (itOf r hd) = ((hd.all fun h => rightS h.At && decide (0 < cmpS h.At r.Node) && decide (h.Data ≠ zID)) && riseB (fun a b : Hd => cmpS a.At b.At) hd)) := Lib.hid (by
    rw [HM.out]
    have h6 : r.n ≤ 1000 := by omega
    simp [*])
  clear HM L1 L2 L3 L4 L5 L6
  replace hs := hs.fr0 f1
  have r4 := (f1.same.st _ 0 hP).trans q1
  have r9 := (f1.same.cell _ 37 hP).trans q5
  have hP1 : P < w2.heap.size := Nat.lt_of_lt_of_le hP f1.size
  replace f0 := f0.step0 f1
  clear q1 q2 q3 q5 hP f1
  rw [← HL.out] at r9 ⊢
  clear HL
  generalize r.A = A at hs r9 ⊢
  generalize hpp : (fun h : Hd => rightS h.At && decide (0 < cmpS h.At r.Node) && decide (h.Data ≠ zID)) = pp at HM2
  have HPP := Lib.hid hpp
  clear hpp
  go_loopg [38] hd.length (fun gk iv wr => HdR w2 pp hd gk iv wr)
  case atStart => exact ⟨0, rfl, by omega, by omega, Fr.refl _ _, by simp⟩
  case round =>
    obtain ⟨k, rfl, rfl, hk, hf, ha⟩ := hrel
    have HA := Lib.hid ha
    clear ha
    by_cases hlt : k < hd.length
    · have i1 : (k : Int) < (hd.length : Int) := by omega
      obtain ⟨g, off, rfl, hg⟩ := hs.adC (by omega)
      have e1 : codH.rd wr g (off + k * 34) = some hd[k] := (hs.fr0 hf).rd k hlt
      have e4 := (hf.same.st _ 0 hP1).trans r4
      have hP2 : P < wr.heap.size := Nat.lt_of_lt_of_le hP1 hf.size
      have i0 : (0 : Int) ≤ (k : Int) := by omega
      have hpx : pp hd[k] = (rightS hd[k].At && decide (0 < cmpS hd[k].At r.Node) && decide (hd[k].Data ≠ zID)) := by rw [← HPP.out]
      have bad1 : pp hd[k] = false → rightIt (itOf r hd) = false := fun h => by
        have h1 := all_take_succ pp hd k hlt
        rw [h, Bool.and_false] at h1
        rw [HM2.out, all_take_false h1]; rfl
      have good1 : pp hd[k] = true → (hd.take (k + 1)).all pp = true := fun h => by rw [all_take_succ pp hd k hlt, HA.out, h]; rfl
      generalize hd[k] = x at e1 hpx bad1 good1
      have fA : Fr noB wr (wr.alloc (codH.o x)) := (Fr.refl noB wr).alloc _
      obtain ⟨n1, n2, n3⟩ := hdAt (Cod.rd_new' wr x)
      have n4 : wr.heap.size < (wr.alloc (codH.o x)).heap.size := by simp
      have BAD1 := Lib.hid bad1
      have GOOD1 := Lib.hid good1
      have HPX := Lib.hid hpx
      clear bad1 good1 hpx n3
      go_wp2_with fail
      have s4 := (fA.same.st _ 0 hP2).trans e4
      have hP3 := Nat.lt_of_lt_of_le hP2 fA.size
      replace fA := hf.step0 fA
      clear e1 e4 hP2
      generalize wr.alloc (codH.o x) = W at fA n1 n2 s4 hP3 n4 ⊢
      generalize wr.heap.size = N at n1 n2 n4 ⊢
      have f1 : Fr noB W W := Fr.refl _ _
      obtain ⟨L1, L2, L3, L4, L5, L6⟩ := f1.same
      go_wp2_with (first
        | (go_at_call 99; refine (right_v _ x.At).mono ?_; rintro e w3 ⟨rfl, f2⟩; replace f1 := f1.step0 f2; clear L1 L2 L3 L4 L5 L6; obtain ⟨L1, L2, L3, L4, L5, L6⟩ := f1.same)
        | (go_at_call 84; refine (scmp_v _ x.At r.Node).mono ?_; rintro e w3 ⟨rfl, f2⟩; replace f1 := f1.step0 f2; clear L1 L2 L3 L4 L5 L6; obtain ⟨L1, L2, L3, L4, L5, L6⟩ := f1.same))
      all_goals clear L1 L2 L3 L4 L5 L6 n1 n2 n4 s4
      all_goals first
        | (go_ret
           refine ⟨?_, (f0.step0 fA).step0 f1⟩
           rw [BAD1.out (by
             rw [HPX.out]
             first
             | (simp [*]; done)
             | (have hle : ¬ 0 < cmpS x.At r.Node := by omega
                simp [hle]; done)
             | (rename_i hor
                rcases hor with b | b
                · exfalso; omega
                · simp [b]))]
           rfl)
        | (have G1 := GOOD1.out (by
             rw [HPX.out]
             have hle : 0 < cmpS x.At r.Node := by omega
             simp [*])
           go_roundg (hd.length - (k + 1))
           case measure => omega
           case rel => exact ⟨k + 1, by simp, rfl, by omega, fA.step0 f1, G1⟩)
    · have hkl : k = hd.length := by omega
      subst hkl
      have i1 : ¬ (hd.length : Int) < (hd.length : Int) := by omega
      have e9 := (hf.same.cell _ 37 hP1).trans r9
      have h1 := HA.out
      rw [List.take_length] at h1
      have E : Hid (rightIt (itOf r hd) = riseB (fun a b : Hd => cmpS a.At b.At) hd) := Lib.hid (by rw [HM2.out, h1, Bool.true_and])
      clear h1 hlt
      have hr := oRiseHead_any wr A r.c hd.length hd rfl (hs.fr0 hf) hbd (fun a b => cmpS a.At b.At) oRI1_any
      generalize riseB (fun a b : Hd => cmpS a.At b.At) hd = b at E hr
      go_wp2_with (go_at_call 111; refine hr.mono ?_; rintro e w3 ⟨rfl, f2⟩)
      go_ret
      exact ⟨by rw [E.out]; rfl, (f0.step0 hf).step0 f2⟩
/-- a row of items -/
structure ItsIn (w : World) (rs : List ItW) (xs : List It) : Prop where
  len : rs.length = xs.length
  at_ : ∀ i (h : i < rs.length) (h' : i < xs.length), ItIn w rs[i] xs[i]
theorem ItsIn.fr {w w' : World} {rs : List ItW} {xs : List It} (h : ItsIn w rs xs) (f : Fr noB w w') : ItsIn w' rs xs := ⟨h.len, fun i h1 h2 => (h.at_ i h1 h2).fr f⟩
set_option maxRecDepth 100000 in
theorem rd1_any (w : World) (r : ItW) (x : It) (h : ItIn w r x) : Calls Tryz.prog 80 #[.agg (codT.A r)] w (Gives w (.bool (!rightIt x))) := by
  have f0 : Fr noB w (w.alloc (.cells (codT.A r) 77)) := (Fr.refl noB w).alloc _
  have q := Cod.rd_new (C := codT) w 77 r
  have hc := Lib.hid (rightItem_any _ r x (h.fr f0))
  go_enter Tryz.func80, Tryz.ntmps80
  go_upto_region 1 with fail
  generalize w.alloc (.cells (codT.A r) 77) = W0 at f0 q hc ⊢
  go_wp2_with (go_at_call 81; refine hc.out.mono ?_; rintro e w1 ⟨rfl, f1⟩)
  go_ret
  exact ⟨by cases rightIt x <;> rfl, f0.step0 f1⟩
theorem riseB_map {α β : Type} (f : α → β) (cf : β → β → Int) : ∀ l : List α, riseB cf (l.map f) = riseB (fun a b => cf (f a) (f b)) l
  | [] => rfl
  | [x] => rfl
  | x :: y :: l => by
    have := riseB_map f cf (y :: l)
    simp only [List.map_cons] at this ⊢
    unfold riseB
    rw [this]
theorem any_not {α : Type} (p : α → Bool) (l : List α) : l.any (fun x => !p x) = !l.all p := by
  induction l with
  | nil => rfl
  | cons x l ih => rw [List.any_cons, List.all_cons, ih, Bool.not_and]
theorem any_range {α : Type} (l : List α) (p : α → Bool) (q : Nat → Bool) (h : ∀ i (hi : i < l.length), q i = p l[i]) : (List.range l.length).any q = l.any p := by
  rw [Bool.eq_iff_iff, List.any_eq_true, List.any_eq_true]
  constructor
  · rintro ⟨i, hi, hq⟩
    have hi := List.mem_range.1 hi
    exact ⟨l[i], List.getElem_mem hi, by rw [← h i hi]; exact hq⟩
  · rintro ⟨x, hx, hp⟩
    obtain ⟨i, hi, rfl⟩ := List.mem_iff_getElem.1 hx
    exact ⟨i, List.mem_range.2 hi, by rw [h i hi]; exact hp⟩
set_option maxRecDepth 100000 in
set_option maxHeartbeats 1000000 in
theorem rightDir_any (w : World) (A : Option Addr) (c n : Nat) (rs : List ItW) (xs : List It) (hn : rs.length = n) (hs : Sl w A (codT.row rs)) (hb : rs.length ≤ 140737488355328) (h : ItsIn w rs xs) :
    Calls Tryz.prog 38 #[.slice A n c] w (Gives w (.bool (rightDr xs))) := by
  subst hn
  have hl := h.len
  have hM : rightDr xs = (decide (rs.length ≤ 1000) && (!(List.range rs.length).any fun i => if hi : i < xs.length then !rightIt xs[i] else true) && riseB (fun a b : ItW => cmpS a.Node b.Node) rs) := by
    unfold rightDr
    rw [hl]
    congr 1
    · congr 1
      rw [any_range xs (fun x => !rightIt x) _ (fun i hi => by rw [dif_pos hi]), any_not, Bool.not_not]
    · have e : xs.map (·.Node) = rs.map (·.Node) := by
        refine List.ext_getElem (by simp [hl]) fun i h1 h2 => ?_
        simp only [List.getElem_map]
        have := (h.at_ i (by simpa using h2) (by simpa using h1)).eq
        rw [this]; rfl
      have e1 := riseB_map (fun x : It => x.Node) cmpS xs
      have e2 := riseB_map (fun x : ItW => x.Node) cmpS rs
      rw [← e1, ← e2, e]
  have HM := Lib.hid hM
  clear hM
  have hC := fun w1 (hf : Fr noB w w1) => itContainsF_any w1 A c rs.length rs rfl (hs.fr0 hf) hb (.bool false) (fun i => if hi : i < xs.length then !rightIt xs[i] else true) (fun w' hf' i hi => by
    rw [dif_pos (by omega)]
    exact rd1_any w' rs[i] (xs[i]'(by omega)) ((h.fr (hf.step0 hf')).at_ i hi (by omega)))
  have hR := fun w1 (hf : Fr noB w w1) => oRiseItem_any w1 A c rs.length rs rfl (hs.fr0 hf) hb (fun a b => cmpS a.Node b.Node) oRD2_any
  have HC := Lib.hid hC
  have HR := Lib.hid hR
  clear hC hR hl
  generalize (List.range rs.length).any (fun i => if hi : i < xs.length then !rightIt xs[i] else true) = b1 at HC HM
  generalize riseB (fun a b : ItW => cmpS a.Node b.Node) rs = b2 at HR HM
  have f1 : Fr noB w w := Fr.refl _ _
  go_enter Tryz.func38, Tryz.ntmps38
  go_wp2_with (first
    | (go_at_call 79; refine (HC.out _ f1).mono ?_; rintro e w3 ⟨rfl, f2⟩; replace f1 := f1.step0 f2)
    | (go_at_call 82; refine (HR.out _ f1).mono ?_; rintro e w3 ⟨rfl, f2⟩; replace f1 := f1.step0 f2))
  all_goals
    go_ret
    refine ⟨?_, f1⟩
    rw [HM.out]
    first
    | (simp [*]; done)
    | (have hle : ¬ rs.length ≤ 1000 := by omega
       simp [hle]; done)
    | (have hle : rs.length ≤ 1000 := by omega
       simp [*]; done)
set_option maxRecDepth 100000 in
set_option maxHeartbeats 1000000 in
theorem rightLabel_any (w : World) (r : Lbl) (h1 : r.Name.length ≤ 140737488355328) (h2 : r.Msg.length ≤ 140737488355328) : Calls Tryz.prog 70 #[.agg (codL.A r)] w (Gives w (.bool (rightLb r))) := by
  have f0 : Fr noB w (w.alloc (.cells (codL.A r) 55)) := (Fr.refl noB w).alloc _
  obtain ⟨q1, q2, q3, q4⟩ := lbAt (Cod.rd_new w 55 r)
  have hP : w.heap.size < (w.alloc (.cells (codL.A r) 55)).heap.size := by simp
  have HM := Lib.hid (show rightLb r = (decide (r.Target ≠ zID) && nameOk r.Name && decide (r.Msg.length ≤ 200)) from rfl)
  have hz := str_size r.Msg
  have HZ := Lib.hid hz
  clear q4 hz
  go_enter Tryz.func70, Tryz.ntmps70
  go_upto_region 1 with fail
  generalize w.alloc (.cells (codL.A r) 55) = W0 at f0 q1 q2 q3 hP ⊢
  generalize w.heap.size = P at q1 q2 q3 hP ⊢
  have f1 : Fr noB W0 W0 := Fr.refl _ _
  obtain ⟨L1, L2, L3, L4, L5, L6⟩ := f1.same
  go_wp2_with (go_at_call 107; refine (name_any _ _ h1).mono ?_; rintro e w2 ⟨rfl, f2⟩; replace f1 := f1.step0 f2; clear L1 L2 L3 L4 L5 L6; obtain ⟨L1, L2, L3, L4, L5, L6⟩ := f1.same)
  all_goals clear L1 L2 L3 L4 L5 L6 q1 q2 q3
  all_goals
    go_ret
    refine ⟨?_, f0.step0 f1⟩
    rw [HM.out]
    try rw [HZ.out]
    first
    | (simp [*]; done)
    | (simp [*]; omega)
    | (simp_all; done)
end Go.Proofs.YtejkfekpgbmdiaaGreat
namespace Go.Proofs.YtejkfekpgbmdiaaGreat
open Go.RowKit
set_option linter.unusedVariables false
set_option linter.unusedSimpArgs false

set_option maxRecDepth 100000 in
set_option maxHeartbeats 1000000 in
theorem idIndex_any (w : World) (A : Option Addr) (c n : Nat) (l : List ID) (hn : l.length = n) (hs : Sl w A (idc l)) (hb : l.length ≤ 140737488355328) (x : ID) :
    Calls Tryz.prog 129 #[.slice A n c, encI x] w (IxTo w (l.any fun y => decide (x = y))) := by
  subst hn
  have f0 : Fr noB w (w.alloc (.cells (idA x) 45)) := (Fr.refl noB w).alloc _
  have q0 : rdI (w.alloc (.cells (idA x) 45)) w.heap.size 0 = some x := rdI_new w x
  have hP : w.heap.size < (w.alloc (.cells (idA x) 45)).heap.size := by simp
  replace hs := hs.fr0 f0
  go_enter Tryz.func129, Tryz.ntmps129
  go_upto_region 1 with fail
  generalize w.alloc (.cells (idA x) 45) = W0 at f0 q0 hs hP ⊢
  generalize w.heap.size = P at q0 hP ⊢
  go_wp2_with fail
  go_loopg [8] l.length (fun gk iv wr => IxR W0 l.length (fun i => if h : i < l.length then decide (x = l[i]) else false) gk iv wr)
  case atStart => exact ⟨0, rfl, by omega, by omega, fun j hj => absurd hj (by omega), Fr.refl _ _⟩
  case round =>
    obtain ⟨k, rfl, rfl, hk, hj, hf⟩ := hrel
    have HJ := Lib.hid hj
    clear hj
    by_cases hlt : k < l.length
    · have i1 : (k : Int) < (l.length : Int) := by omega
      have i0 : (0 : Int) ≤ (k : Int) := by omega
      obtain ⟨g, off, rfl⟩ := hs.ad (by omega)
      have r1 : rdI wr.drew P 0 = some x := rdI_fr q0 hP hf.drew (by simp [noB])
      have r2 : rdI wr.drew g (off + k * 32) = some l[k] := (hs.fr0 hf.drew).id k hlt
      have hgood : x = l[k] → (l.any fun y => decide (x = y)) = true := fun h => List.any_eq_true.2 ⟨l[k], List.getElem_mem hlt, by simpa using h⟩
      have hstep : ¬ x = l[k] → ∀ j, j < k + 1 → (fun i => if h : i < l.length then decide (x = l[i]) else false) j = false := fun h j hj => by
        rcases Nat.lt_or_ge j k with h1 | h1
        · exact HJ.out j h1
        · have e : j = k := by omega
          subst e
          simp only
          rw [dif_pos hlt]
          simpa using h
      generalize l[k] = y at r2 hgood hstep
      have HG := Lib.hid hgood
      have HS := Lib.hid hstep
      clear hgood hstep
      have keep : ∀ w' w'' : World, Fr noB w' w'' → (rdI w' P 0 = some x ∧ rdI w' g (off + k * 32) = some y) → (rdI w'' P 0 = some x ∧ rdI w'' g (off + k * 32) = some y) := fun w' w'' f h =>
        ⟨rdI_fr h.1 (rdI_lt h.1) f (by simp [noB]), rdI_fr h.2 (rdI_lt h.2) f (by simp [noB])⟩
      go_wp2_with fail
      refine wp_region_M 5 6 [⟨2048, 8, 0⟩, ⟨4096, 1, 0⟩, ⟨8192, 32, 0⟩, ⟨16384, 12288, 6⟩, ⟨32768, 16384, 8⟩, ⟨65536, 34816, 17⟩] [(true, 0), (true, 1), (true, 2), (true, 3), (true, 4)] (fun w' => rdI w' P 0 = some x ∧ rdI w' g (off + k * 32) = some y) (by kernel_rfl) rfl (by kernel_rfl) (by kernel_rfl) (by kernel_rfl) ⟨r1, r2⟩ (fun hA hF => ?_)
      iterate 5
        refine wpAnyS_take (v := ?_) hA rfl (fun _ _ _ h => h) (Or.inl ⟨by rfl, ?_⟩) hF (fun hA => ?_)
        rotate_left
        · intro wS hSw; (try dsimp only at hSw); obtain ⟨s1, s2⟩ := hSw; first | (apply Eq.trans; apply ex_ld_id; exact rfl; exact rfl; assumption; with_reducible rfl) | (go_simp; try with_reducible rfl)
        try simp only [List.getElem_toArray, List.getElem_cons_zero, List.getElem_cons_succ, Act.put, List.setIfInBounds_toArray, List.set_cons_zero, List.set_cons_succ]
      refine wpAnyS_end hA rfl ?_
      simp only [List.drop_succ_cons, List.drop_zero]
      clear hF
      by_cases hxy : x = y
      · have H := Lib.hid (HG.out hxy)
        go_wp2_with fail
        go_ret
        exact ⟨k, rfl, by rw [H.out]; simp, (f0.step0 hf).drew⟩
      · have H := Lib.hid (HS.out hxy)
        go_wp2_with fail
        go_roundg (l.length - (k + 1))
        case measure => omega
        case rel => exact ⟨k + 1, by simp, rfl, by omega, H.out, hf.drew⟩
    · have hkl : k = l.length := by omega
      subst hkl
      have i1 : ¬ (l.length : Int) < (l.length : Int) := by omega
      have e : (l.any fun y => decide (x = y)) = false := by
        rw [← Bool.not_eq_true]
        intro ha
        obtain ⟨y, hy, hp⟩ := List.any_eq_true.1 ha
        obtain ⟨i, hi, rfl⟩ := List.mem_iff_getElem.1 hy
        have := HJ.out i hi
        simp only at this
        rw [dif_pos hi, hp] at this
        cases this
      have HP := Lib.hid e
      clear e
      go_wp2_with fail
      go_ret
      exact ⟨-1, rfl, by rw [HP.out]; rfl, f0.step0 hf⟩
set_option maxRecDepth 100000 in
theorem idContains_any (w : World) (A : Option Addr) (c n : Nat) (l : List ID) (hn : l.length = n) (hs : Sl w A (idc l)) (hb : l.length ≤ 140737488355328) (x : ID) :
    Calls Tryz.prog 97 #[.slice A n c, encI x] w (Gives w (.bool (l.any fun y => decide (x = y)))) := by
  have f0 : Fr noB w (w.alloc (.cells (idA x) 45)) := (Fr.refl noB w).alloc _
  have q0 : rdI (w.alloc (.cells (idA x) 45)) w.heap.size 0 = some x := rdI_new w x
  have h := Lib.hid (idIndex_any _ A c n l hn (hs.fr0 f0) hb x)
  clear hs
  subst hn
  generalize (l.any fun y => decide (x = y)) = b at h
  go_enter Tryz.func97, Tryz.ntmps97
  go_upto_region 1 with fail
  generalize w.alloc (.cells (idA x) 45) = W0 at f0 q0 h ⊢
  go_wp2_with (go_at_call 129; refine h.out.mono ?_; rintro e w1 ⟨z, rfl, hz, f1⟩)
  go_ret
  exact ⟨by rw [← hz]; rfl, f0.step0 f1⟩
set_option maxRecDepth 100000 in
set_option maxHeartbeats 1000000 in
theorem rc1_any (w : World) (r : OpW) (o : Opn) (h : OpIn w r o) (PC : Nat) (hPC : PC < w.heap.size) (T R : Int) (c1 : w.cell? ⟨PC, 1, none⟩ = some (.int .i64 T)) (c2 : w.cell? ⟨PC, 2, none⟩ = some (.int .i64 R)) :
    Calls Tryz.prog 95 #[.agg (codO.A r), .pointer (some ⟨PC, 0, none⟩)] w (Gives w (.bool (goodOp o && decide (o.At.T ≤ T) && decide (o.At.R = R)))) := by
  have f0 : Fr noB w (w.alloc (.cells (codO.A r) 72)) := (Fr.refl noB w).alloc _
  obtain ⟨q1, q2, q3, q4, q5, q6, q7, q8, q9, q10⟩ := opAt (Cod.rd_new w 72 r)
  have hP : w.heap.size < (w.alloc (.cells (codO.A r) 72)).heap.size := by simp
  have hc := Lib.hid (sgood_any _ r o (h.fr f0))
  have ea : o.At = r.At := by rw [h.eq]; rfl
  rw [ea]
  have d1 := (f0.same.cell PC 1 hPC).trans c1
  have d2 := (f0.same.cell PC 2 hPC).trans c2
  have hPC2 := Nat.lt_of_lt_of_le hPC f0.size
  clear q1 q4 q5 q6 q7 q8 q9 c1 c2 hPC h ea
  go_enter Tryz.func95, Tryz.ntmps95
  go_upto_region 1 with fail
  generalize w.alloc (.cells (codO.A r) 72) = W0 at f0 q2 q3 q10 hP hc d1 d2 hPC2 ⊢
  generalize w.heap.size = P at q2 q3 q10 hP ⊢
  go_wp2_with (go_at_call 96; refine hc.out.mono ?_; rintro e w1 ⟨rfl, f1⟩; obtain ⟨L1, L2, L3, L4, L5, L6⟩ := f1.same)
  all_goals clear L1 L2 L3 L4 L5 L6 q2 q3 q10 d1 d2
  all_goals
    go_ret
    refine ⟨?_, f0.step0 f1⟩
    have he : (r.At.R == R) = decide (r.At.R = R) := by rw [Bool.eq_iff_iff]; simp
    first
    | (simp [*]; done)
    | (simp [*]; intro ha; omega)
set_option maxRecDepth 100000 in
set_option maxHeartbeats 1000000 in
theorem rc2_any (w : World) (r : OpW) (o : Opn) (h : OpIn w r o) (V PC : Nat) (hV : V < w.heap.size) (hPC : PC < w.heap.size) (T R : Int) (cv : w.cell? ⟨V, 0, none⟩ = some (.func (.func 95) #[] #[.pointer (some ⟨PC, 0, none⟩)])) (c1 : w.cell? ⟨PC, 1, none⟩ = some (.int .i64 T)) (c2 : w.cell? ⟨PC, 2, none⟩ = some (.int .i64 R)) :
    Calls Tryz.prog 101 #[.agg (codO.A r), .pointer (some ⟨V, 0, none⟩)] w (Gives w (.bool (!(goodOp o && decide (o.At.T ≤ T) && decide (o.At.R = R))))) := by
  have f0 : Fr noB w (w.alloc (.cells (codO.A r) 72)) := (Fr.refl noB w).alloc _
  have q := Cod.rd_new (C := codO) w 72 r
  have d0 := (f0.same.cell V 0 hV).trans cv
  have hc := Lib.hid (rc1_any _ r o (h.fr f0) PC (Nat.lt_of_lt_of_le hPC f0.size) T R ((f0.same.cell PC 1 hPC).trans c1) ((f0.same.cell PC 2 hPC).trans c2))
  generalize (goodOp o && decide (o.At.T ≤ T) && decide (o.At.R = R)) = b at hc ⊢
  clear cv c1 c2 h
  go_enter Tryz.func101, Tryz.ntmps101
  go_upto_region 1 with fail
  generalize w.alloc (.cells (codO.A r) 72) = W0 at f0 q d0 hc ⊢
  go_wp2_with (go_at_call 95; refine hc.out.mono ?_; rintro e w1 ⟨rfl, f1⟩)
  go_ret
  exact ⟨by cases b <;> rfl, f0.step0 f1⟩
/-- a row of operations -/
structure OpsIn (w : World) (rs : List OpW) (xs : List Opn) : Prop where
  len : rs.length = xs.length
  at_ : ∀ i (h : i < rs.length) (h' : i < xs.length), OpIn w rs[i] xs[i]
theorem OpsIn.fr {w w' : World} {rs : List OpW} {xs : List Opn} (h : OpsIn w rs xs) (f : Fr noB w w') : OpsIn w' rs xs := ⟨h.len, fun i h1 h2 => (h.at_ i h1 h2).fr f⟩
/-- a commit as it lies in memory -/
structure CgIn (w : World) (r : CgW) (rs : List OpW) (c : Chg) : Prop where
  time : c.Time = r.Time
  R : c.R = r.R
  tree : c.Tree = r.Tree
  msg : c.Msg = r.Msg
  pl : c.Parents.length = r.pn
  ps : Sl w r.PA (idc c.Parents)
  ol : rs.length = r.on
  os : Sl w r.OA (codO.row rs)
  ops : OpsIn w rs c.Ops
  pb : c.Parents.length ≤ 140737488355328
  ob : rs.length ≤ 140737488355328
  mb : r.Msg.length ≤ 140737488355328
theorem CgIn.fr {w w' : World} {r : CgW} {rs : List OpW} {c : Chg} (h : CgIn w r rs c) (f : Fr noB w w') : CgIn w' r rs c :=
  ⟨h.time, h.R, h.tree, h.msg, h.pl, h.ps.fr0 f, h.ol, h.os.fr0 f, h.ops.fr f, h.pb, h.ob, h.mb⟩
@[simp] theorem run_store_fn (P : Program) (w : World) (a : Addr) (m : Mode) (f : Fn) (g c : Array Value) : (store a (.func f g c) m).run P w = stored P w a (.func f g c) m := run_store P w a _ m rfl
set_option maxRecDepth 100000 in
set_option maxHeartbeats 4000000 in
theorem rightChange_any (w : World) (r : CgW) (rs : List OpW) (c : Chg) (h : CgIn w r rs c) : Calls Tryz.prog 58 #[.agg (codC.A r)] w (Gives w (.bool (rightCh c))) := by
  have fa : Fr noB w (w.alloc (.cells (codC.A r) 47)) := (Fr.refl noB w).alloc _
  obtain ⟨q1, q2, q3, q4, q5, q6, q7⟩ := cgAt (Cod.rd_new w 47 r)
  have hP : w.heap.size < (w.alloc (.cells (codC.A r) 47)).heap.size := by simp
  have hmf : ∀ (fn : Fn) (first cap : Array Value) (w : World), (Instr.makeFunc fn first cap).run Tryz.prog w = .ok (.func fn first cap) w := fun _ _ _ _ => rfl
  go_enter Tryz.func58, Tryz.ntmps58
  go_upto_region 1 with fail
  generalize w.alloc (.cells (codC.A r) 47) = Wa at fa q1 q2 q3 q4 q5 q6 q7 hP ⊢
  generalize w.heap.size = P at q1 q2 q3 q4 q5 q6 q7 hP ⊢
  have fb : Fr noB Wa (Wa.alloc (.cells #[.func (.func 95) #[] #[.pointer (some ⟨P, 0, none⟩)]] 99)) := (Fr.refl noB Wa).alloc _
  have cv : (Wa.alloc (.cells #[.func (.func 95) #[] #[.pointer (some ⟨P, 0, none⟩)]] 99)).cell? ⟨Wa.heap.size, 0, none⟩ = some (.func (.func 95) #[] #[.pointer (some ⟨P, 0, none⟩)]) := by simp
  have hV : Wa.heap.size < (Wa.alloc (.cells #[.func (.func 95) #[] #[.pointer (some ⟨P, 0, none⟩)]] 99)).heap.size := by simp
  obtain ⟨L1, L2, L3, L4, L5, L6⟩ := fb.same
  replace q1 := (L1 P 0 hP).trans q1
  replace q2 := (L1 P 1 hP).trans q2
  replace q3 := (L1 P 2 hP).trans q3
  replace q4 := (L1 P 3 hP).trans q4
  replace q5 := (L3 P 4 hP).trans q5
  replace q6 := (L1 P 36 hP).trans q6
  clear L1 L2 L3 L4 L5 L6 q7
  replace hP := Nat.lt_of_lt_of_le hP fb.size
  have fab := fa.step0 fb
  have h2 := h.fr fab
  go_upto_region 3 with fail
  generalize Wa.alloc (.cells #[.func (.func 95) #[] #[.pointer (some ⟨P, 0, none⟩)]] 99) = W0 at fab q1 q2 q3 q4 q5 q6 hP h2 cv hV ⊢
  generalize Wa.heap.size = V at cv hV ⊢
  clear fb fa h
  obtain ⟨h3, h4, h5, h6, h7, h8, h9, h10, h11, h12, h13, h14⟩ := h2
  have hM : rightCh c = (decide (r.pn ≤ 2) && (!(c.Parents.any fun y => decide (zID = y))) && riseB cmpI c.Parents && rightS ⟨r.Time, r.R⟩ && decide (r.Msg.length ≤ 200) && decide (r.Tree ≠ zID) && decide (r.on ≤ 64) && !(decide (r.pn = 2) && decide (0 < r.on)) &&
      (!(List.range rs.length).any fun i => if hi : i < c.Ops.length then !(goodOp c.Ops[i] && decide (c.Ops[i].At.T ≤ r.Time) && decide (c.Ops[i].At.R = r.R)) else true) && riseB (fun a b : OpW => cmpS a.At b.At) rs) := by
    have hl := h11.len
    unfold rightCh
    rw [h7, h3, h4, h5, h6, ← h9, hl]
    congr 1
    · congr 1
      · congr 1
        · congr 1
          · congr 1
            · congr 1
              · congr 1
                · congr 1
                  · congr 1
                    rw [show (fun y => decide (zID = y)) = fun y => !decide (y ≠ zID) from funext fun y => by by_cases hy : y = zID <;> simp [hy, eq_comm], any_not, Bool.not_not]
      · rw [any_range c.Ops (fun o => !(goodOp o && decide (o.At.T ≤ r.Time) && decide (o.At.R = r.R))) _ (fun i hi => by rw [dif_pos hi]), any_not, Bool.not_not]
    · have e : c.Ops.map (·.At) = rs.map (·.At) := by
        refine List.ext_getElem (by simp [hl]) fun i h1 h2 => ?_
        simp only [List.getElem_map]
        have := (h11.at_ i (by simpa using h2) (by simpa using h1)).eq
        rw [this]; rfl
      have e1 := riseB_map (fun x : Opn => x.At) cmpS c.Ops
      have e2 := riseB_map (fun x : OpW => x.At) cmpS rs
      rw [← e1, ← e2, e]
  have HM := Lib.hid hM
  have hA := fun w1 (hf : Fr noB W0 w1) => idContains_any w1 r.PA r.pc r.pn c.Parents h7 (h8.fr0 hf) h12 zID
  have hB := fun w1 (hf : Fr noB W0 w1) => riseID_any w1 r.PA r.pc r.pn c.Parents h7 (h8.fr0 hf) h12
  have hC := fun w1 (hf : Fr noB W0 w1) => opContainsF_any w1 r.OA r.oc r.on rs h9 (h10.fr0 hf) h13 (.pointer (some ⟨V, 0, none⟩)) (fun i => if hi : i < c.Ops.length then !(goodOp c.Ops[i] && decide (c.Ops[i].At.T ≤ r.Time) && decide (c.Ops[i].At.R = r.R)) else true) (fun w' hf' i hi => by
    have hi2 : i < c.Ops.length := by rw [← h11.len]; exact hi
    have hg := hf.step0 hf'
    rw [dif_pos hi2]
    exact rc2_any w' rs[i] c.Ops[i] ((h11.fr hg).at_ i hi hi2) V P (Nat.lt_of_lt_of_le hV hg.size) (Nat.lt_of_lt_of_le hP hg.size) r.Time r.R ((hg.same.cell V 0 hV).trans cv) ((hg.same.cell P 1 hP).trans q2) ((hg.same.cell P 2 hP).trans q3))
  have hD := fun w1 (hf : Fr noB W0 w1) => oRiseOp_any w1 r.OA r.oc r.on rs h9 (h10.fr0 hf) h13 (fun a b => cmpS a.At b.At) oRC3_any
  have HA := Lib.hid hA
  have HB := Lib.hid hB
  have HC := Lib.hid hC
  have HD := Lib.hid hD
  have HZ := Lib.hid (str_size r.Msg)
  clear hM hA hB hC hD h3 h4 h5 h6 h7 h8 h9 h10 h11 h12 h13 h14 cv hV
  generalize (c.Parents.any fun y => decide (zID = y)) = b1 at HA HM
  generalize riseB cmpI c.Parents = b2 at HB HM
  generalize ((List.range rs.length).any fun i => if hi : i < c.Ops.length then !(goodOp c.Ops[i] && decide (c.Ops[i].At.T ≤ r.Time) && decide (c.Ops[i].At.R = r.R)) else true) = b3 at HC HM
  generalize riseB (fun a b : OpW => cmpS a.At b.At) rs = b4 at HD HM
  have f1 : Fr noB W0 W0 := Fr.refl _ _
  obtain ⟨L1, L2, L3, L4, L5, L6⟩ := f1.same
  go_wp2_with (first
    | (go_at_call 97; refine (HA.out _ f1).mono ?_; rintro e w3 ⟨rfl, f2⟩; replace f1 := f1.step0 f2; clear L1 L2 L3 L4 L5 L6; obtain ⟨L1, L2, L3, L4, L5, L6⟩ := f1.same)
    | (go_at_call 98; refine (HB.out _ f1).mono ?_; rintro e w3 ⟨rfl, f2⟩; replace f1 := f1.step0 f2; clear L1 L2 L3 L4 L5 L6; obtain ⟨L1, L2, L3, L4, L5, L6⟩ := f1.same)
    | (go_at_call 99; refine (right_v _ ⟨r.Time, r.R⟩).mono ?_; rintro e w3 ⟨rfl, f2⟩; replace f1 := f1.step0 f2; clear L1 L2 L3 L4 L5 L6; obtain ⟨L1, L2, L3, L4, L5, L6⟩ := f1.same)
    | (go_at_call 100; refine (HC.out _ f1).mono ?_; rintro e w3 ⟨rfl, f2⟩; replace f1 := f1.step0 f2; clear L1 L2 L3 L4 L5 L6; obtain ⟨L1, L2, L3, L4, L5, L6⟩ := f1.same)
    | (go_at_call 102; refine (HD.out _ f1).mono ?_; rintro e w3 ⟨rfl, f2⟩; replace f1 := f1.step0 f2; clear L1 L2 L3 L4 L5 L6; obtain ⟨L1, L2, L3, L4, L5, L6⟩ := f1.same))
  all_goals clear L1 L2 L3 L4 L5 L6 q1 q2 q3 q4 q5 q6 hP
  all_goals
    go_ret
    refine ⟨?_, fab.step0 f1⟩
    rw [HM.out]
    have hz := HZ.out
    first
    | (simp [*]; done)
    | (simp_all; done)
    | (simp_all; omega)
    | (simp_all; rename_i hor; rcases hor with hor | hor <;> first | (simp [hor]; done) | (intros; omega))
end Go.Proofs.YtejkfekpgbmdiaaGreat
