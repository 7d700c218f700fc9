/- Contract: pollardlaw14.DifferOrder is true. -/
import Derived.Test.YtefcalkbfaefgaaLawRowsK
namespace Go.Proofs.Ytefcalkbfaefgaa
open Go.RowKit Go.Sort
set_option linter.unusedVariables false
set_option linter.unusedSimpArgs false

def OrdR (w : World) (n M : Nat) (gk : Nat) (ev iv : Value) (wr : World) : Prop :=
  ∃ k : Nat, iv = .int .i64 (k : Int) ∧ ev = .bool (decide (M < k)) ∧ gk = n - k ∧ k ≤ n ∧ Fr noB w wr
/-- what is asked of each operation -/
structure OrdO (xs ys : List RwP) (s : St) (M k : Nat) (o : Opn) : Prop where
  T : o.At.T = s.T + k
  R : o.At.R = s.R
  good : goodOp o = true
  kind : (k < M ∧ o.Kind = 1 ∧ ∀ x y, findR xs o.Node = some x → findR ys o.Node = some y → ¬ (x.Parent = y.Parent ∧ x.Name = y.Name)) ∨ (M ≤ k ∧ o.Kind = 2 ∧ ∃ y, findR ys o.Node = some y)
set_option maxRecDepth 100000 in
set_option maxHeartbeats 4000000 in
theorem order14_any (w : World) (A B : Option Addr) (c d n m : Nat) (rs ss : List RwW) (xs ys : List RwP) (hn : rs.length = n) (hm : ss.length = m) (hSA : Sl w A (codR.row rs)) (hSB : Sl w B (codR.row ss)) (hX : RwsIn w rs xs) (hY : RwsIn w ss ys) (hbx : ∀ x ∈ xs, x.Heads.length ≤ 2932031007402) (hby : ∀ x ∈ ys, x.Heads.length ≤ 2932031007402) (hb1 : rs.length ≤ 140737488355328) (hb2 : ss.length ≤ 140737488355328) (s : St) (hw : wfS s = true) :
    Calls Try.prog 4 #[.slice A n c, .slice B m d, .agg (codS.A s)] w (Gives w (.bool true)) := by
  subst hn hm
  have f0 : Fr noB w (w.alloc (.cells (codS.A s) 24)) := (Fr.refl noB w).alloc _
  have q0 := Cod.rd_new (C := codS) w 24 s
  by_cases h1 : 30 < rs.length
  · have i1 : (30 : Int) < (rs.length : Int) := by omega
    clear h1
    go_enter Try.func4, Try.ntmps4
    go_wp2_with (go_at_call 5; refine (alive14_any _).mono ?_; rintro e w1 ⟨rfl, f1⟩)
    go_ret
    exact ⟨rfl, f0.step0 f1⟩
  by_cases h2 : 30 < ss.length
  · have i1 : ¬ (30 : Int) < (rs.length : Int) := by omega
    have i2 : (30 : Int) < (ss.length : Int) := by omega
    clear h1 h2
    go_enter Try.func4, Try.ntmps4
    go_wp2_with (go_at_call 5; refine (alive14_any _).mono ?_; rintro e w1 ⟨rfl, f1⟩)
    go_ret
    exact ⟨rfl, f0.step0 f1⟩
  have i1 : ¬ (30 : Int) < (rs.length : Int) := by omega
  have i2 : ¬ (30 : Int) < (ss.length : Int) := by omega
  have CD := Lib.hid (fun w' (f : Fr noB w w') => diff_any w' A B c d rs.length ss.length rs ss xs ys rfl rfl (hSA.fr0 f) (hSB.fr0 f) (hX.fr f) (hY.fr f) hb1 hb2 hbx hby s)
  go_enter Try.func4, Try.ntmps4
  go_upto_region 5 with (go_at_call 5; refine (alive14_any _).mono ?_; rintro e w1 ⟨rfl, f1⟩)
  replace f0 := f0.step0 f1
  have q1 := Cod.rd_fr0 q0 f1
  obtain ⟨P, hP⟩ : ∃ x, x = w.heap.size := ⟨_, rfl⟩
  rw [← hP] at q1 ⊢
  clear hP f1 q0
  go_upto_region 6 with (go_at_call 14; refine (CD.out _ f0).mono ?_; rintro e w2 ⟨E, A2, c2, ro, os, rfl, hl2, s2, o2, hb3, f2, hd⟩)
  replace f0 := f0.step0 f2
  replace q1 := Cod.rd_fr0 q1 f2
  clear f2 CD
  by_cases hE : E = 0
  · subst hE
    obtain ⟨tX, tY, hr, ⟨l, hl, hos⟩, hg, _, h64⟩ := hd.ok rfl
    obtain ⟨M, hM⟩ : ∃ M, M = l.length + (xs.filter (goneR ys)).length := ⟨_, rfl⟩
    have HO := Lib.hid (fun i (h : i < os.length) => (by
      have hi : i < (allO xs ys s l).length := by rw [← hos]; exact h
      have e1 := allO_get hl tY.nd i hi
      have e2 : os[i] = (allO xs ys s l)[i] := by simp only [hos]
      rw [← e2, ← hM] at e1
      exact ⟨by rw [e1.1], by rw [e1.1], hg _ (List.getElem_mem h), e1.2⟩ : OrdO xs ys s M i os[i]))
    have hsT : 1 ≤ s.T ∧ s.T ≤ 1099511627776 := by
      unfold rightS at hr
      simp only [Bool.and_eq_true, decide_eq_true_eq] at hr
      omega
    have HLO := Lib.hid hl2
    have hl64 : (os.length : Int) ≤ 64 := by omega
    clear hd hl hos hg h64 hM hr hl2 hbx hby tX tY
    go_wp2_with fail
    go_loopg [9, 38] os.length (fun gk ev iv wr => OrdR w2 os.length M gk ev iv wr)
    case atStart => exact ⟨0, rfl, by simp, rfl, by omega, Fr.refl _ _⟩
    case round =>
      obtain ⟨k, rfl, rfl, rfl, hk, hf⟩ := hrel
      by_cases hlt : k < os.length
      · have j1 : (k : Int) < (os.length : Int) := by omega
        have j0 : (0 : Int) ≤ (k : Int) := by omega
        have hlr : k < ro.length := by rw [HLO.out]; exact hlt
        obtain ⟨g, off, rfl, hgg⟩ := s2.adC (by omega)
        have e1 : codO.rd wr g (off + k * 41) = some ro[k] := (s2.fr0 hf).rd k hlr
        have hin := (o2.fr hf).at_ k hlr hlt
        have ho := HO.out k hlt
        generalize ro[k] = r at e1 hin
        generalize os[k] = o at hin ho
        have en : o.Node = r.Node := by rw [hin.eq]; rfl
        have ek : o.Kind = r.Kind := by rw [hin.eq]; rfl
        have ea : o.At = r.At := by rw [hin.eq]; rfl
        have hT := ho.T
        have hR := ho.R
        rw [ea] at hT hR
        have hgd := ho.good
        have hkd := ho.kind
        rw [ek, en] at hkd
        have wq : IntKind.i64.wrap (s.T + (k : Int)) = s.T + k := by rw [IntKind.wrap_i64]; omega
        have fa : Fr noB wr (wr.alloc (codO.o r)) := (Fr.refl noB wr).alloc _
        have u := opAt (Cod.rd_new' (C := codO) wr r)
        have q2 := Cod.rd_fr0 (Cod.rd_fr0 q1 hf) fa
        obtain ⟨q3, q4⟩ := stCell q2
        have CG := Lib.hid (r3good_any (wr.alloc (codO.o r)) r o (hin.fr fa))
        rw [hgd] at CG
        obtain ⟨u1, u2, u3, u4, u5, u6, u7, u8, u9, u10⟩ := u
        clear en ek ea hin ho hgd u4 u6 u7 u8 u9
        rw [hT] at u2
        rw [hR] at u3
        generalize r.Node = nd at u5 hkd
        generalize r.Kind = kd at u1 hkd
        have HKD := Lib.hid hkd
        clear hT hR
        go_upto_region 12 with fail
        have F := (f0.step0 hf).step0 fa
        have D1' := Lib.hid (fun w' (f : Fr noB (wr.alloc (codO.o r)) w') => r12find_any w' A c rs.length rs xs rfl (hSA.fr0 (F.step0 f)) hb1 (hX.fr (F.step0 f)) nd)
        have D2' := Lib.hid (fun w' (f : Fr noB (wr.alloc (codO.o r)) w') => r12find_any w' B d ss.length ss ys rfl (hSB.fr0 (F.step0 f)) hb2 (hY.fr (F.step0 f)) nd)
        have hf2 := hf.step0 fa
        clear fa e1 q2
        generalize wr.alloc (codO.o r) = W at hf2 F q3 q4 CG u1 u2 u3 u5 u10 D1' D2' ⊢
        generalize wr.heap.size = N at u1 u2 u3 u5 u10 ⊢
        have HD2 := Lib.hid hSB
        rcases hkd with ⟨k1, rfl, hno⟩ | ⟨k1, rfl, hy⟩
        · have k2 : decide (M < k) = false := by simp; omega
          rw [k2]
          have HNO := Lib.hid hno
          clear hno HKD k2
          go_upto_region 15 with (go_at_call 15; refine CG.out.mono ?_; rintro e w12 ⟨rfl, f12⟩; replace u1 := cell_fr0 u1 f12; replace u2 := cell_fr0 u2 f12; replace u3 := cell_fr0 u3 f12; replace u5 := Cod.rd_fr0 u5 f12; replace q3 := cell_fr0 q3 f12; replace q4 := cell_fr0 q4 f12)
          have hN := Cod.rd_lt u5
          clear CG u2 u3 q3 q4 u10
          have D1 : ∀ w', Fr noB w12 w' → Calls Try.prog 16 #[.slice A rs.length c, .agg (codS.A nd)] w' (Gives w' (.int .i64 (idxR xs nd))) := fun w' f => D1'.out w' (f12.step0 f)
          have D2 : ∀ w', Fr noB w12 w' → Calls Try.prog 16 #[.slice B ss.length d, .agg (codS.A nd)] w' (Gives w' (.int .i64 (idxR ys nd))) := fun w' f => D2'.out w' (f12.step0 f)
          clear D1' D2'
          rcases idxR_find xs nd with ⟨x1, x2⟩ | ⟨i, hi, x1, x2⟩
          · rw [x2] at D1
            generalize idxR ys nd = iy at D2
            clear x1 x2
            refine wp_region_fr (by kernel_rfl) (by kernel_rfl) ?_
            iterate 3
              refine wpQ_take (v := ?_) (by rfl) (fun wS hS => ?_) ?_
              rotate_left
              · obtain ⟨L1, L2, L3, L4, L5, L6⟩ := Fr.same hS; go_simp; try with_reducible rfl
              try simp only [List.getElem_toArray, List.getElem_cons_zero, List.getElem_cons_succ, Act.put, List.setIfInBounds_toArray, List.set_cons_zero, List.set_cons_succ]
            refine wpQ_call (by rfl) (fun wS hS => ⟨_, _, ?qh137, Calls.fr hS (D1 _ hS)⟩) ?qk137
            case qh137 => obtain ⟨L1, L2, L3, L4, L5, L6⟩ := Fr.same hS; go_simp; try with_reducible rfl
            try simp only [List.getElem_toArray, List.getElem_cons_zero, List.getElem_cons_succ, Act.put, List.setIfInBounds_toArray, List.set_cons_zero, List.set_cons_succ]
            iterate 3
              refine wpQ_take (v := ?_) (by rfl) (fun wS hS => ?_) ?_
              rotate_left
              · obtain ⟨L1, L2, L3, L4, L5, L6⟩ := Fr.same hS; go_simp; try with_reducible rfl
              try simp only [List.getElem_toArray, List.getElem_cons_zero, List.getElem_cons_succ, Act.put, List.setIfInBounds_toArray, List.set_cons_zero, List.set_cons_succ]
            refine wpQ_call (by rfl) (fun wS hS => ⟨_, _, ?qh145, Calls.fr hS (D2 _ hS)⟩) ?qk145
            case qh145 => obtain ⟨L1, L2, L3, L4, L5, L6⟩ := Fr.same hS; go_simp; try with_reducible rfl
            try simp only [List.getElem_toArray, List.getElem_cons_zero, List.getElem_cons_succ, Act.put, List.setIfInBounds_toArray, List.set_cons_zero, List.set_cons_succ]
            iterate 2
              refine wpQ_take (v := ?_) (by rfl) (fun wS hS => ?_) ?_
              rotate_left
              · obtain ⟨L1, L2, L3, L4, L5, L6⟩ := Fr.same hS; go_simp; try with_reducible rfl
              try simp only [List.getElem_toArray, List.getElem_cons_zero, List.getElem_cons_succ, Act.put, List.setIfInBounds_toArray, List.set_cons_zero, List.set_cons_succ]
            refine wpQ_nil ?_
            intro w1 f1
            have g1 := f12.step0 f1
            replace u1 := cell_fr0 u1 f1
            replace hN := Nat.lt_of_lt_of_le hN f1.size
            have Fz := F.step0 g1
            have hfz := hf2.step0 g1
            clear f1 g1 f12 F hf2 u5
            go_upto_region 16 with fail
            refine wp_region_fr (by kernel_rfl) (by kernel_rfl) ?_
            iterate 8
              refine wpQ_take (v := ?_) (by rfl) (fun wS hS => ?_) ?_
              rotate_left
              · obtain ⟨L1, L2, L3, L4, L5, L6⟩ := Fr.same hS; go_simp; try with_reducible rfl
              try simp only [List.getElem_toArray, List.getElem_cons_zero, List.getElem_cons_succ, Act.put, List.setIfInBounds_toArray, List.set_cons_zero, List.set_cons_succ]
            iterate 2
              refine wpQ_off (by rfl) ?_
              try simp only [List.getElem_toArray, List.getElem_cons_zero, List.getElem_cons_succ, Act.put, List.setIfInBounds_toArray, List.set_cons_zero, List.set_cons_succ]
            iterate 2
              refine wpQ_take (v := ?_) (by rfl) (fun wS hS => ?_) ?_
              rotate_left
              · obtain ⟨L1, L2, L3, L4, L5, L6⟩ := Fr.same hS; go_simp; try with_reducible rfl
              try simp only [List.getElem_toArray, List.getElem_cons_zero, List.getElem_cons_succ, Act.put, List.setIfInBounds_toArray, List.set_cons_zero, List.set_cons_succ]
            iterate 11
              refine wpQ_off (by rfl) ?_
              try simp only [List.getElem_toArray, List.getElem_cons_zero, List.getElem_cons_succ, Act.put, List.setIfInBounds_toArray, List.set_cons_zero, List.set_cons_succ]
            iterate 2
              refine wpQ_take (v := ?_) (by rfl) (fun wS hS => ?_) ?_
              rotate_left
              · obtain ⟨L1, L2, L3, L4, L5, L6⟩ := Fr.same hS; go_simp; try with_reducible rfl
              try simp only [List.getElem_toArray, List.getElem_cons_zero, List.getElem_cons_succ, Act.put, List.setIfInBounds_toArray, List.set_cons_zero, List.set_cons_succ]
            iterate 11
              refine wpQ_off (by rfl) ?_
              try simp only [List.getElem_toArray, List.getElem_cons_zero, List.getElem_cons_succ, Act.put, List.setIfInBounds_toArray, List.set_cons_zero, List.set_cons_succ]
            iterate 6
              refine wpQ_take (v := ?_) (by rfl) (fun wS hS => ?_) ?_
              rotate_left
              · obtain ⟨L1, L2, L3, L4, L5, L6⟩ := Fr.same hS; go_simp; try with_reducible rfl
              try simp only [List.getElem_toArray, List.getElem_cons_zero, List.getElem_cons_succ, Act.put, List.setIfInBounds_toArray, List.set_cons_zero, List.set_cons_succ]
            iterate 2
              refine wpQ_off (by rfl) ?_
              try simp only [List.getElem_toArray, List.getElem_cons_zero, List.getElem_cons_succ, Act.put, List.setIfInBounds_toArray, List.set_cons_zero, List.set_cons_succ]
            iterate 2
              refine wpQ_take (v := ?_) (by rfl) (fun wS hS => ?_) ?_
              rotate_left
              · obtain ⟨L1, L2, L3, L4, L5, L6⟩ := Fr.same hS; go_simp; try with_reducible rfl
              try simp only [List.getElem_toArray, List.getElem_cons_zero, List.getElem_cons_succ, Act.put, List.setIfInBounds_toArray, List.set_cons_zero, List.set_cons_succ]
            refine wpQ_nil ?_
            intro w1 f1
            go_wp2_with fail
            go_roundg (os.length - (k + 1))
            case measure => omega
            case rel => exact ⟨k + 1, by simp, by simp; omega, rfl, by omega, hfz.step0 f1⟩
          · rcases idxR_find ys nd with ⟨y1, y2⟩ | ⟨i', hi', y1, y2⟩
            · rw [x2] at D1
              rw [y2] at D2
              have m1 : (0 : Int) ≤ (i : Int) := by omega
              clear x1 x2 y1 y2
              refine wp_region_fr (by kernel_rfl) (by kernel_rfl) ?_
              iterate 3
                refine wpQ_take (v := ?_) (by rfl) (fun wS hS => ?_) ?_
                rotate_left
                · obtain ⟨L1, L2, L3, L4, L5, L6⟩ := Fr.same hS; go_simp; try with_reducible rfl
                try simp only [List.getElem_toArray, List.getElem_cons_zero, List.getElem_cons_succ, Act.put, List.setIfInBounds_toArray, List.set_cons_zero, List.set_cons_succ]
              refine wpQ_call (by rfl) (fun wS hS => ⟨_, _, ?qh217, Calls.fr hS (D1 _ hS)⟩) ?qk217
              case qh217 => obtain ⟨L1, L2, L3, L4, L5, L6⟩ := Fr.same hS; go_simp; try with_reducible rfl
              try simp only [List.getElem_toArray, List.getElem_cons_zero, List.getElem_cons_succ, Act.put, List.setIfInBounds_toArray, List.set_cons_zero, List.set_cons_succ]
              iterate 3
                refine wpQ_take (v := ?_) (by rfl) (fun wS hS => ?_) ?_
                rotate_left
                · obtain ⟨L1, L2, L3, L4, L5, L6⟩ := Fr.same hS; go_simp; try with_reducible rfl
                try simp only [List.getElem_toArray, List.getElem_cons_zero, List.getElem_cons_succ, Act.put, List.setIfInBounds_toArray, List.set_cons_zero, List.set_cons_succ]
              refine wpQ_call (by rfl) (fun wS hS => ⟨_, _, ?qh225, Calls.fr hS (D2 _ hS)⟩) ?qk225
              case qh225 => obtain ⟨L1, L2, L3, L4, L5, L6⟩ := Fr.same hS; go_simp; try with_reducible rfl
              try simp only [List.getElem_toArray, List.getElem_cons_zero, List.getElem_cons_succ, Act.put, List.setIfInBounds_toArray, List.set_cons_zero, List.set_cons_succ]
              iterate 2
                refine wpQ_take (v := ?_) (by rfl) (fun wS hS => ?_) ?_
                rotate_left
                · obtain ⟨L1, L2, L3, L4, L5, L6⟩ := Fr.same hS; go_simp; try with_reducible rfl
                try simp only [List.getElem_toArray, List.getElem_cons_zero, List.getElem_cons_succ, Act.put, List.setIfInBounds_toArray, List.set_cons_zero, List.set_cons_succ]
              refine wpQ_nil ?_
              intro w1 f1
              have g1 := f12.step0 f1
              replace u1 := cell_fr0 u1 f1
              replace hN := Nat.lt_of_lt_of_le hN f1.size
              have Fz := F.step0 g1
              have hfz := hf2.step0 g1
              clear f1 g1 f12 F hf2 u5
              go_upto_region 16 with fail
              refine wp_region_fr (by kernel_rfl) (by kernel_rfl) ?_
              iterate 12
                refine wpQ_take (v := ?_) (by rfl) (fun wS hS => ?_) ?_
                rotate_left
                · obtain ⟨L1, L2, L3, L4, L5, L6⟩ := Fr.same hS; go_simp; try with_reducible rfl
                try simp only [List.getElem_toArray, List.getElem_cons_zero, List.getElem_cons_succ, Act.put, List.setIfInBounds_toArray, List.set_cons_zero, List.set_cons_succ]
              iterate 11
                refine wpQ_off (by rfl) ?_
                try simp only [List.getElem_toArray, List.getElem_cons_zero, List.getElem_cons_succ, Act.put, List.setIfInBounds_toArray, List.set_cons_zero, List.set_cons_succ]
              iterate 2
                refine wpQ_take (v := ?_) (by rfl) (fun wS hS => ?_) ?_
                rotate_left
                · obtain ⟨L1, L2, L3, L4, L5, L6⟩ := Fr.same hS; go_simp; try with_reducible rfl
                try simp only [List.getElem_toArray, List.getElem_cons_zero, List.getElem_cons_succ, Act.put, List.setIfInBounds_toArray, List.set_cons_zero, List.set_cons_succ]
              iterate 11
                refine wpQ_off (by rfl) ?_
                try simp only [List.getElem_toArray, List.getElem_cons_zero, List.getElem_cons_succ, Act.put, List.setIfInBounds_toArray, List.set_cons_zero, List.set_cons_succ]
              iterate 6
                refine wpQ_take (v := ?_) (by rfl) (fun wS hS => ?_) ?_
                rotate_left
                · obtain ⟨L1, L2, L3, L4, L5, L6⟩ := Fr.same hS; go_simp; try with_reducible rfl
                try simp only [List.getElem_toArray, List.getElem_cons_zero, List.getElem_cons_succ, Act.put, List.setIfInBounds_toArray, List.set_cons_zero, List.set_cons_succ]
              iterate 2
                refine wpQ_off (by rfl) ?_
                try simp only [List.getElem_toArray, List.getElem_cons_zero, List.getElem_cons_succ, Act.put, List.setIfInBounds_toArray, List.set_cons_zero, List.set_cons_succ]
              iterate 2
                refine wpQ_take (v := ?_) (by rfl) (fun wS hS => ?_) ?_
                rotate_left
                · obtain ⟨L1, L2, L3, L4, L5, L6⟩ := Fr.same hS; go_simp; try with_reducible rfl
                try simp only [List.getElem_toArray, List.getElem_cons_zero, List.getElem_cons_succ, Act.put, List.setIfInBounds_toArray, List.set_cons_zero, List.set_cons_succ]
              refine wpQ_nil ?_
              intro w1 f1
              go_wp2_with fail
              go_roundg (os.length - (k + 1))
              case measure => omega
              case rel => exact ⟨k + 1, by simp, by simp; omega, rfl, by omega, hfz.step0 f1⟩
            · rw [x2] at D1
              rw [y2] at D2
              have hne := HNO.out _ _ x1 y1
              have hir : i < rs.length := by rw [hX.len]; exact hi
              have hir' : i' < ss.length := by rw [hY.len]; exact hi'
              have m1 : (0 : Int) ≤ (i : Int) := by omega
              have m2 : (0 : Int) ≤ (i' : Int) := by omega
              have m3 : (i : Int) < (rs.length : Int) := by omega
              have m4 : (i' : Int) < (ss.length : Int) := by omega
              obtain ⟨ga, oa, rfl, hga⟩ := hSA.adC (by omega)
              obtain ⟨gb, ob, rfl, hgb⟩ := hSB.adC (by omega)
              have Ax : RwAtO w ga (oa + i * 8) rs[i] := rwAtO (hSA.rd i hir)
              have Bx : RwAtO w gb (ob + i' * 8) ss[i'] := rwAtO (hSB.rd i' hir')
              have ax := hX.at_ i hir hi
              have bx := hY.at_ i' hir' hi'
              rw [ax.parent, ax.name, bx.parent, bx.name] at hne
              generalize rs[i] = ra at Ax hne
              generalize ss[i'] = rb at Bx hne
              clear x1 x2 y1 y2 ax bx HNO
              have HNE := Lib.hid hne
              clear hne
              refine wp_region_fr (by kernel_rfl) (by kernel_rfl) ?_
              iterate 3
                refine wpQ_take (v := ?_) (by rfl) (fun wS hS => ?_) ?_
                rotate_left
                · obtain ⟨L1, L2, L3, L4, L5, L6⟩ := Fr.same hS; go_simp; try with_reducible rfl
                try simp only [List.getElem_toArray, List.getElem_cons_zero, List.getElem_cons_succ, Act.put, List.setIfInBounds_toArray, List.set_cons_zero, List.set_cons_succ]
              refine wpQ_call (by rfl) (fun wS hS => ⟨_, _, ?qh305, Calls.fr hS (D1 _ hS)⟩) ?qk305
              case qh305 => obtain ⟨L1, L2, L3, L4, L5, L6⟩ := Fr.same hS; go_simp; try with_reducible rfl
              try simp only [List.getElem_toArray, List.getElem_cons_zero, List.getElem_cons_succ, Act.put, List.setIfInBounds_toArray, List.set_cons_zero, List.set_cons_succ]
              iterate 3
                refine wpQ_take (v := ?_) (by rfl) (fun wS hS => ?_) ?_
                rotate_left
                · obtain ⟨L1, L2, L3, L4, L5, L6⟩ := Fr.same hS; go_simp; try with_reducible rfl
                try simp only [List.getElem_toArray, List.getElem_cons_zero, List.getElem_cons_succ, Act.put, List.setIfInBounds_toArray, List.set_cons_zero, List.set_cons_succ]
              refine wpQ_call (by rfl) (fun wS hS => ⟨_, _, ?qh313, Calls.fr hS (D2 _ hS)⟩) ?qk313
              case qh313 => obtain ⟨L1, L2, L3, L4, L5, L6⟩ := Fr.same hS; go_simp; try with_reducible rfl
              try simp only [List.getElem_toArray, List.getElem_cons_zero, List.getElem_cons_succ, Act.put, List.setIfInBounds_toArray, List.set_cons_zero, List.set_cons_succ]
              iterate 2
                refine wpQ_take (v := ?_) (by rfl) (fun wS hS => ?_) ?_
                rotate_left
                · obtain ⟨L1, L2, L3, L4, L5, L6⟩ := Fr.same hS; go_simp; try with_reducible rfl
                try simp only [List.getElem_toArray, List.getElem_cons_zero, List.getElem_cons_succ, Act.put, List.setIfInBounds_toArray, List.set_cons_zero, List.set_cons_succ]
              refine wpQ_nil ?_
              intro w1 f1
              have g1 := f12.step0 f1
              replace u1 := cell_fr0 u1 f1
              replace hN := Nat.lt_of_lt_of_le hN f1.size
              have Fz := F.step0 g1
              have hfz := hf2.step0 g1
              clear f1 g1 f12 F hf2 u5
              go_upto_region 16 with fail
              have a2 := Cod.rd_fr0 Ax.parent Fz
              have a4 := cell_fr0 Ax.name Fz
              have b2 := Cod.rd_fr0 Bx.parent Fz
              have b4 := cell_fr0 Bx.name Fz
              replace hga := Nat.lt_of_lt_of_le hga Fz.size
              replace hgb := Nat.lt_of_lt_of_le hgb Fz.size
              clear Ax Bx
              by_cases hp : ra.Parent = rb.Parent
              · have d1 : decide (ra.Parent = rb.Parent) = true := by simp [hp]
                have d2 : decide (ra.Name = rb.Name) = false := by
                  rw [decide_eq_false_iff_not]
                  exact fun h => HNE.out ⟨hp, h⟩
                clear hp HNE
                refine wp_region_fr (by kernel_rfl) (by kernel_rfl) ?_
                iterate 42
                  refine wpQ_take (v := ?_) (by rfl) (fun wS hS => ?_) ?_
                  rotate_left
                  · obtain ⟨L1, L2, L3, L4, L5, L6⟩ := Fr.same hS; go_simp; try with_reducible rfl
                  try simp only [List.getElem_toArray, List.getElem_cons_zero, List.getElem_cons_succ, Act.put, List.setIfInBounds_toArray, List.set_cons_zero, List.set_cons_succ]
                iterate 2
                  refine wpQ_off (by rfl) ?_
                  try simp only [List.getElem_toArray, List.getElem_cons_zero, List.getElem_cons_succ, Act.put, List.setIfInBounds_toArray, List.set_cons_zero, List.set_cons_succ]
                iterate 2
                  refine wpQ_take (v := ?_) (by rfl) (fun wS hS => ?_) ?_
                  rotate_left
                  · obtain ⟨L1, L2, L3, L4, L5, L6⟩ := Fr.same hS; go_simp; try with_reducible rfl
                  try simp only [List.getElem_toArray, List.getElem_cons_zero, List.getElem_cons_succ, Act.put, List.setIfInBounds_toArray, List.set_cons_zero, List.set_cons_succ]
                refine wpQ_nil ?_
                intro w1 f1
                go_wp2_with fail
                go_roundg (os.length - (k + 1))
                case measure => omega
                case rel => exact ⟨k + 1, by simp, by simp; omega, rfl, by omega, hfz.step0 f1⟩
              · have d1 : decide (ra.Parent = rb.Parent) = false := by simp [hp]
                clear hp HNE
                refine wp_region_fr (by kernel_rfl) (by kernel_rfl) ?_
                iterate 25
                  refine wpQ_take (v := ?_) (by rfl) (fun wS hS => ?_) ?_
                  rotate_left
                  · obtain ⟨L1, L2, L3, L4, L5, L6⟩ := Fr.same hS; go_simp; try with_reducible rfl
                  try simp only [List.getElem_toArray, List.getElem_cons_zero, List.getElem_cons_succ, Act.put, List.setIfInBounds_toArray, List.set_cons_zero, List.set_cons_succ]
                iterate 11
                  refine wpQ_off (by rfl) ?_
                  try simp only [List.getElem_toArray, List.getElem_cons_zero, List.getElem_cons_succ, Act.put, List.setIfInBounds_toArray, List.set_cons_zero, List.set_cons_succ]
                iterate 6
                  refine wpQ_take (v := ?_) (by rfl) (fun wS hS => ?_) ?_
                  rotate_left
                  · obtain ⟨L1, L2, L3, L4, L5, L6⟩ := Fr.same hS; go_simp; try with_reducible rfl
                  try simp only [List.getElem_toArray, List.getElem_cons_zero, List.getElem_cons_succ, Act.put, List.setIfInBounds_toArray, List.set_cons_zero, List.set_cons_succ]
                iterate 2
                  refine wpQ_off (by rfl) ?_
                  try simp only [List.getElem_toArray, List.getElem_cons_zero, List.getElem_cons_succ, Act.put, List.setIfInBounds_toArray, List.set_cons_zero, List.set_cons_succ]
                iterate 2
                  refine wpQ_take (v := ?_) (by rfl) (fun wS hS => ?_) ?_
                  rotate_left
                  · obtain ⟨L1, L2, L3, L4, L5, L6⟩ := Fr.same hS; go_simp; try with_reducible rfl
                  try simp only [List.getElem_toArray, List.getElem_cons_zero, List.getElem_cons_succ, Act.put, List.setIfInBounds_toArray, List.set_cons_zero, List.set_cons_succ]
                refine wpQ_nil ?_
                intro w1 f1
                go_wp2_with fail
                go_roundg (os.length - (k + 1))
                case measure => omega
                case rel => exact ⟨k + 1, by simp, by simp; omega, rfl, by omega, hfz.step0 f1⟩
        · rcases idxR_find ys nd with ⟨y1, y2⟩ | ⟨i', hi', y1, y2⟩
          · obtain ⟨y, hy⟩ := hy
            rw [y1] at hy; cases hy
          · have m2 : (0 : Int) ≤ (i' : Int) := by omega
            have m5 : ¬ (i' : Int) < 0 := by omega
            clear hy y1 HKD
            generalize idxR xs nd = ix at D1'
            rw [y2] at D2'
            by_cases hMk : M < k
            · have k2 : decide (M < k) = true := by simp [hMk]
              rw [k2]
              clear k2
              go_upto_region 15 with (go_at_call 15; refine CG.out.mono ?_; rintro e w12 ⟨rfl, f12⟩; replace u1 := cell_fr0 u1 f12; replace u2 := cell_fr0 u2 f12; replace u3 := cell_fr0 u3 f12; replace u5 := Cod.rd_fr0 u5 f12; replace q3 := cell_fr0 q3 f12; replace q4 := cell_fr0 q4 f12)
              have hN := Cod.rd_lt u5
              clear CG u2 u3 q3 q4 u10
              have D1 : ∀ w', Fr noB w12 w' → Calls Try.prog 16 #[.slice A rs.length c, .agg (codS.A nd)] w' (Gives w' (.int .i64 ix)) := fun w' f => D1'.out w' (f12.step0 f)
              have D2 : ∀ w', Fr noB w12 w' → Calls Try.prog 16 #[.slice B ss.length d, .agg (codS.A nd)] w' (Gives w' (.int .i64 (i' : Int))) := fun w' f => D2'.out w' (f12.step0 f)
              clear D1' D2'
              refine wp_region_fr (by kernel_rfl) (by kernel_rfl) ?_
              iterate 3
                refine wpQ_take (v := ?_) (by rfl) (fun wS hS => ?_) ?_
                rotate_left
                · obtain ⟨L1, L2, L3, L4, L5, L6⟩ := Fr.same hS; go_simp; try with_reducible rfl
                try simp only [List.getElem_toArray, List.getElem_cons_zero, List.getElem_cons_succ, Act.put, List.setIfInBounds_toArray, List.set_cons_zero, List.set_cons_succ]
              refine wpQ_call (by rfl) (fun wS hS => ⟨_, _, ?qh417, Calls.fr hS (D1 _ hS)⟩) ?qk417
              case qh417 => obtain ⟨L1, L2, L3, L4, L5, L6⟩ := Fr.same hS; go_simp; try with_reducible rfl
              try simp only [List.getElem_toArray, List.getElem_cons_zero, List.getElem_cons_succ, Act.put, List.setIfInBounds_toArray, List.set_cons_zero, List.set_cons_succ]
              iterate 3
                refine wpQ_take (v := ?_) (by rfl) (fun wS hS => ?_) ?_
                rotate_left
                · obtain ⟨L1, L2, L3, L4, L5, L6⟩ := Fr.same hS; go_simp; try with_reducible rfl
                try simp only [List.getElem_toArray, List.getElem_cons_zero, List.getElem_cons_succ, Act.put, List.setIfInBounds_toArray, List.set_cons_zero, List.set_cons_succ]
              refine wpQ_call (by rfl) (fun wS hS => ⟨_, _, ?qh425, Calls.fr hS (D2 _ hS)⟩) ?qk425
              case qh425 => obtain ⟨L1, L2, L3, L4, L5, L6⟩ := Fr.same hS; go_simp; try with_reducible rfl
              try simp only [List.getElem_toArray, List.getElem_cons_zero, List.getElem_cons_succ, Act.put, List.setIfInBounds_toArray, List.set_cons_zero, List.set_cons_succ]
              iterate 2
                refine wpQ_take (v := ?_) (by rfl) (fun wS hS => ?_) ?_
                rotate_left
                · obtain ⟨L1, L2, L3, L4, L5, L6⟩ := Fr.same hS; go_simp; try with_reducible rfl
                try simp only [List.getElem_toArray, List.getElem_cons_zero, List.getElem_cons_succ, Act.put, List.setIfInBounds_toArray, List.set_cons_zero, List.set_cons_succ]
              refine wpQ_nil ?_
              intro w1 f1
              have g1 := f12.step0 f1
              replace u1 := cell_fr0 u1 f1
              replace hN := Nat.lt_of_lt_of_le hN f1.size
              have Fz := F.step0 g1
              have hfz := hf2.step0 g1
              clear f1 g1 f12 F hf2 u5
              go_upto_region 16 with fail
              refine wp_region_fr (by kernel_rfl) (by kernel_rfl) ?_
              iterate 4
                refine wpQ_take (v := ?_) (by rfl) (fun wS hS => ?_) ?_
                rotate_left
                · obtain ⟨L1, L2, L3, L4, L5, L6⟩ := Fr.same hS; go_simp; try with_reducible rfl
                try simp only [List.getElem_toArray, List.getElem_cons_zero, List.getElem_cons_succ, Act.put, List.setIfInBounds_toArray, List.set_cons_zero, List.set_cons_succ]
              iterate 2
                refine wpQ_off (by rfl) ?_
                try simp only [List.getElem_toArray, List.getElem_cons_zero, List.getElem_cons_succ, Act.put, List.setIfInBounds_toArray, List.set_cons_zero, List.set_cons_succ]
              iterate 2
                refine wpQ_take (v := ?_) (by rfl) (fun wS hS => ?_) ?_
                rotate_left
                · obtain ⟨L1, L2, L3, L4, L5, L6⟩ := Fr.same hS; go_simp; try with_reducible rfl
                try simp only [List.getElem_toArray, List.getElem_cons_zero, List.getElem_cons_succ, Act.put, List.setIfInBounds_toArray, List.set_cons_zero, List.set_cons_succ]
              iterate 2
                refine wpQ_off (by rfl) ?_
                try simp only [List.getElem_toArray, List.getElem_cons_zero, List.getElem_cons_succ, Act.put, List.setIfInBounds_toArray, List.set_cons_zero, List.set_cons_succ]
              iterate 2
                refine wpQ_take (v := ?_) (by rfl) (fun wS hS => ?_) ?_
                rotate_left
                · obtain ⟨L1, L2, L3, L4, L5, L6⟩ := Fr.same hS; go_simp; try with_reducible rfl
                try simp only [List.getElem_toArray, List.getElem_cons_zero, List.getElem_cons_succ, Act.put, List.setIfInBounds_toArray, List.set_cons_zero, List.set_cons_succ]
              iterate 11
                refine wpQ_off (by rfl) ?_
                try simp only [List.getElem_toArray, List.getElem_cons_zero, List.getElem_cons_succ, Act.put, List.setIfInBounds_toArray, List.set_cons_zero, List.set_cons_succ]
              iterate 2
                refine wpQ_take (v := ?_) (by rfl) (fun wS hS => ?_) ?_
                rotate_left
                · obtain ⟨L1, L2, L3, L4, L5, L6⟩ := Fr.same hS; go_simp; try with_reducible rfl
                try simp only [List.getElem_toArray, List.getElem_cons_zero, List.getElem_cons_succ, Act.put, List.setIfInBounds_toArray, List.set_cons_zero, List.set_cons_succ]
              iterate 11
                refine wpQ_off (by rfl) ?_
                try simp only [List.getElem_toArray, List.getElem_cons_zero, List.getElem_cons_succ, Act.put, List.setIfInBounds_toArray, List.set_cons_zero, List.set_cons_succ]
              iterate 10
                refine wpQ_take (v := ?_) (by rfl) (fun wS hS => ?_) ?_
                rotate_left
                · obtain ⟨L1, L2, L3, L4, L5, L6⟩ := Fr.same hS; go_simp; try with_reducible rfl
                try simp only [List.getElem_toArray, List.getElem_cons_zero, List.getElem_cons_succ, Act.put, List.setIfInBounds_toArray, List.set_cons_zero, List.set_cons_succ]
              refine wpQ_nil ?_
              intro w1 f1
              go_wp2_with fail
              go_roundg (os.length - (k + 1))
              case measure => omega
              case rel => exact ⟨k + 1, by simp, by simp; omega, rfl, by omega, hfz.step0 f1⟩
            · have k2 : decide (M < k) = false := by simp [hMk]
              rw [k2]
              clear k2
              go_upto_region 15 with (go_at_call 15; refine CG.out.mono ?_; rintro e w12 ⟨rfl, f12⟩; replace u1 := cell_fr0 u1 f12; replace u2 := cell_fr0 u2 f12; replace u3 := cell_fr0 u3 f12; replace u5 := Cod.rd_fr0 u5 f12; replace q3 := cell_fr0 q3 f12; replace q4 := cell_fr0 q4 f12)
              have hN := Cod.rd_lt u5
              clear CG u2 u3 q3 q4 u10
              have D1 : ∀ w', Fr noB w12 w' → Calls Try.prog 16 #[.slice A rs.length c, .agg (codS.A nd)] w' (Gives w' (.int .i64 ix)) := fun w' f => D1'.out w' (f12.step0 f)
              have D2 : ∀ w', Fr noB w12 w' → Calls Try.prog 16 #[.slice B ss.length d, .agg (codS.A nd)] w' (Gives w' (.int .i64 (i' : Int))) := fun w' f => D2'.out w' (f12.step0 f)
              clear D1' D2'
              refine wp_region_fr (by kernel_rfl) (by kernel_rfl) ?_
              iterate 3
                refine wpQ_take (v := ?_) (by rfl) (fun wS hS => ?_) ?_
                rotate_left
                · obtain ⟨L1, L2, L3, L4, L5, L6⟩ := Fr.same hS; go_simp; try with_reducible rfl
                try simp only [List.getElem_toArray, List.getElem_cons_zero, List.getElem_cons_succ, Act.put, List.setIfInBounds_toArray, List.set_cons_zero, List.set_cons_succ]
              refine wpQ_call (by rfl) (fun wS hS => ⟨_, _, ?qh501, Calls.fr hS (D1 _ hS)⟩) ?qk501
              case qh501 => obtain ⟨L1, L2, L3, L4, L5, L6⟩ := Fr.same hS; go_simp; try with_reducible rfl
              try simp only [List.getElem_toArray, List.getElem_cons_zero, List.getElem_cons_succ, Act.put, List.setIfInBounds_toArray, List.set_cons_zero, List.set_cons_succ]
              iterate 3
                refine wpQ_take (v := ?_) (by rfl) (fun wS hS => ?_) ?_
                rotate_left
                · obtain ⟨L1, L2, L3, L4, L5, L6⟩ := Fr.same hS; go_simp; try with_reducible rfl
                try simp only [List.getElem_toArray, List.getElem_cons_zero, List.getElem_cons_succ, Act.put, List.setIfInBounds_toArray, List.set_cons_zero, List.set_cons_succ]
              refine wpQ_call (by rfl) (fun wS hS => ⟨_, _, ?qh509, Calls.fr hS (D2 _ hS)⟩) ?qk509
              case qh509 => obtain ⟨L1, L2, L3, L4, L5, L6⟩ := Fr.same hS; go_simp; try with_reducible rfl
              try simp only [List.getElem_toArray, List.getElem_cons_zero, List.getElem_cons_succ, Act.put, List.setIfInBounds_toArray, List.set_cons_zero, List.set_cons_succ]
              iterate 2
                refine wpQ_take (v := ?_) (by rfl) (fun wS hS => ?_) ?_
                rotate_left
                · obtain ⟨L1, L2, L3, L4, L5, L6⟩ := Fr.same hS; go_simp; try with_reducible rfl
                try simp only [List.getElem_toArray, List.getElem_cons_zero, List.getElem_cons_succ, Act.put, List.setIfInBounds_toArray, List.set_cons_zero, List.set_cons_succ]
              refine wpQ_nil ?_
              intro w1 f1
              have g1 := f12.step0 f1
              replace u1 := cell_fr0 u1 f1
              replace hN := Nat.lt_of_lt_of_le hN f1.size
              have Fz := F.step0 g1
              have hfz := hf2.step0 g1
              clear f1 g1 f12 F hf2 u5
              go_upto_region 16 with fail
              refine wp_region_fr (by kernel_rfl) (by kernel_rfl) ?_
              iterate 4
                refine wpQ_take (v := ?_) (by rfl) (fun wS hS => ?_) ?_
                rotate_left
                · obtain ⟨L1, L2, L3, L4, L5, L6⟩ := Fr.same hS; go_simp; try with_reducible rfl
                try simp only [List.getElem_toArray, List.getElem_cons_zero, List.getElem_cons_succ, Act.put, List.setIfInBounds_toArray, List.set_cons_zero, List.set_cons_succ]
              iterate 2
                refine wpQ_off (by rfl) ?_
                try simp only [List.getElem_toArray, List.getElem_cons_zero, List.getElem_cons_succ, Act.put, List.setIfInBounds_toArray, List.set_cons_zero, List.set_cons_succ]
              iterate 2
                refine wpQ_take (v := ?_) (by rfl) (fun wS hS => ?_) ?_
                rotate_left
                · obtain ⟨L1, L2, L3, L4, L5, L6⟩ := Fr.same hS; go_simp; try with_reducible rfl
                try simp only [List.getElem_toArray, List.getElem_cons_zero, List.getElem_cons_succ, Act.put, List.setIfInBounds_toArray, List.set_cons_zero, List.set_cons_succ]
              iterate 2
                refine wpQ_off (by rfl) ?_
                try simp only [List.getElem_toArray, List.getElem_cons_zero, List.getElem_cons_succ, Act.put, List.setIfInBounds_toArray, List.set_cons_zero, List.set_cons_succ]
              iterate 2
                refine wpQ_take (v := ?_) (by rfl) (fun wS hS => ?_) ?_
                rotate_left
                · obtain ⟨L1, L2, L3, L4, L5, L6⟩ := Fr.same hS; go_simp; try with_reducible rfl
                try simp only [List.getElem_toArray, List.getElem_cons_zero, List.getElem_cons_succ, Act.put, List.setIfInBounds_toArray, List.set_cons_zero, List.set_cons_succ]
              iterate 11
                refine wpQ_off (by rfl) ?_
                try simp only [List.getElem_toArray, List.getElem_cons_zero, List.getElem_cons_succ, Act.put, List.setIfInBounds_toArray, List.set_cons_zero, List.set_cons_succ]
              iterate 2
                refine wpQ_take (v := ?_) (by rfl) (fun wS hS => ?_) ?_
                rotate_left
                · obtain ⟨L1, L2, L3, L4, L5, L6⟩ := Fr.same hS; go_simp; try with_reducible rfl
                try simp only [List.getElem_toArray, List.getElem_cons_zero, List.getElem_cons_succ, Act.put, List.setIfInBounds_toArray, List.set_cons_zero, List.set_cons_succ]
              iterate 11
                refine wpQ_off (by rfl) ?_
                try simp only [List.getElem_toArray, List.getElem_cons_zero, List.getElem_cons_succ, Act.put, List.setIfInBounds_toArray, List.set_cons_zero, List.set_cons_succ]
              iterate 10
                refine wpQ_take (v := ?_) (by rfl) (fun wS hS => ?_) ?_
                rotate_left
                · obtain ⟨L1, L2, L3, L4, L5, L6⟩ := Fr.same hS; go_simp; try with_reducible rfl
                try simp only [List.getElem_toArray, List.getElem_cons_zero, List.getElem_cons_succ, Act.put, List.setIfInBounds_toArray, List.set_cons_zero, List.set_cons_succ]
              refine wpQ_nil ?_
              intro w1 f1
              go_wp2_with fail
              go_roundg (os.length - (k + 1))
              case measure => omega
              case rel => exact ⟨k + 1, by simp, by simp; omega, rfl, by omega, hfz.step0 f1⟩
      · have hkn : k = os.length := by omega
        subst hkn
        have j1 : ¬ (os.length : Int) < (os.length : Int) := by omega
        go_wp2_with fail
        go_ret
        exact ⟨rfl, f0.step0 hf⟩
  · have ho := hd.bad hE
    subst ho
    go_wp2_with fail
    go_ret
    exact ⟨rfl, f0⟩
theorem ordL_any (w : World) (A : Option Addr) (c : Nat) (rs : List RwW) (xs : List RwP) (hs : Sl w A (codR.row rs)) (hb : rs.length ≤ 140737488355328) (hX : RwsIn w rs xs) (hbx : ∀ x ∈ xs, x.Heads.length ≤ 2932031007402)
    (B : Option Addr) (d : Nat) (ss : List RwW) (ys : List RwP) (hs2 : Sl w B (codR.row ss)) (hb2 : ss.length ≤ 140737488355328) (hY : RwsIn w ss ys) (hby : ∀ x ∈ ys, x.Heads.length ≤ 2932031007402) (s : St) (hw : wfS s = true) :
    Calls Try.prog 4 #[.slice A rs.length c, .slice B ss.length d, .agg (codS.A s)] w (Gives w (.bool true)) :=
  order14_any w A B c d rs.length ss.length rs ss xs ys rfl rfl hs hs2 hX hY hbx hby hb hb2 s hw
end Go.Proofs.Ytefcalkbfaefgaa
