/- Contracts: the reference's Same of rows (their heads equal), of operations. (rdI, ex_ldS_at) -/
import Derived.Test.YtefcalkbfaefgaaGreatSmHK
import Derived.Test.YtefcalkbfaefgaaGreatGwBK
namespace Go.Proofs.YtefcalkbfaefgaaGreat
open Go.RowKit
set_option linter.unusedVariables false
set_option linter.unusedSimpArgs false

@[simp] theorem str_beqG (a b : List UInt8) : ((str a).toList == (str b).toList) = decide (a = b) := by
  rw [str_toList, str_toList]
  by_cases h : a = b
  · simp [h]
  · simp [h]
def shR (x y : RwP) : Bool := decide (x.Node = y.Node) && (decide (x.Parent = y.Parent) && (decide (x.At = y.At) && decide (x.Name = y.Name)))
/-- the same rows, of rows with the same heads -/
def sameX : List RwP → List RwP → Bool
  | [], [] => true
  | x :: xs, y :: ys => shR x y && sameX xs ys
  | _, _ => false
theorem sameX_self : ∀ xs : List RwP, sameX xs xs = true
  | [] => rfl
  | x :: xs => by simp [sameX, shR, sameX_self xs]
theorem sameX_len : ∀ {xs ys : List RwP}, sameX xs ys = true → xs.length = ys.length
  | [], [], _ => rfl
  | [], _ :: _, h => by simp [sameX] at h
  | _ :: _, [], h => by simp [sameX] at h
  | x :: xs, y :: ys, h => by
    simp only [sameX, Bool.and_eq_true] at h
    simp [sameX_len h.2]
theorem sameX_drop {xs ys : List RwP} {k : Nat} (h : k < xs.length) (h' : k < ys.length) : sameX (xs.drop k) (ys.drop k) = (shR xs[k] ys[k] && sameX (xs.drop (k + 1)) (ys.drop (k + 1))) := by
  rw [List.drop_eq_getElem_cons h, List.drop_eq_getElem_cons h']
  rfl
theorem sameX_get : ∀ {xs ys : List RwP}, sameX xs ys = true → ∀ i (h : i < xs.length) (h' : i < ys.length), shR xs[i] ys[i] = true
  | [], _, _, i, h, _ => by simp at h
  | x :: xs, [], h, _, _, h' => by simp at h'
  | x :: xs, y :: ys, h, 0, _, _ => by
    simp only [sameX, Bool.and_eq_true] at h
    exact h.1
  | x :: xs, y :: ys, h, i + 1, h1, h2 => by
    simp only [sameX, Bool.and_eq_true] at h
    exact sameX_get h.2 i (by simpa using h1) (by simpa using h2)
def SmX (W : World) (xs ys : List RwP) (n : Nat) (res : Bool) (gk : Nat) (iv : Value) (wr : World) : Prop := ∃ k : Nat, iv = .int .i64 (k : Int) ∧ gk = n - k ∧ k ≤ n ∧ sameX (xs.drop k) (ys.drop k) = res ∧ Fr noB W wr
set_option maxRecDepth 100000 in
set_option maxHeartbeats 2000000 in
theorem r12sameX_any (w : World) (A B : Option Addr) (c d n m : Nat) (rs ss : List RwW) (xs ys : List RwP) (hn : rs.length = n) (hm : ss.length = m) (hA : Sl w A (codR.row rs)) (hB : Sl w B (codR.row ss)) (hX : RwsIn w rs xs) (hY : RwsIn w ss ys) (hb : rs.length ≤ 140737488355328) (hb2 : ss.length ≤ 140737488355328)
    (hH : ∀ i (h : i < xs.length) (h' : i < ys.length), xs[i].Heads = ys[i].Heads) :
    Calls Tryz.prog 13 #[.slice A n c, .slice B m d] w (Gives w (.bool (sameX xs ys))) := by
  subst hn
  subst hm
  have HLX := Lib.hid hX.len
  have HLY := Lib.hid hY.len
  by_cases hlm : rs.length = ss.length
  · have e1 : ((rs.length : Int) != (ss.length : Int)) = false := by simp [hlm]
    have HM := Lib.hid hlm.symm
    obtain ⟨res, hres⟩ : ∃ r, r = sameX xs ys := ⟨_, rfl⟩
    have HRES := Lib.hid (show sameX (xs.drop 0) (ys.drop 0) = res by rw [hres]; rfl)
    rw [← hres]
    clear hlm hres
    go_enter Tryz.func13, Tryz.ntmps13
    go_upto_region 3 with fail
    go_upto_region 4 with fail
    go_loopg [5] rs.length (fun gk iv wr => SmX w xs ys rs.length res gk iv wr)
    case atStart => exact ⟨0, rfl, rfl, by omega, HRES.out, Fr.refl _ _⟩
    case round =>
      clear HRES
      obtain ⟨k, rfl, rfl, hk, hsm, hf⟩ := hrel
      by_cases hlt : k < rs.length
      · have i1 : (k : Int) < (rs.length : Int) := by omega
        have i0 : (0 : Int) ≤ (k : Int) := by omega
        have hlt2 : k < ss.length := by rw [HM.out]; exact hlt
        have i2 : (k : Int) < (ss.length : Int) := by omega
        have hltx : k < xs.length := by rw [← HLX.out]; exact hlt
        have hlty : k < ys.length := by rw [← HLY.out]; exact hlt2
        obtain ⟨g, off, rfl, hg⟩ := hA.adC (by omega)
        obtain ⟨g', off', rfl, hg'⟩ := hB.adC (by omega)
        have r1 := hX.at_ k hlt hltx
        have r2 := hY.at_ k hlt2 hlty
        have hh := hH k hltx hlty
        rw [sameX_drop hltx hlty] at hsm
        have q : RwAtO wr g (off + k * 8) rs[k] := rwAtO ((hA.fr0 hf).rd k hlt)
        have q' : RwAtO wr g' (off' + k * 8) ss[k] := rwAtO ((hB.fr0 hf).rd k hlt2)
        replace hg := Nat.lt_of_lt_of_le hg hf.size
        replace hg' := Nat.lt_of_lt_of_le hg' hf.size
        generalize rs[k] = r at r1 q
        generalize ss[k] = s at r2 q'
        generalize xs[k] = x at r1 hh hsm
        generalize ys[k] = y at r2 hh hsm
        have D1 : ∀ wS, Fr noB wr wS → Calls Tryz.prog 39 #[.slice r.A r.n r.c, .slice s.A s.n s.c] wS (Gives wS (.bool true)) := fun wS f => same_heads wS r.A s.A r.c s.c r.n s.n x.Heads r1.len (by rw [hh]; exact r2.len) ((r1.sl.fr0 hf).fr0 f) (by rw [hh]; exact (r2.sl.fr0 hf).fr0 f) r1.bd
        have HSM := Lib.hid (show (decide (r.Node = s.Node) && (decide (r.Parent = s.Parent) && (decide (r.At = s.At) && decide (r.Name = s.Name))) && sameX (xs.drop (k + 1)) (ys.drop (k + 1))) = res by
          rw [← hsm]
          unfold shR
          rw [r1.node, r2.node, r1.parent, r2.parent, r1.name, r2.name, r1.at_, r2.at_])
        obtain ⟨a1, a2, a3, a4, a5, a6⟩ := q
        obtain ⟨b1, b2, b3, b4, b5, b6⟩ := q'
        clear a6 b6 r1 r2 hsm hh
        go_upto_region 6 with fail
        by_cases h1 : r.Node = s.Node
        · have d1 : decide (r.Node = s.Node) = true := by simp [h1]
          by_cases h2 : r.Parent = s.Parent
          · have d2 : decide (r.Parent = s.Parent) = true := by simp [h2]
            by_cases h3 : r.At = s.At
            · have d3 : decide (r.At = s.At) = true := by simp [h3]
              by_cases h4 : r.Name = s.Name
              · have d4 : decide (r.Name = s.Name) = true := by simp [h4]
                have HE := Lib.hid (show sameX (xs.drop (k + 1)) (ys.drop (k + 1)) = res by rw [← HSM.out]; simp [h1, h2, h3, h4])
                clear HSM h1 h2 h3 h4
                refine wp_region_fr (by kernel_rfl) (by kernel_rfl) ?_
                iterate 61
                  refine wpQ_take (v := ?_) (by rfl) (fun wS hS => ?_) ?_
                  rotate_left
                  · obtain ⟨L1, L2, L3, L4, L5, L6⟩ := Fr.same hS; go_simp; try with_reducible rfl
                  try simp only [List.getElem_toArray, List.getElem_cons_zero, List.getElem_cons_succ, Act.put, List.setIfInBounds_toArray, List.set_cons_zero, List.set_cons_succ]
                refine wpQ_call (by rfl) (fun wS hS => ⟨_, _, ?qh112, Calls.fr hS (D1 _ hS)⟩) ?qk112
                case qh112 => obtain ⟨L1, L2, L3, L4, L5, L6⟩ := Fr.same hS; go_simp; try with_reducible rfl
                try simp only [List.getElem_toArray, List.getElem_cons_zero, List.getElem_cons_succ, Act.put, List.setIfInBounds_toArray, List.set_cons_zero, List.set_cons_succ]
                iterate 2
                  refine wpQ_take (v := ?_) (by rfl) (fun wS hS => ?_) ?_
                  rotate_left
                  · obtain ⟨L1, L2, L3, L4, L5, L6⟩ := Fr.same hS; go_simp; try with_reducible rfl
                  try simp only [List.getElem_toArray, List.getElem_cons_zero, List.getElem_cons_succ, Act.put, List.setIfInBounds_toArray, List.set_cons_zero, List.set_cons_succ]
                refine wpQ_nil ?_
                intro w1 f1
                go_wp2_with fail
                go_roundg (rs.length - (k + 1))
                case measure => omega
                case rel => exact ⟨k + 1, by simp, rfl, by omega, HE.out, hf.step0 f1⟩
              · have d4 : decide (r.Name = s.Name) = false := by simp [h4]
                have HE := Lib.hid (show false = res by rw [← HSM.out]; simp [h4])
                clear HSM h4
                refine wp_region_fr (by kernel_rfl) (by kernel_rfl) ?_
                iterate 51
                  refine wpQ_take (v := ?_) (by rfl) (fun wS hS => ?_) ?_
                  rotate_left
                  · obtain ⟨L1, L2, L3, L4, L5, L6⟩ := Fr.same hS; go_simp; try with_reducible rfl
                  try simp only [List.getElem_toArray, List.getElem_cons_zero, List.getElem_cons_succ, Act.put, List.setIfInBounds_toArray, List.set_cons_zero, List.set_cons_succ]
                iterate 12
                  refine wpQ_off (by rfl) ?_
                  try simp only [List.getElem_toArray, List.getElem_cons_zero, List.getElem_cons_succ, Act.put, List.setIfInBounds_toArray, List.set_cons_zero, List.set_cons_succ]
                refine wpQ_take (v := ?_) (by rfl) (fun wS hS => ?_) ?_
                rotate_left
                · obtain ⟨L1, L2, L3, L4, L5, L6⟩ := Fr.same hS; go_simp; try with_reducible rfl
                try simp only [List.getElem_toArray, List.getElem_cons_zero, List.getElem_cons_succ, Act.put, List.setIfInBounds_toArray, List.set_cons_zero, List.set_cons_succ]
                refine wpQ_nil ?_
                intro w1 f1
                go_wp2_with fail
                go_ret
                exact ⟨by rw [← HE.out]; rfl, hf.step0 f1⟩
            · have d3 : decide (r.At = s.At) = false := by simp [h3]
              have HE := Lib.hid (show false = res by rw [← HSM.out]; simp [h3])
              clear HSM h3
              refine wp_region_fr (by kernel_rfl) (by kernel_rfl) ?_
              iterate 38
                refine wpQ_take (v := ?_) (by rfl) (fun wS hS => ?_) ?_
                rotate_left
                · obtain ⟨L1, L2, L3, L4, L5, L6⟩ := Fr.same hS; go_simp; try with_reducible rfl
                try simp only [List.getElem_toArray, List.getElem_cons_zero, List.getElem_cons_succ, Act.put, List.setIfInBounds_toArray, List.set_cons_zero, List.set_cons_succ]
              iterate 11
                refine wpQ_off (by rfl) ?_
                try simp only [List.getElem_toArray, List.getElem_cons_zero, List.getElem_cons_succ, Act.put, List.setIfInBounds_toArray, List.set_cons_zero, List.set_cons_succ]
              iterate 2
                refine wpQ_take (v := ?_) (by rfl) (fun wS hS => ?_) ?_
                rotate_left
                · obtain ⟨L1, L2, L3, L4, L5, L6⟩ := Fr.same hS; go_simp; try with_reducible rfl
                try simp only [List.getElem_toArray, List.getElem_cons_zero, List.getElem_cons_succ, Act.put, List.setIfInBounds_toArray, List.set_cons_zero, List.set_cons_succ]
              iterate 12
                refine wpQ_off (by rfl) ?_
                try simp only [List.getElem_toArray, List.getElem_cons_zero, List.getElem_cons_succ, Act.put, List.setIfInBounds_toArray, List.set_cons_zero, List.set_cons_succ]
              refine wpQ_take (v := ?_) (by rfl) (fun wS hS => ?_) ?_
              rotate_left
              · obtain ⟨L1, L2, L3, L4, L5, L6⟩ := Fr.same hS; go_simp; try with_reducible rfl
              try simp only [List.getElem_toArray, List.getElem_cons_zero, List.getElem_cons_succ, Act.put, List.setIfInBounds_toArray, List.set_cons_zero, List.set_cons_succ]
              refine wpQ_nil ?_
              intro w1 f1
              go_wp2_with fail
              go_ret
              exact ⟨by rw [← HE.out]; rfl, hf.step0 f1⟩
          · have d2 : decide (r.Parent = s.Parent) = false := by simp [h2]
            have HE := Lib.hid (show false = res by rw [← HSM.out]; simp [h2])
            clear HSM h2
            refine wp_region_fr (by kernel_rfl) (by kernel_rfl) ?_
            iterate 25
              refine wpQ_take (v := ?_) (by rfl) (fun wS hS => ?_) ?_
              rotate_left
              · obtain ⟨L1, L2, L3, L4, L5, L6⟩ := Fr.same hS; go_simp; try with_reducible rfl
              try simp only [List.getElem_toArray, List.getElem_cons_zero, List.getElem_cons_succ, Act.put, List.setIfInBounds_toArray, List.set_cons_zero, List.set_cons_succ]
            iterate 11
              refine wpQ_off (by rfl) ?_
              try simp only [List.getElem_toArray, List.getElem_cons_zero, List.getElem_cons_succ, Act.put, List.setIfInBounds_toArray, List.set_cons_zero, List.set_cons_succ]
            iterate 2
              refine wpQ_take (v := ?_) (by rfl) (fun wS hS => ?_) ?_
              rotate_left
              · obtain ⟨L1, L2, L3, L4, L5, L6⟩ := Fr.same hS; go_simp; try with_reducible rfl
              try simp only [List.getElem_toArray, List.getElem_cons_zero, List.getElem_cons_succ, Act.put, List.setIfInBounds_toArray, List.set_cons_zero, List.set_cons_succ]
            iterate 11
              refine wpQ_off (by rfl) ?_
              try simp only [List.getElem_toArray, List.getElem_cons_zero, List.getElem_cons_succ, Act.put, List.setIfInBounds_toArray, List.set_cons_zero, List.set_cons_succ]
            iterate 2
              refine wpQ_take (v := ?_) (by rfl) (fun wS hS => ?_) ?_
              rotate_left
              · obtain ⟨L1, L2, L3, L4, L5, L6⟩ := Fr.same hS; go_simp; try with_reducible rfl
              try simp only [List.getElem_toArray, List.getElem_cons_zero, List.getElem_cons_succ, Act.put, List.setIfInBounds_toArray, List.set_cons_zero, List.set_cons_succ]
            iterate 12
              refine wpQ_off (by rfl) ?_
              try simp only [List.getElem_toArray, List.getElem_cons_zero, List.getElem_cons_succ, Act.put, List.setIfInBounds_toArray, List.set_cons_zero, List.set_cons_succ]
            refine wpQ_take (v := ?_) (by rfl) (fun wS hS => ?_) ?_
            rotate_left
            · obtain ⟨L1, L2, L3, L4, L5, L6⟩ := Fr.same hS; go_simp; try with_reducible rfl
            try simp only [List.getElem_toArray, List.getElem_cons_zero, List.getElem_cons_succ, Act.put, List.setIfInBounds_toArray, List.set_cons_zero, List.set_cons_succ]
            refine wpQ_nil ?_
            intro w1 f1
            go_wp2_with fail
            go_ret
            exact ⟨by rw [← HE.out]; rfl, hf.step0 f1⟩
        · have d1 : decide (r.Node = s.Node) = false := by simp [h1]
          have HE := Lib.hid (show false = res by rw [← HSM.out]; simp [h1])
          clear HSM h1
          refine wp_region_fr (by kernel_rfl) (by kernel_rfl) ?_
          iterate 12
            refine wpQ_take (v := ?_) (by rfl) (fun wS hS => ?_) ?_
            rotate_left
            · obtain ⟨L1, L2, L3, L4, L5, L6⟩ := Fr.same hS; go_simp; try with_reducible rfl
            try simp only [List.getElem_toArray, List.getElem_cons_zero, List.getElem_cons_succ, Act.put, List.setIfInBounds_toArray, List.set_cons_zero, List.set_cons_succ]
          iterate 11
            refine wpQ_off (by rfl) ?_
            try simp only [List.getElem_toArray, List.getElem_cons_zero, List.getElem_cons_succ, Act.put, List.setIfInBounds_toArray, List.set_cons_zero, List.set_cons_succ]
          iterate 2
            refine wpQ_take (v := ?_) (by rfl) (fun wS hS => ?_) ?_
            rotate_left
            · obtain ⟨L1, L2, L3, L4, L5, L6⟩ := Fr.same hS; go_simp; try with_reducible rfl
            try simp only [List.getElem_toArray, List.getElem_cons_zero, List.getElem_cons_succ, Act.put, List.setIfInBounds_toArray, List.set_cons_zero, List.set_cons_succ]
          iterate 11
            refine wpQ_off (by rfl) ?_
            try simp only [List.getElem_toArray, List.getElem_cons_zero, List.getElem_cons_succ, Act.put, List.setIfInBounds_toArray, List.set_cons_zero, List.set_cons_succ]
          iterate 2
            refine wpQ_take (v := ?_) (by rfl) (fun wS hS => ?_) ?_
            rotate_left
            · obtain ⟨L1, L2, L3, L4, L5, L6⟩ := Fr.same hS; go_simp; try with_reducible rfl
            try simp only [List.getElem_toArray, List.getElem_cons_zero, List.getElem_cons_succ, Act.put, List.setIfInBounds_toArray, List.set_cons_zero, List.set_cons_succ]
          iterate 11
            refine wpQ_off (by rfl) ?_
            try simp only [List.getElem_toArray, List.getElem_cons_zero, List.getElem_cons_succ, Act.put, List.setIfInBounds_toArray, List.set_cons_zero, List.set_cons_succ]
          iterate 2
            refine wpQ_take (v := ?_) (by rfl) (fun wS hS => ?_) ?_
            rotate_left
            · obtain ⟨L1, L2, L3, L4, L5, L6⟩ := Fr.same hS; go_simp; try with_reducible rfl
            try simp only [List.getElem_toArray, List.getElem_cons_zero, List.getElem_cons_succ, Act.put, List.setIfInBounds_toArray, List.set_cons_zero, List.set_cons_succ]
          iterate 12
            refine wpQ_off (by rfl) ?_
            try simp only [List.getElem_toArray, List.getElem_cons_zero, List.getElem_cons_succ, Act.put, List.setIfInBounds_toArray, List.set_cons_zero, List.set_cons_succ]
          refine wpQ_take (v := ?_) (by rfl) (fun wS hS => ?_) ?_
          rotate_left
          · obtain ⟨L1, L2, L3, L4, L5, L6⟩ := Fr.same hS; go_simp; try with_reducible rfl
          try simp only [List.getElem_toArray, List.getElem_cons_zero, List.getElem_cons_succ, Act.put, List.setIfInBounds_toArray, List.set_cons_zero, List.set_cons_succ]
          refine wpQ_nil ?_
          intro w1 f1
          go_wp2_with fail
          go_ret
          exact ⟨by rw [← HE.out]; rfl, hf.step0 f1⟩
      · have hkn : k = rs.length := by omega
        subst hkn
        have i1 : ¬ (rs.length : Int) < (rs.length : Int) := by omega
        have HR := Lib.hid (show res = true by
          rw [← hsm, List.drop_eq_nil_of_le (by rw [HLX.out]; exact Nat.le_refl _), List.drop_eq_nil_of_le (by rw [← HLY.out, HM.out]; exact Nat.le_refl _)]
          rfl)
        clear hsm
        go_wp2_with fail
        go_ret
        exact ⟨by rw [HR.out]; rfl, hf⟩
  · have e1 : ((rs.length : Int) != (ss.length : Int)) = true := by simp; omega
    have HR := Lib.hid (show sameX xs ys = false by
      cases h : sameX xs ys with
      | false => rfl
      | true => exact absurd (sameX_len h) (by rw [← HLX.out, ← HLY.out]; exact hlm))
    clear hlm
    go_enter Tryz.func13, Tryz.ntmps13
    go_wp2_with fail
    go_ret
    exact ⟨by rw [HR.out]; rfl, Fr.refl _ _⟩
end Go.Proofs.YtefcalkbfaefgaaGreat
