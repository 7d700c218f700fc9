/- Contract: obj.PutChange. -/
import Derived.Test.YtejkfekpgbmdiaaGreatPutL
namespace Go.Proofs.YtejkfekpgbmdiaaGreat
open Go.RowKit
set_option linter.unusedVariables false
set_option linter.unusedSimpArgs false

/-- bytes that grow by a piece a round -/
def WrR (w W7 : World) (l0 : List UInt8) (n m : Nat) (f : Nat → List UInt8) (gk : Nat) (v iv : Value) (wr : World) : Prop :=
  ∃ (k : Nat) (A : Option Addr) (c : Nat) (l : List UInt8), v = .slice A l.length c ∧ iv = .int .i64 (k : Int) ∧ gk = n - k ∧ k ≤ n ∧ l = l0 ++ f k ∧ l.length ≤ l0.length + k * m ∧ wr.ownsRow w.heap.size 5 1 (.slice A l.length c) l.length (bv l) ∧ Fr noB W7 wr
theorem flat_succ {α : Type} (f : α → List UInt8) (l : List α) (k : Nat) (h : k < l.length) : (l.take (k + 1)).flatMap f = (l.take k).flatMap f ++ f l[k] := by
  rw [List.take_succ_eq_append_getElem h, List.flatMap_append]; simp
def putCh (c : Chg) : Option (List UInt8) := if rightCh c = true then some (chB c) else none
set_option maxRecDepth 100000 in
set_option maxHeartbeats 4000000 in
theorem putChange_any (w : World) (r : CgW) (rs : List OpW) (c : Chg) (h : CgIn w r rs c) : Calls Tryz.prog 23 #[.agg (codC.A r)] w (PtTo w (putCh c) 1) := by
  have f0 : Fr noB w (w.alloc (.cells (codC.A r) 47)) := (Fr.refl noB w).alloc _
  obtain ⟨q1, q2, q3, q4, q5, q6, q7⟩ := cgAt (Cod.rd_new w 47 r)
  have hP : w.heap.size < (w.alloc (.cells (codC.A r) 47)).heap.size := by simp
  replace h := h.fr f0
  have hRc := Lib.hid (rightChange_any _ r rs c h)
  by_cases hr : rightCh c = true
  · have E1 := Lib.hid (show putCh c = some (chB c) by unfold putCh; rw [if_pos hr])
    have HR := Lib.hid hr
    have hr2 := hr
    simp only [rightCh, Bool.and_eq_true, decide_eq_true_eq, List.all_eq_true] at hr2
    obtain ⟨⟨⟨⟨⟨⟨⟨⟨⟨z1, z2⟩, z3⟩, z4⟩, z5⟩, z6⟩, z7⟩, z8⟩, z9⟩, z10⟩ := hr2
    obtain ⟨h1, h2, h3, h4, h5, h6, h7, h8, h9, h10, h11, h12⟩ := h
    obtain ⟨t1, t2, t3, t4⟩ := okSt_of z4
    simp only at t1 t2 t3 t4
    rw [h1] at t1 t2
    rw [h2] at t3 t4
    rw [h4] at z5
    have hms := z5
    have hpn : r.pn ≤ 2 := by omega
    have hon : r.on ≤ 64 := by have := h9.len; omega
    have hgo : ∀ o ∈ c.Ops, goodOp o = true := fun o ho => (z9 o ho).1.1
    have hcB : chB c = [3] ++ numB r.pn ++ c.Parents.flatMap (·.1) ++ (numB r.Time.toNat ++ numB r.R.toNat ++ numB r.on) ++ c.Ops.flatMap opB ++ (r.Tree.1 ++ txB r.Msg) := by
      unfold chB
      rw [h1, h2, h3, h4, ← h9.len, h7, h5]
      simp [List.append_assoc]
    have HCB := Lib.hid hcB
    have p1 : ((r.Time.toNat : Nat) : Int) = r.Time := by omega
    have p2 : r.Time.toNat ≤ 4611686018427387904 := by omega
    have p3 : ((r.R.toNat : Nat) : Int) = r.R := by omega
    have p4 : r.R.toNat ≤ 4611686018427387904 := by omega
    have P1 := Lib.hid p1
    have P3 := Lib.hid p3
    generalize c.Parents = ps at h5 h6 hcB HCB
    have H5 := Lib.hid h5
    have H7 := Lib.hid h7
    clear hr z1 z2 z3 z4 z5 z6 z7 z8 z9 z10 h1 h2 h3 h4 hcB p1 p3 h10 h5 h7
    go_enter Tryz.func23, Tryz.ntmps23
    go_upto_region 1 with fail
    generalize w.alloc (.cells (codC.A r) 47) = W0 at f0 q1 q2 q3 q4 q5 q6 q7 hP hRc h6 h8 h9 ⊢
    generalize w.heap.size = P at q1 q2 q3 q4 q5 q6 q7 hP ⊢
    go_upto_region 3 with (go_at_call 58; refine hRc.out.mono ?_; rintro e w1 ⟨rfl, f1⟩; rw [HR.out])
    obtain ⟨L1, L2, L3, L4, L5, L6⟩ := f1.same
    replace q1 := (L1 P 0 hP).trans q1
    replace q2 := (L1 P 1 hP).trans q2
    replace q3 := (L1 P 2 hP).trans q3
    replace q4 := (L1 P 3 hP).trans q4
    replace q5 := (L3 P 4 hP).trans q5
    replace q6 := (L1 P 36 hP).trans q6
    clear L1 L2 L3 L4 L5 L6 q7 hP
    replace f0 := f0.step0 f1
    replace h6 := h6.fr0 f1
    replace h8 := h8.fr0 f1
    replace h9 := h9.fr f1
    have fn : Fr noB w1 (w1.alloc (.cells #[.int .u8 3] 5)) := (Fr.refl noB w1).alloc _
    have ho1 := own_lit1 w1 3 3 rfl
    have k1 := cell_fr0 q1 fn
    generalize r.PA = PA at q1 h6 k1 ⊢
    rw [← H5.out] at q1 k1
    go_upto_region 4 with (go_at_call 39; refine (enum_z _ _ 1 [3] 1 rfl (Sl.own ho1) (by simp) (ps.length : Int) ps.length rfl (by have := H5.out; omega)).mono ?_; rintro e w2 ⟨A2, c2, rfl, ho2, hf2⟩; obtain ⟨l2, hl2⟩ : ∃ x : List UInt8, x = [3] ++ numB ps.length := ⟨_, rfl⟩; rw [← hl2] at ho2 ⊢; have HL2 := Lib.hid hl2; clear hl2)
    have b2 : l2.length ≤ 10 := by have := numB_length ps.length (by have := H5.out; omega); rw [HL2.out, List.length_append]; simp; omega
    have g2 := (f0.step0 fn).step0 hf2
    have u2 := fn.step0 hf2
    have ho2' := own_base ho2 (f0.step0 fn).size
    replace q1 := cell_fr0 q1 u2
    replace q2 := cell_fr0 q2 u2
    replace q3 := cell_fr0 q3 u2
    replace q4 := cell_fr0 q4 u2
    replace q5 := rdI_fr q5 (rdI_lt q5) u2 (by simp [noB])
    replace q6 := cell_fr0 q6 u2
    replace h6 := h6.fr0 u2
    replace h8 := h8.fr0 u2
    replace h9 := h9.fr u2
    clear k1 ho1 hf2 ho2 fn u2
    go_wp2_with fail
    go_loopg [4, 20] ps.length (fun gk v iv wr => WrR w w2 l2 ps.length 32 (fun k => (ps.take k).flatMap (·.1)) gk v iv wr)
    case atStart => exact ⟨0, A2, c2, l2, rfl, rfl, by omega, by omega, by simp, by omega, ho2', Fr.refl _ _⟩
    case round =>
      obtain ⟨k, A8, c8, l8, rfl, rfl, rfl, hk, hl8, hb8, ho8, hf8⟩ := hrel
      have HL8 := Lib.hid hl8
      clear hl8
      have hn2 : ps.length ≤ 2 := by rw [H5.out]; exact hpn
      by_cases hlt : k < ps.length
      · have i1 : (k : Int) < (ps.length : Int) := by omega
        have i0 : (0 : Int) ≤ (k : Int) := by omega
        obtain ⟨g, off, rfl⟩ := h6.ad (by omega)
        have e1 : rdI wr g (off + k * 32) = some ps[k] := (h6.fr0 hf8).id k hlt
        have ht := flat_succ (fun x : ID => x.1) ps k hlt
        generalize ps[k] = x at e1 ht
        have HT := Lib.hid ht
        obtain ⟨pf1, pf2, pf3⟩ := putB_fr (bxI_new wr zID) x
        have fA : Fr noB wr (putB (wr.alloc (ido zID)) wr.heap.size x) := ((Fr.refl noB wr).alloc (ido zID)).step1 pf1 (Nat.le_refl _)
        have n1 : rdI (putB (wr.alloc (ido zID)) wr.heap.size x) wr.heap.size 0 = some x := bxI_rd pf3
        clear pf1 pf2 pf3
        have b8 : l8.length ≤ 140737488355000 := by omega
        have HLT := Lib.hid hlt
        have xl := x.2
        have XL := Lib.hid xl
        clear ht hlt xl
        go_wp2_with (go_at_call 40; refine (eid_any _ A8 c8 l8.length l8 rfl ((Sl.own ho8).fr0 fA) b8 x).mono ?_; rintro e w9 ⟨A9, c9, rfl, ho9, hf9⟩; obtain ⟨l9, hl9⟩ : ∃ z : List UInt8, z = l8 ++ x.1 := ⟨_, rfl⟩; rw [← hl9] at ho9 ⊢; have HL9 := Lib.hid hl9; clear hl9)
        have hlt := HLT.out
        go_roundg (ps.length - (k + 1))
        case measure => omega
        case rel =>
          exact ⟨k + 1, A9, c9, l9, rfl, by simp, rfl, by omega, by rw [HL9.out, HL8.out]; simp only; rw [HT.out, List.append_assoc], by rw [HL9.out, List.length_append, XL.out]; omega, own_base ho9 (Nat.le_trans (g2.step0 hf8).size fA.size), (hf8.step0 fA).step0 hf9⟩
      · have hkn : k = ps.length := by omega
        subst hkn
        have i1 : ¬ (ps.length : Int) < (ps.length : Int) := by omega
        have HL8' := Lib.hid (show l8 = l2 ++ ps.flatMap (·.1) by have := HL8.out; simp only [List.take_length] at this; exact this)
        have b8 : l8.length ≤ 80 := by omega
        have g8 := g2.step0 hf8
        have fd := (Fr.refl noB wr).drew
        have keep : ∀ w' w'' : World, Fr noB w' w'' → (w'.cell? ⟨P, 1, none⟩ = some (.int .i64 r.Time) ∧ w'.cell? ⟨P, 2, none⟩ = some (.int .i64 r.R) ∧ w'.cell? ⟨P, 3, none⟩ = some (.slice r.OA r.on r.oc)) → (w''.cell? ⟨P, 1, none⟩ = some (.int .i64 r.Time) ∧ w''.cell? ⟨P, 2, none⟩ = some (.int .i64 r.R) ∧ w''.cell? ⟨P, 3, none⟩ = some (.slice r.OA r.on r.oc)) :=
          fun w' w'' f h => ⟨cell_fr0 h.1 f, cell_fr0 h.2.1 f, cell_fr0 h.2.2 f⟩
        have a1 := numB_length r.Time.toNat p2
        have a2 := numB_length r.R.toNat p4
        have a3 := numB_length r.on (by omega)
        clear hb8 hn2 hlt HL8 hk
        go_upto_region 9 with fail
        refine wp_region_M 11 12 [⟨268435456, 16, 0⟩, ⟨536870912, 2, 0⟩, ⟨1073741824, 536870912, 2⟩, ⟨2147483648, 1342177280, 5⟩, ⟨4294967296, 2, 0⟩, ⟨8589934592, 4294967296, 16⟩, ⟨17179869184, 10737418240, 40⟩, ⟨34359738368, 2, 0⟩, ⟨68719476736, 34359738368, 128⟩, ⟨137438953472, 68719476736, 256⟩, ⟨274877906944, 154618822656, 576⟩, ⟨16, 274877906944, 2047⟩] [(true, 0), (true, 1), (true, 2), (true, 4), (true, 5), (true, 7), (true, 8), (true, 9), (false, 3), (false, 6), (false, 10)] (fun w' => w'.cell? ⟨P, 1, none⟩ = some (.int .i64 r.Time) ∧ w'.cell? ⟨P, 2, none⟩ = some (.int .i64 r.R) ∧ w'.cell? ⟨P, 3, none⟩ = some (.slice r.OA r.on r.oc)) (by kernel_rfl) rfl (by kernel_rfl) (by kernel_rfl) (by kernel_rfl) ⟨cell_fr0 q2 (hf8.step0 fd), cell_fr0 q3 (hf8.step0 fd), cell_fr0 q4 (hf8.step0 fd)⟩ (fun hA hF => ?_)
        refine wpAnyS_take (v := ?_) hA rfl (fun _ _ _ h => h) (Or.inl ⟨by rfl, ?_⟩) hF (fun hA => ?_)
        rotate_left
        · intro wS hSw; (try dsimp only at hSw); obtain ⟨s1, s2, s3⟩ := hSw; first | (apply Eq.trans; apply ex_ld_id; exact rfl; exact rfl; assumption; with_reducible rfl) | (go_simp; try with_reducible rfl)
        try simp only [List.getElem_toArray, List.getElem_cons_zero, List.getElem_cons_succ, Act.put, List.setIfInBounds_toArray, List.set_cons_zero, List.set_cons_succ]
        refine wpAnyS_take (v := ?_) hA rfl (fun _ _ _ h => h) (Or.inl ⟨by rfl, ?_⟩) hF (fun hA => ?_)
        rotate_left
        · intro wS hSw; (try dsimp only at hSw); obtain ⟨s1, s2, s3⟩ := hSw; first | (apply Eq.trans; apply ex_ld_id; exact rfl; exact rfl; assumption; with_reducible rfl) | (go_simp; try with_reducible rfl)
        try simp only [List.getElem_toArray, List.getElem_cons_zero, List.getElem_cons_succ, Act.put, List.setIfInBounds_toArray, List.set_cons_zero, List.set_cons_succ]
        refine wpAnyS_take (v := ?_) hA rfl (fun _ _ _ h => h) (Or.inl ⟨by rfl, ?_⟩) hF (fun hA => ?_)
        rotate_left
        · intro wS hSw; (try dsimp only at hSw); obtain ⟨s1, s2, s3⟩ := hSw; first | (apply Eq.trans; apply ex_ld_id; exact rfl; exact rfl; assumption; with_reducible rfl) | (go_simp; try with_reducible rfl)
        try simp only [List.getElem_toArray, List.getElem_cons_zero, List.getElem_cons_succ, Act.put, List.setIfInBounds_toArray, List.set_cons_zero, List.set_cons_succ]
        refine wpAnyS_take (v := ?_) hA rfl (fun _ _ _ h => h) (Or.inl ⟨by rfl, ?_⟩) hF (fun hA => ?_)
        rotate_left
        · intro wS hSw; (try dsimp only at hSw); obtain ⟨s1, s2, s3⟩ := hSw; first | (apply Eq.trans; apply ex_ld_id; exact rfl; exact rfl; assumption; with_reducible rfl) | (go_simp; try with_reducible rfl)
        try simp only [List.getElem_toArray, List.getElem_cons_zero, List.getElem_cons_succ, Act.put, List.setIfInBounds_toArray, List.set_cons_zero, List.set_cons_succ]
        refine wpAnyS_take (v := ?_) hA rfl (fun _ _ _ h => h) (Or.inl ⟨by rfl, ?_⟩) hF (fun hA => ?_)
        rotate_left
        · intro wS hSw; (try dsimp only at hSw); obtain ⟨s1, s2, s3⟩ := hSw; first | (apply Eq.trans; apply ex_ld_id; exact rfl; exact rfl; assumption; with_reducible rfl) | (go_simp; try with_reducible rfl)
        try simp only [List.getElem_toArray, List.getElem_cons_zero, List.getElem_cons_succ, Act.put, List.setIfInBounds_toArray, List.set_cons_zero, List.set_cons_succ]
        refine wpAnyS_take (v := ?_) hA rfl (fun _ _ _ h => h) (Or.inl ⟨by rfl, ?_⟩) hF (fun hA => ?_)
        rotate_left
        · intro wS hSw; (try dsimp only at hSw); obtain ⟨s1, s2, s3⟩ := hSw; first | (apply Eq.trans; apply ex_ld_id; exact rfl; exact rfl; assumption; with_reducible rfl) | (go_simp; try with_reducible rfl)
        try simp only [List.getElem_toArray, List.getElem_cons_zero, List.getElem_cons_succ, Act.put, List.setIfInBounds_toArray, List.set_cons_zero, List.set_cons_succ]
        refine wpAnyS_take (v := ?_) hA rfl (fun _ _ _ h => h) (Or.inl ⟨by rfl, ?_⟩) hF (fun hA => ?_)
        rotate_left
        · intro wS hSw; (try dsimp only at hSw); obtain ⟨s1, s2, s3⟩ := hSw; first | (apply Eq.trans; apply ex_ld_id; exact rfl; exact rfl; assumption; with_reducible rfl) | (go_simp; try with_reducible rfl)
        try simp only [List.getElem_toArray, List.getElem_cons_zero, List.getElem_cons_succ, Act.put, List.setIfInBounds_toArray, List.set_cons_zero, List.set_cons_succ]
        refine wpAnyS_take (v := ?_) hA rfl (fun _ _ _ h => h) (Or.inl ⟨by rfl, ?_⟩) hF (fun hA => ?_)
        rotate_left
        · intro wS hSw; (try dsimp only at hSw); obtain ⟨s1, s2, s3⟩ := hSw; first | (apply Eq.trans; apply ex_ld_id; exact rfl; exact rfl; assumption; with_reducible rfl) | (go_simp; try with_reducible rfl)
        try simp only [List.getElem_toArray, List.getElem_cons_zero, List.getElem_cons_succ, Act.put, List.setIfInBounds_toArray, List.set_cons_zero, List.set_cons_succ]
        refine wpAnyS_one hA rfl (fun K' hK => ?_)
        go_simp
        go_at_call 39
        refine (enum_z wr.drew A8 c8 l8 l8.length rfl ((Sl.own ho8).fr0 fd) (by omega) r.Time r.Time.toNat P1.out p2).mono ?_
        rintro e w10 ⟨A10, c10, rfl, ho10, hf10⟩
        obtain ⟨l10, hl10⟩ : ∃ x : List UInt8, x = l8 ++ numB r.Time.toNat := ⟨_, rfl⟩
        rw [← hl10] at ho10 ⊢
        have b10 : l10.length ≤ 90 := by rw [hl10, List.length_append]; omega
        have HL10 := Lib.hid hl10
        clear hl10
        have g10 := (g8.step0 fd).step0 hf10
        replace hF := keep _ _ hf10 hF
        refine hK.out _ _ hF (fun hA => ?_)
        clear hK K'
        as_aux_lemma =>
        refine wpAnyS_one hA rfl (fun K' hK => ?_)
        go_simp
        go_at_call 39
        refine (enum_z w10 A10 c10 l10 l10.length rfl (Sl.own ho10) (by omega) r.R r.R.toNat P3.out p4).mono ?_
        rintro e w11 ⟨A11, c11, rfl, ho11, hf11⟩
        obtain ⟨l11, hl11⟩ : ∃ x : List UInt8, x = l10 ++ numB r.R.toNat := ⟨_, rfl⟩
        rw [← hl11] at ho11 ⊢
        have b11 : l11.length ≤ 100 := by rw [hl11, List.length_append]; omega
        have HL11 := Lib.hid hl11
        clear hl11
        have g11 := (g10).step0 hf11
        replace hF := keep _ _ hf11 hF
        refine hK.out _ _ hF (fun hA => ?_)
        clear hK K'
        as_aux_lemma =>
        refine wpAnyS_one hA rfl (fun K' hK => ?_)
        go_simp
        go_at_call 39
        refine (enum_z w11 A11 c11 l11 l11.length rfl (Sl.own ho11) (by omega) (r.on : Int) r.on rfl (by omega)).mono ?_
        rintro e w12 ⟨A12, c12, rfl, ho12, hf12⟩
        obtain ⟨l12, hl12⟩ : ∃ x : List UInt8, x = l11 ++ numB r.on := ⟨_, rfl⟩
        rw [← hl12] at ho12 ⊢
        have b12 : l12.length ≤ 110 := by rw [hl12, List.length_append]; omega
        have HL12 := Lib.hid hl12
        clear hl12
        have g12 := (g11).step0 hf12
        replace hF := keep _ _ hf12 hF
        refine hK.out _ _ hF (fun hA => ?_)
        clear hK K'
        as_aux_lemma =>
        refine wpAnyS_end hA rfl ?_
        simp only [List.drop_succ_cons, List.drop_zero]
        clear hF keep
        have hwf : Fr noB w2 w12 := (((hf8.step0 fd).step0 hf10).step0 hf11).step0 hf12
        have HL12' := Lib.hid (show l12 = l8 ++ (numB r.Time.toNat ++ numB r.R.toNat ++ numB r.on) by rw [HL12.out, HL11.out, HL10.out]; simp [List.append_assoc])
        have ho12' := own_base ho12 g11.size
        replace q4 := cell_fr0 q4 hwf
        replace q5 := rdI_fr q5 (rdI_lt q5) hwf (by simp [noB])
        replace q6 := cell_fr0 q6 hwf
        replace h8 := h8.fr0 hwf
        replace h9 := h9.fr hwf
        rw [← H7.out] at q4
        clear q1 q2 q3 h6
        have q4o := q4
        generalize r.OA = OA at q4o h8 ⊢
        clear q4
        go_wp2_with fail
        go_loopg [4, 42] rs.length (fun gk v iv wr => WrR w w12 l12 rs.length 4000 (fun k => (c.Ops.take k).flatMap opB) gk v iv wr)
        case atStart => exact ⟨0, A12, c12, l12, by first | rfl | simp, rfl, by omega, by omega, by simp, by omega, ho12', Fr.refl _ _⟩
        case round =>
          obtain ⟨k, A20, c20, l20, rfl, rfl, rfl, hk, hl20, hb20, ho20, hf20⟩ := hrel
          have HL20 := Lib.hid hl20
          clear hl20
          have hn64 : rs.length ≤ 64 := by rw [H7.out]; exact hon
          by_cases hlt : k < rs.length
          · have i1 : (k : Int) < (rs.length : Int) := by omega
            have i0 : (0 : Int) ≤ (k : Int) := by omega
            have hlt2 : k < c.Ops.length := by rw [← h9.len]; exact hlt
            obtain ⟨g, off, rfl, hgg⟩ := h8.adC (by omega)
            have e1 : codO.rd wr g (off + k * 41) = some rs[k] := (h8.fr0 hf20).rd k hlt
            have hop : OpIn wr rs[k] c.Ops[k] := (h9.at_ k hlt hlt2).fr hf20
            have hgk := opB_len (hgo _ (List.getElem_mem hlt2))
            have ht := flat_succ opB c.Ops k hlt2
            generalize rs[k] = x at e1 hop
            generalize c.Ops[k] = o at hop hgk ht
            have HT := Lib.hid ht
            have fA : Fr noB wr (wr.alloc (codO.o x)) := (Fr.refl noB wr).alloc _
            have n1 : codO.rd (wr.alloc (codO.o x)) wr.heap.size 0 = some x := Cod.rd_new' wr x
            have b8 : l20.length ≤ 50000000000 := by omega
            have HLT := Lib.hid hlt
            clear ht hlt hlt2
            go_wp2_with (go_at_call 59; refine (put_any _ A20 c20 l20.length l20 rfl ((Sl.own ho20).fr0 fA) b8 x o (hop.fr fA)).mono ?_; rintro e w9 ⟨A9, c9, rfl, ho9, hf9⟩; obtain ⟨l9, hl9⟩ : ∃ z : List UInt8, z = l20 ++ opB o := ⟨_, rfl⟩; rw [← hl9] at ho9 ⊢; have HL9 := Lib.hid hl9; clear hl9)
            have hlt := HLT.out
            go_roundg (rs.length - (k + 1))
            case measure => omega
            case rel =>
              exact ⟨k + 1, A9, c9, l9, rfl, by simp, rfl, by omega, by rw [HL9.out, HL20.out]; simp only; rw [HT.out, List.append_assoc], by rw [HL9.out, List.length_append]; omega, own_base ho9 (Nat.le_trans (g12.step0 hf20).size fA.size), (hf20.step0 fA).step0 hf9⟩
          · have hkn : k = rs.length := by omega
            subst hkn
            have i1 : ¬ (rs.length : Int) < (rs.length : Int) := by omega
            have HL20' := Lib.hid (show l20 = l12 ++ c.Ops.flatMap opB by have := HL20.out; simp only [h9.len, List.take_length] at this; exact this)
            have b20 : l20.length ≤ 300000 := by omega
            have g20 := g12.step0 hf20
            have fd2 := (Fr.refl noB wr).drew
            have keep : ∀ w' w'' : World, Fr noB w' w'' → (rdI w' P 4 = some r.Tree ∧ w'.cell? ⟨P, 36, none⟩ = some (.string (str r.Msg))) → (rdI w'' P 4 = some r.Tree ∧ w''.cell? ⟨P, 36, none⟩ = some (.string (str r.Msg))) :=
              fun w' w'' f h => ⟨rdI_fr h.1 (rdI_lt h.1) f (by simp [noB]), cell_fr0 h.2 f⟩
            clear hb20 hn64 hlt HL20 hk
            go_upto_region 15 with fail
            refine wp_region_M 7 9 [⟨1125899906842624, 16, 0⟩, ⟨2251799813685248, 2, 0⟩, ⟨4503599627370496, 2251799813685248, 2⟩, ⟨9007199254740992, 5629499534213120, 5⟩, ⟨18014398509481984, 2, 0⟩, ⟨36028797018963968, 18014398509481984, 16⟩, ⟨72057594037927936, 45035996273704960, 40⟩, ⟨4, 72057594037927936, 127⟩, ⟨8, 0, 255⟩] [(true, 0), (true, 1), (true, 2), (true, 4), (true, 5), (false, 3), (false, 6)] (fun w' => rdI w' P 4 = some r.Tree ∧ w'.cell? ⟨P, 36, none⟩ = some (.string (str r.Msg))) (by kernel_rfl) rfl (by kernel_rfl) (by kernel_rfl) (by kernel_rfl) ⟨rdI_fr q5 (rdI_lt q5) (hf20.step0 fd2) (by simp [noB]), cell_fr0 q6 (hf20.step0 fd2)⟩ (fun hA hF => ?_)
            refine wpAnyS_take (v := ?_) hA rfl (fun _ _ _ h => h) (Or.inl ⟨by rfl, ?_⟩) hF (fun hA => ?_)
            rotate_left
            · intro wS hSw; (try dsimp only at hSw); obtain ⟨s1, s2⟩ := hSw; first | (apply Eq.trans; apply ex_ld_id; exact rfl; exact rfl; assumption; with_reducible rfl) | (go_simp; try with_reducible rfl)
            try simp only [List.getElem_toArray, List.getElem_cons_zero, List.getElem_cons_succ, Act.put, List.setIfInBounds_toArray, List.set_cons_zero, List.set_cons_succ]
            refine wpAnyS_take (v := ?_) hA rfl (fun _ _ _ h => h) (Or.inl ⟨by rfl, ?_⟩) hF (fun hA => ?_)
            rotate_left
            · intro wS hSw; (try dsimp only at hSw); obtain ⟨s1, s2⟩ := hSw; first | (apply Eq.trans; apply ex_ld_id; exact rfl; exact rfl; assumption; with_reducible rfl) | (go_simp; try with_reducible rfl)
            try simp only [List.getElem_toArray, List.getElem_cons_zero, List.getElem_cons_succ, Act.put, List.setIfInBounds_toArray, List.set_cons_zero, List.set_cons_succ]
            refine wpAnyS_take (v := ?_) hA rfl (fun _ _ _ h => h) (Or.inl ⟨by rfl, ?_⟩) hF (fun hA => ?_)
            rotate_left
            · intro wS hSw; (try dsimp only at hSw); obtain ⟨s1, s2⟩ := hSw; first | (apply Eq.trans; apply ex_ld_id; exact rfl; exact rfl; assumption; with_reducible rfl) | (go_simp; try with_reducible rfl)
            try simp only [List.getElem_toArray, List.getElem_cons_zero, List.getElem_cons_succ, Act.put, List.setIfInBounds_toArray, List.set_cons_zero, List.set_cons_succ]
            refine wpAnyS_take (v := ?_) hA rfl (fun _ _ _ h => h) (Or.inl ⟨by rfl, ?_⟩) hF (fun hA => ?_)
            rotate_left
            · intro wS hSw; (try dsimp only at hSw); obtain ⟨s1, s2⟩ := hSw; first | (apply Eq.trans; apply ex_ld_id; exact rfl; exact rfl; assumption; with_reducible rfl) | (go_simp; try with_reducible rfl)
            try simp only [List.getElem_toArray, List.getElem_cons_zero, List.getElem_cons_succ, Act.put, List.setIfInBounds_toArray, List.set_cons_zero, List.set_cons_succ]
            refine wpAnyS_take (v := ?_) hA rfl (fun _ _ _ h => h) (Or.inl ⟨by rfl, ?_⟩) hF (fun hA => ?_)
            rotate_left
            · intro wS hSw; (try dsimp only at hSw); obtain ⟨s1, s2⟩ := hSw; first | (apply Eq.trans; apply ex_ld_id; exact rfl; exact rfl; assumption; with_reducible rfl) | (go_simp; try with_reducible rfl)
            try simp only [List.getElem_toArray, List.getElem_cons_zero, List.getElem_cons_succ, Act.put, List.setIfInBounds_toArray, List.set_cons_zero, List.set_cons_succ]
            refine wpAnyS_one hA rfl (fun K' hK => ?_)
            go_simp
            go_at_call 40
            refine (eid_any wr.drew A20 c20 l20.length l20 rfl ((Sl.own ho20).fr0 fd2) (by omega) r.Tree).mono ?_
            rintro e w21 ⟨A21, c21, rfl, ho21, hf21⟩
            obtain ⟨l21, hl21⟩ : ∃ x : List UInt8, x = l20 ++ r.Tree.1 := ⟨_, rfl⟩
            rw [← hl21] at ho21 ⊢
            have b21 : l21.length ≤ 300032 := by rw [hl21, List.length_append, r.Tree.2]; omega
            have HL21 := Lib.hid hl21
            clear hl21
            have g21 := (g20.step0 fd2).step0 hf21
            replace hF := keep _ _ hf21 hF
            refine hK.out _ _ hF (fun hA => ?_)
            clear hK K'
            as_aux_lemma =>
            refine wpAnyS_one hA rfl (fun K' hK => ?_)
            go_simp
            go_at_call 41
            refine (etext_any w21 A21 c21 l21.length l21 rfl (Sl.own ho21) (by omega) r.Msg (by omega)).mono ?_
            rintro e w22 ⟨A22, c22, rfl, ho22, hf22⟩
            have HE := Lib.hid (show l21 ++ txB r.Msg = chB c by rw [HL21.out, HL20'.out, HL12'.out, HL8'.out, HL2.out, HCB.out, H5.out]; simp [List.append_assoc])
            rw [HE.out] at ho22 ⊢
            have g22 := g21.step0 hf22
            replace hF := keep _ _ hf22 hF
            refine hK.out _ _ hF (fun hA => ?_)
            clear hK K'
            as_aux_lemma =>
            refine wpAnyS_end hA rfl ?_
            simp only [List.drop_succ_cons, List.drop_zero]
            clear hF keep
            have ho22' := own_base ho22 g21.size
            have hcc := own_cap ho22
            go_wp2_with fail
            refine bodyPost_ret (results_tmp2 rfl _ _ _) rfl ?_
            unfold PtTo
            rw [E1.out]
            exact ⟨A22, c22, by first | rfl | simp, ho22', g22, hcc⟩
  · have hr' : rightCh c = false := by simpa using hr
    have E1 := Lib.hid (show putCh c = none by unfold putCh; rw [if_neg hr])
    have HR := Lib.hid hr'
    clear hr hr' q1 q2 q3 q4 q5 q6 h
    go_enter Tryz.func23, Tryz.ntmps23
    go_upto_region 1 with fail
    generalize w.alloc (.cells (codC.A r) 47) = W0 at f0 q7 hP hRc ⊢
    go_wp2_with (go_at_call 58; refine hRc.out.mono ?_; rintro e w1 ⟨rfl, f1⟩; rw [HR.out])
    refine bodyPost_ret (results_tmp2 rfl _ _ _) rfl ?_
    unfold PtTo
    rw [E1.out]
    exact ⟨none, 0, rfl, World.ownsRow_nil _ _ _ _, f0.step0 f1, Nat.le_refl _⟩
end Go.Proofs.YtejkfekpgbmdiaaGreat
