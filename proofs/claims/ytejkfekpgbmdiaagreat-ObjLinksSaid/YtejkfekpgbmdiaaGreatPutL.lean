/- Contracts: obj.PutBlob, obj.PutLabel. (ex_ldS_at) -/
import Derived.Test.YtejkfekpgbmdiaaGreatStPP
namespace Go.Proofs.YtejkfekpgbmdiaaGreat
open Go.RowKit
set_option linter.unusedVariables false
set_option linter.unusedSimpArgs false

theorem bsB_1 (w : World) (k : Int) : (Instr.buildSlice 22 1 #[(0, .int .u8 k)]).run Tryz.prog w = .ok (.slice (some ⟨w.heap.size, 0, none⟩) 1 1) (w.alloc (.cells #[.int .u8 k] 5)) := by go_simp
theorem ex_bsB_at {ρ : Operand → Value} {o : Oper} {w : World} (k : Int) (ho : o.op = .buildSlice 22 1 #[(0, .const (.int .u8 k))]) (hc : ρ (.const (.int .u8 k)) = .int .u8 k) : (execOp ρ o).run Tryz.prog w = .ok (.value (.slice (some ⟨w.heap.size, 0, none⟩) 1 1)) (w.alloc (.cells #[.int .u8 k] 5)) := by
  unfold execOp
  simp only [ho, List.map_toArray, List.map_cons, List.map_nil, hc, Sem.run_bind, bsB_1, Result.andThen_ok, Sem.run_pure]
theorem own_lit1 (w : World) (b : UInt8) (k : Int) (hk : (b.toNat : Int) = k) : (w.alloc (.cells #[.int .u8 k] 5)).ownsRow w.heap.size 5 1 (.slice (some ⟨w.heap.size, 0, none⟩) 1 1) 1 (bv [b]) := by
  subst hk
  have := World.ownsRow_lit (base := w.heap.size) (e := 5) (size := 1) w #[.int .u8 (b.toNat : Int)] 1 (Nat.le_refl _) (by simp [maxLen]) rfl
  simpa [bv, u8v] using this
theorem own_cap {w : World} {base : Nat} {e : TypeId} {size n c : Nat} {A : Option Addr} {xs : List Value} (h : w.ownsRow base e size (.slice A n c) n xs) : n ≤ c := by
  obtain ⟨A', c', ev, hcc, _⟩ := own_form h
  injection ev with e1 e2 e3
  omega
/-- bytes, or an error's number -/
def PtTo (w : World) (o : Option (List UInt8)) (err : Int) (e : Ending) (w' : World) : Prop :=
  ∃ A c, e = .returned (.tuple #[.slice A (o.getD []).length c, .int .i64 (if o.isSome then 0 else err)]) ∧ w'.ownsRow w.heap.size 5 1 (.slice A (o.getD []).length c) (o.getD []).length (bv (o.getD [])) ∧ Fr noB w w' ∧ (o.getD []).length ≤ c
def putBl (l : List UInt8) : Option (List UInt8) := if l.length ≤ 4096 then some (1 :: l) else none
set_option maxRecDepth 100000 in
set_option maxHeartbeats 1000000 in
theorem putBlob_any (w : World) (A : Option Addr) (c n : Nat) (l : List UInt8) (hn : l.length = n) (hs : Sl w A (bv l)) (hb : l.length ≤ 140737488355328) : Calls Tryz.prog 10 #[.slice A n c] w (PtTo w (putBl l) 2) := by
  subst hn
  by_cases hl : l.length ≤ 4096
  · have e1 : putBl l = some (1 :: l) := by unfold putBl; rw [if_pos hl]
    have E1 := Lib.hid e1
    have i1 : ¬ (4096 : Int) < (l.length : Int) := by omega
    have fn : Fr noB w (w.alloc (.cells #[.int .u8 1] 5)) := (Fr.refl noB w).alloc _
    have ho := own_lit1 w 1 1 rfl
    have hs1 := hs.fr0 fn
    clear e1
    go_enter Tryz.func10, Tryz.ntmps10
    go_wp2_with (at_builtin; refine wpList_appB _ etBytes rfl _ _ rfl w.heap.size _ 1 [1] rfl ho A l.length c l rfl hs1 rfl (by simp; omega) (by simp) ?_; intro A' c' w' hc' hm' ho' hg' hA')
    refine bodyPost_ret (results_tmp2 rfl _ _ _) rfl ?_
    unfold PtTo
    rw [E1.out]
    exact ⟨A', c', by first | rfl | simp, ho', fn.stepG (r := some w.heap.size) hg' (by intro g hg; injection hg with hg; omega), hc'⟩
  · have e1 : putBl l = none := by unfold putBl; rw [if_neg hl]
    have E1 := Lib.hid e1
    have i1 : (4096 : Int) < (l.length : Int) := by omega
    clear e1
    go_enter Tryz.func10, Tryz.ntmps10
    go_wp2_with fail
    refine bodyPost_ret (results_tmp2 rfl _ _ _) rfl ?_
    unfold PtTo
    rw [E1.out]
    exact ⟨none, 0, rfl, World.ownsRow_nil _ _ _ _, Fr.refl _ _, Nat.le_refl _⟩
def putLb (r : Lbl) : Option (List UInt8) := if rightLb r = true then some (lbB r) else none
set_option maxRecDepth 100000 in
set_option maxHeartbeats 4000000 in
theorem putLabel_any (w : World) (r : Lbl) (h1 : r.Name.length ≤ 140737488355328) (h2 : r.Msg.length ≤ 140737488355328) : Calls Tryz.prog 28 #[.agg (codL.A r)] w (PtTo w (putLb r) 1) := by
  have f0 : Fr noB w (w.alloc (.cells (codL.A r) 55)) := (Fr.refl noB w).alloc _
  obtain ⟨q1, q2, q3, q4⟩ := lbAt (Cod.rd_new w 55 r)
  have hP : w.heap.size < (w.alloc (.cells (codL.A r) 55)).heap.size := by simp
  by_cases hr : rightLb r = true
  · have e1 : putLb r = some (lbB r) := by unfold putLb; rw [if_pos hr]
    have E1 := Lib.hid e1
    have HR := Lib.hid hr
    have hlb : lbB r = (([4] ++ r.Target.1) ++ txB r.Name) ++ txB r.Msg := by unfold lbB; simp
    have HLB := Lib.hid hlb
    have hr2 := hr
    simp only [rightLb, Bool.and_eq_true, decide_eq_true_eq] at hr2
    have hn60 := nameOk_le hr2.1.2
    have hm200 := hr2.2
    have t1 : (txB r.Name).length ≤ 80 := by have := numB_length r.Name.length (by omega); unfold txB; rw [List.length_append]; omega
    clear e1 hr hlb hr2
    go_enter Tryz.func28, Tryz.ntmps28
    go_upto_region 1 with fail
    generalize w.alloc (.cells (codL.A r) 55) = W0 at f0 q1 q2 q3 q4 hP ⊢
    generalize w.heap.size = P at q1 q2 q3 q4 hP ⊢
    go_upto_region 3 with (go_at_call 70; refine (rightLabel_any _ r h1 h2).mono ?_; rintro e w1 ⟨rfl, f1⟩; rw [HR.out])
    obtain ⟨L1, L2, L3, L4, L5, L6⟩ := f1.same
    replace q1 := (L3 P 0 hP).trans q1
    replace q2 := (L1 P 32 hP).trans q2
    replace q3 := (L1 P 33 hP).trans q3
    clear L1 L2 L3 L4 L5 L6 q4 hP
    replace f0 := f0.step0 f1
    have fd := (Fr.refl noB w1).drew
    have keep : ∀ w' w'' : World, Fr noB w' w'' → (rdI w' P 0 = some r.Target ∧ w'.cell? ⟨P, 32, none⟩ = some (.string (str r.Name)) ∧ w'.cell? ⟨P, 33, none⟩ = some (.string (str r.Msg))) → (rdI w'' P 0 = some r.Target ∧ w''.cell? ⟨P, 32, none⟩ = some (.string (str r.Name)) ∧ w''.cell? ⟨P, 33, none⟩ = some (.string (str r.Msg))) :=
      fun w' w'' f h => ⟨rdI_fr h.1 (rdI_lt h.1) f (by simp [noB]), cell_fr0 h.2.1 f, cell_fr0 h.2.2 f⟩
    refine wp_region_M 10 12 [⟨128, 0, 0⟩, ⟨256, 2, 0⟩, ⟨512, 256, 2⟩, ⟨1024, 640, 5⟩, ⟨2048, 2, 0⟩, ⟨4096, 2048, 16⟩, ⟨8192, 5120, 40⟩, ⟨16384, 2, 0⟩, ⟨32768, 16384, 128⟩, ⟨65536, 40960, 320⟩, ⟨4, 65536, 1023⟩, ⟨8, 0, 2047⟩] [(true, 1), (true, 2), (true, 4), (true, 5), (true, 7), (true, 8), (false, 0), (false, 3), (false, 6), (false, 9)] (fun w' => rdI w' P 0 = some r.Target ∧ w'.cell? ⟨P, 32, none⟩ = some (.string (str r.Name)) ∧ w'.cell? ⟨P, 33, none⟩ = some (.string (str r.Msg))) (by kernel_rfl) rfl (by kernel_rfl) (by kernel_rfl) (by kernel_rfl) ⟨rdI_fr q1 (rdI_lt q1) fd (by simp [noB]), cell_fr0 q2 fd, cell_fr0 q3 fd⟩ (fun hA hF => ?_)
    refine wpAnyS_take (v := ?_) hA rfl (fun _ _ _ h => h) (Or.inl ⟨by rfl, ?_⟩) hF (fun hA => ?_)
    rotate_left
    · intro wS hSw; (try dsimp only at hSw); obtain ⟨s1, s2, s3⟩ := hSw; first | (apply Eq.trans; apply ex_ld_id; exact rfl; exact rfl; assumption; with_reducible rfl) | (apply Eq.trans; apply ex_ldS_at; exact rfl; exact rfl; assumption; with_reducible rfl) | (go_simp; try with_reducible rfl)
    try simp only [List.getElem_toArray, List.getElem_cons_zero, List.getElem_cons_succ, Act.put, List.setIfInBounds_toArray, List.set_cons_zero, List.set_cons_succ]
    refine wpAnyS_take (v := ?_) hA rfl (fun _ _ _ h => h) (Or.inl ⟨by rfl, ?_⟩) hF (fun hA => ?_)
    rotate_left
    · intro wS hSw; (try dsimp only at hSw); obtain ⟨s1, s2, s3⟩ := hSw; first | (apply Eq.trans; apply ex_ld_id; exact rfl; exact rfl; assumption; with_reducible rfl) | (apply Eq.trans; apply ex_ldS_at; exact rfl; exact rfl; assumption; with_reducible rfl) | (go_simp; try with_reducible rfl)
    try simp only [List.getElem_toArray, List.getElem_cons_zero, List.getElem_cons_succ, Act.put, List.setIfInBounds_toArray, List.set_cons_zero, List.set_cons_succ]
    refine wpAnyS_take (v := ?_) hA rfl (fun _ _ _ h => h) (Or.inl ⟨by rfl, ?_⟩) hF (fun hA => ?_)
    rotate_left
    · intro wS hSw; (try dsimp only at hSw); obtain ⟨s1, s2, s3⟩ := hSw; first | (apply Eq.trans; apply ex_ld_id; exact rfl; exact rfl; assumption; with_reducible rfl) | (apply Eq.trans; apply ex_ldS_at; exact rfl; exact rfl; assumption; with_reducible rfl) | (go_simp; try with_reducible rfl)
    try simp only [List.getElem_toArray, List.getElem_cons_zero, List.getElem_cons_succ, Act.put, List.setIfInBounds_toArray, List.set_cons_zero, List.set_cons_succ]
    refine wpAnyS_take (v := ?_) hA rfl (fun _ _ _ h => h) (Or.inl ⟨by rfl, ?_⟩) hF (fun hA => ?_)
    rotate_left
    · intro wS hSw; (try dsimp only at hSw); obtain ⟨s1, s2, s3⟩ := hSw; first | (apply Eq.trans; apply ex_ld_id; exact rfl; exact rfl; assumption; with_reducible rfl) | (apply Eq.trans; apply ex_ldS_at; exact rfl; exact rfl; assumption; with_reducible rfl) | (go_simp; try with_reducible rfl)
    try simp only [List.getElem_toArray, List.getElem_cons_zero, List.getElem_cons_succ, Act.put, List.setIfInBounds_toArray, List.set_cons_zero, List.set_cons_succ]
    refine wpAnyS_take (v := ?_) hA rfl (fun _ _ _ h => h) (Or.inl ⟨by rfl, ?_⟩) hF (fun hA => ?_)
    rotate_left
    · intro wS hSw; (try dsimp only at hSw); obtain ⟨s1, s2, s3⟩ := hSw; first | (apply Eq.trans; apply ex_ld_id; exact rfl; exact rfl; assumption; with_reducible rfl) | (apply Eq.trans; apply ex_ldS_at; exact rfl; exact rfl; assumption; with_reducible rfl) | (go_simp; try with_reducible rfl)
    try simp only [List.getElem_toArray, List.getElem_cons_zero, List.getElem_cons_succ, Act.put, List.setIfInBounds_toArray, List.set_cons_zero, List.set_cons_succ]
    refine wpAnyS_take (v := ?_) hA rfl (fun _ _ _ h => h) (Or.inl ⟨by rfl, ?_⟩) hF (fun hA => ?_)
    rotate_left
    · intro wS hSw; (try dsimp only at hSw); obtain ⟨s1, s2, s3⟩ := hSw; first | (apply Eq.trans; apply ex_ld_id; exact rfl; exact rfl; assumption; with_reducible rfl) | (apply Eq.trans; apply ex_ldS_at; exact rfl; exact rfl; assumption; with_reducible rfl) | (go_simp; try with_reducible rfl)
    try simp only [List.getElem_toArray, List.getElem_cons_zero, List.getElem_cons_succ, Act.put, List.setIfInBounds_toArray, List.set_cons_zero, List.set_cons_succ]
    refine wpAnyS_one hA rfl (fun K' hK => ?_)
    refine step_runI rfl _ _ (ex_bsB_at 4 rfl rfl) ?_
    have fn : Fr noB w1.drew (w1.drew.alloc (.cells #[.int .u8 4] 5)) := (Fr.refl noB w1.drew).alloc _
    have ho1 := own_lit1 w1.drew 4 4 rfl
    have g1 := (f0.step0 fd).step0 fn
    replace hF := keep _ _ fn hF
    refine hK.out _ _ hF (fun hA => ?_)
    clear hK K'
    as_aux_lemma =>
    generalize w1.drew.alloc (.cells #[.int .u8 4] 5) = w2 at ho1 g1 hF ⊢
    refine wpAnyS_one hA rfl (fun K' hK => ?_)
    go_simp
    go_at_call 40
    refine (eid_any w2 _ 1 1 [4] rfl (Sl.own ho1) (by simp) r.Target).mono ?_
    rintro e w3 ⟨A3, c3, rfl, ho3, hf3⟩
    obtain ⟨l3, hl3⟩ : ∃ x : List UInt8, x = [4] ++ r.Target.1 := ⟨_, rfl⟩
    rw [← hl3] at ho3 ⊢
    have b3 : l3.length ≤ 33 := by rw [hl3, List.length_append, r.Target.2]; simp
    have HL3 := Lib.hid hl3
    clear hl3
    have g3 := g1.step0 hf3
    replace hF := keep _ _ hf3 hF
    refine hK.out _ _ hF (fun hA => ?_)
    clear hK K'
    as_aux_lemma =>
    refine wpAnyS_one hA rfl (fun K' hK => ?_)
    go_simp
    go_at_call 41
    refine (etext_any w3 A3 c3 l3.length l3 rfl (Sl.own ho3) (by omega) r.Name (by omega)).mono ?_
    rintro e w4 ⟨A4, c4, rfl, ho4, hf4⟩
    obtain ⟨l4, hl4⟩ : ∃ x : List UInt8, x = l3 ++ txB r.Name := ⟨_, rfl⟩
    rw [← hl4] at ho4 ⊢
    have b4 : l4.length ≤ 120 := by rw [hl4, List.length_append]; omega
    have HL4 := Lib.hid hl4
    clear hl4
    have g4 := g3.step0 hf4
    replace hF := keep _ _ hf4 hF
    refine hK.out _ _ hF (fun hA => ?_)
    clear hK K'
    as_aux_lemma =>
    refine wpAnyS_one hA rfl (fun K' hK => ?_)
    go_simp
    go_at_call 41
    refine (etext_any w4 A4 c4 l4.length l4 rfl (Sl.own ho4) (by omega) r.Msg (by omega)).mono ?_
    rintro e w5 ⟨A5, c5, rfl, ho5, hf5⟩
    have HE := Lib.hid (show l4 ++ txB r.Msg = lbB r by rw [HL4.out, HL3.out, HLB.out])
    rw [HE.out] at ho5 ⊢
    have g5 := g4.step0 hf5
    replace hF := keep _ _ hf5 hF
    refine hK.out _ _ hF (fun hA => ?_)
    clear hK K'
    as_aux_lemma =>
    refine wpAnyS_end hA rfl ?_
    simp only [List.drop_succ_cons, List.drop_zero]
    clear hF keep
    have ho5' := own_base ho5 g4.size
    have hcc := own_cap ho5
    go_wp2_with fail
    refine bodyPost_ret (results_tmp2 rfl _ _ _) rfl ?_
    unfold PtTo
    rw [E1.out]
    exact ⟨A5, c5, by first | rfl | simp, ho5', g5, hcc⟩
  · have hr' : rightLb r = false := by simpa using hr
    have e1 : putLb r = none := by unfold putLb; rw [if_neg hr]
    have E1 := Lib.hid e1
    have HR := Lib.hid hr'
    clear e1 hr hr' q1 q2 q3
    go_enter Tryz.func28, Tryz.ntmps28
    go_upto_region 1 with fail
    generalize w.alloc (.cells (codL.A r) 55) = W0 at f0 q4 hP ⊢
    go_wp2_with (go_at_call 70; refine (rightLabel_any _ r h1 h2).mono ?_; rintro e w1 ⟨rfl, f1⟩; rw [HR.out])
    refine bodyPost_ret (results_tmp2 rfl _ _ _) rfl ?_
    unfold PtTo
    rw [E1.out]
    exact ⟨none, 0, rfl, World.ownsRow_nil _ _ _ _, f0.step0 f1, Nat.le_refl _⟩
end Go.Proofs.YtejkfekpgbmdiaaGreat
