/- The law DagOrder: it returns true. -/
import Derived.Test.YtchiclnnoealdaaLawBases
import Derived.Deep.CutRange
namespace Go.Proofs.Ytchiclnnoealdaa
open Go.RowKit Go.Maps Go.Sort Go.Shelf
set_option linter.unusedVariables false
set_option linter.unusedSimpArgs false

theorem ex_lk_at {ρ : Operand → Value} {o : Oper} {m x : Operand} {w : World} {r : Nat} {y : ID} {l : List ID} {b : Bool} (ho : o.op = .lookup 60 m x false) (hm : ρ m = .map (some r)) (hx : ρ x = encI y) (h : mpI w r = some (setV l)) (hb : decide (y ∈ l) = b) :
    (execOp ρ o).run Try.prog w = .ok (.value (.bool b)) w := by
  have hl := lk_set w r y
  rw [h] at hl
  simp only [look_setV] at hl
  unfold execOp
  simp only [ho, hm, hx, Sem.run_bind, hl, Result.andThen_ok, Sem.run_pure]
  subst hb
  by_cases e : y ∈ l <;> simp [e]
def OrdR (W : World) (R : Nat) (la : List ID) (gk : Nat) (kv : Value) (wr : World) : Prop := ∃ n : Nat, kv = .int .i64 (n : Int) ∧ gk = la.length - n ∧ n ≤ la.length ∧ mpI wr R = some (setV (la.take n)) ∧ W.heap.size ≤ R ∧ Fr noB W wr

set_option maxRecDepth 100000 in
set_option maxHeartbeats 8000000 in
theorem orderL_any (w : World) (A0 : Option Addr) (c0 : Nat) (nums : List (Int × Int)) (hs : Sl w A0 (prc nums)) (hb : nums.length ≤ 200000000000000) (a1 a2 : Int) :
    Calls Try.prog 5 #[.slice A0 nums.length c0, .int .i64 a1, .int .i64 a2] w (lawPost w) := by
  go_enter Try.func5, Try.ntmps5
  go_wp2_with fail
  go_at_call 9
  refine (alive_any w).mono ?_
  rintro e w1 ⟨rfl, f1⟩
  go_wp2_with fail
  go_at_call 28
  refine (grown_any w w1 f1 A0 c0 _ nums rfl hs hb).mono ?_
  rintro e w2 ⟨D, G, m, A, c, S, rfl, hD, hG, hoA, hfA⟩
  by_cases hm : m = 0
  · subst hm
    go_wp2_with fail
    go_ret
    exact ⟨rfl, hD.fr.below⟩
  · have hmp : 0 < m := by omega
    obtain ⟨r1, er1, hr1⟩ := and_mask a1 1023 (by omega)
    obtain ⟨r2, er2, hr2⟩ := and_mask a2 1023 (by omega)
    have i2 : r1 % m < m := Nat.mod_lt _ hmp
    have j2 : r2 % m < m := Nat.mod_lt _ hmp
    have ht1 : (bits BinOp.and IntKind.i64 a1 1023).tmod (m : Int) = ((r1 % m : Nat) : Int) := by rw [show bits BinOp.and IntKind.i64 a1 1023 = (r1 : Int) from er1]; rfl
    have ht2 : (bits BinOp.and IntKind.i64 a2 1023).tmod (m : Int) = ((r2 % m : Nat) : Int) := by rw [show bits BinOp.and IntKind.i64 a2 1023 = (r2 : Int) from er2]; rfl
    generalize r1 % m = i at i2 ht1
    generalize r2 % m = j at j2 ht2
    clear er1 er2 hr1 hr2
    obtain ⟨g, off, rfl⟩ := (Sl.own hoA).ad (by rw [rowL_len]; omega)
    have gi := (Sl.own hoA).id i (by rw [rowL_len]; omega)
    have gj := (Sl.own hoA).id j (by rw [rowL_len]; omega)
    rw [rowL_get] at gi gj
    have x1 : (0 : Int) ≤ (i : Int) := by omega
    have x2 : (i : Int) < (m : Int) := by omega
    have y1 : (0 : Int) ≤ (j : Int) := by omega
    have y2 : (j : Int) < (m : Int) := by omega
    have hm0 : ((m : Int) == 0) = false := by rw [beq_eq_false_iff_ne]; omega
    have lw : w.heap.size ≤ w2.heap.size := hD.fr.size
    have hgS := hfA _ rfl
    go_upto_region 8 with fail
    go_cut [9, 10] from 35 to 50 (fun va vb wx => ∃ pa pb, va = .pointer (some ⟨pa, 0, none⟩) ∧ vb = .pointer (some ⟨pb, 0, none⟩) ∧ bxI wx pa = some (LL i) ∧ bxI wx pb = some (LL j) ∧ DagL w wx D G (fun _ => False) ∧ Sl wx (some ⟨g, off, none⟩) (idc (rowL m)))
    case first =>
      go_wp2_with fail
      refine wp_region_N 19 (fun w' => rdI w' g (off + i * 32) = some (LL i) ∧ rdI w' g (off + j * 32) = some (LL j)) (by kernel_rfl) (by kernel_rfl) ⟨(rdI_drew _ _ _).trans gi, (rdI_drew _ _ _).trans gj⟩ (fun hA hF => ?_)
      refine wpAnyN_take (i := 0) (v := ?_) hA rfl (by decide) (by kernel_rfl) (by kernel_rfl) (fun _ _ _ h => h) (Or.inl ⟨by rfl, ?_⟩) hF (fun hA => ?_)
      rotate_left
      · intro wS hSw; (try dsimp only at hSw); obtain ⟨s1, s2⟩ := hSw; first | (apply Eq.trans; apply ex_ld_id; exact rfl; exact rfl; assumption; with_reducible rfl) | (apply Eq.trans; apply ex_lk_at; exact rfl; exact rfl; exact rfl; assumption; assumption; with_reducible rfl) | (go_simp; try with_reducible rfl)
      try simp only [List.getElem_toArray, List.getElem_cons_zero, List.getElem_cons_succ, Act.put, List.setIfInBounds_toArray, List.set_cons_zero, List.set_cons_succ]
      refine wpAnyN_take (i := 1) (v := ?_) hA rfl (by decide) (by kernel_rfl) (by kernel_rfl) (fun _ _ _ h => h) (Or.inl ⟨by rfl, ?_⟩) hF (fun hA => ?_)
      rotate_left
      · intro wS hSw; (try dsimp only at hSw); obtain ⟨s1, s2⟩ := hSw; first | (apply Eq.trans; apply ex_ld_id; exact rfl; exact rfl; assumption; with_reducible rfl) | (apply Eq.trans; apply ex_lk_at; exact rfl; exact rfl; exact rfl; assumption; assumption; with_reducible rfl) | (go_simp; try with_reducible rfl)
      try simp only [List.getElem_toArray, List.getElem_cons_zero, List.getElem_cons_succ, Act.put, List.setIfInBounds_toArray, List.set_cons_zero, List.set_cons_succ]
      refine wpAnyN_take (i := 2) (v := ?_) hA rfl (by decide) (by kernel_rfl) (by kernel_rfl) (fun _ _ _ h => h) (Or.inl ⟨by rfl, ?_⟩) hF (fun hA => ?_)
      rotate_left
      · intro wS hSw; (try dsimp only at hSw); obtain ⟨s1, s2⟩ := hSw; first | (apply Eq.trans; apply ex_ld_id; exact rfl; exact rfl; assumption; with_reducible rfl) | (apply Eq.trans; apply ex_lk_at; exact rfl; exact rfl; exact rfl; assumption; assumption; with_reducible rfl) | (go_simp; try with_reducible rfl)
      try simp only [List.getElem_toArray, List.getElem_cons_zero, List.getElem_cons_succ, Act.put, List.setIfInBounds_toArray, List.set_cons_zero, List.set_cons_succ]
      refine wpAnyN_take (i := 3) (v := ?_) hA rfl (by decide) (by kernel_rfl) (by kernel_rfl) (fun _ _ _ h => h) (Or.inl ⟨by rfl, ?_⟩) hF (fun hA => ?_)
      rotate_left
      · intro wS hSw; (try dsimp only at hSw); obtain ⟨s1, s2⟩ := hSw; first | (apply Eq.trans; apply ex_ld_id; exact rfl; exact rfl; assumption; with_reducible rfl) | (apply Eq.trans; apply ex_lk_at; exact rfl; exact rfl; exact rfl; assumption; assumption; with_reducible rfl) | (go_simp; try with_reducible rfl)
      try simp only [List.getElem_toArray, List.getElem_cons_zero, List.getElem_cons_succ, Act.put, List.setIfInBounds_toArray, List.set_cons_zero, List.set_cons_succ]
      refine wpAnyN_take (i := 4) (v := ?_) hA rfl (by decide) (by kernel_rfl) (by kernel_rfl) (fun _ _ _ h => h) (Or.inl ⟨by rfl, ?_⟩) hF (fun hA => ?_)
      rotate_left
      · intro wS hSw; (try dsimp only at hSw); obtain ⟨s1, s2⟩ := hSw; first | (apply Eq.trans; apply ex_ld_id; exact rfl; exact rfl; assumption; with_reducible rfl) | (apply Eq.trans; apply ex_lk_at; exact rfl; exact rfl; exact rfl; assumption; assumption; with_reducible rfl) | (go_simp; try with_reducible rfl)
      try simp only [List.getElem_toArray, List.getElem_cons_zero, List.getElem_cons_succ, Act.put, List.setIfInBounds_toArray, List.set_cons_zero, List.set_cons_succ]
      refine wpAnyN_take (i := 5) (v := ?_) hA rfl (by decide) (by kernel_rfl) (by kernel_rfl) (fun _ _ _ h => h) (Or.inl ⟨by rfl, ?_⟩) hF (fun hA => ?_)
      rotate_left
      · intro wS hSw; (try dsimp only at hSw); obtain ⟨s1, s2⟩ := hSw; first | (apply Eq.trans; apply ex_ld_id; exact rfl; exact rfl; assumption; with_reducible rfl) | (apply Eq.trans; apply ex_lk_at; exact rfl; exact rfl; exact rfl; assumption; assumption; with_reducible rfl) | (go_simp; try with_reducible rfl)
      try simp only [List.getElem_toArray, List.getElem_cons_zero, List.getElem_cons_succ, Act.put, List.setIfInBounds_toArray, List.set_cons_zero, List.set_cons_succ]
      refine wpAnyN_take (i := 6) (v := ?_) hA rfl (by decide) (by kernel_rfl) (by kernel_rfl) (fun _ _ _ h => h) (Or.inl ⟨by rfl, ?_⟩) hF (fun hA => ?_)
      rotate_left
      · intro wS hSw; (try dsimp only at hSw); obtain ⟨s1, s2⟩ := hSw; first | (apply Eq.trans; apply ex_ld_id; exact rfl; exact rfl; assumption; with_reducible rfl) | (apply Eq.trans; apply ex_lk_at; exact rfl; exact rfl; exact rfl; assumption; assumption; with_reducible rfl) | (go_simp; try with_reducible rfl)
      try simp only [List.getElem_toArray, List.getElem_cons_zero, List.getElem_cons_succ, Act.put, List.setIfInBounds_toArray, List.set_cons_zero, List.set_cons_succ]
      refine wpAnyN_take (i := 7) (v := ?_) hA rfl (by decide) (by kernel_rfl) (by kernel_rfl) (fun _ _ _ h => h) (Or.inl ⟨by rfl, ?_⟩) hF (fun hA => ?_)
      rotate_left
      · intro wS hSw; (try dsimp only at hSw); obtain ⟨s1, s2⟩ := hSw; first | (apply Eq.trans; apply ex_ld_id; exact rfl; exact rfl; assumption; with_reducible rfl) | (apply Eq.trans; apply ex_lk_at; exact rfl; exact rfl; exact rfl; assumption; assumption; with_reducible rfl) | (go_simp; try with_reducible rfl)
      try simp only [List.getElem_toArray, List.getElem_cons_zero, List.getElem_cons_succ, Act.put, List.setIfInBounds_toArray, List.set_cons_zero, List.set_cons_succ]
      refine wpAnyN_take (i := 8) (v := ?_) hA rfl (by decide) (by kernel_rfl) (by kernel_rfl) (fun _ _ _ h => h) (Or.inl ⟨by rfl, ?_⟩) hF (fun hA => ?_)
      rotate_left
      · intro wS hSw; (try dsimp only at hSw); obtain ⟨s1, s2⟩ := hSw; first | (apply Eq.trans; apply ex_ld_id; exact rfl; exact rfl; assumption; with_reducible rfl) | (apply Eq.trans; apply ex_lk_at; exact rfl; exact rfl; exact rfl; assumption; assumption; with_reducible rfl) | (go_simp; try with_reducible rfl)
      try simp only [List.getElem_toArray, List.getElem_cons_zero, List.getElem_cons_succ, Act.put, List.setIfInBounds_toArray, List.set_cons_zero, List.set_cons_succ]
      refine wpAnyN_take (i := 9) (v := ?_) hA rfl (by decide) (by kernel_rfl) (by kernel_rfl) (fun _ _ _ h => h) (Or.inl ⟨by rfl, ?_⟩) hF (fun hA => ?_)
      rotate_left
      · intro wS hSw; (try dsimp only at hSw); obtain ⟨s1, s2⟩ := hSw; first | (apply Eq.trans; apply ex_ld_id; exact rfl; exact rfl; assumption; with_reducible rfl) | (apply Eq.trans; apply ex_lk_at; exact rfl; exact rfl; exact rfl; assumption; assumption; with_reducible rfl) | (go_simp; try with_reducible rfl)
      try simp only [List.getElem_toArray, List.getElem_cons_zero, List.getElem_cons_succ, Act.put, List.setIfInBounds_toArray, List.set_cons_zero, List.set_cons_succ]
      refine wpAnyN_take (i := 10) (v := ?_) hA rfl (by decide) (by kernel_rfl) (by kernel_rfl) (fun _ _ _ h => h) (Or.inl ⟨by rfl, ?_⟩) hF (fun hA => ?_)
      rotate_left
      · intro wS hSw; (try dsimp only at hSw); obtain ⟨s1, s2⟩ := hSw; first | (apply Eq.trans; apply ex_ld_id; exact rfl; exact rfl; assumption; with_reducible rfl) | (apply Eq.trans; apply ex_lk_at; exact rfl; exact rfl; exact rfl; assumption; assumption; with_reducible rfl) | (go_simp; try with_reducible rfl)
      try simp only [List.getElem_toArray, List.getElem_cons_zero, List.getElem_cons_succ, Act.put, List.setIfInBounds_toArray, List.set_cons_zero, List.set_cons_succ]
      refine wpAnyN_take (i := 11) (v := ?_) hA rfl (by decide) (by kernel_rfl) (by kernel_rfl) (fun _ _ _ h => h) (Or.inl ⟨by rfl, ?_⟩) hF (fun hA => ?_)
      rotate_left
      · intro wS hSw; (try dsimp only at hSw); obtain ⟨s1, s2⟩ := hSw; first | (apply Eq.trans; apply ex_ld_id; exact rfl; exact rfl; assumption; with_reducible rfl) | (apply Eq.trans; apply ex_lk_at; exact rfl; exact rfl; exact rfl; assumption; assumption; with_reducible rfl) | (go_simp; try with_reducible rfl)
      try simp only [List.getElem_toArray, List.getElem_cons_zero, List.getElem_cons_succ, Act.put, List.setIfInBounds_toArray, List.set_cons_zero, List.set_cons_succ]
      refine wpAnyN_take (i := 12) (v := ?_) hA rfl (by decide) (by kernel_rfl) (by kernel_rfl) (fun _ _ _ h => h) (Or.inl ⟨by rfl, ?_⟩) hF (fun hA => ?_)
      rotate_left
      · intro wS hSw; (try dsimp only at hSw); obtain ⟨s1, s2⟩ := hSw; first | (apply Eq.trans; apply ex_ld_id; exact rfl; exact rfl; assumption; with_reducible rfl) | (apply Eq.trans; apply ex_lk_at; exact rfl; exact rfl; exact rfl; assumption; assumption; with_reducible rfl) | (go_simp; try with_reducible rfl)
      try simp only [List.getElem_toArray, List.getElem_cons_zero, List.getElem_cons_succ, Act.put, List.setIfInBounds_toArray, List.set_cons_zero, List.set_cons_succ]
      refine wpAnyN_take (i := 13) (v := ?_) hA rfl (by decide) (by kernel_rfl) (by kernel_rfl) (fun _ _ _ h => h) (Or.inl ⟨by rfl, ?_⟩) hF (fun hA => ?_)
      rotate_left
      · intro wS hSw; (try dsimp only at hSw); obtain ⟨s1, s2⟩ := hSw; first | (apply Eq.trans; apply ex_ld_id; exact rfl; exact rfl; assumption; with_reducible rfl) | (apply Eq.trans; apply ex_lk_at; exact rfl; exact rfl; exact rfl; assumption; assumption; with_reducible rfl) | (go_simp; try with_reducible rfl)
      try simp only [List.getElem_toArray, List.getElem_cons_zero, List.getElem_cons_succ, Act.put, List.setIfInBounds_toArray, List.set_cons_zero, List.set_cons_succ]
      refine wpAnyN_take (i := 14) (v := ?_) hA rfl (by decide) (by kernel_rfl) (by kernel_rfl) (fun _ _ _ h => h) (Or.inl ⟨by rfl, ?_⟩) hF (fun hA => ?_)
      rotate_left
      · intro wS hSw; (try dsimp only at hSw); obtain ⟨s1, s2⟩ := hSw; first | (apply Eq.trans; apply ex_ld_id; exact rfl; exact rfl; assumption; with_reducible rfl) | (apply Eq.trans; apply ex_lk_at; exact rfl; exact rfl; exact rfl; assumption; assumption; with_reducible rfl) | (go_simp; try with_reducible rfl)
      try simp only [List.getElem_toArray, List.getElem_cons_zero, List.getElem_cons_succ, Act.put, List.setIfInBounds_toArray, List.set_cons_zero, List.set_cons_succ]
      refine wpAnyN_take (i := 15) (v := ?_) hA rfl (by decide) (by kernel_rfl) (by kernel_rfl) (fun _ _ _ h => h) (Or.inl ⟨by rfl, ?_⟩) hF (fun hA => ?_)
      rotate_left
      · intro wS hSw; (try dsimp only at hSw); obtain ⟨s1, s2⟩ := hSw; first | (apply Eq.trans; apply ex_ld_id; exact rfl; exact rfl; assumption; with_reducible rfl) | (apply Eq.trans; apply ex_lk_at; exact rfl; exact rfl; exact rfl; assumption; assumption; with_reducible rfl) | (go_simp; try with_reducible rfl)
      try simp only [List.getElem_toArray, List.getElem_cons_zero, List.getElem_cons_succ, Act.put, List.setIfInBounds_toArray, List.set_cons_zero, List.set_cons_succ]
      have fV : Fr noB w2 w2.drew := (Fr.refl noB w2).drew
      have hDV := hD.fr0 fV
      have oV : OwnD w w2.drew (some ⟨g, off, none⟩) c (rowL m) := own_fr hoA fV (fun _ _ => by simp [noB])
      have lV : w.heap.size ≤ w2.drew.heap.size := lw
      generalize w2.drew = V at hF hDV oV lV ⊢
      clear fV hD hoA gi gj lw ht1 ht2 x1 x2 y1 y2 hm0
      have fa : Fr noB V (V.alloc (ido zID)) := (Fr.refl noB V).alloc _
      have fb : Fr noB V ((V.alloc (ido zID)).alloc (ido zID)) := fa.alloc _
      have keep : ∀ w', Fr noB V w' → rdI w' g (off + i * 32) = some (LL i) ∧ rdI w' g (off + j * 32) = some (LL j) := fun w' f => ⟨rdI_fr hF.1 (rdI_lt hF.1) f (by simp [noB]), rdI_fr hF.2 (rdI_lt hF.2) f (by simp [noB])⟩
      have k1 : bxI ((V.alloc (ido zID)).alloc (ido zID)) V.heap.size = some zID := by rw [bxI_old _ _ _ (by simp), bxI_new]
      have k2 : bxI ((V.alloc (ido zID)).alloc (ido zID)) (V.heap.size + 1) = some zID := by rw [bxI_new' _ _ _ (by simp)]
      have hgV : g < V.heap.size := ((Off.own oV) _ rfl).2
      refine wpAnyN_two (i := 16) (j := 17) hA (by kernel_rfl) (by decide) (by decide) rfl rfl (fun K' hK => ?_) (fun K' hK => ?_)
      · rw [if_pos (by rfl)]
        refine step_runW _ _ (ex_al_at rfl V) ?_
        refine hK.out _ _ (keep _ fa) (fun hA => ?_)
        clear hK K'
        try simp only [List.getElem_toArray, List.getElem_cons_zero, List.getElem_cons_succ, Act.put, List.setIfInBounds_toArray, List.set_cons_zero, List.set_cons_succ]
        refine wpAnyN_one (i := 17) hA (by kernel_rfl) (by decide) rfl (fun K' hK => ?_)
        rw [if_pos (by rfl)]
        refine step_runW _ _ (ex_al_at rfl _) ?_
        refine hK.out _ _ (keep _ fb) (fun hA => ?_)
        clear hK K'
        try simp only [List.getElem_toArray, List.getElem_cons_zero, List.getElem_cons_succ, Act.put, List.setIfInBounds_toArray, List.set_cons_zero, List.set_cons_succ, World.size_alloc]
        obtain ⟨e1, e2, e3⟩ := putB_fr k1 (LL i)
        have e4 := bxI_fr k2 e1 (fun e => by have : V.heap.size + 1 = V.heap.size := e; omega)
        refine wpAnyN_one (i := 18) hA (by kernel_rfl) (by decide) rfl (fun K' hK => ?_)
        rw [if_pos (by rfl)]
        refine step_skipW _ (ex_st_at rfl rfl rfl k1) ?_
        refine hK.out _ _ (keep _ (fb.step1 e1 (Nat.le_refl _))) (fun hA => ?_)
        clear hK K'
        try simp only [List.getElem_toArray, List.getElem_cons_zero, List.getElem_cons_succ, Act.put, List.setIfInBounds_toArray, List.set_cons_zero, List.set_cons_succ, World.size_alloc]
        refine wpAnyN_end rfl (by kernel_rfl) ?_
        simp only [List.drop_succ_cons, List.drop_zero]
        go_wp2_with fail
        go_meet
        case rel =>
          have hDW := (hDV.more fb).frS e1 (fun b hb => ⟨.inr ⟨by have : b = _ := hb; omega, by have : b = _ := hb; simp; omega⟩, by have : b = _ := hb; omega⟩)
          obtain ⟨g1, g2, g3⟩ := putB_fr e4 (LL j)
          have hDW2 := hDW.frS g1 (fun b hb => ⟨.inr ⟨by have : b = _ := hb; omega, by have : b = _ := hb; simp; omega⟩, by have : b = _ := hb; omega⟩)
          have qa := bxI_fr e3 g1 (fun e => by have : V.heap.size = V.heap.size + 1 := e; omega)
          have qb := g3
          clear hDW
          have hDW := hDW2.mono (S' := fun _ => False) (fun _ h => h.elim)
          have oX := (Sl.own oV).fr0 ((fb.step1 e1 (by omega)).step1 g1 (by omega))
          clear hDW2 e1 e2 e3 e4 g1 g2
          exact ⟨_, _, rfl, rfl, qa, qb, hDW, oX⟩
      · rw [if_pos (by rfl)]
        refine step_runW _ _ (ex_al_at rfl V) ?_
        refine hK.out _ _ (keep _ fa) (fun hA => ?_)
        clear hK K'
        try simp only [List.getElem_toArray, List.getElem_cons_zero, List.getElem_cons_succ, Act.put, List.setIfInBounds_toArray, List.set_cons_zero, List.set_cons_succ]
        refine wpAnyN_one (i := 16) hA (by kernel_rfl) (by decide) rfl (fun K' hK => ?_)
        rw [if_pos (by rfl)]
        refine step_runW _ _ (ex_al_at rfl _) ?_
        refine hK.out _ _ (keep _ fb) (fun hA => ?_)
        clear hK K'
        try simp only [List.getElem_toArray, List.getElem_cons_zero, List.getElem_cons_succ, Act.put, List.setIfInBounds_toArray, List.set_cons_zero, List.set_cons_succ, World.size_alloc]
        obtain ⟨e1, e2, e3⟩ := putB_fr k2 (LL i)
        have e4 := bxI_fr k1 e1 (fun e => by have : V.heap.size = V.heap.size + 1 := e; omega)
        refine wpAnyN_one (i := 18) hA (by kernel_rfl) (by decide) rfl (fun K' hK => ?_)
        rw [if_pos (by rfl)]
        refine step_skipW _ (ex_st_at rfl rfl rfl k2) ?_
        refine hK.out _ _ (keep _ (fb.step1 e1 (by omega))) (fun hA => ?_)
        clear hK K'
        try simp only [List.getElem_toArray, List.getElem_cons_zero, List.getElem_cons_succ, Act.put, List.setIfInBounds_toArray, List.set_cons_zero, List.set_cons_succ, World.size_alloc]
        refine wpAnyN_end rfl (by kernel_rfl) ?_
        simp only [List.drop_succ_cons, List.drop_zero]
        go_wp2_with fail
        go_meet
        case rel =>
          have hDW := (hDV.more fb).frS e1 (fun b hb => ⟨.inr ⟨by have : b = _ := hb; omega, by have : b = _ := hb; simp; omega⟩, by have : b = _ := hb; omega⟩)
          obtain ⟨g1, g2, g3⟩ := putB_fr e4 (LL j)
          have hDW2 := hDW.frS g1 (fun b hb => ⟨.inr ⟨by have : b = _ := hb; omega, by have : b = _ := hb; simp; omega⟩, by have : b = _ := hb; omega⟩)
          have qa := bxI_fr e3 g1 (fun e => by have : V.heap.size + 1 = V.heap.size := e; omega)
          have qb := g3
          clear hDW
          have hDW := hDW2.mono (S' := fun _ => False) (fun _ h => h.elim)
          have oX := (Sl.own oV).fr0 ((fb.step1 e1 (by omega)).step1 g1 (by omega))
          clear hDW2 e1 e2 e3 e4 g1 g2
          exact ⟨_, _, rfl, rfl, qa, qb, hDW, oX⟩
    case rest =>
      obtain ⟨pa, pb, rfl, rfl, qa, qb, hDW, oX⟩ := hcut
      generalize wc = W at qa qb hDW oX ⊢
      have lpa := bxI_lt qa
      have lpb := bxI_lt qb
      have va := bxI_rd qa
      have vb := bxI_rd qb
      obtain ⟨Fd, hI⟩ := hDW
      have dG := hI.at_
      have hok := hI.at_.ok
      have fW := hI.fr
      clear qa qb hI hD hoA gi gj lw ht1 ht2 x1 x2 y1 y2 hm0
      have fs : Fr noB W (W.alloc (rowo [LL i, LL j])) := (Fr.refl noB W).alloc _
      have sls := sl_new W [LL i, LL j]
      have HOK := Lib.hid hok
      go_wp2_with fail
      go_at_call 20
      refine (ancestors_any _ D Fd G (dG.fr0 fs) _ _ _ [LL i, LL j] rfl sls (by simp)).mono ?_
      rintro e w8 ⟨la, ⟨A8, c8, rfl, ho8, hf8⟩, hr8, hm8, hb8⟩
      have hmem : ∀ z, z ∈ la ↔ (ancG G (LL i) z || ancG G (LL j) z) = true := fun z => by
        rw [hm8 z, Bool.or_eq_true]; simp [Reached]
      have f78 := fs.step0 hf8
      have d8 := dG.fr0 f78
      have va8 := rdI_fr va (rdI_lt va) f78 (by simp [noB])
      have vb8 := rdI_fr vb (rdI_lt vb) f78 (by simp [noB])
      have sA8 := Sl.own ho8
      have sX8 := oX.fr0 f78
      have fw8 := fW.step0 f78
      have HM := Lib.hid hmem
      have HM8 := Lib.hid hm8
      have HR := Lib.hid hr8
      have mm : mpI (w8.alloc (.map #[] 0)) w8.heap.size = some (setV []) := mpI_new w8
      have fm : Fr noB w8 (w8.alloc (.map #[] 0)) := (Fr.refl noB w8).alloc _
      have lR : w8.heap.size ≤ w8.heap.size := Nat.le_refl _
      clear f78 fs sls hf8 hm8 ho8 dG va vb fW oX hok hmem hr8
      generalize hRe : w8.heap.size = R at mm lR
      go_wp2_with fail
      go_loopg [59] la.length (fun gk kv wr => OrdR w8 R la gk kv wr)
      case atStart => exact ⟨0, rfl, rfl, by omega, by simpa using mm, by omega, fm⟩
      case round =>
        obtain ⟨n, rfl, rfl, hn, hR, lR2, hfx⟩ := hrel
        obtain ⟨wx, ewx⟩ : ∃ wx, wx = wr := ⟨wr, rfl⟩
        subst ewx
        clear hRe mm fm lR
        have lRx := mpI_lt hR
        by_cases hltx : n < la.length
        · have z0 : (0 : Int) ≤ (n : Int) := by omega
          have z1 : (n : Int) < (la.length : Int) := by omega
          obtain ⟨g8, o8, rfl⟩ := sA8.ad (by omega)
          have rc := (sA8.fr0 hfx).id n hltx
          have rp := (sA8.fr0 hfx).id (n - 1) (by omega)
          have hreach : (ancG G (LL i) la[n] || ancG G (LL j) la[n]) = true := (HM.out _).1 (List.getElem_mem hltx)
          have hnew : decide (la[n] ∈ la.take n) = false := by simpa using not_ahead HR.out hltx
          have hdep : 0 < n → decide ((depthG G la[n] : Int) < (depthG G (la[n - 1]'(by omega)) : Int)) = false := fun h0 => by
            have := dep_ahead HR.out h0 hltx
            simp only [decide_eq_false_iff_not]; omega
          have hpar : ∀ ps, parents G la[n] = some ps → ∀ p ∈ ps, decide (p ∈ la.take n) = true ∧ decide ((depthG G la[n] : Int) ≤ (depthG G p : Int)) = false := fun ps hp p hpm => by
            obtain ⟨h1, h2⟩ := par_ahead HOK.out HR.out HM8.out hltx hp hpm
            refine ⟨by simpa using h1, ?_⟩
            simp only [decide_eq_false_iff_not]; omega
          have hts : la.take (n + 1) = la.take n ++ [la[n]] := List.take_succ_eq_append_getElem hltx
          generalize la[n] = c at rc hreach hnew hdep hpar hts
          generalize la[n - 1]'(by omega) = c' at rp hdep
          have q2 : n - 1 < la.length := by omega
          generalize hqe : n - 1 = q at rp q2
          have s1 : bxI (wx.alloc (ido zID)) wx.heap.size = some zID := bxI_new _ _
          obtain ⟨a1', a2', q0⟩ := putB_fr s1 c
          have f1 : Fr noB wx (putB (wx.alloc (ido zID)) wx.heap.size c) := ((Fr.refl noB wx).alloc _).step1 a1' (Nat.le_refl _)
          have rc1 := rdI_fr rc (rdI_lt rc) ((Fr.refl noB wx).alloc (ido zID)) (by simp [noB])
          have rcb := bxI_rd q0
          have fx1 := hfx.step0 f1
          have hR1 := mpI_fr hR f1 (by simp [noB])
          have HQE := Lib.hid hqe
          have HRE := Lib.hid hreach
          have HNEW := Lib.hid hnew
          have HDEP := Lib.hid hdep
          have HPAR := Lib.hid hpar
          have HTS := Lib.hid hts
          clear hqe hreach hnew hdep hpar hts a1' a2'
          go_wp2_with fail
          go_at_call 17
          refine (parents_any _ D Fd G (d8.fr0 fx1) c).mono ?_
          rintro e w9 ⟨A9, c9, rfl, ho9, hv9⟩
          have hps : ∀ p ∈ (parents G c).getD [], decide (p ∈ la.take n) = true ∧ decide ((depthG G c : Int) ≤ (depthG G p : Int)) = false := by
            cases hp : parents G c with
            | none => intro p hpm; simp at hpm
            | some ps => exact HPAR.out ps hp
          have hpl : ((parents G c).getD []).length ≤ 2 := by
            cases hp : parents G c with
            | none => simp
            | some ps => exact (okG_par HOK.out hp).2.1
          generalize (parents G c).getD [] = ps at ho9 hps hpl
          have HPS := Lib.hid hps
          have fx9 := fx1.step0 hv9
          have rc9 := rdI_fr rcb (rdI_lt rcb) hv9 (by simp [noB])
          have hR9 := mpI_fr hR1 hv9 (by simp [noB])
          have sP9 := Sl.own ho9
          have f19 := f1.step0 hv9
          clear hps rc rc1 rcb q0 s1 fx1 hR1 f1 hv9 ho9
          generalize hpk : wx.heap.size = pk at rc9
          have lR9 := mpI_lt hR9
          go_wp2_with fail
          go_loopg [68] ps.length (fun gk kv wr => BasR w9 ps.length gk kv wr)
          case atStart => exact ⟨0, rfl, rfl, by omega, Fr.refl _ _⟩
          case round =>
            obtain ⟨y, rfl, rfl, hy, hfy⟩ := hrel
            by_cases hlty : y < ps.length
            · have y0 : (0 : Int) ≤ (y : Int) := by omega
              have y1 : (y : Int) < (ps.length : Int) := by omega
              obtain ⟨g9, o9, rfl⟩ := sP9.ad (by omega)
              have ry := (sP9.fr0 hfy).id y hlty
              have hpp := HPS.out _ (List.getElem_mem hlty)
              generalize ps[y] = p at ry hpp
              have s1 : bxI (wr.alloc (ido zID)) wr.heap.size = some zID := bxI_new _ _
              obtain ⟨a1', a2', q0⟩ := putB_fr s1 p
              have f1 : Fr noB wr (putB (wr.alloc (ido zID)) wr.heap.size p) := ((Fr.refl noB wr).alloc _).step1 a1' (Nat.le_refl _)
              have ry1 := rdI_fr ry (rdI_lt ry) ((Fr.refl noB wr).alloc (ido zID)) (by simp [noB])
              have fyd := (hfy.step0 f1).drew
              have hm1 : decide (p ∈ la.take n) = true := hpp.1
              have HPD := Lib.hid hpp.2
              clear a1' a2' hpp
              go_upto_region 17 with fail
              have F0 : rdI (putB (wr.alloc (ido zID)) wr.heap.size p).drew wr.heap.size 0 = some p ∧ rdI (putB (wr.alloc (ido zID)) wr.heap.size p).drew pk 0 = some c ∧ mpI (putB (wr.alloc (ido zID)) wr.heap.size p).drew R = some (setV (la.take n)) :=
                ⟨(rdI_drew _ _ _).trans (bxI_rd q0), rdI_fr rc9 (rdI_lt rc9) fyd (by simp [noB]), mpI_fr hR9 fyd (by simp [noB])⟩
              clear s1 f1 q0 ry ry1
              generalize wr.heap.size = pj at fyd F0 ⊢
              generalize putB (wr.alloc (ido zID)) pj p = Wk at fyd F0 ⊢
              have keep : ∀ w' w'' : World, Fr noB w' w'' → (rdI w' pj 0 = some p ∧ rdI w' pk 0 = some c ∧ mpI w' R = some (setV (la.take n))) → (rdI w'' pj 0 = some p ∧ rdI w'' pk 0 = some c ∧ mpI w'' R = some (setV (la.take n))) := fun w' w'' f h =>
                ⟨rdI_fr h.1 (rdI_lt h.1) f (by simp [noB]), rdI_fr h.2.1 (rdI_lt h.2.1) f (by simp [noB]), mpI_fr h.2.2 f (by simp [noB])⟩
              go_wp2_with fail
              refine wp_region_M 12 13 [⟨4722366482869645213696, 4096, 0⟩, ⟨9444732965739290427392, 65536, 0⟩, ⟨18889465931478580854784, 14167099448608935641088, 3⟩, ⟨37778931862957161709568, 18889465931478580854784, 4⟩, ⟨75557863725914323419136, 37778931862957161709568, 8⟩, ⟨151115727451828646838272, 75557863725914323419264, 16⟩, ⟨302231454903657293676544, 75557863725914323484672, 16⟩, ⟨604462909807314587353088, 528905046081400263933952, 112⟩, ⟨1208925819614629174706176, 75557863725914323419264, 16⟩, ⟨2417851639229258349412352, 75557863725914323435520, 16⟩, ⟨4835703278458516698824704, 3702335322569801847537664, 912⟩, ⟨9671406556917033397649408, 5515724051991745609596928, 1168⟩, ⟨19342813113834066795298816, 9746964420642947721068544, 2064⟩] [(true, 0), (true, 1), (true, 2), (true, 3), (true, 4), (true, 5), (true, 6), (true, 8), (true, 9), (false, 7), (false, 10), (true, 11)] (fun w' => rdI w' pj 0 = some p ∧ rdI w' pk 0 = some c ∧ mpI w' R = some (setV (la.take n))) (by kernel_rfl) rfl (by kernel_rfl) (by kernel_rfl) (by kernel_rfl) F0 (fun hA hF => ?_)
              refine wpAnyS_take (v := ?_) hA rfl (fun _ _ _ h => h) (Or.inl ⟨by rfl, ?_⟩) hF (fun hA => ?_)
              rotate_left
              · intro wS hSw; (try dsimp only at hSw); obtain ⟨s1, s2, s3⟩ := hSw; first | (apply Eq.trans; apply ex_ld_id; exact rfl; exact rfl; assumption; with_reducible rfl) | (apply Eq.trans; apply ex_lk_at; exact rfl; exact rfl; exact rfl; assumption; assumption; with_reducible rfl) | (go_simp; try with_reducible rfl)
              try simp only [List.getElem_toArray, List.getElem_cons_zero, List.getElem_cons_succ, Act.put, List.setIfInBounds_toArray, List.set_cons_zero, List.set_cons_succ]
              refine wpAnyS_take (v := ?_) hA rfl (fun _ _ _ h => h) (Or.inl ⟨by rfl, ?_⟩) hF (fun hA => ?_)
              rotate_left
              · intro wS hSw; (try dsimp only at hSw); obtain ⟨s1, s2, s3⟩ := hSw; first | (apply Eq.trans; apply ex_ld_id; exact rfl; exact rfl; assumption; with_reducible rfl) | (apply Eq.trans; apply ex_lk_at; exact rfl; exact rfl; exact rfl; assumption; assumption; with_reducible rfl) | (go_simp; try with_reducible rfl)
              try simp only [List.getElem_toArray, List.getElem_cons_zero, List.getElem_cons_succ, Act.put, List.setIfInBounds_toArray, List.set_cons_zero, List.set_cons_succ]
              refine wpAnyS_take (v := ?_) hA rfl (fun _ _ _ h => h) (Or.inl ⟨by rfl, ?_⟩) hF (fun hA => ?_)
              rotate_left
              · intro wS hSw; (try dsimp only at hSw); obtain ⟨s1, s2, s3⟩ := hSw; first | (apply Eq.trans; apply ex_ld_id; exact rfl; exact rfl; assumption; with_reducible rfl) | (apply Eq.trans; apply ex_lk_at; exact rfl; exact rfl; exact rfl; assumption; assumption; with_reducible rfl) | (go_simp; try with_reducible rfl)
              try simp only [List.getElem_toArray, List.getElem_cons_zero, List.getElem_cons_succ, Act.put, List.setIfInBounds_toArray, List.set_cons_zero, List.set_cons_succ]
              refine wpAnyS_take (v := ?_) hA rfl (fun _ _ _ h => h) (Or.inl ⟨by rfl, ?_⟩) hF (fun hA => ?_)
              rotate_left
              · intro wS hSw; (try dsimp only at hSw); obtain ⟨s1, s2, s3⟩ := hSw; first | (apply Eq.trans; apply ex_ld_id; exact rfl; exact rfl; assumption; with_reducible rfl) | (apply Eq.trans; apply ex_lk_at; exact rfl; exact rfl; exact rfl; assumption; assumption; with_reducible rfl) | (go_simp; try with_reducible rfl)
              try simp only [List.getElem_toArray, List.getElem_cons_zero, List.getElem_cons_succ, Act.put, List.setIfInBounds_toArray, List.set_cons_zero, List.set_cons_succ]
              refine wpAnyS_take (v := ?_) hA rfl (fun _ _ _ h => h) (Or.inl ⟨by rfl, ?_⟩) hF (fun hA => ?_)
              rotate_left
              · intro wS hSw; (try dsimp only at hSw); obtain ⟨s1, s2, s3⟩ := hSw; first | (apply Eq.trans; apply ex_ld_id; exact rfl; exact rfl; assumption; with_reducible rfl) | (apply Eq.trans; apply ex_lk_at; exact rfl; exact rfl; exact rfl; assumption; assumption; with_reducible rfl) | (go_simp; try with_reducible rfl)
              try simp only [List.getElem_toArray, List.getElem_cons_zero, List.getElem_cons_succ, Act.put, List.setIfInBounds_toArray, List.set_cons_zero, List.set_cons_succ]
              refine wpAnyS_take (v := ?_) hA rfl (fun _ _ _ h => h) (Or.inl ⟨by rfl, ?_⟩) hF (fun hA => ?_)
              rotate_left
              · intro wS hSw; (try dsimp only at hSw); obtain ⟨s1, s2, s3⟩ := hSw; first | (apply Eq.trans; apply ex_ld_id; exact rfl; exact rfl; assumption; with_reducible rfl) | (apply Eq.trans; apply ex_lk_at; exact rfl; exact rfl; exact rfl; assumption; assumption; with_reducible rfl) | (go_simp; try with_reducible rfl)
              try simp only [List.getElem_toArray, List.getElem_cons_zero, List.getElem_cons_succ, Act.put, List.setIfInBounds_toArray, List.set_cons_zero, List.set_cons_succ]
              refine wpAnyS_take (v := ?_) hA rfl (fun _ _ _ h => h) (Or.inl ⟨by rfl, ?_⟩) hF (fun hA => ?_)
              rotate_left
              · intro wS hSw; (try dsimp only at hSw); obtain ⟨s1, s2, s3⟩ := hSw; first | (apply Eq.trans; apply ex_ld_id; exact rfl; exact rfl; assumption; with_reducible rfl) | (apply Eq.trans; apply ex_lk_at; exact rfl; exact rfl; exact rfl; assumption; assumption; with_reducible rfl) | (go_simp; try with_reducible rfl)
              try simp only [List.getElem_toArray, List.getElem_cons_zero, List.getElem_cons_succ, Act.put, List.setIfInBounds_toArray, List.set_cons_zero, List.set_cons_succ]
              refine wpAnyS_take (v := ?_) hA rfl (fun _ _ _ h => h) (Or.inl ⟨by rfl, ?_⟩) hF (fun hA => ?_)
              rotate_left
              · intro wS hSw; (try dsimp only at hSw); obtain ⟨s1, s2, s3⟩ := hSw; first | (apply Eq.trans; apply ex_ld_id; exact rfl; exact rfl; assumption; with_reducible rfl) | (apply Eq.trans; apply ex_lk_at; exact rfl; exact rfl; exact rfl; assumption; assumption; with_reducible rfl) | (go_simp; try with_reducible rfl)
              try simp only [List.getElem_toArray, List.getElem_cons_zero, List.getElem_cons_succ, Act.put, List.setIfInBounds_toArray, List.set_cons_zero, List.set_cons_succ]
              refine wpAnyS_take (v := ?_) hA rfl (fun _ _ _ h => h) (Or.inl ⟨by rfl, ?_⟩) hF (fun hA => ?_)
              rotate_left
              · intro wS hSw; (try dsimp only at hSw); obtain ⟨s1, s2, s3⟩ := hSw; first | (apply Eq.trans; apply ex_ld_id; exact rfl; exact rfl; assumption; with_reducible rfl) | (apply Eq.trans; apply ex_lk_at; exact rfl; exact rfl; exact rfl; assumption; assumption; with_reducible rfl) | (go_simp; try with_reducible rfl)
              try simp only [List.getElem_toArray, List.getElem_cons_zero, List.getElem_cons_succ, Act.put, List.setIfInBounds_toArray, List.set_cons_zero, List.set_cons_succ]
              refine wpAnyS_one hA rfl (fun K' hK => ?_)
              rw [if_pos (by rfl)]
              go_simp
              go_at_call 18
              refine (depth_any _ D Fd G (d8.fr0 (fx9.step0 fyd)) p).mono ?_
              rintro e u1 ⟨rfl, hu1⟩
              have fu1 := fyd.step0 hu1
              replace hF := keep _ _ hu1 hF
              refine hK.out _ _ hF (fun hA => ?_)
              clear hK K'
              as_aux_lemma =>
              refine wpAnyS_one hA rfl (fun K' hK => ?_)
              rw [if_pos (by rfl)]
              go_simp
              go_at_call 18
              refine (depth_any _ D Fd G (d8.fr0 (fx9.step0 fu1)) c).mono ?_
              rintro e u2 ⟨rfl, hu2⟩
              have fu2 := fu1.step0 hu2
              replace hF := keep _ _ hu2 hF
              refine hK.out _ _ hF (fun hA => ?_)
              clear hK K'
              as_aux_lemma =>
              have hpd := HPD.out
              have hpd' : decide (depthG G c ≤ depthG G p) = false := by have := hpd; simp only [decide_eq_false_iff_not] at this ⊢; omega
              refine wpAnyS_take (v := ?_) hA rfl (fun _ _ _ h => h) (Or.inl ⟨by rfl, ?_⟩) hF (fun hA => ?_)
              rotate_left
              · intro wS hSw; (try dsimp only at hSw); obtain ⟨s1, s2, s3⟩ := hSw; first | (apply Eq.trans; apply ex_ld_id; exact rfl; exact rfl; assumption; with_reducible rfl) | (apply Eq.trans; apply ex_lk_at; exact rfl; exact rfl; exact rfl; assumption; assumption; with_reducible rfl) | (go_simp; try with_reducible rfl)
              try simp only [List.getElem_toArray, List.getElem_cons_zero, List.getElem_cons_succ, Act.put, List.setIfInBounds_toArray, List.set_cons_zero, List.set_cons_succ]
              refine wpAnyS_end hA rfl ?_
              simp only [List.drop_succ_cons, List.drop_zero]
              clear hF
              try rw [hpd]
              go_wp2_with fail
              go_roundg (ps.length - (y + 1))
              case measure => omega
              case rel => exact ⟨y + 1, by simp, rfl, by omega, fu2⟩
            · have ey : y = ps.length := by omega
              subst ey
              have fyd := hfy.drew
              have fx9d := fx9.step0 fyd
              have f19d := f19.step0 fyd
              clear sP9 HPAR HPS hfy
              have nm1 : decide (c ∈ la.take n) = false := HNEW.out
              have r1 := HRE.out
              have F0 : rdI wr.drew pk 0 = some c ∧ rdI wr.drew pa 0 = some (LL i) ∧ rdI wr.drew pb 0 = some (LL j) ∧ rdI wr.drew g8 (o8 + q * 32) = some c' ∧ mpI wr.drew R = some (setV (la.take n)) :=
                ⟨rdI_fr rc9 (rdI_lt rc9) fyd (by simp [noB]), rdI_fr va8 (rdI_lt va8) fx9d (by simp [noB]), rdI_fr vb8 (rdI_lt vb8) fx9d (by simp [noB]), rdI_fr rp (rdI_lt rp) f19d (by simp [noB]), mpI_fr hR9 fyd (by simp [noB])⟩
              have keep : ∀ w' w'' : World, Fr noB w' w'' → (rdI w' pk 0 = some c ∧ rdI w' pa 0 = some (LL i) ∧ rdI w' pb 0 = some (LL j) ∧ rdI w' g8 (o8 + q * 32) = some c' ∧ mpI w' R = some (setV (la.take n))) → (rdI w'' pk 0 = some c ∧ rdI w'' pa 0 = some (LL i) ∧ rdI w'' pb 0 = some (LL j) ∧ rdI w'' g8 (o8 + q * 32) = some c' ∧ mpI w'' R = some (setV (la.take n))) := fun w' w'' f h =>
                ⟨rdI_fr h.1 (rdI_lt h.1) f (by simp [noB]), rdI_fr h.2.1 (rdI_lt h.2.1) f (by simp [noB]), rdI_fr h.2.2.1 (rdI_lt h.2.2.1) f (by simp [noB]), rdI_fr h.2.2.2.1 (rdI_lt h.2.2.2.1) f (by simp [noB]), mpI_fr h.2.2.2.2 f (by simp [noB])⟩
              have HR1 := Lib.hid r1
              clear r1
              go_upto_region 20 with fail
              go_cut [119] from 60 to 122 (fun vr wz => vr = .bool false ∧ Fr noB w9 wz)
              case first =>
                by_cases hn0 : 0 < n
                · have e0 : decide (0 < (n : Int)) = true := by simpa using hn0
                  have e0' : decide (0 < n) = true := by simpa using hn0
                  have m1 : IntKind.i64.wrap ((n : Int) - 1) = (q : Int) := by have := HQE.out; rw [IntKind.wrap_i64]; omega
                  have j0 : (0 : Int) ≤ (q : Int) := by omega
                  have j1 : (q : Int) < (la.length : Int) := by omega
                  have HN0 := Lib.hid hn0
                  clear hn0
                  cases hra : ancG G (LL i) c with
                  | true =>
                    have HRA := Lib.hid hra
                    clear hra
                    go_wp2_with fail
                    refine wp_region_M 33 34 [⟨77371252455336267181195264, 4096, 0⟩, ⟨154742504910672534362390528, 16384, 0⟩, ⟨309485009821345068724781056, 232113757366008801543585792, 3⟩, ⟨618970019642690137449562112, 309485009821345068724781056, 4⟩, ⟨1237940039285380274899124224, 618970019642690137449570304, 8⟩, ⟨2475880078570760549798248448, 1856910058928070412348686336, 24⟩, ⟨4951760157141521099596496896, 3094850098213450687247810560, 40⟩, ⟨9903520314283042199192993792, 4951760157141521099596497024, 64⟩, ⟨19807040628566084398385987584, 4951760157141521099596498944, 64⟩, ⟨39614081257132168796771975168, 4951760157141521099596505088, 64⟩, ⟨79228162514264337593543950336, 44565841414273689896368472064, 576⟩, ⟨158456325028528675187087900672, 103986963299971943091526434816, 1344⟩, ⟨316912650057057350374175801344, 163408085185670196286684397568, 2112⟩, ⟨633825300114114700748351602688, 331767930528481913672965292032, 4288⟩, ⟨1267650600228229401496703205376, 4951760157141521099596497024, 64⟩, ⟨2535301200456458802993406410752, 4951760157141521099596513280, 64⟩, ⟨5070602400912917605986812821504, 3807903560841829725589706113024, 57408⟩, ⟨10141204801825835211973625643008, 5709379461184173827834760921088, 73792⟩, ⟨20282409603651670423947251286016, 10146775532002619423210671702016, 131144⟩, ⟨40564819207303340847894502572032, 20283028573671313114084700848128, 262152⟩, ⟨81129638414606681695789005144064, 40564819207303340847894502572032, 589824⟩, ⟨162259276829213363391578010288128, 81129638414606681695789005144192, 1048576⟩, ⟨324518553658426726783156020576256, 81129638414606681695789005144576, 1048576⟩, ⟨649037107316853453566312041152512, 81129638414606681695789005160448, 1048576⟩, ⟨1298074214633706907132624082305024, 1216944576219100225436835077160960, 15728640⟩, ⟨2596148429267413814265248164610048, 1379203853048313588828413087449088, 17825792⟩, ⟨5192296858534827628530496329220096, 2677278067682020495961037169754112, 51380224⟩, ⟨10384593717069655257060992658440192, 5192296858534827628530496329220224, 67108864⟩, ⟨20769187434139310514121985316880384, 5192296858534827628530496329221120, 67108864⟩, ⟨41538374868278621028243970633760768, 5192296858534827628530496329236480, 67108864⟩, ⟨83076749736557242056487941267521536, 77884452878022414427957444938301440, 1006632960⟩, ⟨166153499473114484112975882535043072, 88269046595092069685018437596741632, 1140850688⟩, ⟨332306998946228968225951765070086144, 171426925970063918423202167869407232, 2215641088⟩, ⟨664613997892457936451903530140172288, 332388128584643574907647554075230208, 4296015872⟩] [(true, 0), (true, 1), (true, 2), (true, 3), (true, 4), (true, 5), (true, 6), (true, 7), (true, 8), (true, 9), (true, 10), (true, 11), (true, 12), (true, 14), (true, 15), (false, 13), (false, 16), (true, 17), (true, 18), (true, 19), (true, 20), (true, 21), (true, 22), (true, 23), (false, 24), (true, 25), (true, 26), (true, 27), (true, 28), (true, 29), (true, 30), (true, 31), (true, 32)] (fun w' => rdI w' pk 0 = some c ∧ rdI w' pa 0 = some (LL i) ∧ rdI w' pb 0 = some (LL j) ∧ rdI w' g8 (o8 + q * 32) = some c' ∧ mpI w' R = some (setV (la.take n))) (by kernel_rfl) rfl (by kernel_rfl) (by kernel_rfl) (by kernel_rfl) F0 (fun hA hF => ?_)
                    refine wpAnyS_take (v := ?_) hA rfl (fun _ _ _ h => h) (Or.inl ⟨by rfl, ?_⟩) hF (fun hA => ?_)
                    rotate_left
                    · intro wS hSw; (try dsimp only at hSw); obtain ⟨s1, s2, s3, s4, s5⟩ := hSw; first | (apply Eq.trans; apply ex_ld_id; exact rfl; exact rfl; assumption; with_reducible rfl) | (apply Eq.trans; apply ex_lk_at; exact rfl; exact rfl; exact rfl; assumption; assumption; with_reducible rfl) | (go_simp; try with_reducible rfl)
                    try simp only [List.getElem_toArray, List.getElem_cons_zero, List.getElem_cons_succ, Act.put, List.setIfInBounds_toArray, List.set_cons_zero, List.set_cons_succ]
                    refine wpAnyS_take (v := ?_) hA rfl (fun _ _ _ h => h) (Or.inl ⟨by rfl, ?_⟩) hF (fun hA => ?_)
                    rotate_left
                    · intro wS hSw; (try dsimp only at hSw); obtain ⟨s1, s2, s3, s4, s5⟩ := hSw; first | (apply Eq.trans; apply ex_ld_id; exact rfl; exact rfl; assumption; with_reducible rfl) | (apply Eq.trans; apply ex_lk_at; exact rfl; exact rfl; exact rfl; assumption; assumption; with_reducible rfl) | (go_simp; try with_reducible rfl)
                    try simp only [List.getElem_toArray, List.getElem_cons_zero, List.getElem_cons_succ, Act.put, List.setIfInBounds_toArray, List.set_cons_zero, List.set_cons_succ]
                    refine wpAnyS_take (v := ?_) hA rfl (fun _ _ _ h => h) (Or.inl ⟨by rfl, ?_⟩) hF (fun hA => ?_)
                    rotate_left
                    · intro wS hSw; (try dsimp only at hSw); obtain ⟨s1, s2, s3, s4, s5⟩ := hSw; first | (apply Eq.trans; apply ex_ld_id; exact rfl; exact rfl; assumption; with_reducible rfl) | (apply Eq.trans; apply ex_lk_at; exact rfl; exact rfl; exact rfl; assumption; assumption; with_reducible rfl) | (go_simp; try with_reducible rfl)
                    try simp only [List.getElem_toArray, List.getElem_cons_zero, List.getElem_cons_succ, Act.put, List.setIfInBounds_toArray, List.set_cons_zero, List.set_cons_succ]
                    refine wpAnyS_take (v := ?_) hA rfl (fun _ _ _ h => h) (Or.inl ⟨by rfl, ?_⟩) hF (fun hA => ?_)
                    rotate_left
                    · intro wS hSw; (try dsimp only at hSw); obtain ⟨s1, s2, s3, s4, s5⟩ := hSw; first | (apply Eq.trans; apply ex_ld_id; exact rfl; exact rfl; assumption; with_reducible rfl) | (apply Eq.trans; apply ex_lk_at; exact rfl; exact rfl; exact rfl; assumption; assumption; with_reducible rfl) | (go_simp; try with_reducible rfl)
                    try simp only [List.getElem_toArray, List.getElem_cons_zero, List.getElem_cons_succ, Act.put, List.setIfInBounds_toArray, List.set_cons_zero, List.set_cons_succ]
                    refine wpAnyS_take (v := ?_) hA rfl (fun _ _ _ h => h) (Or.inl ⟨by rfl, ?_⟩) hF (fun hA => ?_)
                    rotate_left
                    · intro wS hSw; (try dsimp only at hSw); obtain ⟨s1, s2, s3, s4, s5⟩ := hSw; first | (apply Eq.trans; apply ex_ld_id; exact rfl; exact rfl; assumption; with_reducible rfl) | (apply Eq.trans; apply ex_lk_at; exact rfl; exact rfl; exact rfl; assumption; assumption; with_reducible rfl) | (go_simp; try with_reducible rfl)
                    try simp only [List.getElem_toArray, List.getElem_cons_zero, List.getElem_cons_succ, Act.put, List.setIfInBounds_toArray, List.set_cons_zero, List.set_cons_succ]
                    refine wpAnyS_take (v := ?_) hA rfl (fun _ _ _ h => h) (Or.inl ⟨by rfl, ?_⟩) hF (fun hA => ?_)
                    rotate_left
                    · intro wS hSw; (try dsimp only at hSw); obtain ⟨s1, s2, s3, s4, s5⟩ := hSw; first | (apply Eq.trans; apply ex_ld_id; exact rfl; exact rfl; assumption; with_reducible rfl) | (apply Eq.trans; apply ex_lk_at; exact rfl; exact rfl; exact rfl; assumption; assumption; with_reducible rfl) | (go_simp; try with_reducible rfl)
                    try simp only [List.getElem_toArray, List.getElem_cons_zero, List.getElem_cons_succ, Act.put, List.setIfInBounds_toArray, List.set_cons_zero, List.set_cons_succ]
                    refine wpAnyS_take (v := ?_) hA rfl (fun _ _ _ h => h) (Or.inl ⟨by rfl, ?_⟩) hF (fun hA => ?_)
                    rotate_left
                    · intro wS hSw; (try dsimp only at hSw); obtain ⟨s1, s2, s3, s4, s5⟩ := hSw; first | (apply Eq.trans; apply ex_ld_id; exact rfl; exact rfl; assumption; with_reducible rfl) | (apply Eq.trans; apply ex_lk_at; exact rfl; exact rfl; exact rfl; assumption; assumption; with_reducible rfl) | (go_simp; try with_reducible rfl)
                    try simp only [List.getElem_toArray, List.getElem_cons_zero, List.getElem_cons_succ, Act.put, List.setIfInBounds_toArray, List.set_cons_zero, List.set_cons_succ]
                    refine wpAnyS_take (v := ?_) hA rfl (fun _ _ _ h => h) (Or.inl ⟨by rfl, ?_⟩) hF (fun hA => ?_)
                    rotate_left
                    · intro wS hSw; (try dsimp only at hSw); obtain ⟨s1, s2, s3, s4, s5⟩ := hSw; first | (apply Eq.trans; apply ex_ld_id; exact rfl; exact rfl; assumption; with_reducible rfl) | (apply Eq.trans; apply ex_lk_at; exact rfl; exact rfl; exact rfl; assumption; assumption; with_reducible rfl) | (go_simp; try with_reducible rfl)
                    try simp only [List.getElem_toArray, List.getElem_cons_zero, List.getElem_cons_succ, Act.put, List.setIfInBounds_toArray, List.set_cons_zero, List.set_cons_succ]
                    refine wpAnyS_take (v := ?_) hA rfl (fun _ _ _ h => h) (Or.inl ⟨by rfl, ?_⟩) hF (fun hA => ?_)
                    rotate_left
                    · intro wS hSw; (try dsimp only at hSw); obtain ⟨s1, s2, s3, s4, s5⟩ := hSw; first | (apply Eq.trans; apply ex_ld_id; exact rfl; exact rfl; assumption; with_reducible rfl) | (apply Eq.trans; apply ex_lk_at; exact rfl; exact rfl; exact rfl; assumption; assumption; with_reducible rfl) | (go_simp; try with_reducible rfl)
                    try simp only [List.getElem_toArray, List.getElem_cons_zero, List.getElem_cons_succ, Act.put, List.setIfInBounds_toArray, List.set_cons_zero, List.set_cons_succ]
                    refine wpAnyS_take (v := ?_) hA rfl (fun _ _ _ h => h) (Or.inl ⟨by rfl, ?_⟩) hF (fun hA => ?_)
                    rotate_left
                    · intro wS hSw; (try dsimp only at hSw); obtain ⟨s1, s2, s3, s4, s5⟩ := hSw; first | (apply Eq.trans; apply ex_ld_id; exact rfl; exact rfl; assumption; with_reducible rfl) | (apply Eq.trans; apply ex_lk_at; exact rfl; exact rfl; exact rfl; assumption; assumption; with_reducible rfl) | (go_simp; try with_reducible rfl)
                    try simp only [List.getElem_toArray, List.getElem_cons_zero, List.getElem_cons_succ, Act.put, List.setIfInBounds_toArray, List.set_cons_zero, List.set_cons_succ]
                    refine wpAnyS_take (v := ?_) hA rfl (fun _ _ _ h => h) (Or.inl ⟨by rfl, ?_⟩) hF (fun hA => ?_)
                    rotate_left
                    · intro wS hSw; (try dsimp only at hSw); obtain ⟨s1, s2, s3, s4, s5⟩ := hSw; first | (apply Eq.trans; apply ex_ld_id; exact rfl; exact rfl; assumption; with_reducible rfl) | (apply Eq.trans; apply ex_lk_at; exact rfl; exact rfl; exact rfl; assumption; assumption; with_reducible rfl) | (go_simp; try with_reducible rfl)
                    try simp only [List.getElem_toArray, List.getElem_cons_zero, List.getElem_cons_succ, Act.put, List.setIfInBounds_toArray, List.set_cons_zero, List.set_cons_succ]
                    refine wpAnyS_take (v := ?_) hA rfl (fun _ _ _ h => h) (Or.inl ⟨by rfl, ?_⟩) hF (fun hA => ?_)
                    rotate_left
                    · intro wS hSw; (try dsimp only at hSw); obtain ⟨s1, s2, s3, s4, s5⟩ := hSw; first | (apply Eq.trans; apply ex_ld_id; exact rfl; exact rfl; assumption; with_reducible rfl) | (apply Eq.trans; apply ex_lk_at; exact rfl; exact rfl; exact rfl; assumption; assumption; with_reducible rfl) | (go_simp; try with_reducible rfl)
                    try simp only [List.getElem_toArray, List.getElem_cons_zero, List.getElem_cons_succ, Act.put, List.setIfInBounds_toArray, List.set_cons_zero, List.set_cons_succ]
                    refine wpAnyS_take (v := ?_) hA rfl (fun _ _ _ h => h) (Or.inl ⟨by rfl, ?_⟩) hF (fun hA => ?_)
                    rotate_left
                    · intro wS hSw; (try dsimp only at hSw); obtain ⟨s1, s2, s3, s4, s5⟩ := hSw; first | (apply Eq.trans; apply ex_ld_id; exact rfl; exact rfl; assumption; with_reducible rfl) | (apply Eq.trans; apply ex_lk_at; exact rfl; exact rfl; exact rfl; assumption; assumption; with_reducible rfl) | (go_simp; try with_reducible rfl)
                    try simp only [List.getElem_toArray, List.getElem_cons_zero, List.getElem_cons_succ, Act.put, List.setIfInBounds_toArray, List.set_cons_zero, List.set_cons_succ]
                    refine wpAnyS_take (v := ?_) hA rfl (fun _ _ _ h => h) (Or.inl ⟨by rfl, ?_⟩) hF (fun hA => ?_)
                    rotate_left
                    · intro wS hSw; (try dsimp only at hSw); obtain ⟨s1, s2, s3, s4, s5⟩ := hSw; first | (apply Eq.trans; apply ex_ld_id; exact rfl; exact rfl; assumption; with_reducible rfl) | (apply Eq.trans; apply ex_lk_at; exact rfl; exact rfl; exact rfl; assumption; assumption; with_reducible rfl) | (go_simp; try with_reducible rfl)
                    try simp only [List.getElem_toArray, List.getElem_cons_zero, List.getElem_cons_succ, Act.put, List.setIfInBounds_toArray, List.set_cons_zero, List.set_cons_succ]
                    refine wpAnyS_take (v := ?_) hA rfl (fun _ _ _ h => h) (Or.inl ⟨by rfl, ?_⟩) hF (fun hA => ?_)
                    rotate_left
                    · intro wS hSw; (try dsimp only at hSw); obtain ⟨s1, s2, s3, s4, s5⟩ := hSw; first | (apply Eq.trans; apply ex_ld_id; exact rfl; exact rfl; assumption; with_reducible rfl) | (apply Eq.trans; apply ex_lk_at; exact rfl; exact rfl; exact rfl; assumption; assumption; with_reducible rfl) | (go_simp; try with_reducible rfl)
                    try simp only [List.getElem_toArray, List.getElem_cons_zero, List.getElem_cons_succ, Act.put, List.setIfInBounds_toArray, List.set_cons_zero, List.set_cons_succ]
                    refine wpAnyS_one hA rfl (fun K' hK => ?_)
                    rw [if_pos (by rfl)]
                    go_simp
                    go_at_call 18
                    refine (depth_any _ D Fd G (d8.fr0 fx9d) c').mono ?_
                    rintro e u1 ⟨rfl, hu1⟩
                    replace hF := keep _ _ hu1 hF
                    refine hK.out _ _ hF (fun hA => ?_)
                    clear hK K'
                    as_aux_lemma =>
                    refine wpAnyS_one hA rfl (fun K' hK => ?_)
                    rw [if_pos (by rfl)]
                    go_simp
                    go_at_call 18
                    refine (depth_any _ D Fd G (d8.fr0 (fx9d.step0 hu1)) c).mono ?_
                    rintro e u2 ⟨rfl, hu2⟩
                    have fu := (fyd.step0 hu1).step0 hu2
                    replace hF := keep _ _ hu2 hF
                    refine hK.out _ _ hF (fun hA => ?_)
                    clear hK K'
                    as_aux_lemma =>
                    have hdd := HDEP.out HN0.out
                    have hdd' : decide (depthG G c < depthG G c') = false := by have := hdd; simp only [decide_eq_false_iff_not] at this ⊢; omega
                    refine wpAnyS_take (v := ?_) hA rfl (fun _ _ _ h => h) (Or.inl ⟨by rfl, ?_⟩) hF (fun hA => ?_)
                    rotate_left
                    · intro wS hSw; (try dsimp only at hSw); obtain ⟨s1, s2, s3, s4, s5⟩ := hSw; first | (apply Eq.trans; apply ex_ld_id; exact rfl; exact rfl; assumption; with_reducible rfl) | (apply Eq.trans; apply ex_lk_at; exact rfl; exact rfl; exact rfl; assumption; assumption; with_reducible rfl) | (go_simp; try with_reducible rfl)
                    try simp only [List.getElem_toArray, List.getElem_cons_zero, List.getElem_cons_succ, Act.put, List.setIfInBounds_toArray, List.set_cons_zero, List.set_cons_succ]
                    refine wpAnyS_take (v := ?_) hA rfl (fun _ _ _ h => h) (Or.inl ⟨by rfl, ?_⟩) hF (fun hA => ?_)
                    rotate_left
                    · intro wS hSw; (try dsimp only at hSw); obtain ⟨s1, s2, s3, s4, s5⟩ := hSw; first | (apply Eq.trans; apply ex_ld_id; exact rfl; exact rfl; assumption; with_reducible rfl) | (apply Eq.trans; apply ex_lk_at; exact rfl; exact rfl; exact rfl; assumption; assumption; with_reducible rfl) | (go_simp; try with_reducible rfl)
                    try simp only [List.getElem_toArray, List.getElem_cons_zero, List.getElem_cons_succ, Act.put, List.setIfInBounds_toArray, List.set_cons_zero, List.set_cons_succ]
                    refine wpAnyS_take (v := ?_) hA rfl (fun _ _ _ h => h) (Or.inl ⟨by rfl, ?_⟩) hF (fun hA => ?_)
                    rotate_left
                    · intro wS hSw; (try dsimp only at hSw); obtain ⟨s1, s2, s3, s4, s5⟩ := hSw; first | (apply Eq.trans; apply ex_ld_id; exact rfl; exact rfl; assumption; with_reducible rfl) | (apply Eq.trans; apply ex_lk_at; exact rfl; exact rfl; exact rfl; assumption; assumption; with_reducible rfl) | (go_simp; try with_reducible rfl)
                    try simp only [List.getElem_toArray, List.getElem_cons_zero, List.getElem_cons_succ, Act.put, List.setIfInBounds_toArray, List.set_cons_zero, List.set_cons_succ]
                    refine wpAnyS_take (v := ?_) hA rfl (fun _ _ _ h => h) (Or.inl ⟨by rfl, ?_⟩) hF (fun hA => ?_)
                    rotate_left
                    · intro wS hSw; (try dsimp only at hSw); obtain ⟨s1, s2, s3, s4, s5⟩ := hSw; first | (apply Eq.trans; apply ex_ld_id; exact rfl; exact rfl; assumption; with_reducible rfl) | (apply Eq.trans; apply ex_lk_at; exact rfl; exact rfl; exact rfl; assumption; assumption; with_reducible rfl) | (go_simp; try with_reducible rfl)
                    try simp only [List.getElem_toArray, List.getElem_cons_zero, List.getElem_cons_succ, Act.put, List.setIfInBounds_toArray, List.set_cons_zero, List.set_cons_succ]
                    refine wpAnyS_take (v := ?_) hA rfl (fun _ _ _ h => h) (Or.inl ⟨by rfl, ?_⟩) hF (fun hA => ?_)
                    rotate_left
                    · intro wS hSw; (try dsimp only at hSw); obtain ⟨s1, s2, s3, s4, s5⟩ := hSw; first | (apply Eq.trans; apply ex_ld_id; exact rfl; exact rfl; assumption; with_reducible rfl) | (apply Eq.trans; apply ex_lk_at; exact rfl; exact rfl; exact rfl; assumption; assumption; with_reducible rfl) | (go_simp; try with_reducible rfl)
                    try simp only [List.getElem_toArray, List.getElem_cons_zero, List.getElem_cons_succ, Act.put, List.setIfInBounds_toArray, List.set_cons_zero, List.set_cons_succ]
                    refine wpAnyS_take (v := ?_) hA rfl (fun _ _ _ h => h) (Or.inl ⟨by rfl, ?_⟩) hF (fun hA => ?_)
                    rotate_left
                    · intro wS hSw; (try dsimp only at hSw); obtain ⟨s1, s2, s3, s4, s5⟩ := hSw; first | (apply Eq.trans; apply ex_ld_id; exact rfl; exact rfl; assumption; with_reducible rfl) | (apply Eq.trans; apply ex_lk_at; exact rfl; exact rfl; exact rfl; assumption; assumption; with_reducible rfl) | (go_simp; try with_reducible rfl)
                    try simp only [List.getElem_toArray, List.getElem_cons_zero, List.getElem_cons_succ, Act.put, List.setIfInBounds_toArray, List.set_cons_zero, List.set_cons_succ]
                    refine wpAnyS_take (v := ?_) hA rfl (fun _ _ _ h => h) (Or.inl ⟨by rfl, ?_⟩) hF (fun hA => ?_)
                    rotate_left
                    · intro wS hSw; (try dsimp only at hSw); obtain ⟨s1, s2, s3, s4, s5⟩ := hSw; first | (apply Eq.trans; apply ex_ld_id; exact rfl; exact rfl; assumption; with_reducible rfl) | (apply Eq.trans; apply ex_lk_at; exact rfl; exact rfl; exact rfl; assumption; assumption; with_reducible rfl) | (go_simp; try with_reducible rfl)
                    try simp only [List.getElem_toArray, List.getElem_cons_zero, List.getElem_cons_succ, Act.put, List.setIfInBounds_toArray, List.set_cons_zero, List.set_cons_succ]
                    refine wpAnyS_one hA rfl (fun K' hK => ?_)
                    rw [if_pos (by rfl)]
                    go_simp
                    go_at_call 24
                    refine (reaches_any _ D Fd G (d8.fr0 (fx9.step0 fu)) (LL i) c).mono ?_
                    rintro e u3 ⟨rfl, hu3⟩
                    replace hF := keep _ _ hu3 hF
                    refine hK.out _ _ hF (fun hA => ?_)
                    clear hK K'
                    as_aux_lemma =>
                    rw [HRA.out]
                    refine wpAnyS_take (v := ?_) hA rfl (fun _ _ _ h => h) (Or.inl ⟨by rfl, ?_⟩) hF (fun hA => ?_)
                    rotate_left
                    · intro wS hSw; (try dsimp only at hSw); obtain ⟨s1, s2, s3, s4, s5⟩ := hSw; first | (apply Eq.trans; apply ex_ld_id; exact rfl; exact rfl; assumption; with_reducible rfl) | (apply Eq.trans; apply ex_lk_at; exact rfl; exact rfl; exact rfl; assumption; assumption; with_reducible rfl) | (go_simp; try with_reducible rfl)
                    try simp only [List.getElem_toArray, List.getElem_cons_zero, List.getElem_cons_succ, Act.put, List.setIfInBounds_toArray, List.set_cons_zero, List.set_cons_succ]
                    refine wpAnyS_take (v := ?_) hA rfl (fun _ _ _ h => h) (Or.inl ⟨by rfl, ?_⟩) hF (fun hA => ?_)
                    rotate_left
                    · intro wS hSw; (try dsimp only at hSw); obtain ⟨s1, s2, s3, s4, s5⟩ := hSw; first | (apply Eq.trans; apply ex_ld_id; exact rfl; exact rfl; assumption; with_reducible rfl) | (apply Eq.trans; apply ex_lk_at; exact rfl; exact rfl; exact rfl; assumption; assumption; with_reducible rfl) | (go_simp; try with_reducible rfl)
                    try simp only [List.getElem_toArray, List.getElem_cons_zero, List.getElem_cons_succ, Act.put, List.setIfInBounds_toArray, List.set_cons_zero, List.set_cons_succ]
                    refine wpAnyS_take (v := undef) hA rfl (fun _ _ _ h => h) (Or.inr ⟨by rfl, rfl⟩) hF (fun hA => ?_)
                    try simp only [List.getElem_toArray, List.getElem_cons_zero, List.getElem_cons_succ, Act.put, List.setIfInBounds_toArray, List.set_cons_zero, List.set_cons_succ]
                    refine wpAnyS_take (v := undef) hA rfl (fun _ _ _ h => h) (Or.inr ⟨by rfl, rfl⟩) hF (fun hA => ?_)
                    try simp only [List.getElem_toArray, List.getElem_cons_zero, List.getElem_cons_succ, Act.put, List.setIfInBounds_toArray, List.set_cons_zero, List.set_cons_succ]
                    refine wpAnyS_take (v := undef) hA rfl (fun _ _ _ h => h) (Or.inr ⟨by rfl, rfl⟩) hF (fun hA => ?_)
                    try simp only [List.getElem_toArray, List.getElem_cons_zero, List.getElem_cons_succ, Act.put, List.setIfInBounds_toArray, List.set_cons_zero, List.set_cons_succ]
                    refine wpAnyS_take (v := undef) hA rfl (fun _ _ _ h => h) (Or.inr ⟨by rfl, rfl⟩) hF (fun hA => ?_)
                    try simp only [List.getElem_toArray, List.getElem_cons_zero, List.getElem_cons_succ, Act.put, List.setIfInBounds_toArray, List.set_cons_zero, List.set_cons_succ]
                    refine wpAnyS_take (v := undef) hA rfl (fun _ _ _ h => h) (Or.inr ⟨by rfl, rfl⟩) hF (fun hA => ?_)
                    try simp only [List.getElem_toArray, List.getElem_cons_zero, List.getElem_cons_succ, Act.put, List.setIfInBounds_toArray, List.set_cons_zero, List.set_cons_succ]
                    refine wpAnyS_take (v := ?_) hA rfl (fun _ _ _ h => h) (Or.inl ⟨by rfl, ?_⟩) hF (fun hA => ?_)
                    rotate_left
                    · intro wS hSw; (try dsimp only at hSw); obtain ⟨s1, s2, s3, s4, s5⟩ := hSw; first | (apply Eq.trans; apply ex_ld_id; exact rfl; exact rfl; assumption; with_reducible rfl) | (apply Eq.trans; apply ex_lk_at; exact rfl; exact rfl; exact rfl; assumption; assumption; with_reducible rfl) | (go_simp; try with_reducible rfl)
                    try simp only [List.getElem_toArray, List.getElem_cons_zero, List.getElem_cons_succ, Act.put, List.setIfInBounds_toArray, List.set_cons_zero, List.set_cons_succ]
                    refine wpAnyS_end hA rfl ?_
                    simp only [List.drop_succ_cons, List.drop_zero]
                    clear hF
                    go_wp2_with fail
                    go_meet
                    case rel => exact ⟨rfl, fu.step0 hu3⟩
                  | false =>
                    have hrb : ancG G (LL j) c = true := by have := HR1.out; rw [hra] at this; simpa using this
                    have HRA := Lib.hid hra
                    have HRB := Lib.hid hrb
                    clear hra hrb
                    go_wp2_with fail
                    refine wp_region_M 33 34 [⟨77371252455336267181195264, 4096, 0⟩, ⟨154742504910672534362390528, 16384, 0⟩, ⟨309485009821345068724781056, 232113757366008801543585792, 3⟩, ⟨618970019642690137449562112, 309485009821345068724781056, 4⟩, ⟨1237940039285380274899124224, 618970019642690137449570304, 8⟩, ⟨2475880078570760549798248448, 1856910058928070412348686336, 24⟩, ⟨4951760157141521099596496896, 3094850098213450687247810560, 40⟩, ⟨9903520314283042199192993792, 4951760157141521099596497024, 64⟩, ⟨19807040628566084398385987584, 4951760157141521099596498944, 64⟩, ⟨39614081257132168796771975168, 4951760157141521099596505088, 64⟩, ⟨79228162514264337593543950336, 44565841414273689896368472064, 576⟩, ⟨158456325028528675187087900672, 103986963299971943091526434816, 1344⟩, ⟨316912650057057350374175801344, 163408085185670196286684397568, 2112⟩, ⟨633825300114114700748351602688, 331767930528481913672965292032, 4288⟩, ⟨1267650600228229401496703205376, 4951760157141521099596497024, 64⟩, ⟨2535301200456458802993406410752, 4951760157141521099596513280, 64⟩, ⟨5070602400912917605986812821504, 3807903560841829725589706113024, 57408⟩, ⟨10141204801825835211973625643008, 5709379461184173827834760921088, 73792⟩, ⟨20282409603651670423947251286016, 10146775532002619423210671702016, 131144⟩, ⟨40564819207303340847894502572032, 20283028573671313114084700848128, 262152⟩, ⟨81129638414606681695789005144064, 40564819207303340847894502572032, 589824⟩, ⟨162259276829213363391578010288128, 81129638414606681695789005144192, 1048576⟩, ⟨324518553658426726783156020576256, 81129638414606681695789005144576, 1048576⟩, ⟨649037107316853453566312041152512, 81129638414606681695789005160448, 1048576⟩, ⟨1298074214633706907132624082305024, 1216944576219100225436835077160960, 15728640⟩, ⟨2596148429267413814265248164610048, 1379203853048313588828413087449088, 17825792⟩, ⟨5192296858534827628530496329220096, 2677278067682020495961037169754112, 51380224⟩, ⟨10384593717069655257060992658440192, 5192296858534827628530496329220224, 67108864⟩, ⟨20769187434139310514121985316880384, 5192296858534827628530496329221120, 67108864⟩, ⟨41538374868278621028243970633760768, 5192296858534827628530496329236480, 67108864⟩, ⟨83076749736557242056487941267521536, 77884452878022414427957444938301440, 1006632960⟩, ⟨166153499473114484112975882535043072, 88269046595092069685018437596741632, 1140850688⟩, ⟨332306998946228968225951765070086144, 171426925970063918423202167869407232, 2215641088⟩, ⟨664613997892457936451903530140172288, 332388128584643574907647554075230208, 4296015872⟩] [(true, 0), (true, 1), (true, 2), (true, 3), (true, 4), (true, 5), (true, 6), (true, 7), (true, 8), (true, 9), (true, 10), (true, 11), (true, 12), (true, 14), (true, 15), (false, 13), (false, 16), (true, 17), (true, 18), (true, 19), (true, 20), (true, 21), (true, 22), (true, 23), (false, 24), (true, 25), (true, 26), (true, 27), (true, 28), (true, 29), (false, 30), (true, 31), (true, 32)] (fun w' => rdI w' pk 0 = some c ∧ rdI w' pa 0 = some (LL i) ∧ rdI w' pb 0 = some (LL j) ∧ rdI w' g8 (o8 + q * 32) = some c' ∧ mpI w' R = some (setV (la.take n))) (by kernel_rfl) rfl (by kernel_rfl) (by kernel_rfl) (by kernel_rfl) F0 (fun hA hF => ?_)
                    refine wpAnyS_take (v := ?_) hA rfl (fun _ _ _ h => h) (Or.inl ⟨by rfl, ?_⟩) hF (fun hA => ?_)
                    rotate_left
                    · intro wS hSw; (try dsimp only at hSw); obtain ⟨s1, s2, s3, s4, s5⟩ := hSw; first | (apply Eq.trans; apply ex_ld_id; exact rfl; exact rfl; assumption; with_reducible rfl) | (apply Eq.trans; apply ex_lk_at; exact rfl; exact rfl; exact rfl; assumption; assumption; with_reducible rfl) | (go_simp; try with_reducible rfl)
                    try simp only [List.getElem_toArray, List.getElem_cons_zero, List.getElem_cons_succ, Act.put, List.setIfInBounds_toArray, List.set_cons_zero, List.set_cons_succ]
                    refine wpAnyS_take (v := ?_) hA rfl (fun _ _ _ h => h) (Or.inl ⟨by rfl, ?_⟩) hF (fun hA => ?_)
                    rotate_left
                    · intro wS hSw; (try dsimp only at hSw); obtain ⟨s1, s2, s3, s4, s5⟩ := hSw; first | (apply Eq.trans; apply ex_ld_id; exact rfl; exact rfl; assumption; with_reducible rfl) | (apply Eq.trans; apply ex_lk_at; exact rfl; exact rfl; exact rfl; assumption; assumption; with_reducible rfl) | (go_simp; try with_reducible rfl)
                    try simp only [List.getElem_toArray, List.getElem_cons_zero, List.getElem_cons_succ, Act.put, List.setIfInBounds_toArray, List.set_cons_zero, List.set_cons_succ]
                    refine wpAnyS_take (v := ?_) hA rfl (fun _ _ _ h => h) (Or.inl ⟨by rfl, ?_⟩) hF (fun hA => ?_)
                    rotate_left
                    · intro wS hSw; (try dsimp only at hSw); obtain ⟨s1, s2, s3, s4, s5⟩ := hSw; first | (apply Eq.trans; apply ex_ld_id; exact rfl; exact rfl; assumption; with_reducible rfl) | (apply Eq.trans; apply ex_lk_at; exact rfl; exact rfl; exact rfl; assumption; assumption; with_reducible rfl) | (go_simp; try with_reducible rfl)
                    try simp only [List.getElem_toArray, List.getElem_cons_zero, List.getElem_cons_succ, Act.put, List.setIfInBounds_toArray, List.set_cons_zero, List.set_cons_succ]
                    refine wpAnyS_take (v := ?_) hA rfl (fun _ _ _ h => h) (Or.inl ⟨by rfl, ?_⟩) hF (fun hA => ?_)
                    rotate_left
                    · intro wS hSw; (try dsimp only at hSw); obtain ⟨s1, s2, s3, s4, s5⟩ := hSw; first | (apply Eq.trans; apply ex_ld_id; exact rfl; exact rfl; assumption; with_reducible rfl) | (apply Eq.trans; apply ex_lk_at; exact rfl; exact rfl; exact rfl; assumption; assumption; with_reducible rfl) | (go_simp; try with_reducible rfl)
                    try simp only [List.getElem_toArray, List.getElem_cons_zero, List.getElem_cons_succ, Act.put, List.setIfInBounds_toArray, List.set_cons_zero, List.set_cons_succ]
                    refine wpAnyS_take (v := ?_) hA rfl (fun _ _ _ h => h) (Or.inl ⟨by rfl, ?_⟩) hF (fun hA => ?_)
                    rotate_left
                    · intro wS hSw; (try dsimp only at hSw); obtain ⟨s1, s2, s3, s4, s5⟩ := hSw; first | (apply Eq.trans; apply ex_ld_id; exact rfl; exact rfl; assumption; with_reducible rfl) | (apply Eq.trans; apply ex_lk_at; exact rfl; exact rfl; exact rfl; assumption; assumption; with_reducible rfl) | (go_simp; try with_reducible rfl)
                    try simp only [List.getElem_toArray, List.getElem_cons_zero, List.getElem_cons_succ, Act.put, List.setIfInBounds_toArray, List.set_cons_zero, List.set_cons_succ]
                    refine wpAnyS_take (v := ?_) hA rfl (fun _ _ _ h => h) (Or.inl ⟨by rfl, ?_⟩) hF (fun hA => ?_)
                    rotate_left
                    · intro wS hSw; (try dsimp only at hSw); obtain ⟨s1, s2, s3, s4, s5⟩ := hSw; first | (apply Eq.trans; apply ex_ld_id; exact rfl; exact rfl; assumption; with_reducible rfl) | (apply Eq.trans; apply ex_lk_at; exact rfl; exact rfl; exact rfl; assumption; assumption; with_reducible rfl) | (go_simp; try with_reducible rfl)
                    try simp only [List.getElem_toArray, List.getElem_cons_zero, List.getElem_cons_succ, Act.put, List.setIfInBounds_toArray, List.set_cons_zero, List.set_cons_succ]
                    refine wpAnyS_take (v := ?_) hA rfl (fun _ _ _ h => h) (Or.inl ⟨by rfl, ?_⟩) hF (fun hA => ?_)
                    rotate_left
                    · intro wS hSw; (try dsimp only at hSw); obtain ⟨s1, s2, s3, s4, s5⟩ := hSw; first | (apply Eq.trans; apply ex_ld_id; exact rfl; exact rfl; assumption; with_reducible rfl) | (apply Eq.trans; apply ex_lk_at; exact rfl; exact rfl; exact rfl; assumption; assumption; with_reducible rfl) | (go_simp; try with_reducible rfl)
                    try simp only [List.getElem_toArray, List.getElem_cons_zero, List.getElem_cons_succ, Act.put, List.setIfInBounds_toArray, List.set_cons_zero, List.set_cons_succ]
                    refine wpAnyS_take (v := ?_) hA rfl (fun _ _ _ h => h) (Or.inl ⟨by rfl, ?_⟩) hF (fun hA => ?_)
                    rotate_left
                    · intro wS hSw; (try dsimp only at hSw); obtain ⟨s1, s2, s3, s4, s5⟩ := hSw; first | (apply Eq.trans; apply ex_ld_id; exact rfl; exact rfl; assumption; with_reducible rfl) | (apply Eq.trans; apply ex_lk_at; exact rfl; exact rfl; exact rfl; assumption; assumption; with_reducible rfl) | (go_simp; try with_reducible rfl)
                    try simp only [List.getElem_toArray, List.getElem_cons_zero, List.getElem_cons_succ, Act.put, List.setIfInBounds_toArray, List.set_cons_zero, List.set_cons_succ]
                    refine wpAnyS_take (v := ?_) hA rfl (fun _ _ _ h => h) (Or.inl ⟨by rfl, ?_⟩) hF (fun hA => ?_)
                    rotate_left
                    · intro wS hSw; (try dsimp only at hSw); obtain ⟨s1, s2, s3, s4, s5⟩ := hSw; first | (apply Eq.trans; apply ex_ld_id; exact rfl; exact rfl; assumption; with_reducible rfl) | (apply Eq.trans; apply ex_lk_at; exact rfl; exact rfl; exact rfl; assumption; assumption; with_reducible rfl) | (go_simp; try with_reducible rfl)
                    try simp only [List.getElem_toArray, List.getElem_cons_zero, List.getElem_cons_succ, Act.put, List.setIfInBounds_toArray, List.set_cons_zero, List.set_cons_succ]
                    refine wpAnyS_take (v := ?_) hA rfl (fun _ _ _ h => h) (Or.inl ⟨by rfl, ?_⟩) hF (fun hA => ?_)
                    rotate_left
                    · intro wS hSw; (try dsimp only at hSw); obtain ⟨s1, s2, s3, s4, s5⟩ := hSw; first | (apply Eq.trans; apply ex_ld_id; exact rfl; exact rfl; assumption; with_reducible rfl) | (apply Eq.trans; apply ex_lk_at; exact rfl; exact rfl; exact rfl; assumption; assumption; with_reducible rfl) | (go_simp; try with_reducible rfl)
                    try simp only [List.getElem_toArray, List.getElem_cons_zero, List.getElem_cons_succ, Act.put, List.setIfInBounds_toArray, List.set_cons_zero, List.set_cons_succ]
                    refine wpAnyS_take (v := ?_) hA rfl (fun _ _ _ h => h) (Or.inl ⟨by rfl, ?_⟩) hF (fun hA => ?_)
                    rotate_left
                    · intro wS hSw; (try dsimp only at hSw); obtain ⟨s1, s2, s3, s4, s5⟩ := hSw; first | (apply Eq.trans; apply ex_ld_id; exact rfl; exact rfl; assumption; with_reducible rfl) | (apply Eq.trans; apply ex_lk_at; exact rfl; exact rfl; exact rfl; assumption; assumption; with_reducible rfl) | (go_simp; try with_reducible rfl)
                    try simp only [List.getElem_toArray, List.getElem_cons_zero, List.getElem_cons_succ, Act.put, List.setIfInBounds_toArray, List.set_cons_zero, List.set_cons_succ]
                    refine wpAnyS_take (v := ?_) hA rfl (fun _ _ _ h => h) (Or.inl ⟨by rfl, ?_⟩) hF (fun hA => ?_)
                    rotate_left
                    · intro wS hSw; (try dsimp only at hSw); obtain ⟨s1, s2, s3, s4, s5⟩ := hSw; first | (apply Eq.trans; apply ex_ld_id; exact rfl; exact rfl; assumption; with_reducible rfl) | (apply Eq.trans; apply ex_lk_at; exact rfl; exact rfl; exact rfl; assumption; assumption; with_reducible rfl) | (go_simp; try with_reducible rfl)
                    try simp only [List.getElem_toArray, List.getElem_cons_zero, List.getElem_cons_succ, Act.put, List.setIfInBounds_toArray, List.set_cons_zero, List.set_cons_succ]
                    refine wpAnyS_take (v := ?_) hA rfl (fun _ _ _ h => h) (Or.inl ⟨by rfl, ?_⟩) hF (fun hA => ?_)
                    rotate_left
                    · intro wS hSw; (try dsimp only at hSw); obtain ⟨s1, s2, s3, s4, s5⟩ := hSw; first | (apply Eq.trans; apply ex_ld_id; exact rfl; exact rfl; assumption; with_reducible rfl) | (apply Eq.trans; apply ex_lk_at; exact rfl; exact rfl; exact rfl; assumption; assumption; with_reducible rfl) | (go_simp; try with_reducible rfl)
                    try simp only [List.getElem_toArray, List.getElem_cons_zero, List.getElem_cons_succ, Act.put, List.setIfInBounds_toArray, List.set_cons_zero, List.set_cons_succ]
                    refine wpAnyS_take (v := ?_) hA rfl (fun _ _ _ h => h) (Or.inl ⟨by rfl, ?_⟩) hF (fun hA => ?_)
                    rotate_left
                    · intro wS hSw; (try dsimp only at hSw); obtain ⟨s1, s2, s3, s4, s5⟩ := hSw; first | (apply Eq.trans; apply ex_ld_id; exact rfl; exact rfl; assumption; with_reducible rfl) | (apply Eq.trans; apply ex_lk_at; exact rfl; exact rfl; exact rfl; assumption; assumption; with_reducible rfl) | (go_simp; try with_reducible rfl)
                    try simp only [List.getElem_toArray, List.getElem_cons_zero, List.getElem_cons_succ, Act.put, List.setIfInBounds_toArray, List.set_cons_zero, List.set_cons_succ]
                    refine wpAnyS_take (v := ?_) hA rfl (fun _ _ _ h => h) (Or.inl ⟨by rfl, ?_⟩) hF (fun hA => ?_)
                    rotate_left
                    · intro wS hSw; (try dsimp only at hSw); obtain ⟨s1, s2, s3, s4, s5⟩ := hSw; first | (apply Eq.trans; apply ex_ld_id; exact rfl; exact rfl; assumption; with_reducible rfl) | (apply Eq.trans; apply ex_lk_at; exact rfl; exact rfl; exact rfl; assumption; assumption; with_reducible rfl) | (go_simp; try with_reducible rfl)
                    try simp only [List.getElem_toArray, List.getElem_cons_zero, List.getElem_cons_succ, Act.put, List.setIfInBounds_toArray, List.set_cons_zero, List.set_cons_succ]
                    refine wpAnyS_one hA rfl (fun K' hK => ?_)
                    rw [if_pos (by rfl)]
                    go_simp
                    go_at_call 18
                    refine (depth_any _ D Fd G (d8.fr0 fx9d) c').mono ?_
                    rintro e u1 ⟨rfl, hu1⟩
                    replace hF := keep _ _ hu1 hF
                    refine hK.out _ _ hF (fun hA => ?_)
                    clear hK K'
                    as_aux_lemma =>
                    refine wpAnyS_one hA rfl (fun K' hK => ?_)
                    rw [if_pos (by rfl)]
                    go_simp
                    go_at_call 18
                    refine (depth_any _ D Fd G (d8.fr0 (fx9d.step0 hu1)) c).mono ?_
                    rintro e u2 ⟨rfl, hu2⟩
                    have fu := (fyd.step0 hu1).step0 hu2
                    replace hF := keep _ _ hu2 hF
                    refine hK.out _ _ hF (fun hA => ?_)
                    clear hK K'
                    as_aux_lemma =>
                    have hdd := HDEP.out HN0.out
                    have hdd' : decide (depthG G c < depthG G c') = false := by have := hdd; simp only [decide_eq_false_iff_not] at this ⊢; omega
                    refine wpAnyS_take (v := ?_) hA rfl (fun _ _ _ h => h) (Or.inl ⟨by rfl, ?_⟩) hF (fun hA => ?_)
                    rotate_left
                    · intro wS hSw; (try dsimp only at hSw); obtain ⟨s1, s2, s3, s4, s5⟩ := hSw; first | (apply Eq.trans; apply ex_ld_id; exact rfl; exact rfl; assumption; with_reducible rfl) | (apply Eq.trans; apply ex_lk_at; exact rfl; exact rfl; exact rfl; assumption; assumption; with_reducible rfl) | (go_simp; try with_reducible rfl)
                    try simp only [List.getElem_toArray, List.getElem_cons_zero, List.getElem_cons_succ, Act.put, List.setIfInBounds_toArray, List.set_cons_zero, List.set_cons_succ]
                    refine wpAnyS_take (v := ?_) hA rfl (fun _ _ _ h => h) (Or.inl ⟨by rfl, ?_⟩) hF (fun hA => ?_)
                    rotate_left
                    · intro wS hSw; (try dsimp only at hSw); obtain ⟨s1, s2, s3, s4, s5⟩ := hSw; first | (apply Eq.trans; apply ex_ld_id; exact rfl; exact rfl; assumption; with_reducible rfl) | (apply Eq.trans; apply ex_lk_at; exact rfl; exact rfl; exact rfl; assumption; assumption; with_reducible rfl) | (go_simp; try with_reducible rfl)
                    try simp only [List.getElem_toArray, List.getElem_cons_zero, List.getElem_cons_succ, Act.put, List.setIfInBounds_toArray, List.set_cons_zero, List.set_cons_succ]
                    refine wpAnyS_take (v := ?_) hA rfl (fun _ _ _ h => h) (Or.inl ⟨by rfl, ?_⟩) hF (fun hA => ?_)
                    rotate_left
                    · intro wS hSw; (try dsimp only at hSw); obtain ⟨s1, s2, s3, s4, s5⟩ := hSw; first | (apply Eq.trans; apply ex_ld_id; exact rfl; exact rfl; assumption; with_reducible rfl) | (apply Eq.trans; apply ex_lk_at; exact rfl; exact rfl; exact rfl; assumption; assumption; with_reducible rfl) | (go_simp; try with_reducible rfl)
                    try simp only [List.getElem_toArray, List.getElem_cons_zero, List.getElem_cons_succ, Act.put, List.setIfInBounds_toArray, List.set_cons_zero, List.set_cons_succ]
                    refine wpAnyS_take (v := ?_) hA rfl (fun _ _ _ h => h) (Or.inl ⟨by rfl, ?_⟩) hF (fun hA => ?_)
                    rotate_left
                    · intro wS hSw; (try dsimp only at hSw); obtain ⟨s1, s2, s3, s4, s5⟩ := hSw; first | (apply Eq.trans; apply ex_ld_id; exact rfl; exact rfl; assumption; with_reducible rfl) | (apply Eq.trans; apply ex_lk_at; exact rfl; exact rfl; exact rfl; assumption; assumption; with_reducible rfl) | (go_simp; try with_reducible rfl)
                    try simp only [List.getElem_toArray, List.getElem_cons_zero, List.getElem_cons_succ, Act.put, List.setIfInBounds_toArray, List.set_cons_zero, List.set_cons_succ]
                    refine wpAnyS_take (v := ?_) hA rfl (fun _ _ _ h => h) (Or.inl ⟨by rfl, ?_⟩) hF (fun hA => ?_)
                    rotate_left
                    · intro wS hSw; (try dsimp only at hSw); obtain ⟨s1, s2, s3, s4, s5⟩ := hSw; first | (apply Eq.trans; apply ex_ld_id; exact rfl; exact rfl; assumption; with_reducible rfl) | (apply Eq.trans; apply ex_lk_at; exact rfl; exact rfl; exact rfl; assumption; assumption; with_reducible rfl) | (go_simp; try with_reducible rfl)
                    try simp only [List.getElem_toArray, List.getElem_cons_zero, List.getElem_cons_succ, Act.put, List.setIfInBounds_toArray, List.set_cons_zero, List.set_cons_succ]
                    refine wpAnyS_take (v := ?_) hA rfl (fun _ _ _ h => h) (Or.inl ⟨by rfl, ?_⟩) hF (fun hA => ?_)
                    rotate_left
                    · intro wS hSw; (try dsimp only at hSw); obtain ⟨s1, s2, s3, s4, s5⟩ := hSw; first | (apply Eq.trans; apply ex_ld_id; exact rfl; exact rfl; assumption; with_reducible rfl) | (apply Eq.trans; apply ex_lk_at; exact rfl; exact rfl; exact rfl; assumption; assumption; with_reducible rfl) | (go_simp; try with_reducible rfl)
                    try simp only [List.getElem_toArray, List.getElem_cons_zero, List.getElem_cons_succ, Act.put, List.setIfInBounds_toArray, List.set_cons_zero, List.set_cons_succ]
                    refine wpAnyS_take (v := ?_) hA rfl (fun _ _ _ h => h) (Or.inl ⟨by rfl, ?_⟩) hF (fun hA => ?_)
                    rotate_left
                    · intro wS hSw; (try dsimp only at hSw); obtain ⟨s1, s2, s3, s4, s5⟩ := hSw; first | (apply Eq.trans; apply ex_ld_id; exact rfl; exact rfl; assumption; with_reducible rfl) | (apply Eq.trans; apply ex_lk_at; exact rfl; exact rfl; exact rfl; assumption; assumption; with_reducible rfl) | (go_simp; try with_reducible rfl)
                    try simp only [List.getElem_toArray, List.getElem_cons_zero, List.getElem_cons_succ, Act.put, List.setIfInBounds_toArray, List.set_cons_zero, List.set_cons_succ]
                    refine wpAnyS_one hA rfl (fun K' hK => ?_)
                    rw [if_pos (by rfl)]
                    go_simp
                    go_at_call 24
                    refine (reaches_any _ D Fd G (d8.fr0 (fx9.step0 fu)) (LL i) c).mono ?_
                    rintro e u3 ⟨rfl, hu3⟩
                    replace hF := keep _ _ hu3 hF
                    refine hK.out _ _ hF (fun hA => ?_)
                    clear hK K'
                    as_aux_lemma =>
                    rw [HRA.out]
                    refine wpAnyS_take (v := ?_) hA rfl (fun _ _ _ h => h) (Or.inl ⟨by rfl, ?_⟩) hF (fun hA => ?_)
                    rotate_left
                    · intro wS hSw; (try dsimp only at hSw); obtain ⟨s1, s2, s3, s4, s5⟩ := hSw; first | (apply Eq.trans; apply ex_ld_id; exact rfl; exact rfl; assumption; with_reducible rfl) | (apply Eq.trans; apply ex_lk_at; exact rfl; exact rfl; exact rfl; assumption; assumption; with_reducible rfl) | (go_simp; try with_reducible rfl)
                    try simp only [List.getElem_toArray, List.getElem_cons_zero, List.getElem_cons_succ, Act.put, List.setIfInBounds_toArray, List.set_cons_zero, List.set_cons_succ]
                    refine wpAnyS_take (v := ?_) hA rfl (fun _ _ _ h => h) (Or.inl ⟨by rfl, ?_⟩) hF (fun hA => ?_)
                    rotate_left
                    · intro wS hSw; (try dsimp only at hSw); obtain ⟨s1, s2, s3, s4, s5⟩ := hSw; first | (apply Eq.trans; apply ex_ld_id; exact rfl; exact rfl; assumption; with_reducible rfl) | (apply Eq.trans; apply ex_lk_at; exact rfl; exact rfl; exact rfl; assumption; assumption; with_reducible rfl) | (go_simp; try with_reducible rfl)
                    try simp only [List.getElem_toArray, List.getElem_cons_zero, List.getElem_cons_succ, Act.put, List.setIfInBounds_toArray, List.set_cons_zero, List.set_cons_succ]
                    refine wpAnyS_take (v := ?_) hA rfl (fun _ _ _ h => h) (Or.inl ⟨by rfl, ?_⟩) hF (fun hA => ?_)
                    rotate_left
                    · intro wS hSw; (try dsimp only at hSw); obtain ⟨s1, s2, s3, s4, s5⟩ := hSw; first | (apply Eq.trans; apply ex_ld_id; exact rfl; exact rfl; assumption; with_reducible rfl) | (apply Eq.trans; apply ex_lk_at; exact rfl; exact rfl; exact rfl; assumption; assumption; with_reducible rfl) | (go_simp; try with_reducible rfl)
                    try simp only [List.getElem_toArray, List.getElem_cons_zero, List.getElem_cons_succ, Act.put, List.setIfInBounds_toArray, List.set_cons_zero, List.set_cons_succ]
                    refine wpAnyS_take (v := ?_) hA rfl (fun _ _ _ h => h) (Or.inl ⟨by rfl, ?_⟩) hF (fun hA => ?_)
                    rotate_left
                    · intro wS hSw; (try dsimp only at hSw); obtain ⟨s1, s2, s3, s4, s5⟩ := hSw; first | (apply Eq.trans; apply ex_ld_id; exact rfl; exact rfl; assumption; with_reducible rfl) | (apply Eq.trans; apply ex_lk_at; exact rfl; exact rfl; exact rfl; assumption; assumption; with_reducible rfl) | (go_simp; try with_reducible rfl)
                    try simp only [List.getElem_toArray, List.getElem_cons_zero, List.getElem_cons_succ, Act.put, List.setIfInBounds_toArray, List.set_cons_zero, List.set_cons_succ]
                    refine wpAnyS_take (v := ?_) hA rfl (fun _ _ _ h => h) (Or.inl ⟨by rfl, ?_⟩) hF (fun hA => ?_)
                    rotate_left
                    · intro wS hSw; (try dsimp only at hSw); obtain ⟨s1, s2, s3, s4, s5⟩ := hSw; first | (apply Eq.trans; apply ex_ld_id; exact rfl; exact rfl; assumption; with_reducible rfl) | (apply Eq.trans; apply ex_lk_at; exact rfl; exact rfl; exact rfl; assumption; assumption; with_reducible rfl) | (go_simp; try with_reducible rfl)
                    try simp only [List.getElem_toArray, List.getElem_cons_zero, List.getElem_cons_succ, Act.put, List.setIfInBounds_toArray, List.set_cons_zero, List.set_cons_succ]
                    refine wpAnyS_one hA rfl (fun K' hK => ?_)
                    rw [if_pos (by rfl)]
                    go_simp
                    go_at_call 24
                    refine (reaches_any _ D Fd G (d8.fr0 ((fx9.step0 fu).step0 hu3)) (LL j) c).mono ?_
                    rintro e u4 ⟨rfl, hu4⟩
                    replace hF := keep _ _ hu4 hF
                    refine hK.out _ _ hF (fun hA => ?_)
                    clear hK K'
                    as_aux_lemma =>
                    rw [HRB.out]
                    refine wpAnyS_take (v := ?_) hA rfl (fun _ _ _ h => h) (Or.inl ⟨by rfl, ?_⟩) hF (fun hA => ?_)
                    rotate_left
                    · intro wS hSw; (try dsimp only at hSw); obtain ⟨s1, s2, s3, s4, s5⟩ := hSw; first | (apply Eq.trans; apply ex_ld_id; exact rfl; exact rfl; assumption; with_reducible rfl) | (apply Eq.trans; apply ex_lk_at; exact rfl; exact rfl; exact rfl; assumption; assumption; with_reducible rfl) | (go_simp; try with_reducible rfl)
                    try simp only [List.getElem_toArray, List.getElem_cons_zero, List.getElem_cons_succ, Act.put, List.setIfInBounds_toArray, List.set_cons_zero, List.set_cons_succ]
                    refine wpAnyS_take (v := ?_) hA rfl (fun _ _ _ h => h) (Or.inl ⟨by rfl, ?_⟩) hF (fun hA => ?_)
                    rotate_left
                    · intro wS hSw; (try dsimp only at hSw); obtain ⟨s1, s2, s3, s4, s5⟩ := hSw; first | (apply Eq.trans; apply ex_ld_id; exact rfl; exact rfl; assumption; with_reducible rfl) | (apply Eq.trans; apply ex_lk_at; exact rfl; exact rfl; exact rfl; assumption; assumption; with_reducible rfl) | (go_simp; try with_reducible rfl)
                    try simp only [List.getElem_toArray, List.getElem_cons_zero, List.getElem_cons_succ, Act.put, List.setIfInBounds_toArray, List.set_cons_zero, List.set_cons_succ]
                    refine wpAnyS_end hA rfl ?_
                    simp only [List.drop_succ_cons, List.drop_zero]
                    clear hF
                    go_wp2_with fail
                    go_meet
                    case rel => exact ⟨rfl, (fu.step0 hu3).step0 hu4⟩
                · have e0 : decide (0 < (n : Int)) = false := by simpa using hn0
                  have e0' : decide (0 < n) = false := by simpa using hn0
                  clear hn0
                  cases hra : ancG G (LL i) c with
                  | true =>
                    have HRA := Lib.hid hra
                    clear hra
                    go_wp2_with fail
                    refine wp_region_M 33 34 [⟨77371252455336267181195264, 4096, 0⟩, ⟨154742504910672534362390528, 16384, 0⟩, ⟨309485009821345068724781056, 232113757366008801543585792, 3⟩, ⟨618970019642690137449562112, 309485009821345068724781056, 4⟩, ⟨1237940039285380274899124224, 618970019642690137449570304, 8⟩, ⟨2475880078570760549798248448, 1856910058928070412348686336, 24⟩, ⟨4951760157141521099596496896, 3094850098213450687247810560, 40⟩, ⟨9903520314283042199192993792, 4951760157141521099596497024, 64⟩, ⟨19807040628566084398385987584, 4951760157141521099596498944, 64⟩, ⟨39614081257132168796771975168, 4951760157141521099596505088, 64⟩, ⟨79228162514264337593543950336, 44565841414273689896368472064, 576⟩, ⟨158456325028528675187087900672, 103986963299971943091526434816, 1344⟩, ⟨316912650057057350374175801344, 163408085185670196286684397568, 2112⟩, ⟨633825300114114700748351602688, 331767930528481913672965292032, 4288⟩, ⟨1267650600228229401496703205376, 4951760157141521099596497024, 64⟩, ⟨2535301200456458802993406410752, 4951760157141521099596513280, 64⟩, ⟨5070602400912917605986812821504, 3807903560841829725589706113024, 57408⟩, ⟨10141204801825835211973625643008, 5709379461184173827834760921088, 73792⟩, ⟨20282409603651670423947251286016, 10146775532002619423210671702016, 131144⟩, ⟨40564819207303340847894502572032, 20283028573671313114084700848128, 262152⟩, ⟨81129638414606681695789005144064, 40564819207303340847894502572032, 589824⟩, ⟨162259276829213363391578010288128, 81129638414606681695789005144192, 1048576⟩, ⟨324518553658426726783156020576256, 81129638414606681695789005144576, 1048576⟩, ⟨649037107316853453566312041152512, 81129638414606681695789005160448, 1048576⟩, ⟨1298074214633706907132624082305024, 1216944576219100225436835077160960, 15728640⟩, ⟨2596148429267413814265248164610048, 1379203853048313588828413087449088, 17825792⟩, ⟨5192296858534827628530496329220096, 2677278067682020495961037169754112, 51380224⟩, ⟨10384593717069655257060992658440192, 5192296858534827628530496329220224, 67108864⟩, ⟨20769187434139310514121985316880384, 5192296858534827628530496329221120, 67108864⟩, ⟨41538374868278621028243970633760768, 5192296858534827628530496329236480, 67108864⟩, ⟨83076749736557242056487941267521536, 77884452878022414427957444938301440, 1006632960⟩, ⟨166153499473114484112975882535043072, 88269046595092069685018437596741632, 1140850688⟩, ⟨332306998946228968225951765070086144, 171426925970063918423202167869407232, 2215641088⟩, ⟨664613997892457936451903530140172288, 332388128584643574907647554075230208, 4296015872⟩] [(true, 0), (true, 1), (true, 2), (true, 3), (true, 4), (true, 5), (true, 6), (true, 7), (true, 8), (true, 9), (true, 10), (true, 11), (true, 12), (true, 13), (true, 14), (true, 15), (true, 16), (true, 17), (true, 18), (true, 19), (true, 20), (true, 21), (true, 22), (true, 23), (false, 24), (true, 25), (true, 26), (true, 27), (true, 28), (true, 29), (true, 30), (true, 31), (true, 32)] (fun w' => rdI w' pk 0 = some c ∧ rdI w' pa 0 = some (LL i) ∧ rdI w' pb 0 = some (LL j) ∧ rdI w' g8 (o8 + q * 32) = some c' ∧ mpI w' R = some (setV (la.take n))) (by kernel_rfl) rfl (by kernel_rfl) (by kernel_rfl) (by kernel_rfl) F0 (fun hA hF => ?_)
                    refine wpAnyS_take (v := ?_) hA rfl (fun _ _ _ h => h) (Or.inl ⟨by rfl, ?_⟩) hF (fun hA => ?_)
                    rotate_left
                    · intro wS hSw; (try dsimp only at hSw); obtain ⟨s1, s2, s3, s4, s5⟩ := hSw; first | (apply Eq.trans; apply ex_ld_id; exact rfl; exact rfl; assumption; with_reducible rfl) | (apply Eq.trans; apply ex_lk_at; exact rfl; exact rfl; exact rfl; assumption; assumption; with_reducible rfl) | (go_simp; try with_reducible rfl)
                    try simp only [List.getElem_toArray, List.getElem_cons_zero, List.getElem_cons_succ, Act.put, List.setIfInBounds_toArray, List.set_cons_zero, List.set_cons_succ]
                    refine wpAnyS_take (v := ?_) hA rfl (fun _ _ _ h => h) (Or.inl ⟨by rfl, ?_⟩) hF (fun hA => ?_)
                    rotate_left
                    · intro wS hSw; (try dsimp only at hSw); obtain ⟨s1, s2, s3, s4, s5⟩ := hSw; first | (apply Eq.trans; apply ex_ld_id; exact rfl; exact rfl; assumption; with_reducible rfl) | (apply Eq.trans; apply ex_lk_at; exact rfl; exact rfl; exact rfl; assumption; assumption; with_reducible rfl) | (go_simp; try with_reducible rfl)
                    try simp only [List.getElem_toArray, List.getElem_cons_zero, List.getElem_cons_succ, Act.put, List.setIfInBounds_toArray, List.set_cons_zero, List.set_cons_succ]
                    refine wpAnyS_take (v := ?_) hA rfl (fun _ _ _ h => h) (Or.inl ⟨by rfl, ?_⟩) hF (fun hA => ?_)
                    rotate_left
                    · intro wS hSw; (try dsimp only at hSw); obtain ⟨s1, s2, s3, s4, s5⟩ := hSw; first | (apply Eq.trans; apply ex_ld_id; exact rfl; exact rfl; assumption; with_reducible rfl) | (apply Eq.trans; apply ex_lk_at; exact rfl; exact rfl; exact rfl; assumption; assumption; with_reducible rfl) | (go_simp; try with_reducible rfl)
                    try simp only [List.getElem_toArray, List.getElem_cons_zero, List.getElem_cons_succ, Act.put, List.setIfInBounds_toArray, List.set_cons_zero, List.set_cons_succ]
                    refine wpAnyS_take (v := ?_) hA rfl (fun _ _ _ h => h) (Or.inl ⟨by rfl, ?_⟩) hF (fun hA => ?_)
                    rotate_left
                    · intro wS hSw; (try dsimp only at hSw); obtain ⟨s1, s2, s3, s4, s5⟩ := hSw; first | (apply Eq.trans; apply ex_ld_id; exact rfl; exact rfl; assumption; with_reducible rfl) | (apply Eq.trans; apply ex_lk_at; exact rfl; exact rfl; exact rfl; assumption; assumption; with_reducible rfl) | (go_simp; try with_reducible rfl)
                    try simp only [List.getElem_toArray, List.getElem_cons_zero, List.getElem_cons_succ, Act.put, List.setIfInBounds_toArray, List.set_cons_zero, List.set_cons_succ]
                    refine wpAnyS_take (v := ?_) hA rfl (fun _ _ _ h => h) (Or.inl ⟨by rfl, ?_⟩) hF (fun hA => ?_)
                    rotate_left
                    · intro wS hSw; (try dsimp only at hSw); obtain ⟨s1, s2, s3, s4, s5⟩ := hSw; first | (apply Eq.trans; apply ex_ld_id; exact rfl; exact rfl; assumption; with_reducible rfl) | (apply Eq.trans; apply ex_lk_at; exact rfl; exact rfl; exact rfl; assumption; assumption; with_reducible rfl) | (go_simp; try with_reducible rfl)
                    try simp only [List.getElem_toArray, List.getElem_cons_zero, List.getElem_cons_succ, Act.put, List.setIfInBounds_toArray, List.set_cons_zero, List.set_cons_succ]
                    refine wpAnyS_take (v := ?_) hA rfl (fun _ _ _ h => h) (Or.inl ⟨by rfl, ?_⟩) hF (fun hA => ?_)
                    rotate_left
                    · intro wS hSw; (try dsimp only at hSw); obtain ⟨s1, s2, s3, s4, s5⟩ := hSw; first | (apply Eq.trans; apply ex_ld_id; exact rfl; exact rfl; assumption; with_reducible rfl) | (apply Eq.trans; apply ex_lk_at; exact rfl; exact rfl; exact rfl; assumption; assumption; with_reducible rfl) | (go_simp; try with_reducible rfl)
                    try simp only [List.getElem_toArray, List.getElem_cons_zero, List.getElem_cons_succ, Act.put, List.setIfInBounds_toArray, List.set_cons_zero, List.set_cons_succ]
                    refine wpAnyS_take (v := ?_) hA rfl (fun _ _ _ h => h) (Or.inl ⟨by rfl, ?_⟩) hF (fun hA => ?_)
                    rotate_left
                    · intro wS hSw; (try dsimp only at hSw); obtain ⟨s1, s2, s3, s4, s5⟩ := hSw; first | (apply Eq.trans; apply ex_ld_id; exact rfl; exact rfl; assumption; with_reducible rfl) | (apply Eq.trans; apply ex_lk_at; exact rfl; exact rfl; exact rfl; assumption; assumption; with_reducible rfl) | (go_simp; try with_reducible rfl)
                    try simp only [List.getElem_toArray, List.getElem_cons_zero, List.getElem_cons_succ, Act.put, List.setIfInBounds_toArray, List.set_cons_zero, List.set_cons_succ]
                    refine wpAnyS_take (v := undef) hA rfl (fun _ _ _ h => h) (Or.inr ⟨by rfl, rfl⟩) hF (fun hA => ?_)
                    try simp only [List.getElem_toArray, List.getElem_cons_zero, List.getElem_cons_succ, Act.put, List.setIfInBounds_toArray, List.set_cons_zero, List.set_cons_succ]
                    refine wpAnyS_take (v := undef) hA rfl (fun _ _ _ h => h) (Or.inr ⟨by rfl, rfl⟩) hF (fun hA => ?_)
                    try simp only [List.getElem_toArray, List.getElem_cons_zero, List.getElem_cons_succ, Act.put, List.setIfInBounds_toArray, List.set_cons_zero, List.set_cons_succ]
                    refine wpAnyS_take (v := undef) hA rfl (fun _ _ _ h => h) (Or.inr ⟨by rfl, rfl⟩) hF (fun hA => ?_)
                    try simp only [List.getElem_toArray, List.getElem_cons_zero, List.getElem_cons_succ, Act.put, List.setIfInBounds_toArray, List.set_cons_zero, List.set_cons_succ]
                    refine wpAnyS_take (v := undef) hA rfl (fun _ _ _ h => h) (Or.inr ⟨by rfl, rfl⟩) hF (fun hA => ?_)
                    try simp only [List.getElem_toArray, List.getElem_cons_zero, List.getElem_cons_succ, Act.put, List.setIfInBounds_toArray, List.set_cons_zero, List.set_cons_succ]
                    refine wpAnyS_take (v := undef) hA rfl (fun _ _ _ h => h) (Or.inr ⟨by rfl, rfl⟩) hF (fun hA => ?_)
                    try simp only [List.getElem_toArray, List.getElem_cons_zero, List.getElem_cons_succ, Act.put, List.setIfInBounds_toArray, List.set_cons_zero, List.set_cons_succ]
                    refine wpAnyS_take (v := undef) hA rfl (fun _ _ _ h => h) (Or.inr ⟨by rfl, rfl⟩) hF (fun hA => ?_)
                    try simp only [List.getElem_toArray, List.getElem_cons_zero, List.getElem_cons_succ, Act.put, List.setIfInBounds_toArray, List.set_cons_zero, List.set_cons_succ]
                    refine wpAnyS_take (v := undef) hA rfl (fun _ _ _ h => h) (Or.inr ⟨by rfl, rfl⟩) hF (fun hA => ?_)
                    try simp only [List.getElem_toArray, List.getElem_cons_zero, List.getElem_cons_succ, Act.put, List.setIfInBounds_toArray, List.set_cons_zero, List.set_cons_succ]
                    refine wpAnyS_take (v := undef) hA rfl (fun _ _ _ h => h) (Or.inr ⟨by rfl, rfl⟩) hF (fun hA => ?_)
                    try simp only [List.getElem_toArray, List.getElem_cons_zero, List.getElem_cons_succ, Act.put, List.setIfInBounds_toArray, List.set_cons_zero, List.set_cons_succ]
                    refine wpAnyS_take (v := undef) hA rfl (fun _ _ _ h => h) (Or.inr ⟨by rfl, rfl⟩) hF (fun hA => ?_)
                    try simp only [List.getElem_toArray, List.getElem_cons_zero, List.getElem_cons_succ, Act.put, List.setIfInBounds_toArray, List.set_cons_zero, List.set_cons_succ]
                    refine wpAnyS_take (v := undef) hA rfl (fun _ _ _ h => h) (Or.inr ⟨by rfl, rfl⟩) hF (fun hA => ?_)
                    try simp only [List.getElem_toArray, List.getElem_cons_zero, List.getElem_cons_succ, Act.put, List.setIfInBounds_toArray, List.set_cons_zero, List.set_cons_succ]
                    refine wpAnyS_take (v := undef) hA rfl (fun _ _ _ h => h) (Or.inr ⟨by rfl, rfl⟩) hF (fun hA => ?_)
                    try simp only [List.getElem_toArray, List.getElem_cons_zero, List.getElem_cons_succ, Act.put, List.setIfInBounds_toArray, List.set_cons_zero, List.set_cons_succ]
                    refine wpAnyS_take (v := ?_) hA rfl (fun _ _ _ h => h) (Or.inl ⟨by rfl, ?_⟩) hF (fun hA => ?_)
                    rotate_left
                    · intro wS hSw; (try dsimp only at hSw); obtain ⟨s1, s2, s3, s4, s5⟩ := hSw; first | (apply Eq.trans; apply ex_ld_id; exact rfl; exact rfl; assumption; with_reducible rfl) | (apply Eq.trans; apply ex_lk_at; exact rfl; exact rfl; exact rfl; assumption; assumption; with_reducible rfl) | (go_simp; try with_reducible rfl)
                    try simp only [List.getElem_toArray, List.getElem_cons_zero, List.getElem_cons_succ, Act.put, List.setIfInBounds_toArray, List.set_cons_zero, List.set_cons_succ]
                    refine wpAnyS_take (v := ?_) hA rfl (fun _ _ _ h => h) (Or.inl ⟨by rfl, ?_⟩) hF (fun hA => ?_)
                    rotate_left
                    · intro wS hSw; (try dsimp only at hSw); obtain ⟨s1, s2, s3, s4, s5⟩ := hSw; first | (apply Eq.trans; apply ex_ld_id; exact rfl; exact rfl; assumption; with_reducible rfl) | (apply Eq.trans; apply ex_lk_at; exact rfl; exact rfl; exact rfl; assumption; assumption; with_reducible rfl) | (go_simp; try with_reducible rfl)
                    try simp only [List.getElem_toArray, List.getElem_cons_zero, List.getElem_cons_succ, Act.put, List.setIfInBounds_toArray, List.set_cons_zero, List.set_cons_succ]
                    refine wpAnyS_take (v := ?_) hA rfl (fun _ _ _ h => h) (Or.inl ⟨by rfl, ?_⟩) hF (fun hA => ?_)
                    rotate_left
                    · intro wS hSw; (try dsimp only at hSw); obtain ⟨s1, s2, s3, s4, s5⟩ := hSw; first | (apply Eq.trans; apply ex_ld_id; exact rfl; exact rfl; assumption; with_reducible rfl) | (apply Eq.trans; apply ex_lk_at; exact rfl; exact rfl; exact rfl; assumption; assumption; with_reducible rfl) | (go_simp; try with_reducible rfl)
                    try simp only [List.getElem_toArray, List.getElem_cons_zero, List.getElem_cons_succ, Act.put, List.setIfInBounds_toArray, List.set_cons_zero, List.set_cons_succ]
                    refine wpAnyS_take (v := ?_) hA rfl (fun _ _ _ h => h) (Or.inl ⟨by rfl, ?_⟩) hF (fun hA => ?_)
                    rotate_left
                    · intro wS hSw; (try dsimp only at hSw); obtain ⟨s1, s2, s3, s4, s5⟩ := hSw; first | (apply Eq.trans; apply ex_ld_id; exact rfl; exact rfl; assumption; with_reducible rfl) | (apply Eq.trans; apply ex_lk_at; exact rfl; exact rfl; exact rfl; assumption; assumption; with_reducible rfl) | (go_simp; try with_reducible rfl)
                    try simp only [List.getElem_toArray, List.getElem_cons_zero, List.getElem_cons_succ, Act.put, List.setIfInBounds_toArray, List.set_cons_zero, List.set_cons_succ]
                    refine wpAnyS_take (v := ?_) hA rfl (fun _ _ _ h => h) (Or.inl ⟨by rfl, ?_⟩) hF (fun hA => ?_)
                    rotate_left
                    · intro wS hSw; (try dsimp only at hSw); obtain ⟨s1, s2, s3, s4, s5⟩ := hSw; first | (apply Eq.trans; apply ex_ld_id; exact rfl; exact rfl; assumption; with_reducible rfl) | (apply Eq.trans; apply ex_lk_at; exact rfl; exact rfl; exact rfl; assumption; assumption; with_reducible rfl) | (go_simp; try with_reducible rfl)
                    try simp only [List.getElem_toArray, List.getElem_cons_zero, List.getElem_cons_succ, Act.put, List.setIfInBounds_toArray, List.set_cons_zero, List.set_cons_succ]
                    refine wpAnyS_take (v := ?_) hA rfl (fun _ _ _ h => h) (Or.inl ⟨by rfl, ?_⟩) hF (fun hA => ?_)
                    rotate_left
                    · intro wS hSw; (try dsimp only at hSw); obtain ⟨s1, s2, s3, s4, s5⟩ := hSw; first | (apply Eq.trans; apply ex_ld_id; exact rfl; exact rfl; assumption; with_reducible rfl) | (apply Eq.trans; apply ex_lk_at; exact rfl; exact rfl; exact rfl; assumption; assumption; with_reducible rfl) | (go_simp; try with_reducible rfl)
                    try simp only [List.getElem_toArray, List.getElem_cons_zero, List.getElem_cons_succ, Act.put, List.setIfInBounds_toArray, List.set_cons_zero, List.set_cons_succ]
                    have fu := fyd
                    refine wpAnyS_one hA rfl (fun K' hK => ?_)
                    rw [if_pos (by rfl)]
                    go_simp
                    go_at_call 24
                    refine (reaches_any _ D Fd G (d8.fr0 (fx9.step0 fu)) (LL i) c).mono ?_
                    rintro e u3 ⟨rfl, hu3⟩
                    replace hF := keep _ _ hu3 hF
                    refine hK.out _ _ hF (fun hA => ?_)
                    clear hK K'
                    as_aux_lemma =>
                    rw [HRA.out]
                    refine wpAnyS_take (v := ?_) hA rfl (fun _ _ _ h => h) (Or.inl ⟨by rfl, ?_⟩) hF (fun hA => ?_)
                    rotate_left
                    · intro wS hSw; (try dsimp only at hSw); obtain ⟨s1, s2, s3, s4, s5⟩ := hSw; first | (apply Eq.trans; apply ex_ld_id; exact rfl; exact rfl; assumption; with_reducible rfl) | (apply Eq.trans; apply ex_lk_at; exact rfl; exact rfl; exact rfl; assumption; assumption; with_reducible rfl) | (go_simp; try with_reducible rfl)
                    try simp only [List.getElem_toArray, List.getElem_cons_zero, List.getElem_cons_succ, Act.put, List.setIfInBounds_toArray, List.set_cons_zero, List.set_cons_succ]
                    refine wpAnyS_take (v := ?_) hA rfl (fun _ _ _ h => h) (Or.inl ⟨by rfl, ?_⟩) hF (fun hA => ?_)
                    rotate_left
                    · intro wS hSw; (try dsimp only at hSw); obtain ⟨s1, s2, s3, s4, s5⟩ := hSw; first | (apply Eq.trans; apply ex_ld_id; exact rfl; exact rfl; assumption; with_reducible rfl) | (apply Eq.trans; apply ex_lk_at; exact rfl; exact rfl; exact rfl; assumption; assumption; with_reducible rfl) | (go_simp; try with_reducible rfl)
                    try simp only [List.getElem_toArray, List.getElem_cons_zero, List.getElem_cons_succ, Act.put, List.setIfInBounds_toArray, List.set_cons_zero, List.set_cons_succ]
                    refine wpAnyS_take (v := undef) hA rfl (fun _ _ _ h => h) (Or.inr ⟨by rfl, rfl⟩) hF (fun hA => ?_)
                    try simp only [List.getElem_toArray, List.getElem_cons_zero, List.getElem_cons_succ, Act.put, List.setIfInBounds_toArray, List.set_cons_zero, List.set_cons_succ]
                    refine wpAnyS_take (v := undef) hA rfl (fun _ _ _ h => h) (Or.inr ⟨by rfl, rfl⟩) hF (fun hA => ?_)
                    try simp only [List.getElem_toArray, List.getElem_cons_zero, List.getElem_cons_succ, Act.put, List.setIfInBounds_toArray, List.set_cons_zero, List.set_cons_succ]
                    refine wpAnyS_take (v := undef) hA rfl (fun _ _ _ h => h) (Or.inr ⟨by rfl, rfl⟩) hF (fun hA => ?_)
                    try simp only [List.getElem_toArray, List.getElem_cons_zero, List.getElem_cons_succ, Act.put, List.setIfInBounds_toArray, List.set_cons_zero, List.set_cons_succ]
                    refine wpAnyS_take (v := undef) hA rfl (fun _ _ _ h => h) (Or.inr ⟨by rfl, rfl⟩) hF (fun hA => ?_)
                    try simp only [List.getElem_toArray, List.getElem_cons_zero, List.getElem_cons_succ, Act.put, List.setIfInBounds_toArray, List.set_cons_zero, List.set_cons_succ]
                    refine wpAnyS_take (v := undef) hA rfl (fun _ _ _ h => h) (Or.inr ⟨by rfl, rfl⟩) hF (fun hA => ?_)
                    try simp only [List.getElem_toArray, List.getElem_cons_zero, List.getElem_cons_succ, Act.put, List.setIfInBounds_toArray, List.set_cons_zero, List.set_cons_succ]
                    refine wpAnyS_take (v := ?_) hA rfl (fun _ _ _ h => h) (Or.inl ⟨by rfl, ?_⟩) hF (fun hA => ?_)
                    rotate_left
                    · intro wS hSw; (try dsimp only at hSw); obtain ⟨s1, s2, s3, s4, s5⟩ := hSw; first | (apply Eq.trans; apply ex_ld_id; exact rfl; exact rfl; assumption; with_reducible rfl) | (apply Eq.trans; apply ex_lk_at; exact rfl; exact rfl; exact rfl; assumption; assumption; with_reducible rfl) | (go_simp; try with_reducible rfl)
                    try simp only [List.getElem_toArray, List.getElem_cons_zero, List.getElem_cons_succ, Act.put, List.setIfInBounds_toArray, List.set_cons_zero, List.set_cons_succ]
                    refine wpAnyS_end hA rfl ?_
                    simp only [List.drop_succ_cons, List.drop_zero]
                    clear hF
                    go_wp2_with fail
                    go_meet
                    case rel => exact ⟨rfl, fu.step0 hu3⟩
                  | false =>
                    have hrb : ancG G (LL j) c = true := by have := HR1.out; rw [hra] at this; simpa using this
                    have HRA := Lib.hid hra
                    have HRB := Lib.hid hrb
                    clear hra hrb
                    go_wp2_with fail
                    refine wp_region_M 33 34 [⟨77371252455336267181195264, 4096, 0⟩, ⟨154742504910672534362390528, 16384, 0⟩, ⟨309485009821345068724781056, 232113757366008801543585792, 3⟩, ⟨618970019642690137449562112, 309485009821345068724781056, 4⟩, ⟨1237940039285380274899124224, 618970019642690137449570304, 8⟩, ⟨2475880078570760549798248448, 1856910058928070412348686336, 24⟩, ⟨4951760157141521099596496896, 3094850098213450687247810560, 40⟩, ⟨9903520314283042199192993792, 4951760157141521099596497024, 64⟩, ⟨19807040628566084398385987584, 4951760157141521099596498944, 64⟩, ⟨39614081257132168796771975168, 4951760157141521099596505088, 64⟩, ⟨79228162514264337593543950336, 44565841414273689896368472064, 576⟩, ⟨158456325028528675187087900672, 103986963299971943091526434816, 1344⟩, ⟨316912650057057350374175801344, 163408085185670196286684397568, 2112⟩, ⟨633825300114114700748351602688, 331767930528481913672965292032, 4288⟩, ⟨1267650600228229401496703205376, 4951760157141521099596497024, 64⟩, ⟨2535301200456458802993406410752, 4951760157141521099596513280, 64⟩, ⟨5070602400912917605986812821504, 3807903560841829725589706113024, 57408⟩, ⟨10141204801825835211973625643008, 5709379461184173827834760921088, 73792⟩, ⟨20282409603651670423947251286016, 10146775532002619423210671702016, 131144⟩, ⟨40564819207303340847894502572032, 20283028573671313114084700848128, 262152⟩, ⟨81129638414606681695789005144064, 40564819207303340847894502572032, 589824⟩, ⟨162259276829213363391578010288128, 81129638414606681695789005144192, 1048576⟩, ⟨324518553658426726783156020576256, 81129638414606681695789005144576, 1048576⟩, ⟨649037107316853453566312041152512, 81129638414606681695789005160448, 1048576⟩, ⟨1298074214633706907132624082305024, 1216944576219100225436835077160960, 15728640⟩, ⟨2596148429267413814265248164610048, 1379203853048313588828413087449088, 17825792⟩, ⟨5192296858534827628530496329220096, 2677278067682020495961037169754112, 51380224⟩, ⟨10384593717069655257060992658440192, 5192296858534827628530496329220224, 67108864⟩, ⟨20769187434139310514121985316880384, 5192296858534827628530496329221120, 67108864⟩, ⟨41538374868278621028243970633760768, 5192296858534827628530496329236480, 67108864⟩, ⟨83076749736557242056487941267521536, 77884452878022414427957444938301440, 1006632960⟩, ⟨166153499473114484112975882535043072, 88269046595092069685018437596741632, 1140850688⟩, ⟨332306998946228968225951765070086144, 171426925970063918423202167869407232, 2215641088⟩, ⟨664613997892457936451903530140172288, 332388128584643574907647554075230208, 4296015872⟩] [(true, 0), (true, 1), (true, 2), (true, 3), (true, 4), (true, 5), (true, 6), (true, 7), (true, 8), (true, 9), (true, 10), (true, 11), (true, 12), (true, 13), (true, 14), (true, 15), (true, 16), (true, 17), (true, 18), (true, 19), (true, 20), (true, 21), (true, 22), (true, 23), (false, 24), (true, 25), (true, 26), (true, 27), (true, 28), (true, 29), (false, 30), (true, 31), (true, 32)] (fun w' => rdI w' pk 0 = some c ∧ rdI w' pa 0 = some (LL i) ∧ rdI w' pb 0 = some (LL j) ∧ rdI w' g8 (o8 + q * 32) = some c' ∧ mpI w' R = some (setV (la.take n))) (by kernel_rfl) rfl (by kernel_rfl) (by kernel_rfl) (by kernel_rfl) F0 (fun hA hF => ?_)
                    refine wpAnyS_take (v := ?_) hA rfl (fun _ _ _ h => h) (Or.inl ⟨by rfl, ?_⟩) hF (fun hA => ?_)
                    rotate_left
                    · intro wS hSw; (try dsimp only at hSw); obtain ⟨s1, s2, s3, s4, s5⟩ := hSw; first | (apply Eq.trans; apply ex_ld_id; exact rfl; exact rfl; assumption; with_reducible rfl) | (apply Eq.trans; apply ex_lk_at; exact rfl; exact rfl; exact rfl; assumption; assumption; with_reducible rfl) | (go_simp; try with_reducible rfl)
                    try simp only [List.getElem_toArray, List.getElem_cons_zero, List.getElem_cons_succ, Act.put, List.setIfInBounds_toArray, List.set_cons_zero, List.set_cons_succ]
                    refine wpAnyS_take (v := ?_) hA rfl (fun _ _ _ h => h) (Or.inl ⟨by rfl, ?_⟩) hF (fun hA => ?_)
                    rotate_left
                    · intro wS hSw; (try dsimp only at hSw); obtain ⟨s1, s2, s3, s4, s5⟩ := hSw; first | (apply Eq.trans; apply ex_ld_id; exact rfl; exact rfl; assumption; with_reducible rfl) | (apply Eq.trans; apply ex_lk_at; exact rfl; exact rfl; exact rfl; assumption; assumption; with_reducible rfl) | (go_simp; try with_reducible rfl)
                    try simp only [List.getElem_toArray, List.getElem_cons_zero, List.getElem_cons_succ, Act.put, List.setIfInBounds_toArray, List.set_cons_zero, List.set_cons_succ]
                    refine wpAnyS_take (v := ?_) hA rfl (fun _ _ _ h => h) (Or.inl ⟨by rfl, ?_⟩) hF (fun hA => ?_)
                    rotate_left
                    · intro wS hSw; (try dsimp only at hSw); obtain ⟨s1, s2, s3, s4, s5⟩ := hSw; first | (apply Eq.trans; apply ex_ld_id; exact rfl; exact rfl; assumption; with_reducible rfl) | (apply Eq.trans; apply ex_lk_at; exact rfl; exact rfl; exact rfl; assumption; assumption; with_reducible rfl) | (go_simp; try with_reducible rfl)
                    try simp only [List.getElem_toArray, List.getElem_cons_zero, List.getElem_cons_succ, Act.put, List.setIfInBounds_toArray, List.set_cons_zero, List.set_cons_succ]
                    refine wpAnyS_take (v := ?_) hA rfl (fun _ _ _ h => h) (Or.inl ⟨by rfl, ?_⟩) hF (fun hA => ?_)
                    rotate_left
                    · intro wS hSw; (try dsimp only at hSw); obtain ⟨s1, s2, s3, s4, s5⟩ := hSw; first | (apply Eq.trans; apply ex_ld_id; exact rfl; exact rfl; assumption; with_reducible rfl) | (apply Eq.trans; apply ex_lk_at; exact rfl; exact rfl; exact rfl; assumption; assumption; with_reducible rfl) | (go_simp; try with_reducible rfl)
                    try simp only [List.getElem_toArray, List.getElem_cons_zero, List.getElem_cons_succ, Act.put, List.setIfInBounds_toArray, List.set_cons_zero, List.set_cons_succ]
                    refine wpAnyS_take (v := ?_) hA rfl (fun _ _ _ h => h) (Or.inl ⟨by rfl, ?_⟩) hF (fun hA => ?_)
                    rotate_left
                    · intro wS hSw; (try dsimp only at hSw); obtain ⟨s1, s2, s3, s4, s5⟩ := hSw; first | (apply Eq.trans; apply ex_ld_id; exact rfl; exact rfl; assumption; with_reducible rfl) | (apply Eq.trans; apply ex_lk_at; exact rfl; exact rfl; exact rfl; assumption; assumption; with_reducible rfl) | (go_simp; try with_reducible rfl)
                    try simp only [List.getElem_toArray, List.getElem_cons_zero, List.getElem_cons_succ, Act.put, List.setIfInBounds_toArray, List.set_cons_zero, List.set_cons_succ]
                    refine wpAnyS_take (v := ?_) hA rfl (fun _ _ _ h => h) (Or.inl ⟨by rfl, ?_⟩) hF (fun hA => ?_)
                    rotate_left
                    · intro wS hSw; (try dsimp only at hSw); obtain ⟨s1, s2, s3, s4, s5⟩ := hSw; first | (apply Eq.trans; apply ex_ld_id; exact rfl; exact rfl; assumption; with_reducible rfl) | (apply Eq.trans; apply ex_lk_at; exact rfl; exact rfl; exact rfl; assumption; assumption; with_reducible rfl) | (go_simp; try with_reducible rfl)
                    try simp only [List.getElem_toArray, List.getElem_cons_zero, List.getElem_cons_succ, Act.put, List.setIfInBounds_toArray, List.set_cons_zero, List.set_cons_succ]
                    refine wpAnyS_take (v := ?_) hA rfl (fun _ _ _ h => h) (Or.inl ⟨by rfl, ?_⟩) hF (fun hA => ?_)
                    rotate_left
                    · intro wS hSw; (try dsimp only at hSw); obtain ⟨s1, s2, s3, s4, s5⟩ := hSw; first | (apply Eq.trans; apply ex_ld_id; exact rfl; exact rfl; assumption; with_reducible rfl) | (apply Eq.trans; apply ex_lk_at; exact rfl; exact rfl; exact rfl; assumption; assumption; with_reducible rfl) | (go_simp; try with_reducible rfl)
                    try simp only [List.getElem_toArray, List.getElem_cons_zero, List.getElem_cons_succ, Act.put, List.setIfInBounds_toArray, List.set_cons_zero, List.set_cons_succ]
                    refine wpAnyS_take (v := undef) hA rfl (fun _ _ _ h => h) (Or.inr ⟨by rfl, rfl⟩) hF (fun hA => ?_)
                    try simp only [List.getElem_toArray, List.getElem_cons_zero, List.getElem_cons_succ, Act.put, List.setIfInBounds_toArray, List.set_cons_zero, List.set_cons_succ]
                    refine wpAnyS_take (v := undef) hA rfl (fun _ _ _ h => h) (Or.inr ⟨by rfl, rfl⟩) hF (fun hA => ?_)
                    try simp only [List.getElem_toArray, List.getElem_cons_zero, List.getElem_cons_succ, Act.put, List.setIfInBounds_toArray, List.set_cons_zero, List.set_cons_succ]
                    refine wpAnyS_take (v := undef) hA rfl (fun _ _ _ h => h) (Or.inr ⟨by rfl, rfl⟩) hF (fun hA => ?_)
                    try simp only [List.getElem_toArray, List.getElem_cons_zero, List.getElem_cons_succ, Act.put, List.setIfInBounds_toArray, List.set_cons_zero, List.set_cons_succ]
                    refine wpAnyS_take (v := undef) hA rfl (fun _ _ _ h => h) (Or.inr ⟨by rfl, rfl⟩) hF (fun hA => ?_)
                    try simp only [List.getElem_toArray, List.getElem_cons_zero, List.getElem_cons_succ, Act.put, List.setIfInBounds_toArray, List.set_cons_zero, List.set_cons_succ]
                    refine wpAnyS_take (v := undef) hA rfl (fun _ _ _ h => h) (Or.inr ⟨by rfl, rfl⟩) hF (fun hA => ?_)
                    try simp only [List.getElem_toArray, List.getElem_cons_zero, List.getElem_cons_succ, Act.put, List.setIfInBounds_toArray, List.set_cons_zero, List.set_cons_succ]
                    refine wpAnyS_take (v := undef) hA rfl (fun _ _ _ h => h) (Or.inr ⟨by rfl, rfl⟩) hF (fun hA => ?_)
                    try simp only [List.getElem_toArray, List.getElem_cons_zero, List.getElem_cons_succ, Act.put, List.setIfInBounds_toArray, List.set_cons_zero, List.set_cons_succ]
                    refine wpAnyS_take (v := undef) hA rfl (fun _ _ _ h => h) (Or.inr ⟨by rfl, rfl⟩) hF (fun hA => ?_)
                    try simp only [List.getElem_toArray, List.getElem_cons_zero, List.getElem_cons_succ, Act.put, List.setIfInBounds_toArray, List.set_cons_zero, List.set_cons_succ]
                    refine wpAnyS_take (v := undef) hA rfl (fun _ _ _ h => h) (Or.inr ⟨by rfl, rfl⟩) hF (fun hA => ?_)
                    try simp only [List.getElem_toArray, List.getElem_cons_zero, List.getElem_cons_succ, Act.put, List.setIfInBounds_toArray, List.set_cons_zero, List.set_cons_succ]
                    refine wpAnyS_take (v := undef) hA rfl (fun _ _ _ h => h) (Or.inr ⟨by rfl, rfl⟩) hF (fun hA => ?_)
                    try simp only [List.getElem_toArray, List.getElem_cons_zero, List.getElem_cons_succ, Act.put, List.setIfInBounds_toArray, List.set_cons_zero, List.set_cons_succ]
                    refine wpAnyS_take (v := undef) hA rfl (fun _ _ _ h => h) (Or.inr ⟨by rfl, rfl⟩) hF (fun hA => ?_)
                    try simp only [List.getElem_toArray, List.getElem_cons_zero, List.getElem_cons_succ, Act.put, List.setIfInBounds_toArray, List.set_cons_zero, List.set_cons_succ]
                    refine wpAnyS_take (v := undef) hA rfl (fun _ _ _ h => h) (Or.inr ⟨by rfl, rfl⟩) hF (fun hA => ?_)
                    try simp only [List.getElem_toArray, List.getElem_cons_zero, List.getElem_cons_succ, Act.put, List.setIfInBounds_toArray, List.set_cons_zero, List.set_cons_succ]
                    refine wpAnyS_take (v := ?_) hA rfl (fun _ _ _ h => h) (Or.inl ⟨by rfl, ?_⟩) hF (fun hA => ?_)
                    rotate_left
                    · intro wS hSw; (try dsimp only at hSw); obtain ⟨s1, s2, s3, s4, s5⟩ := hSw; first | (apply Eq.trans; apply ex_ld_id; exact rfl; exact rfl; assumption; with_reducible rfl) | (apply Eq.trans; apply ex_lk_at; exact rfl; exact rfl; exact rfl; assumption; assumption; with_reducible rfl) | (go_simp; try with_reducible rfl)
                    try simp only [List.getElem_toArray, List.getElem_cons_zero, List.getElem_cons_succ, Act.put, List.setIfInBounds_toArray, List.set_cons_zero, List.set_cons_succ]
                    refine wpAnyS_take (v := ?_) hA rfl (fun _ _ _ h => h) (Or.inl ⟨by rfl, ?_⟩) hF (fun hA => ?_)
                    rotate_left
                    · intro wS hSw; (try dsimp only at hSw); obtain ⟨s1, s2, s3, s4, s5⟩ := hSw; first | (apply Eq.trans; apply ex_ld_id; exact rfl; exact rfl; assumption; with_reducible rfl) | (apply Eq.trans; apply ex_lk_at; exact rfl; exact rfl; exact rfl; assumption; assumption; with_reducible rfl) | (go_simp; try with_reducible rfl)
                    try simp only [List.getElem_toArray, List.getElem_cons_zero, List.getElem_cons_succ, Act.put, List.setIfInBounds_toArray, List.set_cons_zero, List.set_cons_succ]
                    refine wpAnyS_take (v := ?_) hA rfl (fun _ _ _ h => h) (Or.inl ⟨by rfl, ?_⟩) hF (fun hA => ?_)
                    rotate_left
                    · intro wS hSw; (try dsimp only at hSw); obtain ⟨s1, s2, s3, s4, s5⟩ := hSw; first | (apply Eq.trans; apply ex_ld_id; exact rfl; exact rfl; assumption; with_reducible rfl) | (apply Eq.trans; apply ex_lk_at; exact rfl; exact rfl; exact rfl; assumption; assumption; with_reducible rfl) | (go_simp; try with_reducible rfl)
                    try simp only [List.getElem_toArray, List.getElem_cons_zero, List.getElem_cons_succ, Act.put, List.setIfInBounds_toArray, List.set_cons_zero, List.set_cons_succ]
                    refine wpAnyS_take (v := ?_) hA rfl (fun _ _ _ h => h) (Or.inl ⟨by rfl, ?_⟩) hF (fun hA => ?_)
                    rotate_left
                    · intro wS hSw; (try dsimp only at hSw); obtain ⟨s1, s2, s3, s4, s5⟩ := hSw; first | (apply Eq.trans; apply ex_ld_id; exact rfl; exact rfl; assumption; with_reducible rfl) | (apply Eq.trans; apply ex_lk_at; exact rfl; exact rfl; exact rfl; assumption; assumption; with_reducible rfl) | (go_simp; try with_reducible rfl)
                    try simp only [List.getElem_toArray, List.getElem_cons_zero, List.getElem_cons_succ, Act.put, List.setIfInBounds_toArray, List.set_cons_zero, List.set_cons_succ]
                    refine wpAnyS_take (v := ?_) hA rfl (fun _ _ _ h => h) (Or.inl ⟨by rfl, ?_⟩) hF (fun hA => ?_)
                    rotate_left
                    · intro wS hSw; (try dsimp only at hSw); obtain ⟨s1, s2, s3, s4, s5⟩ := hSw; first | (apply Eq.trans; apply ex_ld_id; exact rfl; exact rfl; assumption; with_reducible rfl) | (apply Eq.trans; apply ex_lk_at; exact rfl; exact rfl; exact rfl; assumption; assumption; with_reducible rfl) | (go_simp; try with_reducible rfl)
                    try simp only [List.getElem_toArray, List.getElem_cons_zero, List.getElem_cons_succ, Act.put, List.setIfInBounds_toArray, List.set_cons_zero, List.set_cons_succ]
                    refine wpAnyS_take (v := ?_) hA rfl (fun _ _ _ h => h) (Or.inl ⟨by rfl, ?_⟩) hF (fun hA => ?_)
                    rotate_left
                    · intro wS hSw; (try dsimp only at hSw); obtain ⟨s1, s2, s3, s4, s5⟩ := hSw; first | (apply Eq.trans; apply ex_ld_id; exact rfl; exact rfl; assumption; with_reducible rfl) | (apply Eq.trans; apply ex_lk_at; exact rfl; exact rfl; exact rfl; assumption; assumption; with_reducible rfl) | (go_simp; try with_reducible rfl)
                    try simp only [List.getElem_toArray, List.getElem_cons_zero, List.getElem_cons_succ, Act.put, List.setIfInBounds_toArray, List.set_cons_zero, List.set_cons_succ]
                    have fu := fyd
                    refine wpAnyS_one hA rfl (fun K' hK => ?_)
                    rw [if_pos (by rfl)]
                    go_simp
                    go_at_call 24
                    refine (reaches_any _ D Fd G (d8.fr0 (fx9.step0 fu)) (LL i) c).mono ?_
                    rintro e u3 ⟨rfl, hu3⟩
                    replace hF := keep _ _ hu3 hF
                    refine hK.out _ _ hF (fun hA => ?_)
                    clear hK K'
                    as_aux_lemma =>
                    rw [HRA.out]
                    refine wpAnyS_take (v := ?_) hA rfl (fun _ _ _ h => h) (Or.inl ⟨by rfl, ?_⟩) hF (fun hA => ?_)
                    rotate_left
                    · intro wS hSw; (try dsimp only at hSw); obtain ⟨s1, s2, s3, s4, s5⟩ := hSw; first | (apply Eq.trans; apply ex_ld_id; exact rfl; exact rfl; assumption; with_reducible rfl) | (apply Eq.trans; apply ex_lk_at; exact rfl; exact rfl; exact rfl; assumption; assumption; with_reducible rfl) | (go_simp; try with_reducible rfl)
                    try simp only [List.getElem_toArray, List.getElem_cons_zero, List.getElem_cons_succ, Act.put, List.setIfInBounds_toArray, List.set_cons_zero, List.set_cons_succ]
                    refine wpAnyS_take (v := ?_) hA rfl (fun _ _ _ h => h) (Or.inl ⟨by rfl, ?_⟩) hF (fun hA => ?_)
                    rotate_left
                    · intro wS hSw; (try dsimp only at hSw); obtain ⟨s1, s2, s3, s4, s5⟩ := hSw; first | (apply Eq.trans; apply ex_ld_id; exact rfl; exact rfl; assumption; with_reducible rfl) | (apply Eq.trans; apply ex_lk_at; exact rfl; exact rfl; exact rfl; assumption; assumption; with_reducible rfl) | (go_simp; try with_reducible rfl)
                    try simp only [List.getElem_toArray, List.getElem_cons_zero, List.getElem_cons_succ, Act.put, List.setIfInBounds_toArray, List.set_cons_zero, List.set_cons_succ]
                    refine wpAnyS_take (v := ?_) hA rfl (fun _ _ _ h => h) (Or.inl ⟨by rfl, ?_⟩) hF (fun hA => ?_)
                    rotate_left
                    · intro wS hSw; (try dsimp only at hSw); obtain ⟨s1, s2, s3, s4, s5⟩ := hSw; first | (apply Eq.trans; apply ex_ld_id; exact rfl; exact rfl; assumption; with_reducible rfl) | (apply Eq.trans; apply ex_lk_at; exact rfl; exact rfl; exact rfl; assumption; assumption; with_reducible rfl) | (go_simp; try with_reducible rfl)
                    try simp only [List.getElem_toArray, List.getElem_cons_zero, List.getElem_cons_succ, Act.put, List.setIfInBounds_toArray, List.set_cons_zero, List.set_cons_succ]
                    refine wpAnyS_take (v := ?_) hA rfl (fun _ _ _ h => h) (Or.inl ⟨by rfl, ?_⟩) hF (fun hA => ?_)
                    rotate_left
                    · intro wS hSw; (try dsimp only at hSw); obtain ⟨s1, s2, s3, s4, s5⟩ := hSw; first | (apply Eq.trans; apply ex_ld_id; exact rfl; exact rfl; assumption; with_reducible rfl) | (apply Eq.trans; apply ex_lk_at; exact rfl; exact rfl; exact rfl; assumption; assumption; with_reducible rfl) | (go_simp; try with_reducible rfl)
                    try simp only [List.getElem_toArray, List.getElem_cons_zero, List.getElem_cons_succ, Act.put, List.setIfInBounds_toArray, List.set_cons_zero, List.set_cons_succ]
                    refine wpAnyS_take (v := ?_) hA rfl (fun _ _ _ h => h) (Or.inl ⟨by rfl, ?_⟩) hF (fun hA => ?_)
                    rotate_left
                    · intro wS hSw; (try dsimp only at hSw); obtain ⟨s1, s2, s3, s4, s5⟩ := hSw; first | (apply Eq.trans; apply ex_ld_id; exact rfl; exact rfl; assumption; with_reducible rfl) | (apply Eq.trans; apply ex_lk_at; exact rfl; exact rfl; exact rfl; assumption; assumption; with_reducible rfl) | (go_simp; try with_reducible rfl)
                    try simp only [List.getElem_toArray, List.getElem_cons_zero, List.getElem_cons_succ, Act.put, List.setIfInBounds_toArray, List.set_cons_zero, List.set_cons_succ]
                    refine wpAnyS_one hA rfl (fun K' hK => ?_)
                    rw [if_pos (by rfl)]
                    go_simp
                    go_at_call 24
                    refine (reaches_any _ D Fd G (d8.fr0 ((fx9.step0 fu).step0 hu3)) (LL j) c).mono ?_
                    rintro e u4 ⟨rfl, hu4⟩
                    replace hF := keep _ _ hu4 hF
                    refine hK.out _ _ hF (fun hA => ?_)
                    clear hK K'
                    as_aux_lemma =>
                    rw [HRB.out]
                    refine wpAnyS_take (v := ?_) hA rfl (fun _ _ _ h => h) (Or.inl ⟨by rfl, ?_⟩) hF (fun hA => ?_)
                    rotate_left
                    · intro wS hSw; (try dsimp only at hSw); obtain ⟨s1, s2, s3, s4, s5⟩ := hSw; first | (apply Eq.trans; apply ex_ld_id; exact rfl; exact rfl; assumption; with_reducible rfl) | (apply Eq.trans; apply ex_lk_at; exact rfl; exact rfl; exact rfl; assumption; assumption; with_reducible rfl) | (go_simp; try with_reducible rfl)
                    try simp only [List.getElem_toArray, List.getElem_cons_zero, List.getElem_cons_succ, Act.put, List.setIfInBounds_toArray, List.set_cons_zero, List.set_cons_succ]
                    refine wpAnyS_take (v := ?_) hA rfl (fun _ _ _ h => h) (Or.inl ⟨by rfl, ?_⟩) hF (fun hA => ?_)
                    rotate_left
                    · intro wS hSw; (try dsimp only at hSw); obtain ⟨s1, s2, s3, s4, s5⟩ := hSw; first | (apply Eq.trans; apply ex_ld_id; exact rfl; exact rfl; assumption; with_reducible rfl) | (apply Eq.trans; apply ex_lk_at; exact rfl; exact rfl; exact rfl; assumption; assumption; with_reducible rfl) | (go_simp; try with_reducible rfl)
                    try simp only [List.getElem_toArray, List.getElem_cons_zero, List.getElem_cons_succ, Act.put, List.setIfInBounds_toArray, List.set_cons_zero, List.set_cons_succ]
                    refine wpAnyS_end hA rfl ?_
                    simp only [List.drop_succ_cons, List.drop_zero]
                    clear hF
                    go_wp2_with fail
                    go_meet
                    case rel => exact ⟨rfl, (fu.step0 hu3).step0 hu4⟩
              case rest =>
                obtain ⟨rfl, hfz⟩ := hcut
                obtain ⟨wz, ewz⟩ : ∃ wz, wz = wc := ⟨wc, rfl⟩
                subst ewz
                have rcz := rdI_fr rc9 (rdI_lt rc9) hfz (by simp [noB])
                have hRz := mpI_fr hR9 hfz (by simp [noB])
                obtain ⟨up1, up2, up3, up4⟩ := mput_all Try.underlying60 hRz c (.bool true)
                rw [put_setV, if_neg (of_decide_eq_false nm1), ← HTS.out] at up2
                clear F0 keep fyd fx9d f19d
                go_wp2_with fail
                go_roundg (la.length - (n + 1))
                case measure => omega
                case rel => exact ⟨n + 1, by simp, rfl, by omega, up2, lR2, (fx9.step0 hfz).step1 up3 lR2⟩
        · have ex : n = la.length := by omega
          subst ex
          rw [List.take_length] at hR
          have dE := d8.fr0 hfx
          have vaE := rdI_fr va8 (rdI_lt va8) hfx (by simp [noB])
          have vbE := rdI_fr vb8 (rdI_lt vb8) hfx (by simp [noB])
          have sXE := sX8.fr0 hfx
          have fwE := fw8.step0 hfx
          have hmb := hG.le
          have hbz : ∀ z, decide (z ∈ la) = (ancG G (LL i) z || ancG G (LL j) z) := fun z => by
            rw [Bool.eq_iff_iff, decide_eq_true_eq]; exact HM.out z
          have HBZ := Lib.hid hbz
          clear hbz hfx va8 vb8 sX8 sA8 fw8 d8 HR HM8 HM
          go_wp2_with fail
          go_loopg [125] m (fun gk kv wr => BasR wx m gk kv wr)
          case atStart => exact ⟨0, rfl, rfl, by omega, Fr.refl _ _⟩
          case round =>
            obtain ⟨y, rfl, rfl, hy, hfy⟩ := hrel
            obtain ⟨wl, ewl⟩ : ∃ wl, wl = wr := ⟨wr, rfl⟩
            subst ewl
            by_cases hlty : y < m
            · have y0 : (0 : Int) ≤ (y : Int) := by omega
              have y1 : (y : Int) < (m : Int) := by omega
              have ry := (sXE.fr0 hfy).id y (by rw [rowL_len]; exact hlty)
              have hbz := HBZ.out ((rowL m)[y]'(by rw [rowL_len]; exact hlty))
              generalize (rowL m)[y]'(by rw [rowL_len]; exact hlty) = z at ry hbz
              have HB := Lib.hid hbz
              clear hbz
              have s1 : bxI (wl.alloc (ido zID)) wl.heap.size = some zID := bxI_new _ _
              obtain ⟨a1', a2', q0⟩ := putB_fr s1 z
              have f1 : Fr noB wl (putB (wl.alloc (ido zID)) wl.heap.size z) := ((Fr.refl noB wl).alloc _).step1 a1' (Nat.le_refl _)
              have ry1 := rdI_fr ry (rdI_lt ry) ((Fr.refl noB wl).alloc (ido zID)) (by simp [noB])
              have fyd := (hfy.step0 f1).drew
              clear a1' a2'
              go_upto_region 27 with fail
              have F0 : rdI (putB (wl.alloc (ido zID)) wl.heap.size z).drew wl.heap.size 0 = some z ∧ rdI (putB (wl.alloc (ido zID)) wl.heap.size z).drew pa 0 = some (LL i) ∧ rdI (putB (wl.alloc (ido zID)) wl.heap.size z).drew pb 0 = some (LL j) ∧ mpI (putB (wl.alloc (ido zID)) wl.heap.size z).drew R = some (setV la) :=
                ⟨(rdI_drew _ _ _).trans (bxI_rd q0), rdI_fr vaE (rdI_lt vaE) fyd (by simp [noB]), rdI_fr vbE (rdI_lt vbE) fyd (by simp [noB]), mpI_fr hR fyd (by simp [noB])⟩
              clear s1 f1 q0 ry ry1
              generalize wl.heap.size = pk at fyd F0 ⊢
              generalize putB (wl.alloc (ido zID)) pk z = Wk at fyd F0 ⊢
              have keep : ∀ w' w'' : World, Fr noB w' w'' → (rdI w' pk 0 = some z ∧ rdI w' pa 0 = some (LL i) ∧ rdI w' pb 0 = some (LL j) ∧ mpI w' R = some (setV la)) → (rdI w'' pk 0 = some z ∧ rdI w'' pa 0 = some (LL i) ∧ rdI w'' pb 0 = some (LL j) ∧ mpI w'' R = some (setV la)) := fun w' w'' f h =>
                ⟨rdI_fr h.1 (rdI_lt h.1) f (by simp [noB]), rdI_fr h.2.1 (rdI_lt h.2.1) f (by simp [noB]), rdI_fr h.2.2.1 (rdI_lt h.2.2.1) f (by simp [noB]), mpI_fr h.2.2.2 f (by simp [noB])⟩
              cases hra : ancG G (LL i) z with
              | true =>
                have hb1 : decide (z ∈ la) = true := by rw [HB.out, hra]; rfl
                have HRA := Lib.hid hra
                clear hra
                go_wp2_with fail
                refine wp_region_M 13 14 [⟨680564733841876926926749214863536422912, 128, 0⟩, ⟨1361129467683753853853498429727072845824, 512, 0⟩, ⟨2722258935367507707706996859454145691648, 262144, 0⟩, ⟨5444517870735015415413993718908291383296, 4763953136893138488487244504044754960384, 7⟩, ⟨10889035741470030830827987437816582766592, 5444517870735015415413993718908291383296, 8⟩, ⟨21778071482940061661655974875633165533184, 10889035741470030830827987437816582766720, 16⟩, ⟨43556142965880123323311949751266331066368, 10889035741470030830827987437816582767616, 16⟩, ⟨87112285931760246646623899502532662132736, 10889035741470030830827987437816583028736, 16⟩, ⟨174224571863520493293247799005065324265472, 163335536122050462462419811567248741498880, 240⟩, ⟨348449143727040986586495598010130648530944, 185113607604990524124075786442881907032064, 272⟩, ⟨696898287454081973172991196020261297061888, 4096, 0⟩, ⟨1393796574908163946345982392040522594123776, 262144, 0⟩, ⟨2787593149816327892691964784081045188247552, 2090694862362245919518973588060783891185664, 3072⟩, ⟨5575186299632655785383929568162090376495104, 3136042293543368879278460382091175836778496, 4608⟩] [(true, 0), (true, 1), (true, 2), (true, 10), (true, 11), (true, 12), (false, 3), (true, 4), (true, 5), (true, 6), (true, 7), (true, 8), (true, 9)] (fun w' => rdI w' pk 0 = some z ∧ rdI w' pa 0 = some (LL i) ∧ rdI w' pb 0 = some (LL j) ∧ mpI w' R = some (setV la)) (by kernel_rfl) rfl (by kernel_rfl) (by kernel_rfl) (by kernel_rfl) F0 (fun hA hF => ?_)
                refine wpAnyS_take (v := ?_) hA rfl (fun _ _ _ h => h) (Or.inl ⟨by rfl, ?_⟩) hF (fun hA => ?_)
                rotate_left
                · intro wS hSw; (try dsimp only at hSw); obtain ⟨s1, s2, s3, s4⟩ := hSw; first | (apply Eq.trans; apply ex_ld_id; exact rfl; exact rfl; assumption; with_reducible rfl) | (apply Eq.trans; apply ex_lk_at; exact rfl; exact rfl; exact rfl; assumption; assumption; with_reducible rfl) | (go_simp; try with_reducible rfl)
                try simp only [List.getElem_toArray, List.getElem_cons_zero, List.getElem_cons_succ, Act.put, List.setIfInBounds_toArray, List.set_cons_zero, List.set_cons_succ]
                refine wpAnyS_take (v := ?_) hA rfl (fun _ _ _ h => h) (Or.inl ⟨by rfl, ?_⟩) hF (fun hA => ?_)
                rotate_left
                · intro wS hSw; (try dsimp only at hSw); obtain ⟨s1, s2, s3, s4⟩ := hSw; first | (apply Eq.trans; apply ex_ld_id; exact rfl; exact rfl; assumption; with_reducible rfl) | (apply Eq.trans; apply ex_lk_at; exact rfl; exact rfl; exact rfl; assumption; assumption; with_reducible rfl) | (go_simp; try with_reducible rfl)
                try simp only [List.getElem_toArray, List.getElem_cons_zero, List.getElem_cons_succ, Act.put, List.setIfInBounds_toArray, List.set_cons_zero, List.set_cons_succ]
                refine wpAnyS_take (v := ?_) hA rfl (fun _ _ _ h => h) (Or.inl ⟨by rfl, ?_⟩) hF (fun hA => ?_)
                rotate_left
                · intro wS hSw; (try dsimp only at hSw); obtain ⟨s1, s2, s3, s4⟩ := hSw; first | (apply Eq.trans; apply ex_ld_id; exact rfl; exact rfl; assumption; with_reducible rfl) | (apply Eq.trans; apply ex_lk_at; exact rfl; exact rfl; exact rfl; assumption; assumption; with_reducible rfl) | (go_simp; try with_reducible rfl)
                try simp only [List.getElem_toArray, List.getElem_cons_zero, List.getElem_cons_succ, Act.put, List.setIfInBounds_toArray, List.set_cons_zero, List.set_cons_succ]
                refine wpAnyS_take (v := ?_) hA rfl (fun _ _ _ h => h) (Or.inl ⟨by rfl, ?_⟩) hF (fun hA => ?_)
                rotate_left
                · intro wS hSw; (try dsimp only at hSw); obtain ⟨s1, s2, s3, s4⟩ := hSw; first | (apply Eq.trans; apply ex_ld_id; exact rfl; exact rfl; assumption; with_reducible rfl) | (apply Eq.trans; apply ex_lk_at; exact rfl; exact rfl; exact rfl; assumption; assumption; with_reducible rfl) | (go_simp; try with_reducible rfl)
                try simp only [List.getElem_toArray, List.getElem_cons_zero, List.getElem_cons_succ, Act.put, List.setIfInBounds_toArray, List.set_cons_zero, List.set_cons_succ]
                refine wpAnyS_take (v := ?_) hA rfl (fun _ _ _ h => h) (Or.inl ⟨by rfl, ?_⟩) hF (fun hA => ?_)
                rotate_left
                · intro wS hSw; (try dsimp only at hSw); obtain ⟨s1, s2, s3, s4⟩ := hSw; first | (apply Eq.trans; apply ex_ld_id; exact rfl; exact rfl; assumption; with_reducible rfl) | (apply Eq.trans; apply ex_lk_at; exact rfl; exact rfl; exact rfl; assumption; assumption; with_reducible rfl) | (go_simp; try with_reducible rfl)
                try simp only [List.getElem_toArray, List.getElem_cons_zero, List.getElem_cons_succ, Act.put, List.setIfInBounds_toArray, List.set_cons_zero, List.set_cons_succ]
                refine wpAnyS_take (v := ?_) hA rfl (fun _ _ _ h => h) (Or.inl ⟨by rfl, ?_⟩) hF (fun hA => ?_)
                rotate_left
                · intro wS hSw; (try dsimp only at hSw); obtain ⟨s1, s2, s3, s4⟩ := hSw; first | (apply Eq.trans; apply ex_ld_id; exact rfl; exact rfl; assumption; with_reducible rfl) | (apply Eq.trans; apply ex_lk_at; exact rfl; exact rfl; exact rfl; assumption; assumption; with_reducible rfl) | (go_simp; try with_reducible rfl)
                try simp only [List.getElem_toArray, List.getElem_cons_zero, List.getElem_cons_succ, Act.put, List.setIfInBounds_toArray, List.set_cons_zero, List.set_cons_succ]
                refine wpAnyS_one hA rfl (fun K' hK => ?_)
                go_simp
                go_at_call 24
                refine (reaches_any _ D Fd G (dE.fr0 fyd) (LL i) z).mono ?_
                rintro e u1 ⟨rfl, hu1⟩
                have fu1 := fyd.step0 hu1
                replace hF := keep _ _ hu1 hF
                refine hK.out _ _ hF (fun hA => ?_)
                clear hK K'
                as_aux_lemma =>
                rw [HRA.out]
                refine wpAnyS_take (v := ?_) hA rfl (fun _ _ _ h => h) (Or.inl ⟨by rfl, ?_⟩) hF (fun hA => ?_)
                rotate_left
                · intro wS hSw; (try dsimp only at hSw); obtain ⟨s1, s2, s3, s4⟩ := hSw; first | (apply Eq.trans; apply ex_ld_id; exact rfl; exact rfl; assumption; with_reducible rfl) | (apply Eq.trans; apply ex_lk_at; exact rfl; exact rfl; exact rfl; assumption; assumption; with_reducible rfl) | (go_simp; try with_reducible rfl)
                try simp only [List.getElem_toArray, List.getElem_cons_zero, List.getElem_cons_succ, Act.put, List.setIfInBounds_toArray, List.set_cons_zero, List.set_cons_succ]
                refine wpAnyS_take (v := undef) hA rfl (fun _ _ _ h => h) (Or.inr ⟨by rfl, rfl⟩) hF (fun hA => ?_)
                try simp only [List.getElem_toArray, List.getElem_cons_zero, List.getElem_cons_succ, Act.put, List.setIfInBounds_toArray, List.set_cons_zero, List.set_cons_succ]
                refine wpAnyS_take (v := undef) hA rfl (fun _ _ _ h => h) (Or.inr ⟨by rfl, rfl⟩) hF (fun hA => ?_)
                try simp only [List.getElem_toArray, List.getElem_cons_zero, List.getElem_cons_succ, Act.put, List.setIfInBounds_toArray, List.set_cons_zero, List.set_cons_succ]
                refine wpAnyS_take (v := undef) hA rfl (fun _ _ _ h => h) (Or.inr ⟨by rfl, rfl⟩) hF (fun hA => ?_)
                try simp only [List.getElem_toArray, List.getElem_cons_zero, List.getElem_cons_succ, Act.put, List.setIfInBounds_toArray, List.set_cons_zero, List.set_cons_succ]
                refine wpAnyS_take (v := undef) hA rfl (fun _ _ _ h => h) (Or.inr ⟨by rfl, rfl⟩) hF (fun hA => ?_)
                try simp only [List.getElem_toArray, List.getElem_cons_zero, List.getElem_cons_succ, Act.put, List.setIfInBounds_toArray, List.set_cons_zero, List.set_cons_succ]
                refine wpAnyS_take (v := ?_) hA rfl (fun _ _ _ h => h) (Or.inl ⟨by rfl, ?_⟩) hF (fun hA => ?_)
                rotate_left
                · intro wS hSw; (try dsimp only at hSw); obtain ⟨s1, s2, s3, s4⟩ := hSw; first | (apply Eq.trans; apply ex_ld_id; exact rfl; exact rfl; assumption; with_reducible rfl) | (apply Eq.trans; apply ex_lk_at; exact rfl; exact rfl; exact rfl; assumption; assumption; with_reducible rfl) | (go_simp; try with_reducible rfl)
                try simp only [List.getElem_toArray, List.getElem_cons_zero, List.getElem_cons_succ, Act.put, List.setIfInBounds_toArray, List.set_cons_zero, List.set_cons_succ]
                refine wpAnyS_end hA rfl ?_
                simp only [List.drop_succ_cons, List.drop_zero]
                clear hF
                go_wp2_with fail
                go_roundg (m - (y + 1))
                case measure => omega
                case rel => exact ⟨y + 1, by simp, rfl, by omega, fu1⟩
              | false =>
                cases hrb : ancG G (LL j) z with
                | true =>
                  have hb1 : decide (z ∈ la) = true := by rw [HB.out, hra, hrb]; rfl
                  have HRA := Lib.hid hra
                  have HRB := Lib.hid hrb
                  clear hra hrb
                  go_wp2_with fail
                  refine wp_region_M 13 14 [⟨680564733841876926926749214863536422912, 128, 0⟩, ⟨1361129467683753853853498429727072845824, 512, 0⟩, ⟨2722258935367507707706996859454145691648, 262144, 0⟩, ⟨5444517870735015415413993718908291383296, 4763953136893138488487244504044754960384, 7⟩, ⟨10889035741470030830827987437816582766592, 5444517870735015415413993718908291383296, 8⟩, ⟨21778071482940061661655974875633165533184, 10889035741470030830827987437816582766720, 16⟩, ⟨43556142965880123323311949751266331066368, 10889035741470030830827987437816582767616, 16⟩, ⟨87112285931760246646623899502532662132736, 10889035741470030830827987437816583028736, 16⟩, ⟨174224571863520493293247799005065324265472, 163335536122050462462419811567248741498880, 240⟩, ⟨348449143727040986586495598010130648530944, 185113607604990524124075786442881907032064, 272⟩, ⟨696898287454081973172991196020261297061888, 4096, 0⟩, ⟨1393796574908163946345982392040522594123776, 262144, 0⟩, ⟨2787593149816327892691964784081045188247552, 2090694862362245919518973588060783891185664, 3072⟩, ⟨5575186299632655785383929568162090376495104, 3136042293543368879278460382091175836778496, 4608⟩] [(true, 0), (true, 1), (true, 2), (true, 10), (true, 11), (true, 12), (false, 3), (true, 4), (true, 5), (true, 6), (true, 7), (false, 8), (true, 9)] (fun w' => rdI w' pk 0 = some z ∧ rdI w' pa 0 = some (LL i) ∧ rdI w' pb 0 = some (LL j) ∧ mpI w' R = some (setV la)) (by kernel_rfl) rfl (by kernel_rfl) (by kernel_rfl) (by kernel_rfl) F0 (fun hA hF => ?_)
                  refine wpAnyS_take (v := ?_) hA rfl (fun _ _ _ h => h) (Or.inl ⟨by rfl, ?_⟩) hF (fun hA => ?_)
                  rotate_left
                  · intro wS hSw; (try dsimp only at hSw); obtain ⟨s1, s2, s3, s4⟩ := hSw; first | (apply Eq.trans; apply ex_ld_id; exact rfl; exact rfl; assumption; with_reducible rfl) | (apply Eq.trans; apply ex_lk_at; exact rfl; exact rfl; exact rfl; assumption; assumption; with_reducible rfl) | (go_simp; try with_reducible rfl)
                  try simp only [List.getElem_toArray, List.getElem_cons_zero, List.getElem_cons_succ, Act.put, List.setIfInBounds_toArray, List.set_cons_zero, List.set_cons_succ]
                  refine wpAnyS_take (v := ?_) hA rfl (fun _ _ _ h => h) (Or.inl ⟨by rfl, ?_⟩) hF (fun hA => ?_)
                  rotate_left
                  · intro wS hSw; (try dsimp only at hSw); obtain ⟨s1, s2, s3, s4⟩ := hSw; first | (apply Eq.trans; apply ex_ld_id; exact rfl; exact rfl; assumption; with_reducible rfl) | (apply Eq.trans; apply ex_lk_at; exact rfl; exact rfl; exact rfl; assumption; assumption; with_reducible rfl) | (go_simp; try with_reducible rfl)
                  try simp only [List.getElem_toArray, List.getElem_cons_zero, List.getElem_cons_succ, Act.put, List.setIfInBounds_toArray, List.set_cons_zero, List.set_cons_succ]
                  refine wpAnyS_take (v := ?_) hA rfl (fun _ _ _ h => h) (Or.inl ⟨by rfl, ?_⟩) hF (fun hA => ?_)
                  rotate_left
                  · intro wS hSw; (try dsimp only at hSw); obtain ⟨s1, s2, s3, s4⟩ := hSw; first | (apply Eq.trans; apply ex_ld_id; exact rfl; exact rfl; assumption; with_reducible rfl) | (apply Eq.trans; apply ex_lk_at; exact rfl; exact rfl; exact rfl; assumption; assumption; with_reducible rfl) | (go_simp; try with_reducible rfl)
                  try simp only [List.getElem_toArray, List.getElem_cons_zero, List.getElem_cons_succ, Act.put, List.setIfInBounds_toArray, List.set_cons_zero, List.set_cons_succ]
                  refine wpAnyS_take (v := ?_) hA rfl (fun _ _ _ h => h) (Or.inl ⟨by rfl, ?_⟩) hF (fun hA => ?_)
                  rotate_left
                  · intro wS hSw; (try dsimp only at hSw); obtain ⟨s1, s2, s3, s4⟩ := hSw; first | (apply Eq.trans; apply ex_ld_id; exact rfl; exact rfl; assumption; with_reducible rfl) | (apply Eq.trans; apply ex_lk_at; exact rfl; exact rfl; exact rfl; assumption; assumption; with_reducible rfl) | (go_simp; try with_reducible rfl)
                  try simp only [List.getElem_toArray, List.getElem_cons_zero, List.getElem_cons_succ, Act.put, List.setIfInBounds_toArray, List.set_cons_zero, List.set_cons_succ]
                  refine wpAnyS_take (v := ?_) hA rfl (fun _ _ _ h => h) (Or.inl ⟨by rfl, ?_⟩) hF (fun hA => ?_)
                  rotate_left
                  · intro wS hSw; (try dsimp only at hSw); obtain ⟨s1, s2, s3, s4⟩ := hSw; first | (apply Eq.trans; apply ex_ld_id; exact rfl; exact rfl; assumption; with_reducible rfl) | (apply Eq.trans; apply ex_lk_at; exact rfl; exact rfl; exact rfl; assumption; assumption; with_reducible rfl) | (go_simp; try with_reducible rfl)
                  try simp only [List.getElem_toArray, List.getElem_cons_zero, List.getElem_cons_succ, Act.put, List.setIfInBounds_toArray, List.set_cons_zero, List.set_cons_succ]
                  refine wpAnyS_take (v := ?_) hA rfl (fun _ _ _ h => h) (Or.inl ⟨by rfl, ?_⟩) hF (fun hA => ?_)
                  rotate_left
                  · intro wS hSw; (try dsimp only at hSw); obtain ⟨s1, s2, s3, s4⟩ := hSw; first | (apply Eq.trans; apply ex_ld_id; exact rfl; exact rfl; assumption; with_reducible rfl) | (apply Eq.trans; apply ex_lk_at; exact rfl; exact rfl; exact rfl; assumption; assumption; with_reducible rfl) | (go_simp; try with_reducible rfl)
                  try simp only [List.getElem_toArray, List.getElem_cons_zero, List.getElem_cons_succ, Act.put, List.setIfInBounds_toArray, List.set_cons_zero, List.set_cons_succ]
                  refine wpAnyS_one hA rfl (fun K' hK => ?_)
                  go_simp
                  go_at_call 24
                  refine (reaches_any _ D Fd G (dE.fr0 fyd) (LL i) z).mono ?_
                  rintro e u1 ⟨rfl, hu1⟩
                  have fu1 := fyd.step0 hu1
                  replace hF := keep _ _ hu1 hF
                  refine hK.out _ _ hF (fun hA => ?_)
                  clear hK K'
                  as_aux_lemma =>
                  rw [HRA.out]
                  refine wpAnyS_take (v := ?_) hA rfl (fun _ _ _ h => h) (Or.inl ⟨by rfl, ?_⟩) hF (fun hA => ?_)
                  rotate_left
                  · intro wS hSw; (try dsimp only at hSw); obtain ⟨s1, s2, s3, s4⟩ := hSw; first | (apply Eq.trans; apply ex_ld_id; exact rfl; exact rfl; assumption; with_reducible rfl) | (apply Eq.trans; apply ex_lk_at; exact rfl; exact rfl; exact rfl; assumption; assumption; with_reducible rfl) | (go_simp; try with_reducible rfl)
                  try simp only [List.getElem_toArray, List.getElem_cons_zero, List.getElem_cons_succ, Act.put, List.setIfInBounds_toArray, List.set_cons_zero, List.set_cons_succ]
                  refine wpAnyS_take (v := ?_) hA rfl (fun _ _ _ h => h) (Or.inl ⟨by rfl, ?_⟩) hF (fun hA => ?_)
                  rotate_left
                  · intro wS hSw; (try dsimp only at hSw); obtain ⟨s1, s2, s3, s4⟩ := hSw; first | (apply Eq.trans; apply ex_ld_id; exact rfl; exact rfl; assumption; with_reducible rfl) | (apply Eq.trans; apply ex_lk_at; exact rfl; exact rfl; exact rfl; assumption; assumption; with_reducible rfl) | (go_simp; try with_reducible rfl)
                  try simp only [List.getElem_toArray, List.getElem_cons_zero, List.getElem_cons_succ, Act.put, List.setIfInBounds_toArray, List.set_cons_zero, List.set_cons_succ]
                  refine wpAnyS_take (v := ?_) hA rfl (fun _ _ _ h => h) (Or.inl ⟨by rfl, ?_⟩) hF (fun hA => ?_)
                  rotate_left
                  · intro wS hSw; (try dsimp only at hSw); obtain ⟨s1, s2, s3, s4⟩ := hSw; first | (apply Eq.trans; apply ex_ld_id; exact rfl; exact rfl; assumption; with_reducible rfl) | (apply Eq.trans; apply ex_lk_at; exact rfl; exact rfl; exact rfl; assumption; assumption; with_reducible rfl) | (go_simp; try with_reducible rfl)
                  try simp only [List.getElem_toArray, List.getElem_cons_zero, List.getElem_cons_succ, Act.put, List.setIfInBounds_toArray, List.set_cons_zero, List.set_cons_succ]
                  refine wpAnyS_take (v := ?_) hA rfl (fun _ _ _ h => h) (Or.inl ⟨by rfl, ?_⟩) hF (fun hA => ?_)
                  rotate_left
                  · intro wS hSw; (try dsimp only at hSw); obtain ⟨s1, s2, s3, s4⟩ := hSw; first | (apply Eq.trans; apply ex_ld_id; exact rfl; exact rfl; assumption; with_reducible rfl) | (apply Eq.trans; apply ex_lk_at; exact rfl; exact rfl; exact rfl; assumption; assumption; with_reducible rfl) | (go_simp; try with_reducible rfl)
                  try simp only [List.getElem_toArray, List.getElem_cons_zero, List.getElem_cons_succ, Act.put, List.setIfInBounds_toArray, List.set_cons_zero, List.set_cons_succ]
                  refine wpAnyS_one hA rfl (fun K' hK => ?_)
                  rw [if_pos (by rfl)]
                  go_simp
                  go_at_call 24
                  refine (reaches_any _ D Fd G (dE.fr0 fu1) (LL j) z).mono ?_
                  rintro e u2 ⟨rfl, hu2⟩
                  have fu2 := fu1.step0 hu2
                  replace hF := keep _ _ hu2 hF
                  refine hK.out _ _ hF (fun hA => ?_)
                  clear hK K'
                  as_aux_lemma =>
                  rw [HRB.out]
                  refine wpAnyS_take (v := ?_) hA rfl (fun _ _ _ h => h) (Or.inl ⟨by rfl, ?_⟩) hF (fun hA => ?_)
                  rotate_left
                  · intro wS hSw; (try dsimp only at hSw); obtain ⟨s1, s2, s3, s4⟩ := hSw; first | (apply Eq.trans; apply ex_ld_id; exact rfl; exact rfl; assumption; with_reducible rfl) | (apply Eq.trans; apply ex_lk_at; exact rfl; exact rfl; exact rfl; assumption; assumption; with_reducible rfl) | (go_simp; try with_reducible rfl)
                  try simp only [List.getElem_toArray, List.getElem_cons_zero, List.getElem_cons_succ, Act.put, List.setIfInBounds_toArray, List.set_cons_zero, List.set_cons_succ]
                  refine wpAnyS_end hA rfl ?_
                  simp only [List.drop_succ_cons, List.drop_zero]
                  clear hF
                  go_wp2_with fail
                  go_roundg (m - (y + 1))
                  case measure => omega
                  case rel => exact ⟨y + 1, by simp, rfl, by omega, fu2⟩
                | false =>
                  have hb1 : decide (z ∈ la) = false := by rw [HB.out, hra, hrb]; rfl
                  have HRA := Lib.hid hra
                  have HRB := Lib.hid hrb
                  clear hra hrb
                  go_wp2_with fail
                  refine wp_region_M 13 14 [⟨680564733841876926926749214863536422912, 128, 0⟩, ⟨1361129467683753853853498429727072845824, 512, 0⟩, ⟨2722258935367507707706996859454145691648, 262144, 0⟩, ⟨5444517870735015415413993718908291383296, 4763953136893138488487244504044754960384, 7⟩, ⟨10889035741470030830827987437816582766592, 5444517870735015415413993718908291383296, 8⟩, ⟨21778071482940061661655974875633165533184, 10889035741470030830827987437816582766720, 16⟩, ⟨43556142965880123323311949751266331066368, 10889035741470030830827987437816582767616, 16⟩, ⟨87112285931760246646623899502532662132736, 10889035741470030830827987437816583028736, 16⟩, ⟨174224571863520493293247799005065324265472, 163335536122050462462419811567248741498880, 240⟩, ⟨348449143727040986586495598010130648530944, 185113607604990524124075786442881907032064, 272⟩, ⟨696898287454081973172991196020261297061888, 4096, 0⟩, ⟨1393796574908163946345982392040522594123776, 262144, 0⟩, ⟨2787593149816327892691964784081045188247552, 2090694862362245919518973588060783891185664, 3072⟩, ⟨5575186299632655785383929568162090376495104, 3136042293543368879278460382091175836778496, 4608⟩] [(true, 0), (true, 1), (true, 2), (true, 10), (true, 11), (true, 12), (false, 3), (true, 4), (true, 5), (true, 6), (true, 7), (false, 8), (true, 9)] (fun w' => rdI w' pk 0 = some z ∧ rdI w' pa 0 = some (LL i) ∧ rdI w' pb 0 = some (LL j) ∧ mpI w' R = some (setV la)) (by kernel_rfl) rfl (by kernel_rfl) (by kernel_rfl) (by kernel_rfl) F0 (fun hA hF => ?_)
                  refine wpAnyS_take (v := ?_) hA rfl (fun _ _ _ h => h) (Or.inl ⟨by rfl, ?_⟩) hF (fun hA => ?_)
                  rotate_left
                  · intro wS hSw; (try dsimp only at hSw); obtain ⟨s1, s2, s3, s4⟩ := hSw; first | (apply Eq.trans; apply ex_ld_id; exact rfl; exact rfl; assumption; with_reducible rfl) | (apply Eq.trans; apply ex_lk_at; exact rfl; exact rfl; exact rfl; assumption; assumption; with_reducible rfl) | (go_simp; try with_reducible rfl)
                  try simp only [List.getElem_toArray, List.getElem_cons_zero, List.getElem_cons_succ, Act.put, List.setIfInBounds_toArray, List.set_cons_zero, List.set_cons_succ]
                  refine wpAnyS_take (v := ?_) hA rfl (fun _ _ _ h => h) (Or.inl ⟨by rfl, ?_⟩) hF (fun hA => ?_)
                  rotate_left
                  · intro wS hSw; (try dsimp only at hSw); obtain ⟨s1, s2, s3, s4⟩ := hSw; first | (apply Eq.trans; apply ex_ld_id; exact rfl; exact rfl; assumption; with_reducible rfl) | (apply Eq.trans; apply ex_lk_at; exact rfl; exact rfl; exact rfl; assumption; assumption; with_reducible rfl) | (go_simp; try with_reducible rfl)
                  try simp only [List.getElem_toArray, List.getElem_cons_zero, List.getElem_cons_succ, Act.put, List.setIfInBounds_toArray, List.set_cons_zero, List.set_cons_succ]
                  refine wpAnyS_take (v := ?_) hA rfl (fun _ _ _ h => h) (Or.inl ⟨by rfl, ?_⟩) hF (fun hA => ?_)
                  rotate_left
                  · intro wS hSw; (try dsimp only at hSw); obtain ⟨s1, s2, s3, s4⟩ := hSw; first | (apply Eq.trans; apply ex_ld_id; exact rfl; exact rfl; assumption; with_reducible rfl) | (apply Eq.trans; apply ex_lk_at; exact rfl; exact rfl; exact rfl; assumption; assumption; with_reducible rfl) | (go_simp; try with_reducible rfl)
                  try simp only [List.getElem_toArray, List.getElem_cons_zero, List.getElem_cons_succ, Act.put, List.setIfInBounds_toArray, List.set_cons_zero, List.set_cons_succ]
                  refine wpAnyS_take (v := ?_) hA rfl (fun _ _ _ h => h) (Or.inl ⟨by rfl, ?_⟩) hF (fun hA => ?_)
                  rotate_left
                  · intro wS hSw; (try dsimp only at hSw); obtain ⟨s1, s2, s3, s4⟩ := hSw; first | (apply Eq.trans; apply ex_ld_id; exact rfl; exact rfl; assumption; with_reducible rfl) | (apply Eq.trans; apply ex_lk_at; exact rfl; exact rfl; exact rfl; assumption; assumption; with_reducible rfl) | (go_simp; try with_reducible rfl)
                  try simp only [List.getElem_toArray, List.getElem_cons_zero, List.getElem_cons_succ, Act.put, List.setIfInBounds_toArray, List.set_cons_zero, List.set_cons_succ]
                  refine wpAnyS_take (v := ?_) hA rfl (fun _ _ _ h => h) (Or.inl ⟨by rfl, ?_⟩) hF (fun hA => ?_)
                  rotate_left
                  · intro wS hSw; (try dsimp only at hSw); obtain ⟨s1, s2, s3, s4⟩ := hSw; first | (apply Eq.trans; apply ex_ld_id; exact rfl; exact rfl; assumption; with_reducible rfl) | (apply Eq.trans; apply ex_lk_at; exact rfl; exact rfl; exact rfl; assumption; assumption; with_reducible rfl) | (go_simp; try with_reducible rfl)
                  try simp only [List.getElem_toArray, List.getElem_cons_zero, List.getElem_cons_succ, Act.put, List.setIfInBounds_toArray, List.set_cons_zero, List.set_cons_succ]
                  refine wpAnyS_take (v := ?_) hA rfl (fun _ _ _ h => h) (Or.inl ⟨by rfl, ?_⟩) hF (fun hA => ?_)
                  rotate_left
                  · intro wS hSw; (try dsimp only at hSw); obtain ⟨s1, s2, s3, s4⟩ := hSw; first | (apply Eq.trans; apply ex_ld_id; exact rfl; exact rfl; assumption; with_reducible rfl) | (apply Eq.trans; apply ex_lk_at; exact rfl; exact rfl; exact rfl; assumption; assumption; with_reducible rfl) | (go_simp; try with_reducible rfl)
                  try simp only [List.getElem_toArray, List.getElem_cons_zero, List.getElem_cons_succ, Act.put, List.setIfInBounds_toArray, List.set_cons_zero, List.set_cons_succ]
                  refine wpAnyS_one hA rfl (fun K' hK => ?_)
                  go_simp
                  go_at_call 24
                  refine (reaches_any _ D Fd G (dE.fr0 fyd) (LL i) z).mono ?_
                  rintro e u1 ⟨rfl, hu1⟩
                  have fu1 := fyd.step0 hu1
                  replace hF := keep _ _ hu1 hF
                  refine hK.out _ _ hF (fun hA => ?_)
                  clear hK K'
                  as_aux_lemma =>
                  rw [HRA.out]
                  refine wpAnyS_take (v := ?_) hA rfl (fun _ _ _ h => h) (Or.inl ⟨by rfl, ?_⟩) hF (fun hA => ?_)
                  rotate_left
                  · intro wS hSw; (try dsimp only at hSw); obtain ⟨s1, s2, s3, s4⟩ := hSw; first | (apply Eq.trans; apply ex_ld_id; exact rfl; exact rfl; assumption; with_reducible rfl) | (apply Eq.trans; apply ex_lk_at; exact rfl; exact rfl; exact rfl; assumption; assumption; with_reducible rfl) | (go_simp; try with_reducible rfl)
                  try simp only [List.getElem_toArray, List.getElem_cons_zero, List.getElem_cons_succ, Act.put, List.setIfInBounds_toArray, List.set_cons_zero, List.set_cons_succ]
                  refine wpAnyS_take (v := ?_) hA rfl (fun _ _ _ h => h) (Or.inl ⟨by rfl, ?_⟩) hF (fun hA => ?_)
                  rotate_left
                  · intro wS hSw; (try dsimp only at hSw); obtain ⟨s1, s2, s3, s4⟩ := hSw; first | (apply Eq.trans; apply ex_ld_id; exact rfl; exact rfl; assumption; with_reducible rfl) | (apply Eq.trans; apply ex_lk_at; exact rfl; exact rfl; exact rfl; assumption; assumption; with_reducible rfl) | (go_simp; try with_reducible rfl)
                  try simp only [List.getElem_toArray, List.getElem_cons_zero, List.getElem_cons_succ, Act.put, List.setIfInBounds_toArray, List.set_cons_zero, List.set_cons_succ]
                  refine wpAnyS_take (v := ?_) hA rfl (fun _ _ _ h => h) (Or.inl ⟨by rfl, ?_⟩) hF (fun hA => ?_)
                  rotate_left
                  · intro wS hSw; (try dsimp only at hSw); obtain ⟨s1, s2, s3, s4⟩ := hSw; first | (apply Eq.trans; apply ex_ld_id; exact rfl; exact rfl; assumption; with_reducible rfl) | (apply Eq.trans; apply ex_lk_at; exact rfl; exact rfl; exact rfl; assumption; assumption; with_reducible rfl) | (go_simp; try with_reducible rfl)
                  try simp only [List.getElem_toArray, List.getElem_cons_zero, List.getElem_cons_succ, Act.put, List.setIfInBounds_toArray, List.set_cons_zero, List.set_cons_succ]
                  refine wpAnyS_take (v := ?_) hA rfl (fun _ _ _ h => h) (Or.inl ⟨by rfl, ?_⟩) hF (fun hA => ?_)
                  rotate_left
                  · intro wS hSw; (try dsimp only at hSw); obtain ⟨s1, s2, s3, s4⟩ := hSw; first | (apply Eq.trans; apply ex_ld_id; exact rfl; exact rfl; assumption; with_reducible rfl) | (apply Eq.trans; apply ex_lk_at; exact rfl; exact rfl; exact rfl; assumption; assumption; with_reducible rfl) | (go_simp; try with_reducible rfl)
                  try simp only [List.getElem_toArray, List.getElem_cons_zero, List.getElem_cons_succ, Act.put, List.setIfInBounds_toArray, List.set_cons_zero, List.set_cons_succ]
                  refine wpAnyS_one hA rfl (fun K' hK => ?_)
                  rw [if_pos (by rfl)]
                  go_simp
                  go_at_call 24
                  refine (reaches_any _ D Fd G (dE.fr0 fu1) (LL j) z).mono ?_
                  rintro e u2 ⟨rfl, hu2⟩
                  have fu2 := fu1.step0 hu2
                  replace hF := keep _ _ hu2 hF
                  refine hK.out _ _ hF (fun hA => ?_)
                  clear hK K'
                  as_aux_lemma =>
                  rw [HRB.out]
                  refine wpAnyS_take (v := ?_) hA rfl (fun _ _ _ h => h) (Or.inl ⟨by rfl, ?_⟩) hF (fun hA => ?_)
                  rotate_left
                  · intro wS hSw; (try dsimp only at hSw); obtain ⟨s1, s2, s3, s4⟩ := hSw; first | (apply Eq.trans; apply ex_ld_id; exact rfl; exact rfl; assumption; with_reducible rfl) | (apply Eq.trans; apply ex_lk_at; exact rfl; exact rfl; exact rfl; assumption; assumption; with_reducible rfl) | (go_simp; try with_reducible rfl)
                  try simp only [List.getElem_toArray, List.getElem_cons_zero, List.getElem_cons_succ, Act.put, List.setIfInBounds_toArray, List.set_cons_zero, List.set_cons_succ]
                  refine wpAnyS_end hA rfl ?_
                  simp only [List.drop_succ_cons, List.drop_zero]
                  clear hF
                  go_wp2_with fail
                  go_roundg (m - (y + 1))
                  case measure => omega
                  case rel => exact ⟨y + 1, by simp, rfl, by omega, fu2⟩
            · have ey : y = m := by omega
              subst ey
              have d9 := dE.fr0 hfy
              have sX9 := sXE.fr0 hfy
              have fw9 := fwE.step0 hfy
              clear hfy dE vaE vbE sXE fwE hR HBZ
              go_wp2_with fail
              go_at_call 26
              refine (heads_any _ D Fd G d9).mono ?_
              rintro e wh ⟨lh, ⟨Ah, ch, rfl, hoh, hfh⟩, hrh, hmh, hbh⟩
              have HH := Lib.hid hmh
              have dH := d9.fr0 hfh
              have sXH := sX9.fr0 hfh
              have fwH := fw9.step0 hfh
              have sH := Sl.own hoh
              clear hmh hoh hfh d9 sX9 fw9 hrh
              go_wp2_with fail
              go_loopg [147] lh.length (fun gk kv wr => BasR wh lh.length gk kv wr)
              case atStart => exact ⟨0, rfl, rfl, by omega, Fr.refl _ _⟩
              case round =>
                obtain ⟨x, rfl, rfl, hx, hfx⟩ := hrel
                obtain ⟨wq, ewq⟩ : ∃ wq, wq = wr := ⟨wr, rfl⟩
                subst ewq
                by_cases hltx : x < lh.length
                · have z0 : (0 : Int) ≤ (x : Int) := by omega
                  have z1 : (x : Int) < (lh.length : Int) := by omega
                  obtain ⟨gh, oh, rfl⟩ := sH.ad (by omega)
                  have rc := (sH.fr0 hfx).id x hltx
                  have hkid := ((HH.out _).1 (List.getElem_mem hltx)).2
                  generalize lh[x] = h at rc hkid
                  have s1 : bxI (wq.alloc (ido zID)) wq.heap.size = some zID := bxI_new _ _
                  obtain ⟨a1', a2', q0⟩ := putB_fr s1 h
                  have f1 : Fr noB wq (putB (wq.alloc (ido zID)) wq.heap.size h) := ((Fr.refl noB wq).alloc _).step1 a1' (Nat.le_refl _)
                  have rc1 := rdI_fr rc (rdI_lt rc) ((Fr.refl noB wq).alloc (ido zID)) (by simp [noB])
                  have rcb := bxI_rd q0
                  have fx1 := hfx.step0 f1
                  have HK := Lib.hid hkid
                  clear hkid a1' a2'
                  go_wp2_with fail
                  generalize wq.heap.size = ph at rcb fx1 ⊢
                  generalize putB (wq.alloc (ido zID)) ph h = w9 at rcb fx1 ⊢
                  clear rc1 q0 s1 rc f1
                  go_loopg [153] y (fun gk yv wy => BasR w9 y gk yv wy)
                  case atStart => exact ⟨0, rfl, rfl, by omega, Fr.refl _ _⟩
                  case round =>
                    obtain ⟨k, rfl, rfl, hk, hfk⟩ := hrel
                    by_cases hltk : k < y
                    · have k0 : (0 : Int) ≤ (k : Int) := by omega
                      have k1 : (k : Int) < (y : Int) := by omega
                      have fxk := fx1.step0 hfk
                      have ry := (sXH.fr0 fxk).id k (by rw [rowL_len]; exact hltk)
                      generalize (rowL y)[k]'(by rw [rowL_len]; exact hltk) = z at ry
                      have s1 : bxI (wr.alloc (ido zID)) wr.heap.size = some zID := bxI_new _ _
                      obtain ⟨a1', a2', q0⟩ := putB_fr s1 z
                      have f1 : Fr noB wr (putB (wr.alloc (ido zID)) wr.heap.size z) := ((Fr.refl noB wr).alloc _).step1 a1' (Nat.le_refl _)
                      have ry1 := rdI_fr ry (rdI_lt ry) ((Fr.refl noB wr).alloc (ido zID)) (by simp [noB])
                      have rz2 := bxI_rd q0
                      have rh2 := rdI_fr rcb (rdI_lt rcb) (hfk.step0 f1) (by simp [noB])
                      have fxz := fxk.step0 f1
                      clear a1' a2'
                      by_cases hzh : z = h
                      · have ek : (!decide (z = h)) = false := by simp [hzh]
                        have ek2 : decide (z = h) = true := by simp [hzh]
                        clear hzh
                        go_wp2_with fail
                        go_roundg (y - (k + 1))
                        case measure => omega
                        case rel => exact ⟨k + 1, by simp, rfl, by omega, hfk.step0 f1⟩
                      · have ek : (!decide (z = h)) = true := by simp [hzh]
                        have ek2 : decide (z = h) = false := by simp [hzh]
                        have HZH := Lib.hid hzh
                        clear hzh
                        go_wp2_with fail
                        go_at_call 24
                        refine (reaches_any _ D Fd G (dH.fr0 fxz) z h).mono ?_
                        rintro e v2 ⟨rfl, hv2⟩
                        rw [head_apart HOK.out HK.out HZH.out]
                        go_wp2_with fail
                        go_roundg (y - (k + 1))
                        case measure => omega
                        case rel => exact ⟨k + 1, by simp, rfl, by omega, (hfk.step0 f1).step0 hv2⟩
                    · have ek : k = y := by omega
                      subst ek
                      go_wp2_with fail
                      go_roundg (lh.length - (x + 1))
                      case measure => omega
                      case rel => exact ⟨x + 1, by simp, rfl, by omega, fx1.step0 hfk⟩
                · have ex : x = lh.length := by omega
                  subst ex
                  have d10 := dH.fr0 hfx
                  have fw10 := fwH.step0 hfx
                  clear sH sXH dH fwH hfx
                  go_wp2_with fail
                  go_at_call 26
                  refine (heads_any _ D Fd G d10).mono ?_
                  rintro e v1 ⟨l1, ⟨A1, c1, rfl, ho1, hf1⟩, hr1, hm1, hb1⟩
                  go_wp2_with fail
                  go_at_call 20
                  refine (ancestors_any _ D Fd G (d10.fr0 hf1) _ _ _ l1 rfl (Sl.own ho1) (by omega)).mono ?_
                  rintro e v2 ⟨l2, ⟨A2, c2, rfl, ho2, hf2⟩, hr2, hm2, hb2⟩
                  have hall : l2.length = G.length := heads_all HOK.out (swoD G) hm1 hr2 hm2
                  rw [hall]
                  have f12 := hf1.step0 hf2
                  clear hm1 hr2 hm2 hr1 ho1 ho2
                  go_wp2_with fail
                  go_at_call 13
                  refine (len_any _ D Fd G (d10.fr0 f12)).mono ?_
                  rintro e v3 ⟨rfl, hf3⟩
                  go_wp2_with fail
                  go_ret
                  exact ⟨by first | rfl | simp, ((fw10.step0 f12).step0 hf3).below⟩
end Go.Proofs.Ytchiclnnoealdaa
