/- The law DagBases: it returns true. -/
import Derived.Test.YtchiclnnoealdaaGrownW
import Derived.Test.YtchiclnnoealdaaRefW
import Derived.Deep.CutRange
namespace Go.Proofs.Ytchiclnnoealdaa
open Go.RowKit Go.Maps Go.Sort Go.Shelf
set_option linter.unusedVariables false
set_option linter.unusedSimpArgs false

theorem ex_al_at {ρ : Operand → Value} {o : Oper} (ho : o.op = .alloc 24) (w : World) : (execOp ρ o).run Try.prog w = .ok (.value (.pointer (some ⟨w.heap.size, 0, none⟩))) (w.alloc (ido zID)) := by
  obtain ⟨d, op, t, p, f, g⟩ := o
  simp only at ho
  subst ho
  rw [ex_al]

def BasR (W : World) (n : Nat) (gk : Nat) (kv : Value) (wr : World) : Prop := ∃ k : Nat, kv = .int .i64 (k : Int) ∧ gk = n - k ∧ k ≤ n ∧ Fr noB W wr
def FndR (W : World) (G : Dg) (c : ID) (l : List ID) (gk : Nat) (fv yv : Value) (wr : World) : Prop := ∃ y : Nat, yv = .int .i64 (y : Int) ∧ gk = l.length - y ∧ y ≤ l.length ∧ fv = .bool ((l.take y).any fun p => ancG G p c) ∧ Fr noB W wr
theorem cmpI_lt {x y : ID} (h : cmpI x y < 0) : cmpI x y = -1 := by
  rcases cb_range x.1 y.1 with e | e | e
  · exact e
  · unfold cmpI at h; omega
  · unfold cmpI at h; omega

set_option maxRecDepth 100000 in
set_option maxHeartbeats 8000000 in
theorem basesL_any (w : World) (A0 : Option Addr) (c0 : Nat) (nums : List (Int × Int)) (hs : Sl w A0 (prc nums)) (hb : nums.length ≤ 200000000000000) (a1 a2 : Int) :
    Calls Try.prog 4 #[.slice A0 nums.length c0, .int .i64 a1, .int .i64 a2] w (lawPost w) := by
  go_enter Try.func4, Try.ntmps4
  go_wp2_with fail
  go_at_call 9
  refine (alive_any w).mono ?_
  rintro e w1 ⟨rfl, f1⟩
  go_wp2_with fail
  go_at_call 28
  refine (grown_any w w1 f1 A0 c0 _ nums rfl hs hb).mono ?_
  rintro e w2 ⟨D, G, m, A, c, S, rfl, hD, hG, hoA, hfA⟩
  by_cases hm : m = 0
  · subst hm
    go_wp2_with fail
    go_ret
    exact ⟨rfl, hD.fr.below⟩
  · have hmp : 0 < m := by omega
    obtain ⟨r1, er1, hr1⟩ := and_mask a1 1023 (by omega)
    obtain ⟨r2, er2, hr2⟩ := and_mask a2 1023 (by omega)
    have i2 : r1 % m < m := Nat.mod_lt _ hmp
    have j2 : r2 % m < m := Nat.mod_lt _ hmp
    have ht1 : (bits BinOp.and IntKind.i64 a1 1023).tmod (m : Int) = ((r1 % m : Nat) : Int) := by rw [show bits BinOp.and IntKind.i64 a1 1023 = (r1 : Int) from er1]; rfl
    have ht2 : (bits BinOp.and IntKind.i64 a2 1023).tmod (m : Int) = ((r2 % m : Nat) : Int) := by rw [show bits BinOp.and IntKind.i64 a2 1023 = (r2 : Int) from er2]; rfl
    generalize r1 % m = i at i2 ht1
    generalize r2 % m = j at j2 ht2
    clear er1 er2 hr1 hr2
    obtain ⟨g, off, rfl⟩ := (Sl.own hoA).ad (by rw [rowL_len]; omega)
    have gi := (Sl.own hoA).id i (by rw [rowL_len]; omega)
    have gj := (Sl.own hoA).id j (by rw [rowL_len]; omega)
    rw [rowL_get] at gi gj
    have x1 : (0 : Int) ≤ (i : Int) := by omega
    have x2 : (i : Int) < (m : Int) := by omega
    have y1 : (0 : Int) ≤ (j : Int) := by omega
    have y2 : (j : Int) < (m : Int) := by omega
    have hm0 : ((m : Int) == 0) = false := by rw [beq_eq_false_iff_ne]; omega
    have lw : w.heap.size ≤ w2.heap.size := hD.fr.size
    have hgS := hfA _ rfl
    go_upto_region 8 with fail
    go_cut [9, 10] from 33 to 48 (fun va vb wx => ∃ pa pb, va = .pointer (some ⟨pa, 0, none⟩) ∧ vb = .pointer (some ⟨pb, 0, none⟩) ∧ bxI wx pa = some (LL i) ∧ bxI wx pb = some (LL j) ∧ DagL w wx D G (fun _ => False))
    case first =>
      go_wp2_with fail
      refine wp_region_N 19 (fun w' => rdI w' g (off + i * 32) = some (LL i) ∧ rdI w' g (off + j * 32) = some (LL j)) (by kernel_rfl) (by kernel_rfl) ⟨(rdI_drew _ _ _).trans gi, (rdI_drew _ _ _).trans gj⟩ (fun hA hF => ?_)
      refine wpAnyN_take (i := 0) (v := ?_) hA rfl (by decide) (by kernel_rfl) (by kernel_rfl) (fun _ _ _ h => h) (Or.inl ⟨by rfl, ?_⟩) hF (fun hA => ?_)
      rotate_left
      · intro wS hSw; (try dsimp only at hSw); obtain ⟨s1, s2⟩ := hSw; first | (apply Eq.trans; apply ex_ld_id; exact rfl; exact rfl; assumption; with_reducible rfl) | (go_simp; try with_reducible rfl)
      try simp only [List.getElem_toArray, List.getElem_cons_zero, List.getElem_cons_succ, Act.put, List.setIfInBounds_toArray, List.set_cons_zero, List.set_cons_succ]
      refine wpAnyN_take (i := 1) (v := ?_) hA rfl (by decide) (by kernel_rfl) (by kernel_rfl) (fun _ _ _ h => h) (Or.inl ⟨by rfl, ?_⟩) hF (fun hA => ?_)
      rotate_left
      · intro wS hSw; (try dsimp only at hSw); obtain ⟨s1, s2⟩ := hSw; first | (apply Eq.trans; apply ex_ld_id; exact rfl; exact rfl; assumption; with_reducible rfl) | (go_simp; try with_reducible rfl)
      try simp only [List.getElem_toArray, List.getElem_cons_zero, List.getElem_cons_succ, Act.put, List.setIfInBounds_toArray, List.set_cons_zero, List.set_cons_succ]
      refine wpAnyN_take (i := 2) (v := ?_) hA rfl (by decide) (by kernel_rfl) (by kernel_rfl) (fun _ _ _ h => h) (Or.inl ⟨by rfl, ?_⟩) hF (fun hA => ?_)
      rotate_left
      · intro wS hSw; (try dsimp only at hSw); obtain ⟨s1, s2⟩ := hSw; first | (apply Eq.trans; apply ex_ld_id; exact rfl; exact rfl; assumption; with_reducible rfl) | (go_simp; try with_reducible rfl)
      try simp only [List.getElem_toArray, List.getElem_cons_zero, List.getElem_cons_succ, Act.put, List.setIfInBounds_toArray, List.set_cons_zero, List.set_cons_succ]
      refine wpAnyN_take (i := 3) (v := ?_) hA rfl (by decide) (by kernel_rfl) (by kernel_rfl) (fun _ _ _ h => h) (Or.inl ⟨by rfl, ?_⟩) hF (fun hA => ?_)
      rotate_left
      · intro wS hSw; (try dsimp only at hSw); obtain ⟨s1, s2⟩ := hSw; first | (apply Eq.trans; apply ex_ld_id; exact rfl; exact rfl; assumption; with_reducible rfl) | (go_simp; try with_reducible rfl)
      try simp only [List.getElem_toArray, List.getElem_cons_zero, List.getElem_cons_succ, Act.put, List.setIfInBounds_toArray, List.set_cons_zero, List.set_cons_succ]
      refine wpAnyN_take (i := 4) (v := ?_) hA rfl (by decide) (by kernel_rfl) (by kernel_rfl) (fun _ _ _ h => h) (Or.inl ⟨by rfl, ?_⟩) hF (fun hA => ?_)
      rotate_left
      · intro wS hSw; (try dsimp only at hSw); obtain ⟨s1, s2⟩ := hSw; first | (apply Eq.trans; apply ex_ld_id; exact rfl; exact rfl; assumption; with_reducible rfl) | (go_simp; try with_reducible rfl)
      try simp only [List.getElem_toArray, List.getElem_cons_zero, List.getElem_cons_succ, Act.put, List.setIfInBounds_toArray, List.set_cons_zero, List.set_cons_succ]
      refine wpAnyN_take (i := 5) (v := ?_) hA rfl (by decide) (by kernel_rfl) (by kernel_rfl) (fun _ _ _ h => h) (Or.inl ⟨by rfl, ?_⟩) hF (fun hA => ?_)
      rotate_left
      · intro wS hSw; (try dsimp only at hSw); obtain ⟨s1, s2⟩ := hSw; first | (apply Eq.trans; apply ex_ld_id; exact rfl; exact rfl; assumption; with_reducible rfl) | (go_simp; try with_reducible rfl)
      try simp only [List.getElem_toArray, List.getElem_cons_zero, List.getElem_cons_succ, Act.put, List.setIfInBounds_toArray, List.set_cons_zero, List.set_cons_succ]
      refine wpAnyN_take (i := 6) (v := ?_) hA rfl (by decide) (by kernel_rfl) (by kernel_rfl) (fun _ _ _ h => h) (Or.inl ⟨by rfl, ?_⟩) hF (fun hA => ?_)
      rotate_left
      · intro wS hSw; (try dsimp only at hSw); obtain ⟨s1, s2⟩ := hSw; first | (apply Eq.trans; apply ex_ld_id; exact rfl; exact rfl; assumption; with_reducible rfl) | (go_simp; try with_reducible rfl)
      try simp only [List.getElem_toArray, List.getElem_cons_zero, List.getElem_cons_succ, Act.put, List.setIfInBounds_toArray, List.set_cons_zero, List.set_cons_succ]
      refine wpAnyN_take (i := 7) (v := ?_) hA rfl (by decide) (by kernel_rfl) (by kernel_rfl) (fun _ _ _ h => h) (Or.inl ⟨by rfl, ?_⟩) hF (fun hA => ?_)
      rotate_left
      · intro wS hSw; (try dsimp only at hSw); obtain ⟨s1, s2⟩ := hSw; first | (apply Eq.trans; apply ex_ld_id; exact rfl; exact rfl; assumption; with_reducible rfl) | (go_simp; try with_reducible rfl)
      try simp only [List.getElem_toArray, List.getElem_cons_zero, List.getElem_cons_succ, Act.put, List.setIfInBounds_toArray, List.set_cons_zero, List.set_cons_succ]
      refine wpAnyN_take (i := 8) (v := ?_) hA rfl (by decide) (by kernel_rfl) (by kernel_rfl) (fun _ _ _ h => h) (Or.inl ⟨by rfl, ?_⟩) hF (fun hA => ?_)
      rotate_left
      · intro wS hSw; (try dsimp only at hSw); obtain ⟨s1, s2⟩ := hSw; first | (apply Eq.trans; apply ex_ld_id; exact rfl; exact rfl; assumption; with_reducible rfl) | (go_simp; try with_reducible rfl)
      try simp only [List.getElem_toArray, List.getElem_cons_zero, List.getElem_cons_succ, Act.put, List.setIfInBounds_toArray, List.set_cons_zero, List.set_cons_succ]
      refine wpAnyN_take (i := 9) (v := ?_) hA rfl (by decide) (by kernel_rfl) (by kernel_rfl) (fun _ _ _ h => h) (Or.inl ⟨by rfl, ?_⟩) hF (fun hA => ?_)
      rotate_left
      · intro wS hSw; (try dsimp only at hSw); obtain ⟨s1, s2⟩ := hSw; first | (apply Eq.trans; apply ex_ld_id; exact rfl; exact rfl; assumption; with_reducible rfl) | (go_simp; try with_reducible rfl)
      try simp only [List.getElem_toArray, List.getElem_cons_zero, List.getElem_cons_succ, Act.put, List.setIfInBounds_toArray, List.set_cons_zero, List.set_cons_succ]
      refine wpAnyN_take (i := 10) (v := ?_) hA rfl (by decide) (by kernel_rfl) (by kernel_rfl) (fun _ _ _ h => h) (Or.inl ⟨by rfl, ?_⟩) hF (fun hA => ?_)
      rotate_left
      · intro wS hSw; (try dsimp only at hSw); obtain ⟨s1, s2⟩ := hSw; first | (apply Eq.trans; apply ex_ld_id; exact rfl; exact rfl; assumption; with_reducible rfl) | (go_simp; try with_reducible rfl)
      try simp only [List.getElem_toArray, List.getElem_cons_zero, List.getElem_cons_succ, Act.put, List.setIfInBounds_toArray, List.set_cons_zero, List.set_cons_succ]
      refine wpAnyN_take (i := 11) (v := ?_) hA rfl (by decide) (by kernel_rfl) (by kernel_rfl) (fun _ _ _ h => h) (Or.inl ⟨by rfl, ?_⟩) hF (fun hA => ?_)
      rotate_left
      · intro wS hSw; (try dsimp only at hSw); obtain ⟨s1, s2⟩ := hSw; first | (apply Eq.trans; apply ex_ld_id; exact rfl; exact rfl; assumption; with_reducible rfl) | (go_simp; try with_reducible rfl)
      try simp only [List.getElem_toArray, List.getElem_cons_zero, List.getElem_cons_succ, Act.put, List.setIfInBounds_toArray, List.set_cons_zero, List.set_cons_succ]
      refine wpAnyN_take (i := 12) (v := ?_) hA rfl (by decide) (by kernel_rfl) (by kernel_rfl) (fun _ _ _ h => h) (Or.inl ⟨by rfl, ?_⟩) hF (fun hA => ?_)
      rotate_left
      · intro wS hSw; (try dsimp only at hSw); obtain ⟨s1, s2⟩ := hSw; first | (apply Eq.trans; apply ex_ld_id; exact rfl; exact rfl; assumption; with_reducible rfl) | (go_simp; try with_reducible rfl)
      try simp only [List.getElem_toArray, List.getElem_cons_zero, List.getElem_cons_succ, Act.put, List.setIfInBounds_toArray, List.set_cons_zero, List.set_cons_succ]
      refine wpAnyN_take (i := 13) (v := ?_) hA rfl (by decide) (by kernel_rfl) (by kernel_rfl) (fun _ _ _ h => h) (Or.inl ⟨by rfl, ?_⟩) hF (fun hA => ?_)
      rotate_left
      · intro wS hSw; (try dsimp only at hSw); obtain ⟨s1, s2⟩ := hSw; first | (apply Eq.trans; apply ex_ld_id; exact rfl; exact rfl; assumption; with_reducible rfl) | (go_simp; try with_reducible rfl)
      try simp only [List.getElem_toArray, List.getElem_cons_zero, List.getElem_cons_succ, Act.put, List.setIfInBounds_toArray, List.set_cons_zero, List.set_cons_succ]
      refine wpAnyN_take (i := 14) (v := ?_) hA rfl (by decide) (by kernel_rfl) (by kernel_rfl) (fun _ _ _ h => h) (Or.inl ⟨by rfl, ?_⟩) hF (fun hA => ?_)
      rotate_left
      · intro wS hSw; (try dsimp only at hSw); obtain ⟨s1, s2⟩ := hSw; first | (apply Eq.trans; apply ex_ld_id; exact rfl; exact rfl; assumption; with_reducible rfl) | (go_simp; try with_reducible rfl)
      try simp only [List.getElem_toArray, List.getElem_cons_zero, List.getElem_cons_succ, Act.put, List.setIfInBounds_toArray, List.set_cons_zero, List.set_cons_succ]
      refine wpAnyN_take (i := 15) (v := ?_) hA rfl (by decide) (by kernel_rfl) (by kernel_rfl) (fun _ _ _ h => h) (Or.inl ⟨by rfl, ?_⟩) hF (fun hA => ?_)
      rotate_left
      · intro wS hSw; (try dsimp only at hSw); obtain ⟨s1, s2⟩ := hSw; first | (apply Eq.trans; apply ex_ld_id; exact rfl; exact rfl; assumption; with_reducible rfl) | (go_simp; try with_reducible rfl)
      try simp only [List.getElem_toArray, List.getElem_cons_zero, List.getElem_cons_succ, Act.put, List.setIfInBounds_toArray, List.set_cons_zero, List.set_cons_succ]
      have fV : Fr noB w2 w2.drew := (Fr.refl noB w2).drew
      have hDV := hD.fr0 fV
      have oV : OwnD w w2.drew (some ⟨g, off, none⟩) c (rowL m) := own_fr hoA fV (fun _ _ => by simp [noB])
      have lV : w.heap.size ≤ w2.drew.heap.size := lw
      generalize w2.drew = V at hF hDV oV lV ⊢
      clear fV hD hoA gi gj lw ht1 ht2 x1 x2 y1 y2 hm0
      have fa : Fr noB V (V.alloc (ido zID)) := (Fr.refl noB V).alloc _
      have fb : Fr noB V ((V.alloc (ido zID)).alloc (ido zID)) := fa.alloc _
      have keep : ∀ w', Fr noB V w' → rdI w' g (off + i * 32) = some (LL i) ∧ rdI w' g (off + j * 32) = some (LL j) := fun w' f => ⟨rdI_fr hF.1 (rdI_lt hF.1) f (by simp [noB]), rdI_fr hF.2 (rdI_lt hF.2) f (by simp [noB])⟩
      have k1 : bxI ((V.alloc (ido zID)).alloc (ido zID)) V.heap.size = some zID := by rw [bxI_old _ _ _ (by simp), bxI_new]
      have k2 : bxI ((V.alloc (ido zID)).alloc (ido zID)) (V.heap.size + 1) = some zID := by rw [bxI_new' _ _ _ (by simp)]
      have hgV : g < V.heap.size := ((Off.own oV) _ rfl).2
      refine wpAnyN_two (i := 16) (j := 17) hA (by kernel_rfl) (by decide) (by decide) rfl rfl (fun K' hK => ?_) (fun K' hK => ?_)
      · rw [if_pos (by rfl)]
        refine step_runW _ _ (ex_al_at rfl V) ?_
        refine hK.out _ _ (keep _ fa) (fun hA => ?_)
        clear hK K'
        try simp only [List.getElem_toArray, List.getElem_cons_zero, List.getElem_cons_succ, Act.put, List.setIfInBounds_toArray, List.set_cons_zero, List.set_cons_succ]
        refine wpAnyN_one (i := 17) hA (by kernel_rfl) (by decide) rfl (fun K' hK => ?_)
        rw [if_pos (by rfl)]
        refine step_runW _ _ (ex_al_at rfl _) ?_
        refine hK.out _ _ (keep _ fb) (fun hA => ?_)
        clear hK K'
        try simp only [List.getElem_toArray, List.getElem_cons_zero, List.getElem_cons_succ, Act.put, List.setIfInBounds_toArray, List.set_cons_zero, List.set_cons_succ, World.size_alloc]
        obtain ⟨e1, e2, e3⟩ := putB_fr k1 (LL i)
        have e4 := bxI_fr k2 e1 (fun e => by have : V.heap.size + 1 = V.heap.size := e; omega)
        refine wpAnyN_one (i := 18) hA (by kernel_rfl) (by decide) rfl (fun K' hK => ?_)
        rw [if_pos (by rfl)]
        refine step_skipW _ (ex_st_at rfl rfl rfl k1) ?_
        refine hK.out _ _ (keep _ (fb.step1 e1 (Nat.le_refl _))) (fun hA => ?_)
        clear hK K'
        try simp only [List.getElem_toArray, List.getElem_cons_zero, List.getElem_cons_succ, Act.put, List.setIfInBounds_toArray, List.set_cons_zero, List.set_cons_succ, World.size_alloc]
        refine wpAnyN_end rfl (by kernel_rfl) ?_
        simp only [List.drop_succ_cons, List.drop_zero]
        go_wp2_with fail
        go_meet
        case rel =>
          have hDW := (hDV.more fb).frS e1 (fun b hb => ⟨.inr ⟨by have : b = _ := hb; omega, by have : b = _ := hb; simp; omega⟩, by have : b = _ := hb; omega⟩)
          obtain ⟨g1, g2, g3⟩ := putB_fr e4 (LL j)
          have hDW2 := hDW.frS g1 (fun b hb => ⟨.inr ⟨by have : b = _ := hb; omega, by have : b = _ := hb; simp; omega⟩, by have : b = _ := hb; omega⟩)
          have qa := bxI_fr e3 g1 (fun e => by have : V.heap.size = V.heap.size + 1 := e; omega)
          have qb := g3
          clear hDW
          have hDW := hDW2.mono (S' := fun _ => False) (fun _ h => h.elim)
          clear hDW2 e1 e2 e3 e4 g1 g2
          exact ⟨_, _, rfl, rfl, qa, qb, hDW⟩
      · rw [if_pos (by rfl)]
        refine step_runW _ _ (ex_al_at rfl V) ?_
        refine hK.out _ _ (keep _ fa) (fun hA => ?_)
        clear hK K'
        try simp only [List.getElem_toArray, List.getElem_cons_zero, List.getElem_cons_succ, Act.put, List.setIfInBounds_toArray, List.set_cons_zero, List.set_cons_succ]
        refine wpAnyN_one (i := 16) hA (by kernel_rfl) (by decide) rfl (fun K' hK => ?_)
        rw [if_pos (by rfl)]
        refine step_runW _ _ (ex_al_at rfl _) ?_
        refine hK.out _ _ (keep _ fb) (fun hA => ?_)
        clear hK K'
        try simp only [List.getElem_toArray, List.getElem_cons_zero, List.getElem_cons_succ, Act.put, List.setIfInBounds_toArray, List.set_cons_zero, List.set_cons_succ, World.size_alloc]
        obtain ⟨e1, e2, e3⟩ := putB_fr k2 (LL i)
        have e4 := bxI_fr k1 e1 (fun e => by have : V.heap.size = V.heap.size + 1 := e; omega)
        refine wpAnyN_one (i := 18) hA (by kernel_rfl) (by decide) rfl (fun K' hK => ?_)
        rw [if_pos (by rfl)]
        refine step_skipW _ (ex_st_at rfl rfl rfl k2) ?_
        refine hK.out _ _ (keep _ (fb.step1 e1 (by omega))) (fun hA => ?_)
        clear hK K'
        try simp only [List.getElem_toArray, List.getElem_cons_zero, List.getElem_cons_succ, Act.put, List.setIfInBounds_toArray, List.set_cons_zero, List.set_cons_succ, World.size_alloc]
        refine wpAnyN_end rfl (by kernel_rfl) ?_
        simp only [List.drop_succ_cons, List.drop_zero]
        go_wp2_with fail
        go_meet
        case rel =>
          have hDW := (hDV.more fb).frS e1 (fun b hb => ⟨.inr ⟨by have : b = _ := hb; omega, by have : b = _ := hb; simp; omega⟩, by have : b = _ := hb; omega⟩)
          obtain ⟨g1, g2, g3⟩ := putB_fr e4 (LL j)
          have hDW2 := hDW.frS g1 (fun b hb => ⟨.inr ⟨by have : b = _ := hb; omega, by have : b = _ := hb; simp; omega⟩, by have : b = _ := hb; omega⟩)
          have qa := bxI_fr e3 g1 (fun e => by have : V.heap.size + 1 = V.heap.size := e; omega)
          have qb := g3
          clear hDW
          have hDW := hDW2.mono (S' := fun _ => False) (fun _ h => h.elim)
          clear hDW2 e1 e2 e3 e4 g1 g2
          exact ⟨_, _, rfl, rfl, qa, qb, hDW⟩
    case rest =>
      obtain ⟨pa, pb, rfl, rfl, qa, qb, hDW⟩ := hcut
      generalize wc = W at qa qb hDW ⊢
      have lpa := bxI_lt qa
      have lpb := bxI_lt qb
      have va := bxI_rd qa
      have vb := bxI_rd qb
      obtain ⟨Fd, hI⟩ := hDW
      have dG := hI.at_
      have hok := hI.at_.ok
      have fW := hI.fr
      clear qa qb hI hD hoA gi gj lw ht1 ht2 x1 x2 y1 y2 hm0
      go_wp2_with fail
      go_at_call 22
      refine (bases_any W D Fd G dG (LL i) (LL j)).mono ?_
      rintro e w3 ⟨l, ⟨A3, c3, rfl, ho3, hf3⟩, hr3, hm3, hb3⟩
      have hm3' : ∀ z, z ∈ l ↔ BaseOf G (LL i) (LL j) z := hm3
      clear hm3
      have va3 := rdI_fr va (rdI_lt va) hf3 (by simp [noB])
      have vb3 := rdI_fr vb (rdI_lt vb) hf3 (by simp [noB])
      go_wp2_with fail
      go_at_call 22
      refine (bases_any w3 D Fd G (dG.fr0 hf3) (LL j) (LL i)).mono ?_
      rintro e w4 ⟨l4, ⟨A4, c4, rfl, ho4, hf4⟩, hr4, hm4, hb4⟩
      have el : l4 = l := rise_eq swoI hr4 hr3 (fun y => (hm4 y).trans (base_swap.trans (hm3' y).symm))
      subst el
      clear hm4 hr4 hb4
      go_wp2_with fail
      go_at_call 12
      refine (list_any w4 A3 c3 _ l4 rfl ((Sl.own ho3).fr0 hf4) (by omega)).mono ?_
      rintro e w5 ⟨A5, c5, rfl, ho5, hf5⟩
      go_wp2_with fail
      go_at_call 16
      refine (sameids_any w5 A4 A5 c4 c5 _ _ l4 l4 rfl rfl ((Sl.own ho4).fr0 hf5) (Sl.own ho5) (by omega)).mono ?_
      rintro e w6 ⟨rfl, hf6⟩
      rw [show decide (l4 = l4) = true by simp]
      have f36 : Fr noB w3 w6 := (hf4.step0 hf5).step0 hf6
      have fW6 : Fr noB W w6 := hf3.step0 f36
      have sB := (Sl.own ho3).fr0 f36
      have d6 := dG.fr0 fW6
      have va6 := rdI_fr va (rdI_lt va) fW6 (by simp [noB])
      have vb6 := rdI_fr vb (rdI_lt vb) fW6 (by simp [noB])
      have fw6 := fW.step0 fW6
      clear ho3 ho4 ho5 hf3 hf4 hf5 hf6 f36 fW6 va vb va3 vb3 dG
      go_wp2_with fail
      go_loopg [63] l4.length (fun gk kv wr => BasR w6 l4.length gk kv wr)
      case atStart => exact ⟨0, rfl, rfl, by omega, Fr.refl _ _⟩
      case round =>
        obtain ⟨k, rfl, rfl, hk, hf⟩ := hrel
        obtain ⟨wl, ewl⟩ : ∃ wl, wl = wr := ⟨wr, rfl⟩
        subst ewl
        by_cases hlt : k < l4.length
        · have i0 : (0 : Int) ≤ (k : Int) := by omega
          have i1 : (k : Int) < (l4.length : Int) := by omega
          obtain ⟨g3, o3, rfl⟩ := sB.ad (by omega)
          have rk := (sB.fr0 hf).id k hlt
          have rp := (sB.fr0 hf).id (k - 1) (by omega)
          have bk := (hm3' _).1 (List.getElem_mem hlt)
          have hcm : 0 < k → cmpI (l4[k - 1]'(by omega)) l4[k] = -1 := fun h0 => cmpI_lt (rise_get hr3 (show k - 1 < k by omega) hlt)
          have hnd : ∀ y (hy : y < l4.length), k ≠ y → ancG G l4[k] l4[y] = false := fun y hy hne => by
            refine base_apart hok bk ((hm3' _).1 (List.getElem_mem hy)) (fun e => ?_)
            have := rise_nd swoI hr3
            rw [List.nodup_iff_pairwise_ne, List.pairwise_iff_getElem] at this
            rcases Nat.lt_or_ge k y with h | h
            · exact this k y hlt hy h e
            · exact this y k hy hlt (by omega) e.symm
          generalize l4[k] = p at rk bk hcm hnd
          generalize l4[k - 1]'(by omega) = p' at rp hcm
          have q2 : k - 1 < l4.length := by omega
          generalize hqe : k - 1 = q at rp q2
          have HQE := Lib.hid hqe
          clear hqe
          have s1 : bxI (wl.alloc (ido zID)) wl.heap.size = some zID := bxI_new _ _
          obtain ⟨a1', a2', q0⟩ := putB_fr s1 p
          have f1 : Fr noB wl (putB (wl.alloc (ido zID)) wl.heap.size p) := ((Fr.refl noB wl).alloc _).step1 a1' (Nat.le_refl _)
          have rk1 := rdI_fr rk (rdI_lt rk) ((Fr.refl noB wl).alloc (ido zID)) (by simp [noB])
          have HND := Lib.hid hnd
          have HCM := Lib.hid hcm
          clear hnd hcm
          have BK := Lib.hid bk
          go_upto_region 15 with fail
          have fX : Fr noB w6 (putB (wl.alloc (ido zID)) wl.heap.size p).drew := (hf.step0 f1).drew
          have qp : rdI (putB (wl.alloc (ido zID)) wl.heap.size p).drew wl.heap.size 0 = some p := (rdI_drew _ _ _).trans (bxI_rd q0)
          have qpp : rdI (putB (wl.alloc (ido zID)) wl.heap.size p).drew g3 (o3 + q * 32) = some p' := (rdI_drew _ _ _).trans (rdI_fr rp (rdI_lt rp) f1 (by simp [noB]))
          have F0 : rdI (putB (wl.alloc (ido zID)) wl.heap.size p).drew pa 0 = some (LL i) ∧ rdI (putB (wl.alloc (ido zID)) wl.heap.size p).drew pb 0 = some (LL j) ∧ rdI (putB (wl.alloc (ido zID)) wl.heap.size p).drew wl.heap.size 0 = some p ∧ rdI (putB (wl.alloc (ido zID)) wl.heap.size p).drew g3 (o3 + q * 32) = some p' :=
            ⟨rdI_fr va6 (rdI_lt va6) fX (by simp [noB]), rdI_fr vb6 (rdI_lt vb6) fX (by simp [noB]), qp, qpp⟩
          clear rk rp rk1 q0 s1 a1' a2' f1 qp qpp bk
          generalize hpk : wl.heap.size = pk at fX F0 ⊢
          generalize hWk : putB (wl.alloc (ido zID)) pk p = Wk at fX F0 ⊢
          have keep : ∀ w' w'' : World, Fr noB w' w'' → (rdI w' pa 0 = some (LL i) ∧ rdI w' pb 0 = some (LL j) ∧ rdI w' pk 0 = some p ∧ rdI w' g3 (o3 + q * 32) = some p') → (rdI w'' pa 0 = some (LL i) ∧ rdI w'' pb 0 = some (LL j) ∧ rdI w'' pk 0 = some p ∧ rdI w'' g3 (o3 + q * 32) = some p') := fun w' w'' f h =>
            ⟨rdI_fr h.1 (rdI_lt h.1) f (by simp [noB]), rdI_fr h.2.1 (rdI_lt h.2.1) f (by simp [noB]), rdI_fr h.2.2.1 (rdI_lt h.2.2.1) f (by simp [noB]), rdI_fr h.2.2.2 (rdI_lt h.2.2.2) f (by simp [noB])⟩
          have hra : ancG G (LL i) p = true := BK.out.1.1
          have hrb : ancG G (LL j) p = true := BK.out.1.2
          have HRA := Lib.hid hra
          have HRB := Lib.hid hrb
          clear hra hrb
          by_cases hk0 : 0 < k
          · have e0 : decide (0 < (k : Int)) = true := by simpa using hk0
            have e0' : decide (0 < k) = true := by simpa using hk0
            have m1 : IntKind.i64.wrap ((k : Int) - 1) = (q : Int) := by have := HQE.out; rw [IntKind.wrap_i64]; omega
            have j0 : (0 : Int) ≤ (q : Int) := by omega
            have j1 : (q : Int) < (l4.length : Int) := by omega
            have HK0 := Lib.hid hk0
            clear hk0
            go_wp2_with fail
            refine wp_region_M 25 26 [⟨295147905179352825856, 4096, 0⟩, ⟨590295810358705651712, 295147905179352825856, 1⟩, ⟨1180591620717411303424, 590295810358705651712, 2⟩, ⟨2361183241434822606848, 1180591620717411305472, 4⟩, ⟨4722366482869645213696, 1180591620717411307520, 4⟩, ⟨9444732965739290427392, 5902958103587056517120, 20⟩, ⟨18889465931478580854784, 12986507827891524337664, 44⟩, ⟨37778931862957161709568, 20070057552195992158208, 68⟩, ⟨75557863725914323419136, 1180591620717411311616, 4⟩, ⟨151115727451828646838272, 114517387209588896432128, 388⟩, ⟨302231454903657293676544, 152296319072546058141696, 516⟩, ⟨604462909807314587353088, 303412046524374704979968, 1028⟩, ⟨1208925819614629174706176, 604462909807314587353088, 2560⟩, ⟨2417851639229258349412352, 1208925819614629174706304, 4096⟩, ⟨4835703278458516698824704, 1208925819614629174706688, 4096⟩, ⟨9671406556917033397649408, 1208925819614629174714368, 4096⟩, ⟨19342813113834066795298816, 18133887294219437620592640, 61440⟩, ⟨38685626227668133590597632, 20551738933448695970004992, 69632⟩, ⟨77371252455336267181195264, 39894552047282762765303808, 135168⟩, ⟨154742504910672534362390528, 77371252455336267181195264, 327680⟩, ⟨309485009821345068724781056, 154742504910672534362390656, 524288⟩, ⟨618970019642690137449562112, 154742504910672534362391552, 524288⟩, ⟨1237940039285380274899124224, 154742504910672534362398720, 524288⟩, ⟨2475880078570760549798248448, 2321137573660088015435857920, 7864320⟩, ⟨4951760157141521099596496896, 2630622583481433084160638976, 8912896⟩, ⟨9903520314283042199192993792, 5106502662052193633958887424, 17301504⟩] [(true, 0), (true, 1), (true, 2), (true, 3), (true, 4), (true, 5), (true, 6), (true, 7), (true, 8), (false, 9), (true, 10), (true, 11), (true, 12), (true, 13), (true, 14), (true, 15), (false, 16), (true, 17), (true, 18), (true, 19), (true, 20), (true, 21), (true, 22), (false, 23), (true, 24)] (fun w' => rdI w' pa 0 = some (LL i) ∧ rdI w' pb 0 = some (LL j) ∧ rdI w' pk 0 = some p ∧ rdI w' g3 (o3 + q * 32) = some p') (by kernel_rfl) rfl (by kernel_rfl) (by kernel_rfl) (by kernel_rfl) F0 (fun hA hF => ?_)
            refine wpAnyS_take (v := ?_) hA rfl (fun _ _ _ h => h) (Or.inl ⟨by rfl, ?_⟩) hF (fun hA => ?_)
            rotate_left
            · intro wS hSw; (try dsimp only at hSw); obtain ⟨s1, s2, s3, s4⟩ := hSw; first | (apply Eq.trans; apply ex_ld_id; exact rfl; exact rfl; assumption; with_reducible rfl) | (go_simp; try with_reducible rfl)
            try simp only [List.getElem_toArray, List.getElem_cons_zero, List.getElem_cons_succ, Act.put, List.setIfInBounds_toArray, List.set_cons_zero, List.set_cons_succ]
            refine wpAnyS_take (v := ?_) hA rfl (fun _ _ _ h => h) (Or.inl ⟨by rfl, ?_⟩) hF (fun hA => ?_)
            rotate_left
            · intro wS hSw; (try dsimp only at hSw); obtain ⟨s1, s2, s3, s4⟩ := hSw; first | (apply Eq.trans; apply ex_ld_id; exact rfl; exact rfl; assumption; with_reducible rfl) | (go_simp; try with_reducible rfl)
            try simp only [List.getElem_toArray, List.getElem_cons_zero, List.getElem_cons_succ, Act.put, List.setIfInBounds_toArray, List.set_cons_zero, List.set_cons_succ]
            refine wpAnyS_take (v := ?_) hA rfl (fun _ _ _ h => h) (Or.inl ⟨by rfl, ?_⟩) hF (fun hA => ?_)
            rotate_left
            · intro wS hSw; (try dsimp only at hSw); obtain ⟨s1, s2, s3, s4⟩ := hSw; first | (apply Eq.trans; apply ex_ld_id; exact rfl; exact rfl; assumption; with_reducible rfl) | (go_simp; try with_reducible rfl)
            try simp only [List.getElem_toArray, List.getElem_cons_zero, List.getElem_cons_succ, Act.put, List.setIfInBounds_toArray, List.set_cons_zero, List.set_cons_succ]
            refine wpAnyS_take (v := ?_) hA rfl (fun _ _ _ h => h) (Or.inl ⟨by rfl, ?_⟩) hF (fun hA => ?_)
            rotate_left
            · intro wS hSw; (try dsimp only at hSw); obtain ⟨s1, s2, s3, s4⟩ := hSw; first | (apply Eq.trans; apply ex_ld_id; exact rfl; exact rfl; assumption; with_reducible rfl) | (go_simp; try with_reducible rfl)
            try simp only [List.getElem_toArray, List.getElem_cons_zero, List.getElem_cons_succ, Act.put, List.setIfInBounds_toArray, List.set_cons_zero, List.set_cons_succ]
            refine wpAnyS_take (v := ?_) hA rfl (fun _ _ _ h => h) (Or.inl ⟨by rfl, ?_⟩) hF (fun hA => ?_)
            rotate_left
            · intro wS hSw; (try dsimp only at hSw); obtain ⟨s1, s2, s3, s4⟩ := hSw; first | (apply Eq.trans; apply ex_ld_id; exact rfl; exact rfl; assumption; with_reducible rfl) | (go_simp; try with_reducible rfl)
            try simp only [List.getElem_toArray, List.getElem_cons_zero, List.getElem_cons_succ, Act.put, List.setIfInBounds_toArray, List.set_cons_zero, List.set_cons_succ]
            refine wpAnyS_take (v := ?_) hA rfl (fun _ _ _ h => h) (Or.inl ⟨by rfl, ?_⟩) hF (fun hA => ?_)
            rotate_left
            · intro wS hSw; (try dsimp only at hSw); obtain ⟨s1, s2, s3, s4⟩ := hSw; first | (apply Eq.trans; apply ex_ld_id; exact rfl; exact rfl; assumption; with_reducible rfl) | (go_simp; try with_reducible rfl)
            try simp only [List.getElem_toArray, List.getElem_cons_zero, List.getElem_cons_succ, Act.put, List.setIfInBounds_toArray, List.set_cons_zero, List.set_cons_succ]
            refine wpAnyS_take (v := ?_) hA rfl (fun _ _ _ h => h) (Or.inl ⟨by rfl, ?_⟩) hF (fun hA => ?_)
            rotate_left
            · intro wS hSw; (try dsimp only at hSw); obtain ⟨s1, s2, s3, s4⟩ := hSw; first | (apply Eq.trans; apply ex_ld_id; exact rfl; exact rfl; assumption; with_reducible rfl) | (go_simp; try with_reducible rfl)
            try simp only [List.getElem_toArray, List.getElem_cons_zero, List.getElem_cons_succ, Act.put, List.setIfInBounds_toArray, List.set_cons_zero, List.set_cons_succ]
            refine wpAnyS_take (v := ?_) hA rfl (fun _ _ _ h => h) (Or.inl ⟨by rfl, ?_⟩) hF (fun hA => ?_)
            rotate_left
            · intro wS hSw; (try dsimp only at hSw); obtain ⟨s1, s2, s3, s4⟩ := hSw; first | (apply Eq.trans; apply ex_ld_id; exact rfl; exact rfl; assumption; with_reducible rfl) | (go_simp; try with_reducible rfl)
            try simp only [List.getElem_toArray, List.getElem_cons_zero, List.getElem_cons_succ, Act.put, List.setIfInBounds_toArray, List.set_cons_zero, List.set_cons_succ]
            refine wpAnyS_take (v := ?_) hA rfl (fun _ _ _ h => h) (Or.inl ⟨by rfl, ?_⟩) hF (fun hA => ?_)
            rotate_left
            · intro wS hSw; (try dsimp only at hSw); obtain ⟨s1, s2, s3, s4⟩ := hSw; first | (apply Eq.trans; apply ex_ld_id; exact rfl; exact rfl; assumption; with_reducible rfl) | (go_simp; try with_reducible rfl)
            try simp only [List.getElem_toArray, List.getElem_cons_zero, List.getElem_cons_succ, Act.put, List.setIfInBounds_toArray, List.set_cons_zero, List.set_cons_succ]
            refine wpAnyS_one hA rfl (fun K' hK => ?_)
            rw [if_pos (by rfl)]
            go_simp
            go_at_call 29
            refine (rcmp_any _ p' p).mono ?_
            rintro e u1 ⟨rfl, hu1⟩
            have fu1 := fX.step0 hu1
            replace hF := keep _ _ hu1 hF
            refine hK.out _ _ hF (fun hA => ?_)
            clear hK K'
            as_aux_lemma =>
            rw [HCM.out HK0.out]
            refine wpAnyS_take (v := ?_) hA rfl (fun _ _ _ h => h) (Or.inl ⟨by rfl, ?_⟩) hF (fun hA => ?_)
            rotate_left
            · intro wS hSw; (try dsimp only at hSw); obtain ⟨s1, s2, s3, s4⟩ := hSw; first | (apply Eq.trans; apply ex_ld_id; exact rfl; exact rfl; assumption; with_reducible rfl) | (go_simp; try with_reducible rfl)
            try simp only [List.getElem_toArray, List.getElem_cons_zero, List.getElem_cons_succ, Act.put, List.setIfInBounds_toArray, List.set_cons_zero, List.set_cons_succ]
            refine wpAnyS_take (v := ?_) hA rfl (fun _ _ _ h => h) (Or.inl ⟨by rfl, ?_⟩) hF (fun hA => ?_)
            rotate_left
            · intro wS hSw; (try dsimp only at hSw); obtain ⟨s1, s2, s3, s4⟩ := hSw; first | (apply Eq.trans; apply ex_ld_id; exact rfl; exact rfl; assumption; with_reducible rfl) | (go_simp; try with_reducible rfl)
            try simp only [List.getElem_toArray, List.getElem_cons_zero, List.getElem_cons_succ, Act.put, List.setIfInBounds_toArray, List.set_cons_zero, List.set_cons_succ]
            refine wpAnyS_take (v := ?_) hA rfl (fun _ _ _ h => h) (Or.inl ⟨by rfl, ?_⟩) hF (fun hA => ?_)
            rotate_left
            · intro wS hSw; (try dsimp only at hSw); obtain ⟨s1, s2, s3, s4⟩ := hSw; first | (apply Eq.trans; apply ex_ld_id; exact rfl; exact rfl; assumption; with_reducible rfl) | (go_simp; try with_reducible rfl)
            try simp only [List.getElem_toArray, List.getElem_cons_zero, List.getElem_cons_succ, Act.put, List.setIfInBounds_toArray, List.set_cons_zero, List.set_cons_succ]
            refine wpAnyS_take (v := ?_) hA rfl (fun _ _ _ h => h) (Or.inl ⟨by rfl, ?_⟩) hF (fun hA => ?_)
            rotate_left
            · intro wS hSw; (try dsimp only at hSw); obtain ⟨s1, s2, s3, s4⟩ := hSw; first | (apply Eq.trans; apply ex_ld_id; exact rfl; exact rfl; assumption; with_reducible rfl) | (go_simp; try with_reducible rfl)
            try simp only [List.getElem_toArray, List.getElem_cons_zero, List.getElem_cons_succ, Act.put, List.setIfInBounds_toArray, List.set_cons_zero, List.set_cons_succ]
            refine wpAnyS_take (v := ?_) hA rfl (fun _ _ _ h => h) (Or.inl ⟨by rfl, ?_⟩) hF (fun hA => ?_)
            rotate_left
            · intro wS hSw; (try dsimp only at hSw); obtain ⟨s1, s2, s3, s4⟩ := hSw; first | (apply Eq.trans; apply ex_ld_id; exact rfl; exact rfl; assumption; with_reducible rfl) | (go_simp; try with_reducible rfl)
            try simp only [List.getElem_toArray, List.getElem_cons_zero, List.getElem_cons_succ, Act.put, List.setIfInBounds_toArray, List.set_cons_zero, List.set_cons_succ]
            refine wpAnyS_take (v := ?_) hA rfl (fun _ _ _ h => h) (Or.inl ⟨by rfl, ?_⟩) hF (fun hA => ?_)
            rotate_left
            · intro wS hSw; (try dsimp only at hSw); obtain ⟨s1, s2, s3, s4⟩ := hSw; first | (apply Eq.trans; apply ex_ld_id; exact rfl; exact rfl; assumption; with_reducible rfl) | (go_simp; try with_reducible rfl)
            try simp only [List.getElem_toArray, List.getElem_cons_zero, List.getElem_cons_succ, Act.put, List.setIfInBounds_toArray, List.set_cons_zero, List.set_cons_succ]
            refine wpAnyS_one hA rfl (fun K' hK => ?_)
            rw [if_pos (by rfl)]
            go_simp
            go_at_call 24
            refine (reaches_any _ D Fd G (d6.fr0 fu1) (LL i) p).mono ?_
            rintro e u2 ⟨rfl, hu2⟩
            have fu2 := fu1.step0 hu2
            replace hF := keep _ _ hu2 hF
            refine hK.out _ _ hF (fun hA => ?_)
            clear hK K'
            as_aux_lemma =>
            rw [HRA.out]
            refine wpAnyS_take (v := ?_) hA rfl (fun _ _ _ h => h) (Or.inl ⟨by rfl, ?_⟩) hF (fun hA => ?_)
            rotate_left
            · intro wS hSw; (try dsimp only at hSw); obtain ⟨s1, s2, s3, s4⟩ := hSw; first | (apply Eq.trans; apply ex_ld_id; exact rfl; exact rfl; assumption; with_reducible rfl) | (go_simp; try with_reducible rfl)
            try simp only [List.getElem_toArray, List.getElem_cons_zero, List.getElem_cons_succ, Act.put, List.setIfInBounds_toArray, List.set_cons_zero, List.set_cons_succ]
            refine wpAnyS_take (v := ?_) hA rfl (fun _ _ _ h => h) (Or.inl ⟨by rfl, ?_⟩) hF (fun hA => ?_)
            rotate_left
            · intro wS hSw; (try dsimp only at hSw); obtain ⟨s1, s2, s3, s4⟩ := hSw; first | (apply Eq.trans; apply ex_ld_id; exact rfl; exact rfl; assumption; with_reducible rfl) | (go_simp; try with_reducible rfl)
            try simp only [List.getElem_toArray, List.getElem_cons_zero, List.getElem_cons_succ, Act.put, List.setIfInBounds_toArray, List.set_cons_zero, List.set_cons_succ]
            refine wpAnyS_take (v := ?_) hA rfl (fun _ _ _ h => h) (Or.inl ⟨by rfl, ?_⟩) hF (fun hA => ?_)
            rotate_left
            · intro wS hSw; (try dsimp only at hSw); obtain ⟨s1, s2, s3, s4⟩ := hSw; first | (apply Eq.trans; apply ex_ld_id; exact rfl; exact rfl; assumption; with_reducible rfl) | (go_simp; try with_reducible rfl)
            try simp only [List.getElem_toArray, List.getElem_cons_zero, List.getElem_cons_succ, Act.put, List.setIfInBounds_toArray, List.set_cons_zero, List.set_cons_succ]
            refine wpAnyS_take (v := ?_) hA rfl (fun _ _ _ h => h) (Or.inl ⟨by rfl, ?_⟩) hF (fun hA => ?_)
            rotate_left
            · intro wS hSw; (try dsimp only at hSw); obtain ⟨s1, s2, s3, s4⟩ := hSw; first | (apply Eq.trans; apply ex_ld_id; exact rfl; exact rfl; assumption; with_reducible rfl) | (go_simp; try with_reducible rfl)
            try simp only [List.getElem_toArray, List.getElem_cons_zero, List.getElem_cons_succ, Act.put, List.setIfInBounds_toArray, List.set_cons_zero, List.set_cons_succ]
            refine wpAnyS_take (v := ?_) hA rfl (fun _ _ _ h => h) (Or.inl ⟨by rfl, ?_⟩) hF (fun hA => ?_)
            rotate_left
            · intro wS hSw; (try dsimp only at hSw); obtain ⟨s1, s2, s3, s4⟩ := hSw; first | (apply Eq.trans; apply ex_ld_id; exact rfl; exact rfl; assumption; with_reducible rfl) | (go_simp; try with_reducible rfl)
            try simp only [List.getElem_toArray, List.getElem_cons_zero, List.getElem_cons_succ, Act.put, List.setIfInBounds_toArray, List.set_cons_zero, List.set_cons_succ]
            refine wpAnyS_take (v := ?_) hA rfl (fun _ _ _ h => h) (Or.inl ⟨by rfl, ?_⟩) hF (fun hA => ?_)
            rotate_left
            · intro wS hSw; (try dsimp only at hSw); obtain ⟨s1, s2, s3, s4⟩ := hSw; first | (apply Eq.trans; apply ex_ld_id; exact rfl; exact rfl; assumption; with_reducible rfl) | (go_simp; try with_reducible rfl)
            try simp only [List.getElem_toArray, List.getElem_cons_zero, List.getElem_cons_succ, Act.put, List.setIfInBounds_toArray, List.set_cons_zero, List.set_cons_succ]
            refine wpAnyS_one hA rfl (fun K' hK => ?_)
            rw [if_pos (by rfl)]
            go_simp
            go_at_call 24
            refine (reaches_any _ D Fd G (d6.fr0 fu2) (LL j) p).mono ?_
            rintro e u3 ⟨rfl, hu3⟩
            have fu3 := fu2.step0 hu3
            replace hF := keep _ _ hu3 hF
            refine hK.out _ _ hF (fun hA => ?_)
            clear hK K'
            as_aux_lemma =>
            rw [HRB.out]
            refine wpAnyS_take (v := ?_) hA rfl (fun _ _ _ h => h) (Or.inl ⟨by rfl, ?_⟩) hF (fun hA => ?_)
            rotate_left
            · intro wS hSw; (try dsimp only at hSw); obtain ⟨s1, s2, s3, s4⟩ := hSw; first | (apply Eq.trans; apply ex_ld_id; exact rfl; exact rfl; assumption; with_reducible rfl) | (go_simp; try with_reducible rfl)
            try simp only [List.getElem_toArray, List.getElem_cons_zero, List.getElem_cons_succ, Act.put, List.setIfInBounds_toArray, List.set_cons_zero, List.set_cons_succ]
            refine wpAnyS_end hA rfl ?_
            simp only [List.drop_succ_cons, List.drop_zero]
            have rpk := hF.2.2.1
            clear hF F0 keep HRA HRB HCM HQE BK hu2 hu3 fX
            try clear fu1
            try clear fu2
            obtain ⟨um, eum⟩ : ∃ um, um = u3 := ⟨_, rfl⟩
            subst eum
            go_wp2_with fail
            go_loopg [96] l4.length (fun gk yv wy => BasR um l4.length gk yv wy)
            case atStart => exact ⟨0, rfl, rfl, by omega, Fr.refl _ _⟩
            case round =>
              obtain ⟨y, rfl, rfl, hy, hfy⟩ := hrel
              by_cases hlt2 : y < l4.length
              · have z0 : (0 : Int) ≤ (y : Int) := by omega
                have z1 : (y : Int) < (l4.length : Int) := by omega
                have fuy := fu3.step0 hfy
                have ry := (sB.fr0 fuy).id y hlt2
                have hny : k ≠ y → ancG G p l4[y] = false := fun hne => HND.out y hlt2 hne
                generalize l4[y] = q2 at ry hny
                have s1 : bxI (wr.alloc (ido zID)) wr.heap.size = some zID := bxI_new _ _
                obtain ⟨a1', a2', q0⟩ := putB_fr s1 q2
                have f1 : Fr noB wr (putB (wr.alloc (ido zID)) wr.heap.size q2) := ((Fr.refl noB wr).alloc _).step1 a1' (Nat.le_refl _)
                have ry1 := rdI_fr ry (rdI_lt ry) ((Fr.refl noB wr).alloc (ido zID)) (by simp [noB])
                have rq2 := bxI_rd q0
                have rpk2 := rdI_fr rpk (rdI_lt rpk) (hfy.step0 f1) (by simp [noB])
                have fuz := fuy.step0 f1
                have HNY := Lib.hid hny
                clear hny a1' a2'
                by_cases hky : k = y
                · have ek : ((k : Int) != (y : Int)) = false := by subst hky; simp
                  go_wp2_with fail
                  go_roundg (l4.length - (y + 1))
                  case measure => omega
                  case rel => exact ⟨y + 1, by simp, rfl, by omega, hfy.step0 f1⟩
                · have ek : ((k : Int) != (y : Int)) = true := by rw [bne_iff_ne]; omega
                  have HKY := Lib.hid hky
                  clear hky
                  go_wp2_with fail
                  go_at_call 24
                  refine (reaches_any _ D Fd G (d6.fr0 fuz) p q2).mono ?_
                  rintro e v2 ⟨rfl, hv2⟩
                  rw [HNY.out HKY.out]
                  go_wp2_with fail
                  go_roundg (l4.length - (y + 1))
                  case measure => omega
                  case rel => exact ⟨y + 1, by simp, rfl, by omega, (hfy.step0 f1).step0 hv2⟩
              · have ey : y = l4.length := by omega
                subst ey
                go_wp2_with fail
                go_roundg (l4.length - (k + 1))
                case measure => omega
                case rel => exact ⟨k + 1, by simp, rfl, by omega, fu3.step0 hfy⟩
          · have e0 : decide (0 < (k : Int)) = false := by simpa using hk0
            have e0' : decide (0 < k) = false := by simpa using hk0
            have HK0 := Lib.hid hk0
            clear hk0
            go_wp2_with fail
            refine wp_region_M 25 26 [⟨295147905179352825856, 4096, 0⟩, ⟨590295810358705651712, 295147905179352825856, 1⟩, ⟨1180591620717411303424, 590295810358705651712, 2⟩, ⟨2361183241434822606848, 1180591620717411305472, 4⟩, ⟨4722366482869645213696, 1180591620717411307520, 4⟩, ⟨9444732965739290427392, 5902958103587056517120, 20⟩, ⟨18889465931478580854784, 12986507827891524337664, 44⟩, ⟨37778931862957161709568, 20070057552195992158208, 68⟩, ⟨75557863725914323419136, 1180591620717411311616, 4⟩, ⟨151115727451828646838272, 114517387209588896432128, 388⟩, ⟨302231454903657293676544, 152296319072546058141696, 516⟩, ⟨604462909807314587353088, 303412046524374704979968, 1028⟩, ⟨1208925819614629174706176, 604462909807314587353088, 2560⟩, ⟨2417851639229258349412352, 1208925819614629174706304, 4096⟩, ⟨4835703278458516698824704, 1208925819614629174706688, 4096⟩, ⟨9671406556917033397649408, 1208925819614629174714368, 4096⟩, ⟨19342813113834066795298816, 18133887294219437620592640, 61440⟩, ⟨38685626227668133590597632, 20551738933448695970004992, 69632⟩, ⟨77371252455336267181195264, 39894552047282762765303808, 135168⟩, ⟨154742504910672534362390528, 77371252455336267181195264, 327680⟩, ⟨309485009821345068724781056, 154742504910672534362390656, 524288⟩, ⟨618970019642690137449562112, 154742504910672534362391552, 524288⟩, ⟨1237940039285380274899124224, 154742504910672534362398720, 524288⟩, ⟨2475880078570760549798248448, 2321137573660088015435857920, 7864320⟩, ⟨4951760157141521099596496896, 2630622583481433084160638976, 8912896⟩, ⟨9903520314283042199192993792, 5106502662052193633958887424, 17301504⟩] [(true, 0), (true, 1), (true, 2), (true, 3), (true, 4), (true, 5), (true, 6), (true, 7), (true, 8), (true, 9), (true, 10), (true, 11), (true, 12), (true, 13), (true, 14), (true, 15), (false, 16), (true, 17), (true, 18), (true, 19), (true, 20), (true, 21), (true, 22), (false, 23), (true, 24)] (fun w' => rdI w' pa 0 = some (LL i) ∧ rdI w' pb 0 = some (LL j) ∧ rdI w' pk 0 = some p ∧ rdI w' g3 (o3 + q * 32) = some p') (by kernel_rfl) rfl (by kernel_rfl) (by kernel_rfl) (by kernel_rfl) F0 (fun hA hF => ?_)
            refine wpAnyS_take (v := ?_) hA rfl (fun _ _ _ h => h) (Or.inl ⟨by rfl, ?_⟩) hF (fun hA => ?_)
            rotate_left
            · intro wS hSw; (try dsimp only at hSw); obtain ⟨s1, s2, s3, s4⟩ := hSw; first | (apply Eq.trans; apply ex_ld_id; exact rfl; exact rfl; assumption; with_reducible rfl) | (go_simp; try with_reducible rfl)
            try simp only [List.getElem_toArray, List.getElem_cons_zero, List.getElem_cons_succ, Act.put, List.setIfInBounds_toArray, List.set_cons_zero, List.set_cons_succ]
            refine wpAnyS_take (v := ?_) hA rfl (fun _ _ _ h => h) (Or.inl ⟨by rfl, ?_⟩) hF (fun hA => ?_)
            rotate_left
            · intro wS hSw; (try dsimp only at hSw); obtain ⟨s1, s2, s3, s4⟩ := hSw; first | (apply Eq.trans; apply ex_ld_id; exact rfl; exact rfl; assumption; with_reducible rfl) | (go_simp; try with_reducible rfl)
            try simp only [List.getElem_toArray, List.getElem_cons_zero, List.getElem_cons_succ, Act.put, List.setIfInBounds_toArray, List.set_cons_zero, List.set_cons_succ]
            refine wpAnyS_take (v := ?_) hA rfl (fun _ _ _ h => h) (Or.inl ⟨by rfl, ?_⟩) hF (fun hA => ?_)
            rotate_left
            · intro wS hSw; (try dsimp only at hSw); obtain ⟨s1, s2, s3, s4⟩ := hSw; first | (apply Eq.trans; apply ex_ld_id; exact rfl; exact rfl; assumption; with_reducible rfl) | (go_simp; try with_reducible rfl)
            try simp only [List.getElem_toArray, List.getElem_cons_zero, List.getElem_cons_succ, Act.put, List.setIfInBounds_toArray, List.set_cons_zero, List.set_cons_succ]
            refine wpAnyS_take (v := undef) hA rfl (fun _ _ _ h => h) (Or.inr ⟨by rfl, rfl⟩) hF (fun hA => ?_)
            try simp only [List.getElem_toArray, List.getElem_cons_zero, List.getElem_cons_succ, Act.put, List.setIfInBounds_toArray, List.set_cons_zero, List.set_cons_succ]
            refine wpAnyS_take (v := undef) hA rfl (fun _ _ _ h => h) (Or.inr ⟨by rfl, rfl⟩) hF (fun hA => ?_)
            try simp only [List.getElem_toArray, List.getElem_cons_zero, List.getElem_cons_succ, Act.put, List.setIfInBounds_toArray, List.set_cons_zero, List.set_cons_succ]
            refine wpAnyS_take (v := undef) hA rfl (fun _ _ _ h => h) (Or.inr ⟨by rfl, rfl⟩) hF (fun hA => ?_)
            try simp only [List.getElem_toArray, List.getElem_cons_zero, List.getElem_cons_succ, Act.put, List.setIfInBounds_toArray, List.set_cons_zero, List.set_cons_succ]
            refine wpAnyS_take (v := undef) hA rfl (fun _ _ _ h => h) (Or.inr ⟨by rfl, rfl⟩) hF (fun hA => ?_)
            try simp only [List.getElem_toArray, List.getElem_cons_zero, List.getElem_cons_succ, Act.put, List.setIfInBounds_toArray, List.set_cons_zero, List.set_cons_succ]
            refine wpAnyS_take (v := undef) hA rfl (fun _ _ _ h => h) (Or.inr ⟨by rfl, rfl⟩) hF (fun hA => ?_)
            try simp only [List.getElem_toArray, List.getElem_cons_zero, List.getElem_cons_succ, Act.put, List.setIfInBounds_toArray, List.set_cons_zero, List.set_cons_succ]
            refine wpAnyS_take (v := undef) hA rfl (fun _ _ _ h => h) (Or.inr ⟨by rfl, rfl⟩) hF (fun hA => ?_)
            try simp only [List.getElem_toArray, List.getElem_cons_zero, List.getElem_cons_succ, Act.put, List.setIfInBounds_toArray, List.set_cons_zero, List.set_cons_succ]
            refine wpAnyS_take (v := undef) hA rfl (fun _ _ _ h => h) (Or.inr ⟨by rfl, rfl⟩) hF (fun hA => ?_)
            try simp only [List.getElem_toArray, List.getElem_cons_zero, List.getElem_cons_succ, Act.put, List.setIfInBounds_toArray, List.set_cons_zero, List.set_cons_succ]
            refine wpAnyS_take (v := undef) hA rfl (fun _ _ _ h => h) (Or.inr ⟨by rfl, rfl⟩) hF (fun hA => ?_)
            try simp only [List.getElem_toArray, List.getElem_cons_zero, List.getElem_cons_succ, Act.put, List.setIfInBounds_toArray, List.set_cons_zero, List.set_cons_succ]
            refine wpAnyS_take (v := ?_) hA rfl (fun _ _ _ h => h) (Or.inl ⟨by rfl, ?_⟩) hF (fun hA => ?_)
            rotate_left
            · intro wS hSw; (try dsimp only at hSw); obtain ⟨s1, s2, s3, s4⟩ := hSw; first | (apply Eq.trans; apply ex_ld_id; exact rfl; exact rfl; assumption; with_reducible rfl) | (go_simp; try with_reducible rfl)
            try simp only [List.getElem_toArray, List.getElem_cons_zero, List.getElem_cons_succ, Act.put, List.setIfInBounds_toArray, List.set_cons_zero, List.set_cons_succ]
            refine wpAnyS_take (v := ?_) hA rfl (fun _ _ _ h => h) (Or.inl ⟨by rfl, ?_⟩) hF (fun hA => ?_)
            rotate_left
            · intro wS hSw; (try dsimp only at hSw); obtain ⟨s1, s2, s3, s4⟩ := hSw; first | (apply Eq.trans; apply ex_ld_id; exact rfl; exact rfl; assumption; with_reducible rfl) | (go_simp; try with_reducible rfl)
            try simp only [List.getElem_toArray, List.getElem_cons_zero, List.getElem_cons_succ, Act.put, List.setIfInBounds_toArray, List.set_cons_zero, List.set_cons_succ]
            refine wpAnyS_take (v := ?_) hA rfl (fun _ _ _ h => h) (Or.inl ⟨by rfl, ?_⟩) hF (fun hA => ?_)
            rotate_left
            · intro wS hSw; (try dsimp only at hSw); obtain ⟨s1, s2, s3, s4⟩ := hSw; first | (apply Eq.trans; apply ex_ld_id; exact rfl; exact rfl; assumption; with_reducible rfl) | (go_simp; try with_reducible rfl)
            try simp only [List.getElem_toArray, List.getElem_cons_zero, List.getElem_cons_succ, Act.put, List.setIfInBounds_toArray, List.set_cons_zero, List.set_cons_succ]
            refine wpAnyS_take (v := ?_) hA rfl (fun _ _ _ h => h) (Or.inl ⟨by rfl, ?_⟩) hF (fun hA => ?_)
            rotate_left
            · intro wS hSw; (try dsimp only at hSw); obtain ⟨s1, s2, s3, s4⟩ := hSw; first | (apply Eq.trans; apply ex_ld_id; exact rfl; exact rfl; assumption; with_reducible rfl) | (go_simp; try with_reducible rfl)
            try simp only [List.getElem_toArray, List.getElem_cons_zero, List.getElem_cons_succ, Act.put, List.setIfInBounds_toArray, List.set_cons_zero, List.set_cons_succ]
            refine wpAnyS_take (v := ?_) hA rfl (fun _ _ _ h => h) (Or.inl ⟨by rfl, ?_⟩) hF (fun hA => ?_)
            rotate_left
            · intro wS hSw; (try dsimp only at hSw); obtain ⟨s1, s2, s3, s4⟩ := hSw; first | (apply Eq.trans; apply ex_ld_id; exact rfl; exact rfl; assumption; with_reducible rfl) | (go_simp; try with_reducible rfl)
            try simp only [List.getElem_toArray, List.getElem_cons_zero, List.getElem_cons_succ, Act.put, List.setIfInBounds_toArray, List.set_cons_zero, List.set_cons_succ]
            refine wpAnyS_one hA rfl (fun K' hK => ?_)
            rw [if_pos (by rfl)]
            go_simp
            go_at_call 24
            refine (reaches_any _ D Fd G (d6.fr0 fX) (LL i) p).mono ?_
            rintro e u2 ⟨rfl, hu2⟩
            have fu2 := fX.step0 hu2
            replace hF := keep _ _ hu2 hF
            refine hK.out _ _ hF (fun hA => ?_)
            clear hK K'
            as_aux_lemma =>
            rw [HRA.out]
            refine wpAnyS_take (v := ?_) hA rfl (fun _ _ _ h => h) (Or.inl ⟨by rfl, ?_⟩) hF (fun hA => ?_)
            rotate_left
            · intro wS hSw; (try dsimp only at hSw); obtain ⟨s1, s2, s3, s4⟩ := hSw; first | (apply Eq.trans; apply ex_ld_id; exact rfl; exact rfl; assumption; with_reducible rfl) | (go_simp; try with_reducible rfl)
            try simp only [List.getElem_toArray, List.getElem_cons_zero, List.getElem_cons_succ, Act.put, List.setIfInBounds_toArray, List.set_cons_zero, List.set_cons_succ]
            refine wpAnyS_take (v := ?_) hA rfl (fun _ _ _ h => h) (Or.inl ⟨by rfl, ?_⟩) hF (fun hA => ?_)
            rotate_left
            · intro wS hSw; (try dsimp only at hSw); obtain ⟨s1, s2, s3, s4⟩ := hSw; first | (apply Eq.trans; apply ex_ld_id; exact rfl; exact rfl; assumption; with_reducible rfl) | (go_simp; try with_reducible rfl)
            try simp only [List.getElem_toArray, List.getElem_cons_zero, List.getElem_cons_succ, Act.put, List.setIfInBounds_toArray, List.set_cons_zero, List.set_cons_succ]
            refine wpAnyS_take (v := ?_) hA rfl (fun _ _ _ h => h) (Or.inl ⟨by rfl, ?_⟩) hF (fun hA => ?_)
            rotate_left
            · intro wS hSw; (try dsimp only at hSw); obtain ⟨s1, s2, s3, s4⟩ := hSw; first | (apply Eq.trans; apply ex_ld_id; exact rfl; exact rfl; assumption; with_reducible rfl) | (go_simp; try with_reducible rfl)
            try simp only [List.getElem_toArray, List.getElem_cons_zero, List.getElem_cons_succ, Act.put, List.setIfInBounds_toArray, List.set_cons_zero, List.set_cons_succ]
            refine wpAnyS_take (v := ?_) hA rfl (fun _ _ _ h => h) (Or.inl ⟨by rfl, ?_⟩) hF (fun hA => ?_)
            rotate_left
            · intro wS hSw; (try dsimp only at hSw); obtain ⟨s1, s2, s3, s4⟩ := hSw; first | (apply Eq.trans; apply ex_ld_id; exact rfl; exact rfl; assumption; with_reducible rfl) | (go_simp; try with_reducible rfl)
            try simp only [List.getElem_toArray, List.getElem_cons_zero, List.getElem_cons_succ, Act.put, List.setIfInBounds_toArray, List.set_cons_zero, List.set_cons_succ]
            refine wpAnyS_take (v := ?_) hA rfl (fun _ _ _ h => h) (Or.inl ⟨by rfl, ?_⟩) hF (fun hA => ?_)
            rotate_left
            · intro wS hSw; (try dsimp only at hSw); obtain ⟨s1, s2, s3, s4⟩ := hSw; first | (apply Eq.trans; apply ex_ld_id; exact rfl; exact rfl; assumption; with_reducible rfl) | (go_simp; try with_reducible rfl)
            try simp only [List.getElem_toArray, List.getElem_cons_zero, List.getElem_cons_succ, Act.put, List.setIfInBounds_toArray, List.set_cons_zero, List.set_cons_succ]
            refine wpAnyS_take (v := ?_) hA rfl (fun _ _ _ h => h) (Or.inl ⟨by rfl, ?_⟩) hF (fun hA => ?_)
            rotate_left
            · intro wS hSw; (try dsimp only at hSw); obtain ⟨s1, s2, s3, s4⟩ := hSw; first | (apply Eq.trans; apply ex_ld_id; exact rfl; exact rfl; assumption; with_reducible rfl) | (go_simp; try with_reducible rfl)
            try simp only [List.getElem_toArray, List.getElem_cons_zero, List.getElem_cons_succ, Act.put, List.setIfInBounds_toArray, List.set_cons_zero, List.set_cons_succ]
            refine wpAnyS_one hA rfl (fun K' hK => ?_)
            rw [if_pos (by rfl)]
            go_simp
            go_at_call 24
            refine (reaches_any _ D Fd G (d6.fr0 fu2) (LL j) p).mono ?_
            rintro e u3 ⟨rfl, hu3⟩
            have fu3 := fu2.step0 hu3
            replace hF := keep _ _ hu3 hF
            refine hK.out _ _ hF (fun hA => ?_)
            clear hK K'
            as_aux_lemma =>
            rw [HRB.out]
            refine wpAnyS_take (v := ?_) hA rfl (fun _ _ _ h => h) (Or.inl ⟨by rfl, ?_⟩) hF (fun hA => ?_)
            rotate_left
            · intro wS hSw; (try dsimp only at hSw); obtain ⟨s1, s2, s3, s4⟩ := hSw; first | (apply Eq.trans; apply ex_ld_id; exact rfl; exact rfl; assumption; with_reducible rfl) | (go_simp; try with_reducible rfl)
            try simp only [List.getElem_toArray, List.getElem_cons_zero, List.getElem_cons_succ, Act.put, List.setIfInBounds_toArray, List.set_cons_zero, List.set_cons_succ]
            refine wpAnyS_end hA rfl ?_
            simp only [List.drop_succ_cons, List.drop_zero]
            have rpk := hF.2.2.1
            clear hF F0 keep HRA HRB HCM HQE BK hu2 hu3 fX
            try clear fX
            try clear fu2
            obtain ⟨um, eum⟩ : ∃ um, um = u3 := ⟨_, rfl⟩
            subst eum
            go_wp2_with fail
            go_loopg [96] l4.length (fun gk yv wy => BasR um l4.length gk yv wy)
            case atStart => exact ⟨0, rfl, rfl, by omega, Fr.refl _ _⟩
            case round =>
              obtain ⟨y, rfl, rfl, hy, hfy⟩ := hrel
              by_cases hlt2 : y < l4.length
              · have z0 : (0 : Int) ≤ (y : Int) := by omega
                have z1 : (y : Int) < (l4.length : Int) := by omega
                have fuy := fu3.step0 hfy
                have ry := (sB.fr0 fuy).id y hlt2
                have hny : k ≠ y → ancG G p l4[y] = false := fun hne => HND.out y hlt2 hne
                generalize l4[y] = q2 at ry hny
                have s1 : bxI (wr.alloc (ido zID)) wr.heap.size = some zID := bxI_new _ _
                obtain ⟨a1', a2', q0⟩ := putB_fr s1 q2
                have f1 : Fr noB wr (putB (wr.alloc (ido zID)) wr.heap.size q2) := ((Fr.refl noB wr).alloc _).step1 a1' (Nat.le_refl _)
                have ry1 := rdI_fr ry (rdI_lt ry) ((Fr.refl noB wr).alloc (ido zID)) (by simp [noB])
                have rq2 := bxI_rd q0
                have rpk2 := rdI_fr rpk (rdI_lt rpk) (hfy.step0 f1) (by simp [noB])
                have fuz := fuy.step0 f1
                have HNY := Lib.hid hny
                clear hny a1' a2'
                by_cases hky : k = y
                · have ek : ((k : Int) != (y : Int)) = false := by subst hky; simp
                  go_wp2_with fail
                  go_roundg (l4.length - (y + 1))
                  case measure => omega
                  case rel => exact ⟨y + 1, by simp, rfl, by omega, hfy.step0 f1⟩
                · have ek : ((k : Int) != (y : Int)) = true := by rw [bne_iff_ne]; omega
                  have HKY := Lib.hid hky
                  clear hky
                  go_wp2_with fail
                  go_at_call 24
                  refine (reaches_any _ D Fd G (d6.fr0 fuz) p q2).mono ?_
                  rintro e v2 ⟨rfl, hv2⟩
                  rw [HNY.out HKY.out]
                  go_wp2_with fail
                  go_roundg (l4.length - (y + 1))
                  case measure => omega
                  case rel => exact ⟨y + 1, by simp, rfl, by omega, (hfy.step0 f1).step0 hv2⟩
              · have ey : y = l4.length := by omega
                subst ey
                go_wp2_with fail
                go_roundg (l4.length - (k + 1))
                case measure => omega
                case rel => exact ⟨k + 1, by simp, rfl, by omega, fu3.step0 hfy⟩
        · have ek : k = l4.length := by omega
          subst ek
          have d7 := d6.fr0 hf
          have va7 := rdI_fr va6 (rdI_lt va6) hf (by simp [noB])
          have vb7 := rdI_fr vb6 (rdI_lt vb6) hf (by simp [noB])
          have sB7 := sB.fr0 hf
          have fw7 := fw6.step0 hf
          clear hf sB va6 vb6 d6 fw6
          have fs : Fr noB wl (wl.alloc (rowo [LL i])) := (Fr.refl noB wl).alloc _
          have sls := sl_new wl [LL i]
          have HM := Lib.hid hm3'
          have HR := Lib.hid hr3
          have HOK := Lib.hid hok
          clear hm3' hr3 hok
          go_wp2_with fail
          go_at_call 20
          refine (ancestors_any _ D Fd G (d7.fr0 fs) _ _ _ [LL i] rfl sls (by simp)).mono ?_
          rintro e w8 ⟨la, ⟨A8, c8, rfl, ho8, hf8⟩, hr8, hm8, hb8⟩
          have f78 := fs.step0 hf8
          have d8 := d7.fr0 f78
          have va8 := rdI_fr va7 (rdI_lt va7) f78 (by simp [noB])
          have vb8 := rdI_fr vb7 (rdI_lt vb7) f78 (by simp [noB])
          have sB8 := sB7.fr0 f78
          have sA8 := Sl.own ho8
          have fw8 := fw7.step0 f78
          have HA := Lib.hid hm8
          clear f78 fs sls hf8 hm8 ho8 d7 va7 vb7 sB7 fw7 hr8
          go_wp2_with fail
          go_loopg [117] la.length (fun gk kv wr => BasR w8 la.length gk kv wr)
          case atStart => exact ⟨0, rfl, rfl, by omega, Fr.refl _ _⟩
          case round =>
            obtain ⟨x, rfl, rfl, hx, hfx⟩ := hrel
            obtain ⟨wx, ewx⟩ : ∃ wx, wx = wr := ⟨wr, rfl⟩
            subst ewx
            by_cases hltx : x < la.length
            · have z0 : (0 : Int) ≤ (x : Int) := by omega
              have z1 : (x : Int) < (la.length : Int) := by omega
              obtain ⟨g8, o8, rfl⟩ := sA8.ad (by omega)
              have rc := (sA8.fr0 hfx).id x hltx
              have hac : ancG G (LL i) la[x] = true := by
                obtain ⟨z, hz, h⟩ := (HA.out _).1 (List.getElem_mem hltx)
                rw [List.mem_singleton] at hz
                subst hz; exact h
              generalize la[x] = c at rc hac
              have s1 : bxI (wx.alloc (ido zID)) wx.heap.size = some zID := bxI_new _ _
              obtain ⟨a1', a2', q0⟩ := putB_fr s1 c
              have f1 : Fr noB wx (putB (wx.alloc (ido zID)) wx.heap.size c) := ((Fr.refl noB wx).alloc _).step1 a1' (Nat.le_refl _)
              have rc1 := rdI_fr rc (rdI_lt rc) ((Fr.refl noB wx).alloc (ido zID)) (by simp [noB])
              have rcb := bxI_rd q0
              have fx1 := hfx.step0 f1
              have vb9 := rdI_fr vb8 (rdI_lt vb8) fx1 (by simp [noB])
              have HAC := Lib.hid hac
              clear hac a1' a2'
              go_wp2_with fail
              go_at_call 24
              refine (reaches_any _ D Fd G (d8.fr0 fx1) (LL j) c).mono ?_
              rintro e w9 ⟨rfl, hv9⟩
              have fx9 := fx1.step0 hv9
              have rc9 := rdI_fr rcb (rdI_lt rcb) hv9 (by simp [noB])
              cases hjc : ancG G (LL j) c with
              | false =>
                go_wp2_with fail
                go_roundg (la.length - (x + 1))
                case measure => omega
                case rel => exact ⟨x + 1, by simp, rfl, by omega, fx9⟩
              | true =>
                have hall : (l4.any fun p => ancG G p c) = true := by
                  obtain ⟨p, hp1, hp2⟩ := base_top HOK.out _ c rfl HAC.out hjc
                  exact List.any_eq_true.2 ⟨p, (HM.out p).2 hp1, hp2⟩
                have HALL := Lib.hid hall
                clear hall rc rc1 rcb q0 s1 vb9 f1
                go_wp2_with fail
                go_loopg [18, 128] l4.length (fun gk fv yv wy => FndR w9 G c l4 gk fv yv wy)
                case atStart => exact ⟨0, rfl, rfl, by omega, rfl, Fr.refl _ _⟩
                case round =>
                  obtain ⟨y, rfl, rfl, hy, rfl, hfy⟩ := hrel
                  by_cases hlty : y < l4.length
                  · have y0 : (0 : Int) ≤ (y : Int) := by omega
                    have y1 : (y : Int) < (l4.length : Int) := by omega
                    have fxy := fx9.step0 hfy
                    obtain ⟨g3, o3, rfl⟩ := sB8.ad (by omega)
                    have ry := (sB8.fr0 fxy).id y hlty
                    have hts : ((l4.take (y + 1)).any fun p => ancG G p c) = (((l4.take y).any fun p => ancG G p c) || ancG G l4[y] c) := by
                      rw [List.take_succ_eq_append_getElem hlty, List.any_append]; simp
                    generalize l4[y] = q2 at ry hts
                    generalize ((l4.take y).any fun p => ancG G p c) = fb at hts
                    have HTS := Lib.hid hts
                    have s1 : bxI (wr.alloc (ido zID)) wr.heap.size = some zID := bxI_new _ _
                    obtain ⟨a1', a2', q0⟩ := putB_fr s1 q2
                    have f1 : Fr noB wr (putB (wr.alloc (ido zID)) wr.heap.size q2) := ((Fr.refl noB wr).alloc _).step1 a1' (Nat.le_refl _)
                    have ry1 := rdI_fr ry (rdI_lt ry) ((Fr.refl noB wr).alloc (ido zID)) (by simp [noB])
                    have rq2 := bxI_rd q0
                    have rc2 := rdI_fr rc9 (rdI_lt rc9) (hfy.step0 f1) (by simp [noB])
                    have fuz := fxy.step0 f1
                    clear hts a1' a2'
                    cases fb with
                    | true =>
                      go_wp2_with fail
                      go_roundg (l4.length - (y + 1))
                      case measure => omega
                      case rel => exact ⟨y + 1, by simp, rfl, by omega, by rw [HTS.out]; rfl, hfy.step0 f1⟩
                    | false =>
                      go_wp2_with fail
                      go_at_call 24
                      refine (reaches_any _ D Fd G (d8.fr0 fuz) q2 c).mono ?_
                      rintro e v2 ⟨rfl, hv2⟩
                      go_wp2_with fail
                      go_roundg (l4.length - (y + 1))
                      case measure => omega
                      case rel => exact ⟨y + 1, by simp, rfl, by omega, by rw [HTS.out]; rfl, (hfy.step0 f1).step0 hv2⟩
                  · have ey : y = l4.length := by omega
                    subst ey
                    rw [List.take_length, HALL.out]
                    go_wp2_with fail
                    go_roundg (la.length - (x + 1))
                    case measure => omega
                    case rel => exact ⟨x + 1, by simp, rfl, by omega, fx9.step0 hfy⟩
            · have ex : x = la.length := by omega
              subst ex
              have d10 := d8.fr0 hfx.drew
              have va10 := rdI_fr va8 (rdI_lt va8) hfx.drew (by simp [noB])
              have vb10 := rdI_fr vb8 (rdI_lt vb8) hfx.drew (by simp [noB])
              have sB10 := sB8.fr0 hfx.drew
              have fw10 := fw8.step0 hfx.drew
              clear hfx va8 vb8 sB8 fw8 d8
              by_cases hab : ancG G (LL i) (LL j) = true
              · have el : l4 = [LL j] := bases_anc HOK.out hab HR.out HM.out
                subst el
                have HAB := Lib.hid hab
                clear hab
                obtain ⟨g3, o3, rfl⟩ := sB10.ad (by simp)
                have rb := sB10.id 0 (by simp)
                simp only [List.getElem_cons_zero, Nat.zero_mul, Nat.add_zero] at rb
                have keep : ∀ w' w'' : World, Fr noB w' w'' → (rdI w' pa 0 = some (LL i) ∧ rdI w' pb 0 = some (LL j) ∧ rdI w' g3 o3 = some (LL j)) → (rdI w'' pa 0 = some (LL i) ∧ rdI w'' pb 0 = some (LL j) ∧ rdI w'' g3 o3 = some (LL j)) := fun w' w'' f h =>
                  ⟨rdI_fr h.1 (rdI_lt h.1) f (by simp [noB]), rdI_fr h.2.1 (rdI_lt h.2.1) f (by simp [noB]), rdI_fr h.2.2 (rdI_lt h.2.2) f (by simp [noB])⟩
                go_wp2_with fail
                refine wp_region_M 17 18 [⟨11150372599265311570767859136324180752990208, 128, 0⟩, ⟨22300745198530623141535718272648361505980416, 512, 0⟩, ⟨44601490397061246283071436545296723011960832, 1024, 0⟩, ⟨89202980794122492566142873090593446023921664, 78052608194857180995375013954269265270931456, 7⟩, ⟨178405961588244985132285746181186892047843328, 89202980794122492566142873090593446023921664, 8⟩, ⟨356811923176489970264571492362373784095686656, 178405961588244985132285746181186892047843328, 24⟩, ⟨713623846352979940529142984724747568191373312, 356811923176489970264571492362373784095688704, 32⟩, ⟨1427247692705959881058285969449495136382746624, 1070435769529469910793714477087121352287059968, 96⟩, ⟨2854495385411919762116571938898990272765493248, 1784059615882449851322857461811868920478433280, 160⟩, ⟨5708990770823839524233143877797980545530986496, 3211307308588409732381143431261364056861179904, 288⟩, ⟨11417981541647679048466287755595961091061972992, 5708990770823839524233143877797980545530988544, 512⟩, ⟨22835963083295358096932575511191922182123945984, 17126972312471518572699431633393941636592959488, 1536⟩, ⟨45671926166590716193865151022383844364247891968, 28544953854119197621165719388989902727654932480, 2560⟩, ⟨91343852333181432387730302044767688728495783936, 5708990770823839524233143877797980545530987520, 512⟩, ⟨182687704666362864775460604089535377456991567872, 142724769270595988105828596944949513638274662400, 12800⟩, ⟨365375409332725729550921208179070754913983135744, 188753507360363194269958319459695731786618241024, 16928⟩, ⟨730750818665451459101842416358141509827966271488, 365732221255902219521185779671433128698078822400, 32800⟩, ⟨64, 730750818665451459101842416358141509827966271488, 131071⟩] [(true, 0), (true, 1), (true, 2), (false, 3), (true, 4), (true, 5), (true, 6), (true, 7), (true, 8), (true, 9), (true, 10), (true, 11), (true, 12), (true, 13), (true, 14), (true, 15), (true, 16)] (fun w' => rdI w' pa 0 = some (LL i) ∧ rdI w' pb 0 = some (LL j) ∧ rdI w' g3 o3 = some (LL j)) (by kernel_rfl) rfl (by kernel_rfl) (by kernel_rfl) (by kernel_rfl) ⟨va10, vb10, rb⟩ (fun hA hF => ?_)
                refine wpAnyS_take (v := ?_) hA rfl (fun _ _ _ h => h) (Or.inl ⟨by rfl, ?_⟩) hF (fun hA => ?_)
                rotate_left
                · intro wS hSw; (try dsimp only at hSw); obtain ⟨s1, s2, s3⟩ := hSw; first | (apply Eq.trans; apply ex_ld_id; exact rfl; exact rfl; assumption; with_reducible rfl) | (go_simp; try with_reducible rfl)
                try simp only [List.getElem_toArray, List.getElem_cons_zero, List.getElem_cons_succ, Act.put, List.setIfInBounds_toArray, List.set_cons_zero, List.set_cons_succ]
                refine wpAnyS_take (v := ?_) hA rfl (fun _ _ _ h => h) (Or.inl ⟨by rfl, ?_⟩) hF (fun hA => ?_)
                rotate_left
                · intro wS hSw; (try dsimp only at hSw); obtain ⟨s1, s2, s3⟩ := hSw; first | (apply Eq.trans; apply ex_ld_id; exact rfl; exact rfl; assumption; with_reducible rfl) | (go_simp; try with_reducible rfl)
                try simp only [List.getElem_toArray, List.getElem_cons_zero, List.getElem_cons_succ, Act.put, List.setIfInBounds_toArray, List.set_cons_zero, List.set_cons_succ]
                refine wpAnyS_take (v := ?_) hA rfl (fun _ _ _ h => h) (Or.inl ⟨by rfl, ?_⟩) hF (fun hA => ?_)
                rotate_left
                · intro wS hSw; (try dsimp only at hSw); obtain ⟨s1, s2, s3⟩ := hSw; first | (apply Eq.trans; apply ex_ld_id; exact rfl; exact rfl; assumption; with_reducible rfl) | (go_simp; try with_reducible rfl)
                try simp only [List.getElem_toArray, List.getElem_cons_zero, List.getElem_cons_succ, Act.put, List.setIfInBounds_toArray, List.set_cons_zero, List.set_cons_succ]
                refine wpAnyS_one hA rfl (fun K' hK => ?_)
                go_simp
                go_at_call 24
                refine (reaches_any _ D Fd G d10 (LL i) (LL j)).mono ?_
                rintro e u1 ⟨rfl, hu1⟩
                replace hF := keep _ _ hu1 hF
                refine hK.out _ _ hF (fun hA => ?_)
                clear hK K'
                as_aux_lemma =>
                rw [HAB.out]
                refine wpAnyS_take (v := ?_) hA rfl (fun _ _ _ h => h) (Or.inl ⟨by rfl, ?_⟩) hF (fun hA => ?_)
                rotate_left
                · intro wS hSw; (try dsimp only at hSw); obtain ⟨s1, s2, s3⟩ := hSw; first | (apply Eq.trans; apply ex_ld_id; exact rfl; exact rfl; assumption; with_reducible rfl) | (go_simp; try with_reducible rfl)
                try simp only [List.getElem_toArray, List.getElem_cons_zero, List.getElem_cons_succ, Act.put, List.setIfInBounds_toArray, List.set_cons_zero, List.set_cons_succ]
                refine wpAnyS_take (v := ?_) hA rfl (fun _ _ _ h => h) (Or.inl ⟨by rfl, ?_⟩) hF (fun hA => ?_)
                rotate_left
                · intro wS hSw; (try dsimp only at hSw); obtain ⟨s1, s2, s3⟩ := hSw; first | (apply Eq.trans; apply ex_ld_id; exact rfl; exact rfl; assumption; with_reducible rfl) | (go_simp; try with_reducible rfl)
                try simp only [List.getElem_toArray, List.getElem_cons_zero, List.getElem_cons_succ, Act.put, List.setIfInBounds_toArray, List.set_cons_zero, List.set_cons_succ]
                refine wpAnyS_take (v := ?_) hA rfl (fun _ _ _ h => h) (Or.inl ⟨by rfl, ?_⟩) hF (fun hA => ?_)
                rotate_left
                · intro wS hSw; (try dsimp only at hSw); obtain ⟨s1, s2, s3⟩ := hSw; first | (apply Eq.trans; apply ex_ld_id; exact rfl; exact rfl; assumption; with_reducible rfl) | (go_simp; try with_reducible rfl)
                try simp only [List.getElem_toArray, List.getElem_cons_zero, List.getElem_cons_succ, Act.put, List.setIfInBounds_toArray, List.set_cons_zero, List.set_cons_succ]
                refine wpAnyS_take (v := ?_) hA rfl (fun _ _ _ h => h) (Or.inl ⟨by rfl, ?_⟩) hF (fun hA => ?_)
                rotate_left
                · intro wS hSw; (try dsimp only at hSw); obtain ⟨s1, s2, s3⟩ := hSw; first | (apply Eq.trans; apply ex_ld_id; exact rfl; exact rfl; assumption; with_reducible rfl) | (go_simp; try with_reducible rfl)
                try simp only [List.getElem_toArray, List.getElem_cons_zero, List.getElem_cons_succ, Act.put, List.setIfInBounds_toArray, List.set_cons_zero, List.set_cons_succ]
                refine wpAnyS_take (v := ?_) hA rfl (fun _ _ _ h => h) (Or.inl ⟨by rfl, ?_⟩) hF (fun hA => ?_)
                rotate_left
                · intro wS hSw; (try dsimp only at hSw); obtain ⟨s1, s2, s3⟩ := hSw; first | (apply Eq.trans; apply ex_ld_id; exact rfl; exact rfl; assumption; with_reducible rfl) | (go_simp; try with_reducible rfl)
                try simp only [List.getElem_toArray, List.getElem_cons_zero, List.getElem_cons_succ, Act.put, List.setIfInBounds_toArray, List.set_cons_zero, List.set_cons_succ]
                refine wpAnyS_take (v := ?_) hA rfl (fun _ _ _ h => h) (Or.inl ⟨by rfl, ?_⟩) hF (fun hA => ?_)
                rotate_left
                · intro wS hSw; (try dsimp only at hSw); obtain ⟨s1, s2, s3⟩ := hSw; first | (apply Eq.trans; apply ex_ld_id; exact rfl; exact rfl; assumption; with_reducible rfl) | (go_simp; try with_reducible rfl)
                try simp only [List.getElem_toArray, List.getElem_cons_zero, List.getElem_cons_succ, Act.put, List.setIfInBounds_toArray, List.set_cons_zero, List.set_cons_succ]
                refine wpAnyS_take (v := ?_) hA rfl (fun _ _ _ h => h) (Or.inl ⟨by rfl, ?_⟩) hF (fun hA => ?_)
                rotate_left
                · intro wS hSw; (try dsimp only at hSw); obtain ⟨s1, s2, s3⟩ := hSw; first | (apply Eq.trans; apply ex_ld_id; exact rfl; exact rfl; assumption; with_reducible rfl) | (go_simp; try with_reducible rfl)
                try simp only [List.getElem_toArray, List.getElem_cons_zero, List.getElem_cons_succ, Act.put, List.setIfInBounds_toArray, List.set_cons_zero, List.set_cons_succ]
                refine wpAnyS_take (v := ?_) hA rfl (fun _ _ _ h => h) (Or.inl ⟨by rfl, ?_⟩) hF (fun hA => ?_)
                rotate_left
                · intro wS hSw; (try dsimp only at hSw); obtain ⟨s1, s2, s3⟩ := hSw; first | (apply Eq.trans; apply ex_ld_id; exact rfl; exact rfl; assumption; with_reducible rfl) | (go_simp; try with_reducible rfl)
                try simp only [List.getElem_toArray, List.getElem_cons_zero, List.getElem_cons_succ, Act.put, List.setIfInBounds_toArray, List.set_cons_zero, List.set_cons_succ]
                refine wpAnyS_take (v := ?_) hA rfl (fun _ _ _ h => h) (Or.inl ⟨by rfl, ?_⟩) hF (fun hA => ?_)
                rotate_left
                · intro wS hSw; (try dsimp only at hSw); obtain ⟨s1, s2, s3⟩ := hSw; first | (apply Eq.trans; apply ex_ld_id; exact rfl; exact rfl; assumption; with_reducible rfl) | (go_simp; try with_reducible rfl)
                try simp only [List.getElem_toArray, List.getElem_cons_zero, List.getElem_cons_succ, Act.put, List.setIfInBounds_toArray, List.set_cons_zero, List.set_cons_succ]
                refine wpAnyS_take (v := ?_) hA rfl (fun _ _ _ h => h) (Or.inl ⟨by rfl, ?_⟩) hF (fun hA => ?_)
                rotate_left
                · intro wS hSw; (try dsimp only at hSw); obtain ⟨s1, s2, s3⟩ := hSw; first | (apply Eq.trans; apply ex_ld_id; exact rfl; exact rfl; assumption; with_reducible rfl) | (go_simp; try with_reducible rfl)
                try simp only [List.getElem_toArray, List.getElem_cons_zero, List.getElem_cons_succ, Act.put, List.setIfInBounds_toArray, List.set_cons_zero, List.set_cons_succ]
                refine wpAnyS_take (v := ?_) hA rfl (fun _ _ _ h => h) (Or.inl ⟨by rfl, ?_⟩) hF (fun hA => ?_)
                rotate_left
                · intro wS hSw; (try dsimp only at hSw); obtain ⟨s1, s2, s3⟩ := hSw; first | (apply Eq.trans; apply ex_ld_id; exact rfl; exact rfl; assumption; with_reducible rfl) | (go_simp; try with_reducible rfl)
                try simp only [List.getElem_toArray, List.getElem_cons_zero, List.getElem_cons_succ, Act.put, List.setIfInBounds_toArray, List.set_cons_zero, List.set_cons_succ]
                refine wpAnyS_take (v := ?_) hA rfl (fun _ _ _ h => h) (Or.inl ⟨by rfl, ?_⟩) hF (fun hA => ?_)
                rotate_left
                · intro wS hSw; (try dsimp only at hSw); obtain ⟨s1, s2, s3⟩ := hSw; first | (apply Eq.trans; apply ex_ld_id; exact rfl; exact rfl; assumption; with_reducible rfl) | (go_simp; try with_reducible rfl)
                try simp only [List.getElem_toArray, List.getElem_cons_zero, List.getElem_cons_succ, Act.put, List.setIfInBounds_toArray, List.set_cons_zero, List.set_cons_succ]
                refine wpAnyS_take (v := ?_) hA rfl (fun _ _ _ h => h) (Or.inl ⟨by rfl, ?_⟩) hF (fun hA => ?_)
                rotate_left
                · intro wS hSw; (try dsimp only at hSw); obtain ⟨s1, s2, s3⟩ := hSw; first | (apply Eq.trans; apply ex_ld_id; exact rfl; exact rfl; assumption; with_reducible rfl) | (go_simp; try with_reducible rfl)
                try simp only [List.getElem_toArray, List.getElem_cons_zero, List.getElem_cons_succ, Act.put, List.setIfInBounds_toArray, List.set_cons_zero, List.set_cons_succ]
                refine wpAnyS_end hA rfl ?_
                simp only [List.drop_succ_cons, List.drop_zero]
                clear hF
                go_wp2_with fail
                go_ret
                exact ⟨rfl, (fw10.step0 hu1).below⟩
              · have hab' : ancG G (LL i) (LL j) = false := by simpa using hab
                have HAB := Lib.hid hab'
                clear hab hab'
                have keep : ∀ w' w'' : World, Fr noB w' w'' → (rdI w' pa 0 = some (LL i) ∧ rdI w' pb 0 = some (LL j)) → (rdI w'' pa 0 = some (LL i) ∧ rdI w'' pb 0 = some (LL j)) := fun w' w'' f h =>
                  ⟨rdI_fr h.1 (rdI_lt h.1) f (by simp [noB]), rdI_fr h.2 (rdI_lt h.2) f (by simp [noB])⟩
                go_wp2_with fail
                refine wp_region_M 17 18 [⟨11150372599265311570767859136324180752990208, 128, 0⟩, ⟨22300745198530623141535718272648361505980416, 512, 0⟩, ⟨44601490397061246283071436545296723011960832, 1024, 0⟩, ⟨89202980794122492566142873090593446023921664, 78052608194857180995375013954269265270931456, 7⟩, ⟨178405961588244985132285746181186892047843328, 89202980794122492566142873090593446023921664, 8⟩, ⟨356811923176489970264571492362373784095686656, 178405961588244985132285746181186892047843328, 24⟩, ⟨713623846352979940529142984724747568191373312, 356811923176489970264571492362373784095688704, 32⟩, ⟨1427247692705959881058285969449495136382746624, 1070435769529469910793714477087121352287059968, 96⟩, ⟨2854495385411919762116571938898990272765493248, 1784059615882449851322857461811868920478433280, 160⟩, ⟨5708990770823839524233143877797980545530986496, 3211307308588409732381143431261364056861179904, 288⟩, ⟨11417981541647679048466287755595961091061972992, 5708990770823839524233143877797980545530988544, 512⟩, ⟨22835963083295358096932575511191922182123945984, 17126972312471518572699431633393941636592959488, 1536⟩, ⟨45671926166590716193865151022383844364247891968, 28544953854119197621165719388989902727654932480, 2560⟩, ⟨91343852333181432387730302044767688728495783936, 5708990770823839524233143877797980545530987520, 512⟩, ⟨182687704666362864775460604089535377456991567872, 142724769270595988105828596944949513638274662400, 12800⟩, ⟨365375409332725729550921208179070754913983135744, 188753507360363194269958319459695731786618241024, 16928⟩, ⟨730750818665451459101842416358141509827966271488, 365732221255902219521185779671433128698078822400, 32800⟩, ⟨64, 730750818665451459101842416358141509827966271488, 131071⟩] [(true, 0), (true, 1), (true, 2), (false, 3), (true, 4), (true, 5), (true, 6), (true, 7), (true, 8), (true, 9), (true, 10), (true, 11), (true, 12), (true, 13), (true, 14), (true, 15), (true, 16)] (fun w' => rdI w' pa 0 = some (LL i) ∧ rdI w' pb 0 = some (LL j)) (by kernel_rfl) rfl (by kernel_rfl) (by kernel_rfl) (by kernel_rfl) ⟨va10, vb10⟩ (fun hA hF => ?_)
                refine wpAnyS_take (v := ?_) hA rfl (fun _ _ _ h => h) (Or.inl ⟨by rfl, ?_⟩) hF (fun hA => ?_)
                rotate_left
                · intro wS hSw; (try dsimp only at hSw); obtain ⟨s1, s2⟩ := hSw; first | (apply Eq.trans; apply ex_ld_id; exact rfl; exact rfl; assumption; with_reducible rfl) | (go_simp; try with_reducible rfl)
                try simp only [List.getElem_toArray, List.getElem_cons_zero, List.getElem_cons_succ, Act.put, List.setIfInBounds_toArray, List.set_cons_zero, List.set_cons_succ]
                refine wpAnyS_take (v := ?_) hA rfl (fun _ _ _ h => h) (Or.inl ⟨by rfl, ?_⟩) hF (fun hA => ?_)
                rotate_left
                · intro wS hSw; (try dsimp only at hSw); obtain ⟨s1, s2⟩ := hSw; first | (apply Eq.trans; apply ex_ld_id; exact rfl; exact rfl; assumption; with_reducible rfl) | (go_simp; try with_reducible rfl)
                try simp only [List.getElem_toArray, List.getElem_cons_zero, List.getElem_cons_succ, Act.put, List.setIfInBounds_toArray, List.set_cons_zero, List.set_cons_succ]
                refine wpAnyS_take (v := ?_) hA rfl (fun _ _ _ h => h) (Or.inl ⟨by rfl, ?_⟩) hF (fun hA => ?_)
                rotate_left
                · intro wS hSw; (try dsimp only at hSw); obtain ⟨s1, s2⟩ := hSw; first | (apply Eq.trans; apply ex_ld_id; exact rfl; exact rfl; assumption; with_reducible rfl) | (go_simp; try with_reducible rfl)
                try simp only [List.getElem_toArray, List.getElem_cons_zero, List.getElem_cons_succ, Act.put, List.setIfInBounds_toArray, List.set_cons_zero, List.set_cons_succ]
                refine wpAnyS_one hA rfl (fun K' hK => ?_)
                go_simp
                go_at_call 24
                refine (reaches_any _ D Fd G d10 (LL i) (LL j)).mono ?_
                rintro e u1 ⟨rfl, hu1⟩
                replace hF := keep _ _ hu1 hF
                refine hK.out _ _ hF (fun hA => ?_)
                clear hK K'
                as_aux_lemma =>
                rw [HAB.out]
                refine wpAnyS_take (v := ?_) hA rfl (fun _ _ _ h => h) (Or.inl ⟨by rfl, ?_⟩) hF (fun hA => ?_)
                rotate_left
                · intro wS hSw; (try dsimp only at hSw); obtain ⟨s1, s2⟩ := hSw; first | (apply Eq.trans; apply ex_ld_id; exact rfl; exact rfl; assumption; with_reducible rfl) | (go_simp; try with_reducible rfl)
                try simp only [List.getElem_toArray, List.getElem_cons_zero, List.getElem_cons_succ, Act.put, List.setIfInBounds_toArray, List.set_cons_zero, List.set_cons_succ]
                refine wpAnyS_take (v := ?_) hA rfl (fun _ _ _ h => h) (Or.inl ⟨by rfl, ?_⟩) hF (fun hA => ?_)
                rotate_left
                · intro wS hSw; (try dsimp only at hSw); obtain ⟨s1, s2⟩ := hSw; first | (apply Eq.trans; apply ex_ld_id; exact rfl; exact rfl; assumption; with_reducible rfl) | (go_simp; try with_reducible rfl)
                try simp only [List.getElem_toArray, List.getElem_cons_zero, List.getElem_cons_succ, Act.put, List.setIfInBounds_toArray, List.set_cons_zero, List.set_cons_succ]
                refine wpAnyS_take (v := undef) hA rfl (fun _ _ _ h => h) (Or.inr ⟨by rfl, rfl⟩) hF (fun hA => ?_)
                try simp only [List.getElem_toArray, List.getElem_cons_zero, List.getElem_cons_succ, Act.put, List.setIfInBounds_toArray, List.set_cons_zero, List.set_cons_succ]
                refine wpAnyS_take (v := undef) hA rfl (fun _ _ _ h => h) (Or.inr ⟨by rfl, rfl⟩) hF (fun hA => ?_)
                try simp only [List.getElem_toArray, List.getElem_cons_zero, List.getElem_cons_succ, Act.put, List.setIfInBounds_toArray, List.set_cons_zero, List.set_cons_succ]
                refine wpAnyS_take (v := undef) hA rfl (fun _ _ _ h => h) (Or.inr ⟨by rfl, rfl⟩) hF (fun hA => ?_)
                try simp only [List.getElem_toArray, List.getElem_cons_zero, List.getElem_cons_succ, Act.put, List.setIfInBounds_toArray, List.set_cons_zero, List.set_cons_succ]
                refine wpAnyS_take (v := undef) hA rfl (fun _ _ _ h => h) (Or.inr ⟨by rfl, rfl⟩) hF (fun hA => ?_)
                try simp only [List.getElem_toArray, List.getElem_cons_zero, List.getElem_cons_succ, Act.put, List.setIfInBounds_toArray, List.set_cons_zero, List.set_cons_succ]
                refine wpAnyS_take (v := undef) hA rfl (fun _ _ _ h => h) (Or.inr ⟨by rfl, rfl⟩) hF (fun hA => ?_)
                try simp only [List.getElem_toArray, List.getElem_cons_zero, List.getElem_cons_succ, Act.put, List.setIfInBounds_toArray, List.set_cons_zero, List.set_cons_succ]
                refine wpAnyS_take (v := undef) hA rfl (fun _ _ _ h => h) (Or.inr ⟨by rfl, rfl⟩) hF (fun hA => ?_)
                try simp only [List.getElem_toArray, List.getElem_cons_zero, List.getElem_cons_succ, Act.put, List.setIfInBounds_toArray, List.set_cons_zero, List.set_cons_succ]
                refine wpAnyS_take (v := undef) hA rfl (fun _ _ _ h => h) (Or.inr ⟨by rfl, rfl⟩) hF (fun hA => ?_)
                try simp only [List.getElem_toArray, List.getElem_cons_zero, List.getElem_cons_succ, Act.put, List.setIfInBounds_toArray, List.set_cons_zero, List.set_cons_succ]
                refine wpAnyS_take (v := undef) hA rfl (fun _ _ _ h => h) (Or.inr ⟨by rfl, rfl⟩) hF (fun hA => ?_)
                try simp only [List.getElem_toArray, List.getElem_cons_zero, List.getElem_cons_succ, Act.put, List.setIfInBounds_toArray, List.set_cons_zero, List.set_cons_succ]
                refine wpAnyS_take (v := undef) hA rfl (fun _ _ _ h => h) (Or.inr ⟨by rfl, rfl⟩) hF (fun hA => ?_)
                try simp only [List.getElem_toArray, List.getElem_cons_zero, List.getElem_cons_succ, Act.put, List.setIfInBounds_toArray, List.set_cons_zero, List.set_cons_succ]
                refine wpAnyS_take (v := undef) hA rfl (fun _ _ _ h => h) (Or.inr ⟨by rfl, rfl⟩) hF (fun hA => ?_)
                try simp only [List.getElem_toArray, List.getElem_cons_zero, List.getElem_cons_succ, Act.put, List.setIfInBounds_toArray, List.set_cons_zero, List.set_cons_succ]
                refine wpAnyS_take (v := ?_) hA rfl (fun _ _ _ h => h) (Or.inl ⟨by rfl, ?_⟩) hF (fun hA => ?_)
                rotate_left
                · intro wS hSw; (try dsimp only at hSw); obtain ⟨s1, s2⟩ := hSw; first | (apply Eq.trans; apply ex_ld_id; exact rfl; exact rfl; assumption; with_reducible rfl) | (go_simp; try with_reducible rfl)
                try simp only [List.getElem_toArray, List.getElem_cons_zero, List.getElem_cons_succ, Act.put, List.setIfInBounds_toArray, List.set_cons_zero, List.set_cons_succ]
                refine wpAnyS_end hA rfl ?_
                simp only [List.drop_succ_cons, List.drop_zero]
                clear hF
                go_wp2_with fail
                go_ret
                exact ⟨rfl, (fw10.step0 hu1).below⟩
end Go.Proofs.Ytchiclnnoealdaa
