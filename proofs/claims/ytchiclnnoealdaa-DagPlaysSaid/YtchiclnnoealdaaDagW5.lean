/- Contracts: cmp.Or, the order by depth and ID, sorted, Ancestors, Reaches. -/
import Derived.Test.YtchiclnnoealdaaIdSort
namespace Go.Proofs.Ytchiclnnoealdaa
open Go.RowKit Go.Maps Go.Sort Go.Shelf
set_option linter.unusedVariables false
set_option linter.unusedSimpArgs false

/-- blocks are laid and draws made, nothing else -/
def Gr (w w' : World) : Prop := ∃ q os, w' = grow (w.drewN q) os
section
variable {w w1 : World}
theorem Gr.refl (w : World) : Gr w w := ⟨0, #[], by simp [grow, World.drewN]⟩
theorem Gr.alloc (h : Gr w w1) (o : Obj) : Gr w (w1.alloc o) := by
  obtain ⟨q, os, rfl⟩ := h
  exact ⟨q, os ++ #[o], by rw [alloc_eq_grow, grow_grow]⟩
theorem Gr.drew (h : Gr w w1) : Gr w w1.drew := by
  obtain ⟨q, os, rfl⟩ := h
  exact ⟨q + 1, os, rfl⟩
theorem Gr.trans {w2 : World} (h : Gr w w1) (k : Gr w1 w2) : Gr w w2 := by
  obtain ⟨q, os, rfl⟩ := h
  obtain ⟨q', os', rfl⟩ := k
  exact ⟨q + q', os ++ os', by simp [grow, World.drewN, Nat.add_assoc]⟩
theorem Gr.fr (h : Gr w w1) : Fr noB w w1 := by
  obtain ⟨q, os, rfl⟩ := h
  refine ⟨rfl, rfl, rfl, by simp [grow, World.drewN], fun k hk _ => ?_⟩
  simp [grow, World.drewN, Array.getElem?_append_left hk]
end

@[irreducible] def orI (a b : Int) : Int := if a = 0 then b else a
theorem orI_eq (a b : Int) : orI a b = if a = 0 then b else a := by unfold orI; rfl
theorem or_any (w : World) (A : Option Addr) (c : Nat) (a b : Int) (h : Sl w A [.int .i64 a, .int .i64 b]) :
    Calls Try.prog 40 #[.slice A 2 c] w fun e w' => e = .returned (.int .i64 (orI a b)) ∧ w' = w := by
  obtain ⟨g, off, rfl, _, hc⟩ := h (by simp)
  have c0 := hc 0 _ rfl
  have c1 := hc 1 _ rfl
  rw [Nat.add_zero] at c0
  go_enter Try.func40, Try.ntmps40
  go_wp2
  refine wp_loop_rounds 3 ?_
  by_cases ha : a = 0
  · by_cases hb : b = 0
    · subst ha hb
      rw [rounds_succ]
      go_wp2
      rw [rounds_succ]
      go_wp2
      rw [rounds_succ]
      go_wp2
      go_ret
      exact ⟨by simp [orI_eq], rfl⟩
    · subst ha
      rw [rounds_succ]
      go_wp2
      rw [rounds_succ]
      go_wp2
      go_ret
      exact ⟨by simp [orI_eq], rfl⟩
  · rw [rounds_succ]
    go_wp2
    go_ret
    exact ⟨by simp [orI_eq, ha], rfl⟩

/-- by depth, then by ID -/
def cfD (G : Dg) (x y : ID) : Int := orI (Lib.compareInt (depthG G x) (depthG G y)) (cmpI x y)
theorem cfD_lt (G : Dg) (x y : ID) : cfD G x y < 0 ↔ depthG G x < depthG G y ∨ (depthG G x = depthG G y ∧ cmpI x y < 0) := by
  unfold cfD
  rw [orI_eq]
  unfold Lib.compareInt
  rcases Nat.lt_trichotomy (depthG G x) (depthG G y) with h | h | h
  · have h1 : ((depthG G x : Nat) : Int) < depthG G y := by omega
    simp [h1, h]
  · have h1 : ¬ ((depthG G x : Nat) : Int) < depthG G y := by omega
    have h2 : ¬ ((depthG G y : Nat) : Int) < depthG G x := by omega
    simp [h1, h2, h]
  · have h1 : ¬ ((depthG G x : Nat) : Int) < depthG G y := by omega
    have h2 : ((depthG G y : Nat) : Int) < depthG G x := by omega
    have h3 : ¬ depthG G x < depthG G y := by omega
    have h4 : depthG G x ≠ depthG G y := by omega
    simp [h1, h2, h3, h4]
theorem swoD (G : Dg) : SWO (ltOf (cfD G)) where
  irrefl x := by simp [ltOf, cfD_lt, cmpI_self]
  trans x y z h1 h2 := by
    simp only [ltOf, decide_eq_true_eq, cfD_lt] at *
    rcases h1 with h1 | ⟨h1, h1'⟩ <;> rcases h2 with h2 | ⟨h2, h2'⟩
    · exact .inl (by omega)
    · exact .inl (by omega)
    · exact .inl (by omega)
    · exact .inr ⟨by omega, cmpI_trans h1' h2'⟩
  ntrans x y z h1 h2 := by
    simp only [ltOf, decide_eq_false_iff_not, cfD_lt, not_or, not_and] at *
    refine ⟨by omega, fun e => ?_⟩
    have e1 : depthG G x = depthG G y := by omega
    have e2 : depthG G y = depthG G z := by omega
    have := swoI.ntrans x y z (by simpa [ltOf] using h1.2 e1) (by simpa [ltOf] using h2.2 e2)
    simpa [ltOf] using this
theorem totD (G : Dg) : ∀ x y, (ltOf (cfD G)) x y = false → (ltOf (cfD G)) y x = false → x = y := by
  intro x y h1 h2
  simp only [ltOf, decide_eq_false_iff_not, cfD_lt, not_or, not_and] at *
  have e : depthG G x = depthG G y := by omega
  exact totI x y (by simpa [ltOf] using h1.2 e) (by simpa [ltOf] using h2.2 e.symm)

theorem compare_any (w : World) (a b : Int) : Calls Try.prog 41 #[.int .i64 a, .int .i64 b] w fun e w' => e = .returned (.int .i64 (Lib.compareInt a b)) ∧ w' = w := AnyG.cmp_Compare_int Try.cmpInt a b w
set_option maxRecDepth 100000 in
set_option maxHeartbeats 2000000 in
theorem closure_any (w : World) (D b0 : Nat) (F : Nat → Prop) (G : Dg) (h : DagAt w D F G) (hb : w.cell? ⟨b0, 0, none⟩ = some (.pointer (some ⟨D, 0, none⟩))) (x y : ID) :
    Calls Try.prog 39 #[encI x, encI y, .pointer (some ⟨b0, 0, none⟩)] w fun e w' => e = .returned (.int .i64 (cfD G x y)) ∧ Gr w w' := by
  obtain ⟨A, K, kv, ks, h⟩ := h
  obtain ⟨B1, k1, hn1, _⟩ := h.node x
  obtain ⟨B2, k2, hn2, _⟩ := h.node y
  have G1 : Gr w ((w.alloc (ido x)).alloc (ido y)).drew := (((Gr.refl w).alloc _).alloc _).drew
  have lb : b0 < w.heap.size := World.block_lt_of_cell? _ _ hb
  have fb : ∀ w', Gr w w' → w'.cell? ⟨b0, 0, none⟩ = some (.pointer (some ⟨D, 0, none⟩)) := fun w' g => (World.cell?_of_block (w := w) (a := ⟨b0, 0, none⟩) (g.fr.block b0 lb (by simp [noB]))).trans hb
  have r1 : rdI ((w.alloc (ido x)).alloc (ido y)).drew w.heap.size 0 = some x := by rw [rdI_drew, rdI_old _ _ _ _ (by simp), rdI_new]
  have r2 : rdI ((w.alloc (ido x)).alloc (ido y)).drew (w.heap.size + 1) 0 = some y := by
    have := rdI_new (w.alloc (ido x)) y
    rw [World.size_alloc] at this
    rw [rdI_drew]; exact this
  have h1 := h.fr0 G1.fr
  have b1 := fb _ G1
  clear hb
  go_enter Try.func39, Try.ntmps39
  go_wp2_with fail
  refine wp_region_N 20 (fun w' => w'.cell? ⟨b0, 0, none⟩ = some (.pointer (some ⟨D, 0, none⟩)) ∧ w'.cell? ⟨D, 0, none⟩ = some (.map (some A)) ∧ mpI w' A = some kv ∧ rdI w' w.heap.size 0 = some x ∧ rdI w' (w.heap.size + 1) 0 = some y) (by kernel_rfl) (by kernel_rfl) ⟨b1, h1.c0, h1.all, r1, r2⟩ (fun hA hF => ?_)
  refine wpAnyN_take (i := 0) (v := ?_) hA rfl (by decide) (by kernel_rfl) (by kernel_rfl) (fun _ _ _ h => h) (Or.inl ⟨by rfl, ?_⟩) hF (fun hA => ?_)
  rotate_left
  · intro wS hSw; (try dsimp only at hSw); obtain ⟨s1, s2, s3, s4, s5⟩ := hSw; first | (apply Eq.trans; apply ex_ld_id; exact rfl; exact rfl; assumption; with_reducible rfl) | (go_simp; try with_reducible rfl)
  try simp only [List.getElem_toArray, List.getElem_cons_zero, List.getElem_cons_succ, Act.put, List.setIfInBounds_toArray, List.set_cons_zero, List.set_cons_succ]
  refine wpAnyN_take (i := 1) (v := ?_) hA rfl (by decide) (by kernel_rfl) (by kernel_rfl) (fun _ _ _ h => h) (Or.inl ⟨by rfl, ?_⟩) hF (fun hA => ?_)
  rotate_left
  · intro wS hSw; (try dsimp only at hSw); obtain ⟨s1, s2, s3, s4, s5⟩ := hSw; first | (apply Eq.trans; apply ex_ld_id; exact rfl; exact rfl; assumption; with_reducible rfl) | (go_simp; try with_reducible rfl)
  try simp only [List.getElem_toArray, List.getElem_cons_zero, List.getElem_cons_succ, Act.put, List.setIfInBounds_toArray, List.set_cons_zero, List.set_cons_succ]
  refine wpAnyN_take (i := 2) (v := ?_) hA rfl (by decide) (by kernel_rfl) (by kernel_rfl) (fun _ _ _ h => h) (Or.inl ⟨by rfl, ?_⟩) hF (fun hA => ?_)
  rotate_left
  · intro wS hSw; (try dsimp only at hSw); obtain ⟨s1, s2, s3, s4, s5⟩ := hSw; first | (apply Eq.trans; apply ex_ld_id; exact rfl; exact rfl; assumption; with_reducible rfl) | (go_simp; try with_reducible rfl)
  try simp only [List.getElem_toArray, List.getElem_cons_zero, List.getElem_cons_succ, Act.put, List.setIfInBounds_toArray, List.set_cons_zero, List.set_cons_succ]
  refine wpAnyN_take (i := 3) (v := ?_) hA rfl (by decide) (by kernel_rfl) (by kernel_rfl) (fun _ _ _ h => h) (Or.inl ⟨by rfl, ?_⟩) hF (fun hA => ?_)
  rotate_left
  · intro wS hSw; (try dsimp only at hSw); obtain ⟨s1, s2, s3, s4, s5⟩ := hSw; first | (apply Eq.trans; apply ex_ld_id; exact rfl; exact rfl; assumption; with_reducible rfl) | (go_simp; try with_reducible rfl)
  try simp only [List.getElem_toArray, List.getElem_cons_zero, List.getElem_cons_succ, Act.put, List.setIfInBounds_toArray, List.set_cons_zero, List.set_cons_succ]
  refine wpAnyN_take (i := 4) (v := ?_) hA rfl (by decide) (by kernel_rfl) (by kernel_rfl) (fun _ _ _ h => h) (Or.inl ⟨by rfl, ?_⟩) hF (fun hA => ?_)
  rotate_left
  · intro wS hSw; (try dsimp only at hSw); obtain ⟨s1, s2, s3, s4, s5⟩ := hSw; first | (apply Eq.trans; apply ex_ld_id; exact rfl; exact rfl; assumption; with_reducible rfl) | (go_simp; try with_reducible rfl)
  try simp only [List.getElem_toArray, List.getElem_cons_zero, List.getElem_cons_succ, Act.put, List.setIfInBounds_toArray, List.set_cons_zero, List.set_cons_succ]
  refine wpAnyN_take (i := 5) (v := ?_) hA rfl (by decide) (by kernel_rfl) (by kernel_rfl) (fun _ _ _ h => h) (Or.inl ⟨by rfl, ?_⟩) hF (fun hA => ?_)
  rotate_left
  · intro wS hSw; (try dsimp only at hSw); obtain ⟨s1, s2, s3, s4, s5⟩ := hSw; first | (apply Eq.trans; apply ex_ld_id; exact rfl; exact rfl; assumption; with_reducible rfl) | (go_simp; try with_reducible rfl)
  try simp only [List.getElem_toArray, List.getElem_cons_zero, List.getElem_cons_succ, Act.put, List.setIfInBounds_toArray, List.set_cons_zero, List.set_cons_succ]
  refine wpAnyN_take (i := 6) (v := ?_) hA rfl (by decide) (by kernel_rfl) (by kernel_rfl) (fun _ _ _ h => h) (Or.inl ⟨by rfl, ?_⟩) hF (fun hA => ?_)
  rotate_left
  · intro wS hSw; (try dsimp only at hSw); obtain ⟨s1, s2, s3, s4, s5⟩ := hSw; first | (apply Eq.trans; apply ex_ld_id; exact rfl; exact rfl; assumption; with_reducible rfl) | (go_simp; try with_reducible rfl)
  try simp only [List.getElem_toArray, List.getElem_cons_zero, List.getElem_cons_succ, Act.put, List.setIfInBounds_toArray, List.set_cons_zero, List.set_cons_succ]
  refine wpAnyN_take (i := 7) (v := ?_) hA rfl (by decide) (by kernel_rfl) (by kernel_rfl) (fun _ _ _ h => h) (Or.inl ⟨by rfl, ?_⟩) hF (fun hA => ?_)
  rotate_left
  · intro wS hSw; (try dsimp only at hSw); obtain ⟨s1, s2, s3, s4, s5⟩ := hSw; first | (apply Eq.trans; apply ex_ld_id; exact rfl; exact rfl; assumption; with_reducible rfl) | (go_simp; try with_reducible rfl)
  try simp only [List.getElem_toArray, List.getElem_cons_zero, List.getElem_cons_succ, Act.put, List.setIfInBounds_toArray, List.set_cons_zero, List.set_cons_succ]
  refine wpAnyN_take (i := 8) (v := ?_) hA rfl (by decide) (by kernel_rfl) (by kernel_rfl) (fun _ _ _ h => h) (Or.inl ⟨by rfl, ?_⟩) hF (fun hA => ?_)
  rotate_left
  · intro wS hSw; (try dsimp only at hSw); obtain ⟨s1, s2, s3, s4, s5⟩ := hSw; first | (apply Eq.trans; apply ex_ld_id; exact rfl; exact rfl; assumption; with_reducible rfl) | (go_simp; try with_reducible rfl)
  try simp only [List.getElem_toArray, List.getElem_cons_zero, List.getElem_cons_succ, Act.put, List.setIfInBounds_toArray, List.set_cons_zero, List.set_cons_succ]
  refine wpAnyN_take (i := 9) (v := ?_) hA rfl (by decide) (by kernel_rfl) (by kernel_rfl) (fun _ _ _ h => h) (Or.inl ⟨by rfl, ?_⟩) hF (fun hA => ?_)
  rotate_left
  · intro wS hSw; (try dsimp only at hSw); obtain ⟨s1, s2, s3, s4, s5⟩ := hSw; first | (apply Eq.trans; apply ex_ld_id; exact rfl; exact rfl; assumption; with_reducible rfl) | (go_simp; try with_reducible rfl)
  try simp only [List.getElem_toArray, List.getElem_cons_zero, List.getElem_cons_succ, Act.put, List.setIfInBounds_toArray, List.set_cons_zero, List.set_cons_succ]
  refine wpAnyN_take (i := 10) (v := ?_) hA rfl (by decide) (by kernel_rfl) (by kernel_rfl) (fun _ _ _ h => h) (Or.inl ⟨by rfl, ?_⟩) hF (fun hA => ?_)
  rotate_left
  · intro wS hSw; (try dsimp only at hSw); obtain ⟨s1, s2, s3, s4, s5⟩ := hSw; first | (apply Eq.trans; apply ex_ld_id; exact rfl; exact rfl; assumption; with_reducible rfl) | (go_simp; try with_reducible rfl)
  try simp only [List.getElem_toArray, List.getElem_cons_zero, List.getElem_cons_succ, Act.put, List.setIfInBounds_toArray, List.set_cons_zero, List.set_cons_succ]
  refine wpAnyN_take (i := 11) (v := ?_) hA rfl (by decide) (by kernel_rfl) (by kernel_rfl) (fun _ _ _ h => h) (Or.inl ⟨by rfl, ?_⟩) hF (fun hA => ?_)
  rotate_left
  · intro wS hSw; (try dsimp only at hSw); obtain ⟨s1, s2, s3, s4, s5⟩ := hSw; first | (apply Eq.trans; apply ex_ld_id; exact rfl; exact rfl; assumption; with_reducible rfl) | (go_simp; try with_reducible rfl)
  try simp only [List.getElem_toArray, List.getElem_cons_zero, List.getElem_cons_succ, Act.put, List.setIfInBounds_toArray, List.set_cons_zero, List.set_cons_succ]
  refine wpAnyN_take (i := 12) (v := ?_) hA rfl (by decide) (by kernel_rfl) (by kernel_rfl) (fun _ _ _ h => h) (Or.inl ⟨by rfl, ?_⟩) hF (fun hA => ?_)
  rotate_left
  · intro wS hSw; (try dsimp only at hSw); obtain ⟨s1, s2, s3, s4, s5⟩ := hSw; first | (apply Eq.trans; apply ex_ld_id; exact rfl; exact rfl; assumption; with_reducible rfl) | (go_simp; try with_reducible rfl)
  try simp only [List.getElem_toArray, List.getElem_cons_zero, List.getElem_cons_succ, Act.put, List.setIfInBounds_toArray, List.set_cons_zero, List.set_cons_succ]
  refine wpAnyN_take (i := 13) (v := ?_) hA rfl (by decide) (by kernel_rfl) (by kernel_rfl) (fun _ _ _ h => h) (Or.inl ⟨by rfl, ?_⟩) hF (fun hA => ?_)
  rotate_left
  · intro wS hSw; (try dsimp only at hSw); obtain ⟨s1, s2, s3, s4, s5⟩ := hSw; first | (apply Eq.trans; apply ex_ld_id; exact rfl; exact rfl; assumption; with_reducible rfl) | (go_simp; try with_reducible rfl)
  try simp only [List.getElem_toArray, List.getElem_cons_zero, List.getElem_cons_succ, Act.put, List.setIfInBounds_toArray, List.set_cons_zero, List.set_cons_succ]
  refine wpAnyN_take (i := 15) (v := ?_) hA rfl (by decide) (by kernel_rfl) (by kernel_rfl) (fun _ _ _ h => h) (Or.inl ⟨by rfl, ?_⟩) hF (fun hA => ?_)
  rotate_left
  · intro wS hSw; (try dsimp only at hSw); obtain ⟨s1, s2, s3, s4, s5⟩ := hSw; first | (apply Eq.trans; apply ex_ld_id; exact rfl; exact rfl; assumption; with_reducible rfl) | (go_simp; try with_reducible rfl)
  try simp only [List.getElem_toArray, List.getElem_cons_zero, List.getElem_cons_succ, Act.put, List.setIfInBounds_toArray, List.set_cons_zero, List.set_cons_succ]
  refine wpAnyN_take (i := 16) (v := ?_) hA rfl (by decide) (by kernel_rfl) (by kernel_rfl) (fun _ _ _ h => h) (Or.inl ⟨by rfl, ?_⟩) hF (fun hA => ?_)
  rotate_left
  · intro wS hSw; (try dsimp only at hSw); obtain ⟨s1, s2, s3, s4, s5⟩ := hSw; first | (apply Eq.trans; apply ex_ld_id; exact rfl; exact rfl; assumption; with_reducible rfl) | (go_simp; try with_reducible rfl)
  try simp only [List.getElem_toArray, List.getElem_cons_zero, List.getElem_cons_succ, Act.put, List.setIfInBounds_toArray, List.set_cons_zero, List.set_cons_succ]
  refine wpAnyN_one (i := 14) hA (by kernel_rfl) (by decide) rfl (fun K' hK => ?_)
  go_simp
  go_at_call 41
  refine (compare_any _ _ _).mono ?_
  rintro e w2 ⟨rfl, rfl⟩
  refine hK.out _ _ ⟨b1, h1.c0, h1.all, r1, r2⟩ (fun hA => ?_)
  clear hK K'
  refine wpAnyN_one (i := 17) hA (by kernel_rfl) (by decide) rfl (fun K' hK => ?_)
  go_simp
  go_at_call 37
  refine (cmp_any _ x y).mono ?_
  rintro e w3 ⟨rfl, hg3⟩
  have hg3 : Gr _ _ := hg3
  have f3 := hg3.fr
  have G3 := G1.trans hg3
  have h3 := h.fr0 G3.fr
  have q1 := rdI_fr r1 (rdI_lt r1) f3 (by simp [noB])
  have q2 := rdI_fr r2 (rdI_lt r2) f3 (by simp [noB])
  refine hK.out _ _ ⟨fb _ G3, h3.c0, h3.all, q1, q2⟩ (fun hA => ?_)
  clear hK K'
  refine wpAnyN_one (i := 18) hA (by kernel_rfl) (by decide) rfl (fun K' hK => ?_)
  go_simp
  have G4 : Gr w (w3.alloc (.cells #[.int .i64 (Lib.compareInt (depthG G x) (depthG G y)), .int .i64 (cmpI x y)] 3)) := G3.alloc _
  have h4 := h.fr0 G4.fr
  refine hK.out _ _ ⟨fb _ G4, h4.c0, h4.all, by rw [rdI_old _ _ _ _ (rdI_lt q1)]; exact q1, by rw [rdI_old _ _ _ _ (rdI_lt q2)]; exact q2⟩ (fun hA => ?_)
  clear hK K'
  refine wpAnyN_one (i := 19) hA (by kernel_rfl) (by decide) rfl (fun K' hK => ?_)
  go_simp
  go_at_call 40
  refine (or_any _ _ _ (Lib.compareInt (depthG G x) (depthG G y)) (cmpI x y) (Sl.new _ _ _)).mono ?_
  rintro e w5 ⟨rfl, rfl⟩
  refine hK.out _ _ ⟨fb _ G4, h4.c0, h4.all, by rw [rdI_old _ _ _ _ (rdI_lt q1)]; exact q1, by rw [rdI_old _ _ _ _ (rdI_lt q2)]; exact q2⟩ (fun hA => ?_)
  clear hK K'
  refine wpAnyN_end rfl (by kernel_rfl) ?_
  simp only [List.drop_succ_cons, List.drop_zero]
  go_wp2
  go_ret
  exact ⟨rfl, G4⟩

/-- IDs that rise in an order -/
def Rise (cf : ID → ID → Int) (l : List ID) : Prop := l.Pairwise fun x y => cf x y < 0
theorem sortBy_rise {cf : ID → ID → Int} (hO : SWO (ltOf cf)) (hT : ∀ x y, (ltOf cf) x y = false → (ltOf cf) y x = false → x = y) {l : List ID} (hn : l.Nodup) : Rise cf (sortBy cf l) := by
  have h1 : (sortBy cf l).Pairwise fun x y => (!(ltOf cf) y x) = true := by
    refine List.pairwise_mergeSort ?_ ?_ l
    · intro a b c hab hbc
      simp only [Bool.not_eq_true'] at *
      exact hO.ntrans _ _ _ hbc hab
    · intro a b
      cases h : ltOf cf b a with
      | false => simp
      | true =>
        cases h2 : ltOf cf a b with
        | false => simp
        | true => have := hO.trans _ _ _ h h2; rw [hO.irrefl] at this; cases this
  have h2 : (sortBy cf l).Nodup := (sortBy_perm cf l).nodup_iff.2 hn
  have h3 := List.Pairwise.and h1 h2
  refine List.Pairwise.imp ?_ h3
  rintro a b ⟨ha, hne⟩
  cases h : ltOf cf a b with
  | true => simpa [ltOf] using h
  | false => exact absurd (hT a b h (by simpa using ha)) hne
theorem sortBy_mem (cf : ID → ID → Int) (l : List ID) (x : ID) : x ∈ sortBy cf l ↔ x ∈ l := (sortBy_perm cf l).mem_iff
/-- a new row of IDs: those of S, rising -/
def NewRise (w : World) (cf : ID → ID → Int) (S : ID → Prop) (e : Ending) (w' : World) : Prop := ∃ l, NewIDs w l e w' ∧ Rise cf l ∧ (∀ y, y ∈ l ↔ S y) ∧ l.length ≤ 1000000000

theorem RngL.ne_own {w : World} {it r : Nat} {kv left : List (ID × Value)} (h : RngL encI w it r kv left) {base n : Nat} {A : Option Addr} {c : Nat} {l : List ID} (ho : w.ownsRow base 24 32 (.slice A n c) n (idc l)) (g : Nat) (hg : A.map (·.block) = some g) : g ≠ it ∧ g ≠ r := by
  obtain ⟨es, clock, seen, hi, hb, _⟩ := h
  rcases ho.2 with ⟨hv, _⟩ | ⟨g', cap, cur, hv, _, hc, _⟩
  · injection hv with h1 _ _
    subst h1; cases hg
  · injection hv with h1 _ _
    subst h1
    simp only [Option.map_some, Option.some.injEq] at hg
    subst hg
    constructor
    · rintro rfl; rw [hi] at hc; cases hc
    · rintro rfl; rw [hb] at hc; cases hc

/-- where a range that gathers the keys stands -/
def SorR (w : World) (it R : Nat) (l : List ID) (X : World → Prop) (gk : Nat) (iv : Value) (wr : World) : Prop :=
  ∃ left out A c, iv = .slice A out.length c ∧ gk = left.length ∧ RngL encI wr it R (setV l) (setV left) ∧ OwnD w wr A c out ∧ (out ++ left).Perm l ∧ Fr noB w wr ∧ X wr
theorem setV_split {left : List ID} {l1 l2 : List (ID × Value)} {p : ID × Value} (h : setV left = l1 ++ p :: l2) : ∃ a b, left = a ++ p.1 :: b ∧ l1 = setV a ∧ l2 = setV b ∧ p.2 = .bool true := by
  unfold setV at h
  obtain ⟨a, q, e1, e2, e3⟩ := List.map_eq_append_iff.1 h
  obtain ⟨y, b, e4, e5, e6⟩ := List.map_eq_cons_iff.1 e3
  subst e5
  exact ⟨a, b, by rw [e1, e4], e2.symm, e6.symm, rfl⟩
/-- a world in which the row has been sorted on: only its block turned -/
theorem sortW_fr (w : World) (blk m : Nat) (dk : Array ID) (os : Array Obj) : Fr (oneB blk) w (sortWorldK encS 32 w blk 0 m dk os) := by
  refine ⟨rfl, rfl, rfl, by simp [sortWorldK, putRowK, Sort.ahead], fun k hk hne => ?_⟩
  unfold sortWorldK putRowK
  rw [heap_grow_old _ _ (by simpa using hk)]
  have : blk ≠ k := fun e => hne e.symm
  simp [putRow, mapBlock, Sort.ahead, Array.getElem?_modify, this]

end Go.Proofs.Ytchiclnnoealdaa
