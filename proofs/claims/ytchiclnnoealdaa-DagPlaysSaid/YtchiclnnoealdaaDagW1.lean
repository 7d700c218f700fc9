/- Contracts: Has, Len, Depth, New. -/
import Derived.Test.YtchiclnnoealdaaDagP
import Derived.Test.YtchiclnnoealdaaMapI
import Derived.Test.YtchiclnnoealdaaIdRow
import Derived.Test.YtchiclnnoealdaaReg
namespace Go.Proofs.Ytchiclnnoealdaa
open Go.RowKit Go.Maps Go.Sort
set_option linter.unusedVariables false
set_option linter.unusedSimpArgs false

/-- The Dag in block D has the commits G; its maps lie in A and K; all its blocks are in F. -/
structure DagA (w : World) (D A K : Nat) (kv : List (ID × Value)) (ks : List ID) (F : Nat → Prop) (G : Dg) : Prop where
  blk : Blk w D 65 [.map (some A), .map (some K)]
  all : mpI w A = some kv
  kids : mpI w K = some (setV ks)
  ne : A ≠ K
  fD : F D
  fA : F A
  fK : F K
  keys : kv.map (·.1) = (G.map (·.1)).reverse
  par : ∀ x, x ∈ ks ↔ ∃ p ∈ G, x ∈ p.2
  vals : ∀ x ps, parents G x = some ps → ∃ B c, look kv x = some (nodeV B ps.length c (depthG G x)) ∧ Sl w B (idc ps) ∧ Off B F
  lt : ∀ b, F b → b < w.heap.size
  ok : okG G
  le : G.length ≤ 1000000
def DagAt (w : World) (D : Nat) (F : Nat → Prop) (G : Dg) : Prop := ∃ A K kv ks, DagA w D A K kv ks F G

section
variable {w w' : World} {D A K : Nat} {kv : List (ID × Value)} {ks : List ID} {F : Nat → Prop} {G : Dg}
theorem DagA.fr {M : Nat → Prop} (h : DagA w D A K kv ks F G) (f : Fr M w w') (hM : ∀ b, F b → ¬ M b) : DagA w' D A K kv ks F G :=
  ⟨h.blk.fr f (hM _ h.fD), mpI_fr h.all f (hM _ h.fA), mpI_fr h.kids f (hM _ h.fK), h.ne, h.fD, h.fA, h.fK, h.keys, h.par,
   fun x ps hp => by obtain ⟨B, c, h1, h2, h3⟩ := h.vals x ps hp; exact ⟨B, c, h1, h2.fr f (h3.mono hM), h3⟩, fun b hb => Nat.lt_of_lt_of_le (h.lt b hb) f.size, h.ok, h.le⟩
theorem DagA.fr0 (h : DagA w D A K kv ks F G) (f : Fr noB w w') : DagA w' D A K kv ks F G := h.fr f (fun _ _ => by simp [noB])
theorem DagAt.fr {M : Nat → Prop} (h : DagAt w D F G) (f : Fr M w w') (hM : ∀ b, F b → ¬ M b) : DagAt w' D F G := by
  obtain ⟨A, K, kv, ks, h⟩ := h; exact ⟨A, K, kv, ks, h.fr f hM⟩
theorem DagAt.fr0 (h : DagAt w D F G) (f : Fr noB w w') : DagAt w' D F G := h.fr f (fun _ _ => by simp [noB])
theorem DagA.look0 (h : DagA w D A K kv ks F G) {x : ID} (hp : parents G x = none) : look kv x = none := by
  rw [look_none, h.keys, List.mem_reverse, ← hasG_mem, hasG, hp]; simp
theorem DagA.isSome (h : DagA w D A K kv ks F G) (x : ID) : (look kv x).isSome = hasG G x := by
  cases hp : parents G x with
  | none => rw [h.look0 hp, hasG, hp]; rfl
  | some ps => obtain ⟨B, c, h1, _⟩ := h.vals x ps hp; rw [h1, hasG, hp]; rfl
theorem DagA.node (h : DagA w D A K kv ks F G) (x : ID) : ∃ B c, (look kv x).getD (nodeV none 0 0 0) = nodeV B ((parents G x).getD []).length c (depthG G x) ∧ Sl w B (idc ((parents G x).getD [])) ∧ Off B F := by
  cases hp : parents G x with
  | none => rw [h.look0 hp, depth_none hp]; exact ⟨none, 0, rfl, Sl.nil _ _, Off.none⟩
  | some ps => obtain ⟨B, c, h1, h2⟩ := h.vals x ps hp; rw [h1]; exact ⟨B, c, rfl, h2⟩
theorem DagA.len (h : DagA w D A K kv ks F G) : kv.length = G.length := by
  have := congrArg List.length h.keys; simpa using this
theorem DagA.c0 (h : DagA w D A K kv ks F G) : w.cell? ⟨D, 0, none⟩ = some (.map (some A)) := Blk.cell h.blk 0
theorem DagA.c1 (h : DagA w D A K kv ks F G) : w.cell? ⟨D, 1, none⟩ = some (.map (some K)) := Blk.cell h.blk 1
end

@[simp] theorem fl_0 (w : World) (B : Option Addr) (n c d : Nat) : (Instr.field 68 (nodeV B n c d) 0).run Try.prog w = .ok (.slice B n c) w := by kernel_rfl
@[simp] theorem fl_1 (w : World) (B : Option Addr) (n c d : Nat) : (Instr.field 68 (nodeV B n c d) 1).run Try.prog w = .ok (.int .i64 d) w := by kernel_rfl
@[simp] theorem bld_node (w : World) (B : Option Addr) (n c : Nat) (d : Int) : (Instr.build 68 #[(0, .slice B n c), (1, .int .i64 d)]).run Try.prog w = .ok (.agg #[.slice B n c, .int .i64 d]) w := by kernel_rfl
@[simp] theorem bld_dag (w : World) (a b : Option Nat) : (Instr.build 65 #[(0, .map a), (1, .map b)]).run Try.prog w = .ok (.agg #[.map a, .map b]) w := by kernel_rfl
@[simp] theorem mk_map (t : TypeId) (w : World) : (Instr.makeMap t none).run Try.prog w = .ok (.map (some w.heap.size)) (w.alloc (.map #[] 0)) := rfl
/-- a value comes back, memory that was there stays -/
def Gives (w : World) (v : Value) (e : Ending) (w' : World) : Prop := e = .returned v ∧ Fr noB w w'

theorem len_any (w : World) (D : Nat) (F : Nat → Prop) (G : Dg) (h : DagAt w D F G) : Calls Try.prog 13 #[.pointer (some ⟨D, 0, none⟩)] w (Gives w (.int .i64 G.length)) := by
  obtain ⟨A, K, kv, ks, h⟩ := h
  have c0 := h.c0
  have ha := h.all
  have hl := h.len
  go_enter Try.func13, Try.ntmps13
  go_wp2
  go_ret
  exact ⟨by simp [hl], Fr.refl _ _⟩
/-- behind the look-up of a node that is laid into memory -/
theorem has_any (w : World) (D : Nat) (F : Nat → Prop) (G : Dg) (h : DagAt w D F G) (x : ID) : Calls Try.prog 14 #[.pointer (some ⟨D, 0, none⟩), encI x] w (Gives w (.bool (hasG G x))) := by
  obtain ⟨A, K, kv, ks, h⟩ := h
  have hl := h.isSome x
  obtain ⟨B, c, hn, _⟩ := h.node x
  have F1 : Fr noB w (w.alloc (ido x)).drew := ((Fr.refl noB w).alloc _).drew
  have hh := h.fr0 F1
  have d0 := hh.c0
  have da := hh.all
  have dr : rdI (w.alloc (ido x)).drew w.heap.size 0 = some x := by simp
  clear hh
  go_enter Try.func14, Try.ntmps14
  go_wp2_with fail
  refine wp_region_N 11 (fun w' => w'.cell? ⟨D, 0, none⟩ = some (.map (some A)) ∧ mpI w' A = some kv ∧ rdI w' w.heap.size 0 = some x) (by kernel_rfl) (by kernel_rfl) ⟨d0, da, dr⟩ (fun hA hF => ?_)
  refine wpAnyN_take (i := 0) (v := ?_) hA rfl (by decide) (by kernel_rfl) (by kernel_rfl) (fun _ _ _ h => h) (Or.inl ⟨by rfl, ?_⟩) hF (fun hA => ?_)
  rotate_left
  · intro wS hSw; (try dsimp only at hSw); obtain ⟨s1, s2, s3⟩ := hSw; first | (apply Eq.trans; apply ex_ld_id; exact rfl; exact rfl; assumption; with_reducible rfl) | (go_simp; try with_reducible rfl)
  try simp only [List.getElem_toArray, List.getElem_cons_zero, List.getElem_cons_succ, Act.put, List.setIfInBounds_toArray, List.set_cons_zero, List.set_cons_succ]
  refine wpAnyN_take (i := 1) (v := ?_) hA rfl (by decide) (by kernel_rfl) (by kernel_rfl) (fun _ _ _ h => h) (Or.inl ⟨by rfl, ?_⟩) hF (fun hA => ?_)
  rotate_left
  · intro wS hSw; (try dsimp only at hSw); obtain ⟨s1, s2, s3⟩ := hSw; first | (apply Eq.trans; apply ex_ld_id; exact rfl; exact rfl; assumption; with_reducible rfl) | (go_simp; try with_reducible rfl)
  try simp only [List.getElem_toArray, List.getElem_cons_zero, List.getElem_cons_succ, Act.put, List.setIfInBounds_toArray, List.set_cons_zero, List.set_cons_succ]
  refine wpAnyN_take (i := 2) (v := ?_) hA rfl (by decide) (by kernel_rfl) (by kernel_rfl) (fun _ _ _ h => h) (Or.inl ⟨by rfl, ?_⟩) hF (fun hA => ?_)
  rotate_left
  · intro wS hSw; (try dsimp only at hSw); obtain ⟨s1, s2, s3⟩ := hSw; first | (apply Eq.trans; apply ex_ld_id; exact rfl; exact rfl; assumption; with_reducible rfl) | (go_simp; try with_reducible rfl)
  try simp only [List.getElem_toArray, List.getElem_cons_zero, List.getElem_cons_succ, Act.put, List.setIfInBounds_toArray, List.set_cons_zero, List.set_cons_succ]
  refine wpAnyN_take (i := 3) (v := ?_) hA rfl (by decide) (by kernel_rfl) (by kernel_rfl) (fun _ _ _ h => h) (Or.inl ⟨by rfl, ?_⟩) hF (fun hA => ?_)
  rotate_left
  · intro wS hSw; (try dsimp only at hSw); obtain ⟨s1, s2, s3⟩ := hSw; first | (apply Eq.trans; apply ex_ld_id; exact rfl; exact rfl; assumption; with_reducible rfl) | (go_simp; try with_reducible rfl)
  try simp only [List.getElem_toArray, List.getElem_cons_zero, List.getElem_cons_succ, Act.put, List.setIfInBounds_toArray, List.set_cons_zero, List.set_cons_succ]
  refine wpAnyN_take (i := 4) (v := ?_) hA rfl (by decide) (by kernel_rfl) (by kernel_rfl) (fun _ _ _ h => h) (Or.inl ⟨by rfl, ?_⟩) hF (fun hA => ?_)
  rotate_left
  · intro wS hSw; (try dsimp only at hSw); obtain ⟨s1, s2, s3⟩ := hSw; first | (apply Eq.trans; apply ex_ld_id; exact rfl; exact rfl; assumption; with_reducible rfl) | (go_simp; try with_reducible rfl)
  try simp only [List.getElem_toArray, List.getElem_cons_zero, List.getElem_cons_succ, Act.put, List.setIfInBounds_toArray, List.set_cons_zero, List.set_cons_succ]
  refine wpAnyN_take (i := 5) (v := ?_) hA rfl (by decide) (by kernel_rfl) (by kernel_rfl) (fun _ _ _ h => h) (Or.inl ⟨by rfl, ?_⟩) hF (fun hA => ?_)
  rotate_left
  · intro wS hSw; (try dsimp only at hSw); obtain ⟨s1, s2, s3⟩ := hSw; first | (apply Eq.trans; apply ex_ld_id; exact rfl; exact rfl; assumption; with_reducible rfl) | (go_simp; try with_reducible rfl)
  try simp only [List.getElem_toArray, List.getElem_cons_zero, List.getElem_cons_succ, Act.put, List.setIfInBounds_toArray, List.set_cons_zero, List.set_cons_succ]
  refine wpAnyN_take (i := 6) (v := ?_) hA rfl (by decide) (by kernel_rfl) (by kernel_rfl) (fun _ _ _ h => h) (Or.inl ⟨by rfl, ?_⟩) hF (fun hA => ?_)
  rotate_left
  · intro wS hSw; (try dsimp only at hSw); obtain ⟨s1, s2, s3⟩ := hSw; first | (apply Eq.trans; apply ex_ld_id; exact rfl; exact rfl; assumption; with_reducible rfl) | (go_simp; try with_reducible rfl)
  try simp only [List.getElem_toArray, List.getElem_cons_zero, List.getElem_cons_succ, Act.put, List.setIfInBounds_toArray, List.set_cons_zero, List.set_cons_succ]
  refine wpAnyN_take (i := 7) (v := ?_) hA rfl (by decide) (by kernel_rfl) (by kernel_rfl) (fun _ _ _ h => h) (Or.inl ⟨by rfl, ?_⟩) hF (fun hA => ?_)
  rotate_left
  · intro wS hSw; (try dsimp only at hSw); obtain ⟨s1, s2, s3⟩ := hSw; first | (apply Eq.trans; apply ex_ld_id; exact rfl; exact rfl; assumption; with_reducible rfl) | (go_simp; try with_reducible rfl)
  try simp only [List.getElem_toArray, List.getElem_cons_zero, List.getElem_cons_succ, Act.put, List.setIfInBounds_toArray, List.set_cons_zero, List.set_cons_succ]
  refine wpAnyN_take (i := 8) (v := ?_) hA rfl (by decide) (by kernel_rfl) (by kernel_rfl) (fun _ _ _ h => h) (Or.inl ⟨by rfl, ?_⟩) hF (fun hA => ?_)
  rotate_left
  · intro wS hSw; (try dsimp only at hSw); obtain ⟨s1, s2, s3⟩ := hSw; first | (apply Eq.trans; apply ex_ld_id; exact rfl; exact rfl; assumption; with_reducible rfl) | (go_simp; try with_reducible rfl)
  try simp only [List.getElem_toArray, List.getElem_cons_zero, List.getElem_cons_succ, Act.put, List.setIfInBounds_toArray, List.set_cons_zero, List.set_cons_succ]
  refine wpAnyN_one (i := 9) hA (by kernel_rfl) (by decide) rfl (fun K hK => ?_)
  go_simp
  have F2 : Fr noB w ((w.alloc (ido x)).alloc (.cells #[.slice none 0 0, .int .i64 0] 68)).drew := (((Fr.refl noB w).alloc _).alloc _).drew
  have h2 := h.fr0 F2
  refine hK.out _ _ ⟨h2.c0, h2.all, by simp⟩ (fun hA => ?_)
  clear hK K
  refine wpAnyN_one (i := 10) hA (by kernel_rfl) (by decide) rfl (fun K hK => ?_)
  go_simp
  have F3 : Fr noB w ((w.alloc (ido x)).alloc (.cells #[.slice B ((parents G x).getD []).length c, .int .i64 (depthG G x)] 68)).drew := (((Fr.refl noB w).alloc _).alloc _).drew
  have h3 := h.fr0 F3
  refine hK.out _ _ ⟨h3.c0, h3.all, by simp⟩ (fun hA => ?_)
  clear hK K
  refine wpAnyN_end rfl (by kernel_rfl) ?_
  simp only [List.drop_succ_cons, List.drop_zero]
  go_wp2
  go_ret
  exact ⟨rfl, F3⟩
theorem depth_any (w : World) (D : Nat) (F : Nat → Prop) (G : Dg) (h : DagAt w D F G) (x : ID) : Calls Try.prog 18 #[.pointer (some ⟨D, 0, none⟩), encI x] w (Gives w (.int .i64 (depthG G x))) := by
  obtain ⟨A, K, kv, ks, h⟩ := h
  obtain ⟨B, c, hn, _⟩ := h.node x
  have F1 : Fr noB w (w.alloc (ido x)).drew := ((Fr.refl noB w).alloc _).drew
  have hh := h.fr0 F1
  have d0 := hh.c0
  have da := hh.all
  have dr : rdI (w.alloc (ido x)).drew w.heap.size 0 = some x := by simp
  clear hh
  go_enter Try.func18, Try.ntmps18
  go_wp2_with fail
  refine wp_region_H (fun w' => w'.cell? ⟨D, 0, none⟩ = some (.map (some A)) ∧ mpI w' A = some kv ∧ rdI w' w.heap.size 0 = some x) (by kernel_rfl) ⟨d0, da, dr⟩ (fun hF => ?_)
  refine wpAnyH_take (i := 0) (v := ?_) rfl (by kernel_rfl) (by kernel_rfl) (by kernel_rfl) (fun _ _ _ h => h) (Or.inl ⟨by rfl, ?_⟩) hF ?_
  rotate_left
  · intro wS hSw; (try dsimp only at hSw); obtain ⟨s1, s2, s3⟩ := hSw; first | (apply Eq.trans; apply ex_ld_id; exact rfl; exact rfl; assumption; with_reducible rfl) | (go_simp; try with_reducible rfl)
  try simp only [List.getElem_toArray, List.getElem_cons_zero, List.getElem_cons_succ, Act.put, List.setIfInBounds_toArray, List.set_cons_zero, List.set_cons_succ]
  refine wpAnyH_take (i := 1) (v := ?_) rfl (by kernel_rfl) (by kernel_rfl) (by kernel_rfl) (fun _ _ _ h => h) (Or.inl ⟨by rfl, ?_⟩) hF ?_
  rotate_left
  · intro wS hSw; (try dsimp only at hSw); obtain ⟨s1, s2, s3⟩ := hSw; first | (apply Eq.trans; apply ex_ld_id; exact rfl; exact rfl; assumption; with_reducible rfl) | (go_simp; try with_reducible rfl)
  try simp only [List.getElem_toArray, List.getElem_cons_zero, List.getElem_cons_succ, Act.put, List.setIfInBounds_toArray, List.set_cons_zero, List.set_cons_succ]
  refine wpAnyH_take (i := 2) (v := ?_) rfl (by kernel_rfl) (by kernel_rfl) (by kernel_rfl) (fun _ _ _ h => h) (Or.inl ⟨by rfl, ?_⟩) hF ?_
  rotate_left
  · intro wS hSw; (try dsimp only at hSw); obtain ⟨s1, s2, s3⟩ := hSw; first | (apply Eq.trans; apply ex_ld_id; exact rfl; exact rfl; assumption; with_reducible rfl) | (go_simp; try with_reducible rfl)
  try simp only [List.getElem_toArray, List.getElem_cons_zero, List.getElem_cons_succ, Act.put, List.setIfInBounds_toArray, List.set_cons_zero, List.set_cons_succ]
  refine wpAnyH_take (i := 3) (v := ?_) rfl (by kernel_rfl) (by kernel_rfl) (by kernel_rfl) (fun _ _ _ h => h) (Or.inl ⟨by rfl, ?_⟩) hF ?_
  rotate_left
  · intro wS hSw; (try dsimp only at hSw); obtain ⟨s1, s2, s3⟩ := hSw; first | (apply Eq.trans; apply ex_ld_id; exact rfl; exact rfl; assumption; with_reducible rfl) | (go_simp; try with_reducible rfl)
  try simp only [List.getElem_toArray, List.getElem_cons_zero, List.getElem_cons_succ, Act.put, List.setIfInBounds_toArray, List.set_cons_zero, List.set_cons_succ]
  refine wpAnyH_take (i := 4) (v := ?_) rfl (by kernel_rfl) (by kernel_rfl) (by kernel_rfl) (fun _ _ _ h => h) (Or.inl ⟨by rfl, ?_⟩) hF ?_
  rotate_left
  · intro wS hSw; (try dsimp only at hSw); obtain ⟨s1, s2, s3⟩ := hSw; first | (apply Eq.trans; apply ex_ld_id; exact rfl; exact rfl; assumption; with_reducible rfl) | (go_simp; try with_reducible rfl)
  try simp only [List.getElem_toArray, List.getElem_cons_zero, List.getElem_cons_succ, Act.put, List.setIfInBounds_toArray, List.set_cons_zero, List.set_cons_succ]
  refine wpAnyH_take (i := 5) (v := ?_) rfl (by kernel_rfl) (by kernel_rfl) (by kernel_rfl) (fun _ _ _ h => h) (Or.inl ⟨by rfl, ?_⟩) hF ?_
  rotate_left
  · intro wS hSw; (try dsimp only at hSw); obtain ⟨s1, s2, s3⟩ := hSw; first | (apply Eq.trans; apply ex_ld_id; exact rfl; exact rfl; assumption; with_reducible rfl) | (go_simp; try with_reducible rfl)
  try simp only [List.getElem_toArray, List.getElem_cons_zero, List.getElem_cons_succ, Act.put, List.setIfInBounds_toArray, List.set_cons_zero, List.set_cons_succ]
  refine wpAnyH_take (i := 6) (v := ?_) rfl (by kernel_rfl) (by kernel_rfl) (by kernel_rfl) (fun _ _ _ h => h) (Or.inl ⟨by rfl, ?_⟩) hF ?_
  rotate_left
  · intro wS hSw; (try dsimp only at hSw); obtain ⟨s1, s2, s3⟩ := hSw; first | (apply Eq.trans; apply ex_ld_id; exact rfl; exact rfl; assumption; with_reducible rfl) | (go_simp; try with_reducible rfl)
  try simp only [List.getElem_toArray, List.getElem_cons_zero, List.getElem_cons_succ, Act.put, List.setIfInBounds_toArray, List.set_cons_zero, List.set_cons_succ]
  refine wpAnyH_take (i := 7) (v := ?_) rfl (by kernel_rfl) (by kernel_rfl) (by kernel_rfl) (fun _ _ _ h => h) (Or.inl ⟨by rfl, ?_⟩) hF ?_
  rotate_left
  · intro wS hSw; (try dsimp only at hSw); obtain ⟨s1, s2, s3⟩ := hSw; first | (apply Eq.trans; apply ex_ld_id; exact rfl; exact rfl; assumption; with_reducible rfl) | (go_simp; try with_reducible rfl)
  try simp only [List.getElem_toArray, List.getElem_cons_zero, List.getElem_cons_succ, Act.put, List.setIfInBounds_toArray, List.set_cons_zero, List.set_cons_succ]
  refine wpAnyH_done (by kernel_rfl) ?_ _
  clear hF
  go_wp2
  go_ret
  exact ⟨rfl, F1⟩
theorem parents_any (w : World) (D : Nat) (F : Nat → Prop) (G : Dg) (h : DagAt w D F G) (x : ID) : Calls Try.prog 17 #[.pointer (some ⟨D, 0, none⟩), encI x] w (NewIDs w ((parents G x).getD [])) := by
  obtain ⟨A, K, kv, ks, h⟩ := h
  obtain ⟨B, c, hn, hB, _⟩ := h.node x
  have F1 : Fr noB w (w.alloc (ido x)).drew := ((Fr.refl noB w).alloc _).drew
  have hh := h.fr0 F1
  have d0 := hh.c0
  have da := hh.all
  have dr : rdI (w.alloc (ido x)).drew w.heap.size 0 = some x := by simp
  have hp : ((parents G x).getD []).length ≤ 2 := by
    cases hp : parents G x with
    | none => simp
    | some ps => exact (okG_par h.ok hp).2.1
  clear hh
  go_enter Try.func17, Try.ntmps17
  go_wp2_with fail
  refine wp_region_N 8 (fun w' => w'.cell? ⟨D, 0, none⟩ = some (.map (some A)) ∧ mpI w' A = some kv ∧ rdI w' w.heap.size 0 = some x) (by kernel_rfl) (by kernel_rfl) ⟨d0, da, dr⟩ (fun hA hF => ?_)
  refine wpAnyN_take (i := 0) (v := ?_) hA rfl (by decide) (by kernel_rfl) (by kernel_rfl) (fun _ _ _ h => h) (Or.inl ⟨by rfl, ?_⟩) hF (fun hA => ?_)
  rotate_left
  · intro wS hSw; (try dsimp only at hSw); obtain ⟨s1, s2, s3⟩ := hSw; first | (apply Eq.trans; apply ex_ld_id; exact rfl; exact rfl; assumption; with_reducible rfl) | (go_simp; try with_reducible rfl)
  try simp only [List.getElem_toArray, List.getElem_cons_zero, List.getElem_cons_succ, Act.put, List.setIfInBounds_toArray, List.set_cons_zero, List.set_cons_succ]
  refine wpAnyN_take (i := 1) (v := ?_) hA rfl (by decide) (by kernel_rfl) (by kernel_rfl) (fun _ _ _ h => h) (Or.inl ⟨by rfl, ?_⟩) hF (fun hA => ?_)
  rotate_left
  · intro wS hSw; (try dsimp only at hSw); obtain ⟨s1, s2, s3⟩ := hSw; first | (apply Eq.trans; apply ex_ld_id; exact rfl; exact rfl; assumption; with_reducible rfl) | (go_simp; try with_reducible rfl)
  try simp only [List.getElem_toArray, List.getElem_cons_zero, List.getElem_cons_succ, Act.put, List.setIfInBounds_toArray, List.set_cons_zero, List.set_cons_succ]
  refine wpAnyN_take (i := 2) (v := ?_) hA rfl (by decide) (by kernel_rfl) (by kernel_rfl) (fun _ _ _ h => h) (Or.inl ⟨by rfl, ?_⟩) hF (fun hA => ?_)
  rotate_left
  · intro wS hSw; (try dsimp only at hSw); obtain ⟨s1, s2, s3⟩ := hSw; first | (apply Eq.trans; apply ex_ld_id; exact rfl; exact rfl; assumption; with_reducible rfl) | (go_simp; try with_reducible rfl)
  try simp only [List.getElem_toArray, List.getElem_cons_zero, List.getElem_cons_succ, Act.put, List.setIfInBounds_toArray, List.set_cons_zero, List.set_cons_succ]
  refine wpAnyN_take (i := 3) (v := ?_) hA rfl (by decide) (by kernel_rfl) (by kernel_rfl) (fun _ _ _ h => h) (Or.inl ⟨by rfl, ?_⟩) hF (fun hA => ?_)
  rotate_left
  · intro wS hSw; (try dsimp only at hSw); obtain ⟨s1, s2, s3⟩ := hSw; first | (apply Eq.trans; apply ex_ld_id; exact rfl; exact rfl; assumption; with_reducible rfl) | (go_simp; try with_reducible rfl)
  try simp only [List.getElem_toArray, List.getElem_cons_zero, List.getElem_cons_succ, Act.put, List.setIfInBounds_toArray, List.set_cons_zero, List.set_cons_succ]
  refine wpAnyN_take (i := 4) (v := ?_) hA rfl (by decide) (by kernel_rfl) (by kernel_rfl) (fun _ _ _ h => h) (Or.inl ⟨by rfl, ?_⟩) hF (fun hA => ?_)
  rotate_left
  · intro wS hSw; (try dsimp only at hSw); obtain ⟨s1, s2, s3⟩ := hSw; first | (apply Eq.trans; apply ex_ld_id; exact rfl; exact rfl; assumption; with_reducible rfl) | (go_simp; try with_reducible rfl)
  try simp only [List.getElem_toArray, List.getElem_cons_zero, List.getElem_cons_succ, Act.put, List.setIfInBounds_toArray, List.set_cons_zero, List.set_cons_succ]
  refine wpAnyN_take (i := 5) (v := ?_) hA rfl (by decide) (by kernel_rfl) (by kernel_rfl) (fun _ _ _ h => h) (Or.inl ⟨by rfl, ?_⟩) hF (fun hA => ?_)
  rotate_left
  · intro wS hSw; (try dsimp only at hSw); obtain ⟨s1, s2, s3⟩ := hSw; first | (apply Eq.trans; apply ex_ld_id; exact rfl; exact rfl; assumption; with_reducible rfl) | (go_simp; try with_reducible rfl)
  try simp only [List.getElem_toArray, List.getElem_cons_zero, List.getElem_cons_succ, Act.put, List.setIfInBounds_toArray, List.set_cons_zero, List.set_cons_succ]
  refine wpAnyN_take (i := 6) (v := ?_) hA rfl (by decide) (by kernel_rfl) (by kernel_rfl) (fun _ _ _ h => h) (Or.inl ⟨by rfl, ?_⟩) hF (fun hA => ?_)
  rotate_left
  · intro wS hSw; (try dsimp only at hSw); obtain ⟨s1, s2, s3⟩ := hSw; first | (apply Eq.trans; apply ex_ld_id; exact rfl; exact rfl; assumption; with_reducible rfl) | (go_simp; try with_reducible rfl)
  try simp only [List.getElem_toArray, List.getElem_cons_zero, List.getElem_cons_succ, Act.put, List.setIfInBounds_toArray, List.set_cons_zero, List.set_cons_succ]
  refine wpAnyN_one (i := 7) hA (by kernel_rfl) (by decide) rfl (fun K hK => ?_)
  go_simp
  go_at_call 32
  refine (idclone_any _ B c _ _ rfl (hB.fr0 F1) (by omega)).mono ?_
  rintro e w1 ⟨A1, k1, rfl, ho1, hf1⟩
  have F2 := F1.step0 hf1
  have h2 := h.fr0 F2
  refine hK.out _ _ ⟨h2.c0, h2.all, rdI_fr dr (by simp) hf1 (by simp [noB])⟩ (fun hA => ?_)
  clear hK K
  refine wpAnyN_end rfl (by kernel_rfl) ?_
  simp only [List.drop_succ_cons, List.drop_zero]
  go_wp2
  go_ret
  exact ⟨A1, k1, rfl, own_base ho1 (by simp), F2⟩
theorem new_any (w : World) : Calls Try.prog 8 #[] w fun e w' => ∃ D, e = .returned (.pointer (some ⟨D, 0, none⟩)) ∧ DagAt w' D (fun b => w.heap.size ≤ b ∧ b < w'.heap.size) [] ∧ Fr noB w w' := by
  go_enter Try.func8, Try.ntmps8
  go_wp2
  go_ret
  refine ⟨_, rfl, ⟨w.heap.size, w.heap.size + 1, [], [], ?_⟩, (((Fr.refl _ _).alloc _).alloc _).alloc _⟩
  refine ⟨?_, ?_, ?_, by omega, by simp; omega, by simp; omega, by simp, rfl, by simp, (fun x ps h => by cases h), (fun b hb => hb.2), trivial, by simp⟩
  · have := Blk.new ((w.alloc (.map #[] 0)).alloc (.map #[] 0)) 65 [.map (some w.heap.size), .map (some (w.heap.size + 1))]
    simpa using this
  · rw [mpI_old _ _ _ (by simp; omega), mpI_old _ _ _ (by simp), mpI_new]
  · rw [mpI_old _ _ _ (by simp)]
    have := mpI_new (w.alloc (.map #[] 0))
    rw [World.size_alloc] at this
    exact this
end Go.Proofs.Ytchiclnnoealdaa
