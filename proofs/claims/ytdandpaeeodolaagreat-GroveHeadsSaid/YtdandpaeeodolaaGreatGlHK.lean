/- stamp.Cmp with its exact world; rows and stamps sorted by slices.SortFunc. (ex_ldS_at) Rows and stamps sorted by slices.SortFunc. cmp.Compare at strings; the order of a node's kids: by name, then by stamp. Contract: grove's Rows. (ex_ldR_at) Contract: grove's Kids. (ex_ldS_at, ex_ldR_at) Contracts: pollardlaw12.move, alive. (ex_ldS_at, ex_ldR_at) Plain laws of a tree that comes of operations (grove): ways, where rows come from, heads, kids counted. Plain laws for GroveHeads: edits of one node, each of which takes the place of some ahead. -/
import Derived.Test.YtdandpaeeodolaaGreatGvVK
import Derived.Test.YtdandpaeeodolaaGreatSortLK
import Derived.Laws.Cover1
namespace Go.Proofs.YtdandpaeeodolaaGreat
open Go.RowKit Go.Sort Go.Shelf
set_option linter.unusedVariables false
set_option linter.unusedSimpArgs false

/-- the answer, and a world that has but drawn and grown -/
def GivesX (w : World) (v : Value) (e : Ending) (w' : World) : Prop := e = .returned v ∧ ∃ q os', w' = grow (w.drewN q) os'
theorem three_grow (w : World) (a b c : Obj) : ((w.alloc a).alloc b).drew.alloc c = grow (w.drewN 1) #[a, b, c] := by
  rw [alloc_eq_grow, alloc_eq_grow, alloc_eq_grow]
  unfold grow World.drew World.drewN
  simp only [Array.append_assoc]
  rfl
set_option maxRecDepth 100000 in
theorem scmpX_any (w : World) (a b : St) : Calls Tryz.prog 13 #[encS a, encS b] w (GivesX w (.int .i64 (cmpS a b))) := by
  have f1 : Fr noB (w.alloc (sto a)) ((w.alloc (sto a)).alloc (sto b)) := (Fr.refl noB _).alloc _
  have f0 : Fr noB w ((w.alloc (sto a)).alloc (sto b)) := ((Fr.refl noB w).alloc _).alloc _
  obtain ⟨a0, a1⟩ := sto_cell w a
  obtain ⟨b0, b1⟩ := sto_cell (w.alloc (sto a)) b
  rw [World.size_alloc] at b0 b1
  have A0 := cell_fr0 a0 f1
  have A1 := cell_fr0 a1 f1
  have hcs := cmpS_or a b
  have HCS := Lib.hid hcs
  clear hcs a0 a1 f1
  go_enter Tryz.func13, Tryz.ntmps13
  go_upto_region 1 with fail
  obtain ⟨W, hW⟩ : ∃ W, W = (w.alloc (sto a)).alloc (sto b) := ⟨_, rfl⟩
  have HW := Lib.hid hW
  rw [← hW] at f0 b0 b1 A0 A1 ⊢
  clear hW
  generalize w.heap.size + 1 = B at b0 b1 ⊢
  generalize w.heap.size = A at A0 A1 ⊢
  have keep : ∀ w' w'' : World, Fr noB w' w'' → (w'.cell? ⟨A, 0, none⟩ = some (.int .i64 a.T) ∧ w'.cell? ⟨A, 1, none⟩ = some (.int .i64 a.R) ∧ w'.cell? ⟨B, 0, none⟩ = some (.int .i64 b.T) ∧ w'.cell? ⟨B, 1, none⟩ = some (.int .i64 b.R)) → (w''.cell? ⟨A, 0, none⟩ = some (.int .i64 a.T) ∧ w''.cell? ⟨A, 1, none⟩ = some (.int .i64 a.R) ∧ w''.cell? ⟨B, 0, none⟩ = some (.int .i64 b.T) ∧ w''.cell? ⟨B, 1, none⟩ = some (.int .i64 b.R)) := fun w' w'' f h => ⟨cell_fr0 h.1 f, cell_fr0 h.2.1 f, cell_fr0 h.2.2.1 f, cell_fr0 h.2.2.2 f⟩
  have fd := (Fr.refl noB W).drew
  have F0 := keep _ _ fd ⟨A0, A1, b0, b1⟩
  go_wp2_with fail
  refine wp_region_M 12 13 [⟨32, 4, 0⟩, ⟨64, 32, 1⟩, ⟨128, 8, 0⟩, ⟨256, 128, 4⟩, ⟨512, 320, 10⟩, ⟨1024, 4, 0⟩, ⟨2048, 1024, 32⟩, ⟨4096, 8, 0⟩, ⟨8192, 4096, 128⟩, ⟨16384, 10240, 336⟩, ⟨32768, 16896, 528⟩, ⟨65536, 32768, 1536⟩, ⟨16, 65536, 4095⟩] [(true, 0), (true, 1), (true, 2), (true, 3), (true, 5), (true, 6), (true, 7), (true, 8), (false, 4), (false, 9), (false, 10), (false, 11)] (fun w' => w'.cell? ⟨A, 0, none⟩ = some (.int .i64 a.T) ∧ w'.cell? ⟨A, 1, none⟩ = some (.int .i64 a.R) ∧ w'.cell? ⟨B, 0, none⟩ = some (.int .i64 b.T) ∧ w'.cell? ⟨B, 1, none⟩ = some (.int .i64 b.R)) (by kernel_rfl) rfl (by kernel_rfl) (by kernel_rfl) (by kernel_rfl) F0 (fun hA hF => ?_)
  iterate 8
    refine wpAnyS_take (v := ?_) hA rfl (fun _ _ _ h => h) (Or.inl ⟨by rfl, ?_⟩) hF (fun hA => ?_)
    rotate_left
    · intro wS hSw; (try dsimp only at hSw); obtain ⟨s1, s2, s3, s4⟩ := hSw; first | (apply Eq.trans; apply ex_ldS_at; exact rfl; exact rfl; assumption; with_reducible rfl) | (go_simp; try with_reducible rfl)
    try simp only [List.getElem_toArray, List.getElem_cons_zero, List.getElem_cons_succ, Act.put, List.setIfInBounds_toArray, List.set_cons_zero, List.set_cons_succ]
  refine wpAnyS_one hA rfl (fun K' hK => ?_)
  go_simp
  go_at_call 37
  refine (compare64_any _ a.T b.T).mono ?_
  rintro e u1 ⟨rfl, rfl⟩
  replace hF := keep _ _ (Fr.refl noB _) hF
  refine hK.out _ _ hF (fun hA => ?_)
  clear hK K'
  as_aux_lemma =>
  refine wpAnyS_one hA rfl (fun K' hK => ?_)
  go_simp
  go_at_call 38
  refine (compareI_any _ a.R b.R).mono ?_
  rintro e u2 ⟨rfl, rfl⟩
  replace hF := keep _ _ (Fr.refl noB _) hF
  refine hK.out _ _ hF (fun hA => ?_)
  clear hK K'
  as_aux_lemma =>
  refine wpAnyS_one hA rfl (fun K' hK => ?_)
  go_simp
  have f3 : Fr noB W.drew (W.drew.alloc (.cells #[.int .i64 (cmpZ a.T b.T), .int .i64 (cmpZ a.R b.R)] 3)) := (Fr.refl noB _).alloc _
  have s3 : Sl (W.drew.alloc (.cells #[.int .i64 (cmpZ a.T b.T), .int .i64 (cmpZ a.R b.R)] 3)) (some ⟨W.heap.size, 0, none⟩) [.int .i64 (cmpZ a.T b.T), .int .i64 (cmpZ a.R b.R)] := Sl.new W.drew _ _
  replace hF := keep _ _ f3 hF
  refine hK.out _ _ hF (fun hA => ?_)
  clear hK K'
  as_aux_lemma =>
  refine wpAnyS_one hA rfl (fun K' hK => ?_)
  go_simp
  go_at_call 36
  refine (or_any _ _ _ (cmpZ a.T b.T) (cmpZ a.R b.R) s3).mono ?_
  rintro e u4 ⟨rfl, rfl⟩
  replace hF := keep _ _ (Fr.refl noB _) hF
  refine hK.out _ _ hF (fun hA => ?_)
  clear hK K'
  as_aux_lemma =>
  refine wpAnyS_end hA rfl ?_
  simp only [List.drop_succ_cons, List.drop_zero]
  clear hF
  go_wp2_with fail
  go_ret
  exact ⟨by rw [HCS.out]; rfl, 1, #[sto a, sto b, .cells #[.int .i64 (cmpZ a.T b.T), .int .i64 (cmpZ a.R b.R)] 3], by rw [HW.out]; exact three_grow _ _ _ _⟩
theorem scmpX_v (w : World) (a b : St) : Calls Tryz.prog 13 #[.agg (codS.A a), .agg (codS.A b)] w (GivesX w (.int .i64 (cmpS a b))) := by rw [vS_eq, vS_eq]; exact scmpX_any w a b
theorem GivesX.of2 {w : World} {a b : Obj} {v : Value} {e : Ending} {w' : World} (h : GivesX ((w.alloc a).alloc b) v e w') : GivesX w v e w' := by
  obtain ⟨h1, q, os', rfl⟩ := h
  refine ⟨h1, q, #[a, b] ++ os', ?_⟩
  rw [alloc_eq_grow, alloc_eq_grow]
  unfold grow World.drewN
  rw [show #[a, b] = #[a] ++ #[b] from rfl]
  simp only [Array.append_assoc]
set_option maxRecDepth 100000 in
theorem gvRows1X_any (w : World) (x y : RwW) : Calls Tryz.prog 35 #[.agg (codR.A x), .agg (codR.A y)] w (GivesX w (.int .i64 (cmpS x.Node y.Node))) := by
  have b0 : codR.bxd (w.alloc (.cells (codR.A x) 40)) w.heap.size = some x := Cod.bxd_box (C := codR) w x
  have b1 := Cod.bxd_fr0 b0 ((Fr.refl noB _).alloc (.cells (codR.A y) 40))
  have b2 : codR.bxd ((w.alloc (.cells (codR.A x) 40)).alloc (.cells (codR.A y) 40)) (w.alloc (.cells (codR.A x) 40)).heap.size = some y := Cod.bxd_box (C := codR) _ y
  have hz : (w.alloc (.cells (codR.A x) 40)).heap.size = w.heap.size + 1 := by simp
  rw [hz] at b2
  have q1 := (rwAt (Cod.bxd_rd b1)).node
  have q2 := (rwAt (Cod.bxd_rd b2)).node
  generalize x.Node = s at q1 ⊢
  generalize y.Node = u at q2 ⊢
  clear b0 b1 b2 hz
  go_enter Tryz.func35, Tryz.ntmps35
  go_wp2_with (go_at_call 13; refine (scmpX_v _ s u).mono ?_; rintro e w2 ⟨rfl, f2⟩)
  go_ret
  exact GivesX.of2 ⟨rfl, f2⟩
end Go.Proofs.YtdandpaeeodolaaGreat
namespace Go.Proofs.YtdandpaeeodolaaGreat
open Go.RowKit Go.Sort Go.Shelf
set_option linter.unusedVariables false
set_option linter.unusedSimpArgs false

theorem Cod.flat {α : Type} [Inhabited α] {C : Cod α} : ∀ (l : List α), flatK C.cs C.n l.toArray = (C.row l).toArray := fun l => by
  apply Array.ext
  · simp [flatK, Cod.row_len]
  · intro t h1 h2
    have hlt : t < l.length * C.n := by simpa [flatK] using h1
    have hi : t / C.n < l.length := Nat.div_lt_of_lt_mul (by rw [Nat.mul_comm]; exact hlt)
    have hj : t % C.n < C.n := Nat.mod_lt _ C.pos
    have hd := Nat.div_add_mod t C.n
    have e1 : (C.row l)[t]? = (C.cs l[t / C.n])[t % C.n]? := by
      have h3 : (C.row l).drop (t / C.n * C.n) = C.row (l.drop (t / C.n)) := Cod.row_drop l _ (by omega)
      have h4 : C.row (l.drop (t / C.n)) = C.cs l[t / C.n] ++ C.row (l.drop (t / C.n + 1)) := by
        rw [List.drop_eq_getElem_cons hi]; unfold Cod.row; rw [List.flatMap_cons]
      have h5 : ((C.row l).drop (t / C.n * C.n))[t % C.n]? = (C.row l)[t]? := by
        rw [List.getElem?_drop]
        congr 1
        rw [Nat.mul_comm]; exact hd
      rw [← h5, h3, h4, List.getElem?_append_left (by rw [C.len]; exact hj)]
    have h6 : (C.row l).toArray[t] = (C.cs l[t / C.n])[t % C.n]'(by rw [C.len]; exact hj) := by
      have h7 : (C.row l)[t]? = some ((C.row l).toArray[t]) := by simp
      rw [e1, List.getElem?_eq_getElem (by rw [C.len]; exact hj)] at h7
      injection h7 with h7
      exact h7.symm
    rw [h6]
    simp [flatK, hi, C.len, hj]
theorem putCells_row {α : Type} [Inhabited α] {C : Cod α} (cur : Array Value) (l : List α) (h : l.length * C.n ≤ cur.size) : (putCells id 0 (C.row l).toArray cur).toList.take (l.length * C.n) = C.row l := by
  have hl := Cod.row_len (C := C) l
  apply List.ext_getElem?
  intro j
  by_cases hj : j < l.length * C.n
  · rw [List.getElem?_take_of_lt hj, Array.getElem?_toList]
    simp [putCells, hl, hj, show j < cur.size by omega]
  · rw [List.getElem?_take_eq_none (by omega), List.getElem?_eq_none (by omega)]
def cfN (x y : RwW) : Int := cmpS x.Node y.Node
theorem swoN : SWO (ltOf cfN) where
  irrefl x := by simp [ltOf, cfN, cmpS_self]
  trans x y z h1 h2 := by
    simp only [ltOf, decide_eq_true_eq] at *
    unfold cfN at *
    exact cmpS_trans h1 h2
  ntrans x y z h1 h2 := by
    simp only [ltOf, decide_eq_false_iff_not] at *
    unfold cfN at *
    intro h
    have e1 := cmpS_flip x.Node y.Node
    have e2 := cmpS_flip y.Node z.Node
    rcases Int.lt_trichotomy (cmpS y.Node x.Node) 0 with h3 | h3 | h3
    · exact h2 (cmpS_trans h3 h)
    · have := cmpS_zero.1 h3
      rw [this] at h2
      exact h2 h
    · omega
/-- slices.SortFunc at a type of several cells: a permutation that is sorted -/
theorem srtC_any {α : Type} [Inhabited α] (C : Cod α) {ρ : Ren} (L : SlLaysF0.n6 Tryz.prog ρ) (aE : ∀ w, (isAgg (ρ.t 24)).run Tryz.prog w = .ok true w) (zE : ∀ w, (Go.sizeOf (ρ.t 24)).run Tryz.prog w = .ok C.n w) (cf : α → α → Int) (hO : SWO (ltOf cf)) (g : Nat) (cb : Array Value) (eg : ∀ args w, (callFunc g args).run Tryz.prog w = .ok (.enter g args) w)
    (w0 w : World) (A : Option Addr) (c n : Nat) (l : List α) (hn : l.length = n) (ho : OwnC C w0 w A c l) (hl : l.length ≤ 1000000000000)
    (hcmp : ∀ blk, A = some ⟨blk, 0, none⟩ → blk < w.heap.size → w0.heap.size ≤ blk → CmpLays Tryz.prog g cb C.cs C.n cf blk 0 l.length w) :
    Calls Tryz.prog (ρ.f 6) #[.slice A n c, .func (.func g) #[] cb] w fun e w' => e = .returned (.tuple #[]) ∧ ∃ l' : List α, l'.Perm l ∧ l'.Pairwise (fun x y => ltOf cf y x = false) ∧ OwnC C w0 w' A c l' ∧ Fr (fun b => A.map (·.block) = some b) w w' := by
  subst hn
  by_cases h0 : l = []
  · subst h0
    refine (AnyF.slices_SortFunc_none L A c _ w).mono ?_
    rintro e w' ⟨rfl, rfl⟩
    exact ⟨rfl, [], .refl _, .nil, ho, Fr.refl _ _⟩
  · have ho' := ho
    have hlen : 0 < l.length := List.length_pos_iff.2 h0
    rcases ho'.2 with ⟨hv, h00⟩ | ⟨blk, cap, cur, hv, hb, hg, hnc, hm, hs, ht⟩
    · omega
    · injection hv with h1 _ h3
      subst h1; subst h3
      have hblk : blk < w.heap.size := (Array.getElem?_eq_some_iff.1 hg).1
      have hH : HoldsK C.cs C.n w blk 0 l.toArray := by
        unfold HoldsK
        rw [Cod.flat]
        intro j hj
        have hj' : j < (C.row l).length := by simpa using hj
        refine ⟨?_, by simp [World.frozen?, hg]⟩
        obtain ⟨g', off', e, _, hc⟩ := (Sl.own ho) (by intro h; rw [h] at hj'; simp at hj')
        injection e with e
        injection e with e1 e2
        subst e1; subst e2
        rw [hc j _ (List.getElem?_eq_getElem hj')]
        simp [hj']
      have hS := AnyQ.slices_SortFunc L C.n aE zE C.cs (fun x => C.len x) (fun x v hv => C.one x v hv) cf hO g cb blk 0 c l.toArray w eg (by rw [List.size_toArray]; exact hcmp blk rfl hblk hb) hH hblk (by simp; omega)
      rw [List.size_toArray] at hS
      refine hS.mono ?_
      rintro e w' ⟨rfl, d', m, os, hp, hso, rfl⟩
      have hds : d'.size = l.length := by have := hp.1; simpa using this
      have hpl : d'.toList.Perm l := by
        have := hp.2.2
        rw [show d'.extract 0 l.length = d' by rw [← hds]; simp, show l.toArray.extract 0 l.length = l.toArray by simp] at this
        simpa using this
      have hpw : d'.toList.Pairwise (fun x y => ltOf cf y x = false) := by
        rw [List.pairwise_iff_getElem]
        intro i j hi hj hij
        have hi' : i < d'.size := by simpa using hi
        have hj' : j < d'.size := by simpa using hj
        have := hso i j (Nat.zero_le _) hij (by omega)
        rw [getElem!_pos d' j hj', getElem!_pos d' i hi'] at this
        simpa using this
      have hlt : d'.toList.length = l.length := by simpa using hds
      refine ⟨rfl, d'.toList, hpl, hpw, ⟨by rw [Cod.row_len], .inr ⟨blk, c, putCells id 0 (C.row d'.toList).toArray cur, by rw [hlt], hb, ?_, by rw [hlt]; exact hnc, hm, by simp [putCells, hs], ?_⟩⟩, ?_⟩
      · unfold sortWorldK putRowK
        rw [heap_grow_old _ _ (by simpa using hblk), ← Cod.flat, Array.toArray_toList]
        simp [putRow, mapBlock, Sort.ahead, Array.getElem?_modify, hg, onCells]
      · exact putCells_row _ _ (by rw [hlt, hs]; exact Nat.mul_le_mul_right _ hnc)
      · refine ⟨rfl, rfl, rfl, by simp [sortWorldK, putRowK, Sort.ahead], fun k hk hne => ?_⟩
        unfold sortWorldK putRowK
        rw [heap_grow_old _ _ (by simpa using hk)]
        have : blk ≠ k := fun e => hne (by simp [e])
        simp [putRow, mapBlock, Sort.ahead, Array.getElem?_modify, this]
theorem cmpN_lays (W w : World) (hW : W = w) (x y : RwW) : Calls Tryz.prog 35 (#[.agg (codR.cs x).toArray, .agg (codR.cs y).toArray] ++ #[]) W fun e w' => e = .returned (.int .i64 (cfN x y)) ∧ ∃ q os', w' = grow (W.drewN q) os' := by
  have := gvRows1X_any W x y
  rw [Cod.A_eq, Cod.A_eq] at this
  rw [Array.append_empty]
  exact this
theorem srtRows_any (w0 w : World) (A : Option Addr) (c n : Nat) (l : List RwW) (hn : l.length = n) (ho : OwnC codR w0 w A c l) (hl : l.length ≤ 1000000000000) :
    Calls Tryz.prog 34 #[.slice A n c, .func (.func 35) #[] #[]] w fun e w' => e = .returned (.tuple #[]) ∧ ∃ l' : List RwW, l'.Perm l ∧ l'.Pairwise (fun x y => ltOf cfN y x = false) ∧ OwnC codR w0 w' A c l' ∧ Fr (fun b => A.map (·.block) = some b) w w' :=
  srtC_any codR Tryz.sortR (fun w => Tryz.isAgg40 w) (fun w => Tryz.sizeOf40 w) cfN swoN 35 #[] (enters_of Tryz.func35 (by kernel_rfl) rfl) w0 w A c n l hn ho hl (fun blk _ _ _ m os dk _ x y => cmpN_lays _ _ rfl x y)
end Go.Proofs.YtdandpaeeodolaaGreat
namespace Go.Proofs.YtdandpaeeodolaaGreat
open Go.RowKit Go.Sort Go.Shelf
set_option linter.unusedVariables false
set_option linter.unusedSimpArgs false

theorem less_self : ∀ a : List UInt8, Op.bytesLess a a = false
  | [] => rfl
  | x :: a => by
    have h : ¬ x < x := by rw [UInt8.lt_iff_toNat_lt]; omega
    simp [Op.bytesLess, h, less_self a]
theorem less_trans : ∀ {a b c : List UInt8}, Op.bytesLess a b = true → Op.bytesLess b c = true → Op.bytesLess a c = true
  | [], [], _, h, _ => by simp [Op.bytesLess] at h
  | [], _ :: _, [], _, h => by simp [Op.bytesLess] at h
  | [], _ :: _, _ :: _, _, _ => rfl
  | _ :: _, [], _, h, _ => by simp [Op.bytesLess] at h
  | _ :: _, _ :: _, [], _, h => by simp [Op.bytesLess] at h
  | x :: a, y :: b, z :: c, h1, h2 => by
    simp only [Op.bytesLess, Bool.or_eq_true, Bool.and_eq_true, decide_eq_true_eq, beq_iff_eq] at h1 h2 ⊢
    rcases h1 with h1 | ⟨rfl, h1⟩
    · rcases h2 with h2 | ⟨rfl, h2⟩
      · rw [UInt8.lt_iff_toNat_lt] at *; exact .inl (by omega)
      · exact .inl h1
    · rcases h2 with h2 | ⟨rfl, h2⟩
      · exact .inl h2
      · exact .inr ⟨rfl, less_trans h1 h2⟩
theorem less_tri : ∀ {a b : List UInt8}, Op.bytesLess a b = false → Op.bytesLess b a = false → a = b
  | [], [], _, _ => rfl
  | [], _ :: _, h, _ => by simp [Op.bytesLess] at h
  | _ :: _, [], _, h => by simp [Op.bytesLess] at h
  | x :: a, y :: b, h1, h2 => by
    simp only [Op.bytesLess, Bool.or_eq_false_iff, Bool.and_eq_false_iff, decide_eq_false_iff_not, beq_eq_false_iff_ne] at h1 h2
    have hxy : x = y := by
      rw [UInt8.lt_iff_toNat_lt] at h1 h2
      exact UInt8.toNat_inj.1 (by omega)
    subst hxy
    have h3 : Op.bytesLess a b = false := by rcases h1.2 with h | h; · exact absurd rfl h
                                             · exact h
    have h4 : Op.bytesLess b a = false := by rcases h2.2 with h | h; · exact absurd rfl h
                                             · exact h
    rw [less_tri h3 h4]
/-- the order of texts -/
def cmpB (a b : List UInt8) : Int := if Op.bytesLess a b then -1 else if a = b then 0 else 1
theorem cmpB_self (a : List UInt8) : cmpB a a = 0 := by unfold cmpB; rw [less_self]; simp
theorem cmpB_zero {a b : List UInt8} : cmpB a b = 0 ↔ a = b := by
  constructor
  · intro h
    unfold cmpB at h
    split at h
    · cases h
    · split at h
      · assumption
      · cases h
  · rintro rfl; exact cmpB_self a
theorem cmpB_lt {a b : List UInt8} : cmpB a b < 0 ↔ Op.bytesLess a b = true := by
  unfold cmpB
  split
  · simp [*]
  · split <;> simp [*, less_self]
theorem cmpB_flip (a b : List UInt8) : cmpB b a = - cmpB a b := by
  unfold cmpB
  by_cases h1 : Op.bytesLess a b = true
  · have h2 : Op.bytesLess b a = false := by
      cases h : Op.bytesLess b a with
      | false => rfl
      | true => have := less_trans h1 h; rw [less_self] at this; cases this
    have h3 : b ≠ a := by rintro rfl; rw [h1] at h2; cases h2
    simp [h1, h2, h3]
  · by_cases h2 : Op.bytesLess b a = true
    · have h3 : a ≠ b := by rintro rfl; exact h1 h2
      simp [h1, h2, h3]
    · have := less_tri (by simpa using h1) (by simpa using h2)
      subst this
      simp [h1]
/-- by name, then by stamp -/
def cfK (nm : St → List UInt8) (a b : St) : Int := orI (cmpB (nm a) (nm b)) (cmpS a b)
theorem cfK_lt {nm : St → List UInt8} {a b : St} : cfK nm a b < 0 ↔ Op.bytesLess (nm a) (nm b) = true ∨ (nm a = nm b ∧ cmpS a b < 0) := by
  unfold cfK
  rw [orI_eq]
  split
  · rename_i h
    have := cmpB_zero.1 h
    rw [this, less_self]
    simp
  · rename_i h
    rw [cmpB_lt]
    have : nm a ≠ nm b := fun e => h (cmpB_zero.2 e)
    simp [this]
theorem cfK_self (nm : St → List UInt8) (a : St) : cfK nm a a = 0 := by unfold cfK; rw [orI_eq, cmpB_self, cmpS_self]; rfl
theorem cfK_trans {nm : St → List UInt8} {a b c : St} (h1 : cfK nm a b < 0) (h2 : cfK nm b c < 0) : cfK nm a c < 0 := by
  rw [cfK_lt] at *
  rcases h1 with h1 | ⟨e1, h1⟩
  · rcases h2 with h2 | ⟨e2, h2⟩
    · exact .inl (less_trans h1 h2)
    · rw [e2] at h1; exact .inl h1
  · rcases h2 with h2 | ⟨e2, h2⟩
    · rw [← e1] at h2; exact .inl h2
    · exact .inr ⟨e1.trans e2, cmpS_trans h1 h2⟩
theorem cfK_tri {nm : St → List UInt8} {a b : St} (h1 : ¬ cfK nm a b < 0) (h2 : ¬ cfK nm b a < 0) : a = b := by
  rw [cfK_lt] at h1 h2
  have e : nm a = nm b := less_tri (Bool.eq_false_iff.2 fun h => h1 (.inl h)) (Bool.eq_false_iff.2 fun h => h2 (.inl h))
  have h3 : ¬ cmpS a b < 0 := fun h => h1 (.inr ⟨e, h⟩)
  have h4 : ¬ cmpS b a < 0 := fun h => h2 (.inr ⟨e.symm, h⟩)
  have := cmpS_flip a b
  exact cmpS_zero.1 (by omega)
theorem swoK {α : Type} (nm : St → List UInt8) (f : α → St) : SWO (ltOf fun x y : α => cfK nm (f x) (f y)) where
  irrefl x := by simp [ltOf, cfK_self]
  trans x y z h1 h2 := by
    simp only [ltOf, decide_eq_true_eq] at *
    exact cfK_trans h1 h2
  ntrans x y z h1 h2 := by
    simp only [ltOf, decide_eq_false_iff_not] at *
    intro h
    by_cases h3 : cfK nm (f y) (f x) < 0
    · exact h2 (cfK_trans h3 h)
    · have := cfK_tri h1 h3
      rw [this] at h
      exact h2 h
theorem nanS_any (w : World) (a : ByteArray) : Calls Tryz.prog 71 #[.string a] w fun e w' => e = .returned (.bool false) ∧ w' = w := by
  go_enter Tryz.func71, Tryz.ntmps71
  go_wp2
  go_ret
  exact ⟨by simp, rfl⟩
theorem compareS_any (w : World) (a b : List UInt8) : Calls Tryz.prog 44 #[.string (str a), .string (str b)] w fun e w' => e = .returned (.int .i64 (cmpB a b)) ∧ w' = w := by
  go_enter Tryz.func44, Tryz.ntmps44
  go_wp2_with fail
  go_at_call 71
  refine (nanS_any w (str a)).mono ?_
  rintro e w1 ⟨rfl, rfl⟩
  go_wp2_with fail
  go_at_call 71
  refine (nanS_any _ (str b)).mono ?_
  rintro e w1 ⟨rfl, rfl⟩
  have ha := str_toList a
  have hb := str_toList b
  have e1 : Op.bytesLess a b = true → cmpB a b = -1 := fun h => by simp [cmpB, h]
  have e2 : Op.bytesLess a b = false → a ≠ b → cmpB a b = 1 := fun h h' => by simp [cmpB, h, h']
  have e3 : Op.bytesLess a b = false → a = b → cmpB a b = 0 := fun h h' => by rw [h'] at h ⊢; exact cmpB_self b
  cases h1 : Op.bytesLess a b with
  | true =>
    have E := Lib.hid (e1 h1)
    clear e1 e2 e3
    go_wp2_with fail
    go_ret
    exact ⟨by rw [E.out]; rfl, rfl⟩
  | false =>
    by_cases h2 : a = b
    · have E := Lib.hid (e3 h1 h2)
      have hq : (a == b) = true := by simp [h2]
      clear e1 e2 e3 h2
      go_wp2_with fail
      go_ret
      exact ⟨by rw [E.out]; rfl, rfl⟩
    · have E := Lib.hid (e2 h1 h2)
      have hq : (a == b) = false := by simp [h2]
      clear e1 e2 e3 h2
      go_wp2_with fail
      go_ret
      exact ⟨by rw [E.out]; rfl, rfl⟩
end Go.Proofs.YtdandpaeeodolaaGreat
namespace Go.Proofs.YtdandpaeeodolaaGreat
open Go.RowKit Go.Maps Go.Sort Go.Shelf
set_option linter.unusedVariables false
set_option linter.unusedSimpArgs false
attribute [local go_sem] Oper.semAt_some

theorem RngT.ne {w : World} {it r : Nat} {kv left : List (St × Value)} (h : RngT w it r kv left) : it ≠ r := by
  obtain ⟨_, _, ⟨es, clock, seen, hi, hb, _⟩, _, _⟩ := h
  rintro rfl
  rw [hi] at hb; cases hb
theorem RngT.hs {w : World} {it r : Nat} {kv left : List (St × Value)} (h : RngT w it r kv left) : NoHS (oneB it) w := fun b hb cs z => by
  obtain ⟨_, _, ⟨es, clock, seen, hi, hbb, _⟩, _, _⟩ := h
  have e : b = it := hb
  subst e
  rw [hi]
  exact ⟨fun h => (by cases h), fun h => (by cases h)⟩
theorem RngT.nown {w : World} {it r base n c size : Nat} {e : TypeId} {A : Option Addr} {xs : List Value} {kv left : List (St × Value)} (h : RngT w it r kv left) (ho : w.ownsRow base e size (.slice A n c) n xs) : ∀ g, A.map (·.block) = some g → g ≠ it ∧ g ≠ r := fun g hg => by
  obtain ⟨_, cur, z, hgg⟩ := own_blk ho hg
  obtain ⟨_, _, ⟨es, clock, seen, hi, hb, _⟩, _, _⟩ := h
  constructor
  · rintro rfl
    rw [hi] at hgg; cases hgg
  · rintro rfl
    rw [hb] at hgg; cases hgg
theorem doX_len (xs : List RwP) (o : Opn) : (doX xs o).length ≤ xs.length + 1 := by
  unfold doX
  split
  · omega
  · unfold putR
    split <;> simp
theorem runX_len (xs : List RwP) (L : List Opn) : (runX xs L).length ≤ xs.length + L.length := by
  induction L generalizing xs with
  | nil => simp [runX]
  | cons o L ih =>
    have h1 := ih (doX xs o)
    have h2 := doX_len xs o
    show (runX (doX xs o) L).length ≤ _
    simp only [List.length_cons]
    omega
/-- a row whose heads are new memory -/
structure RwN (base : Nat) (w : World) (r : RwW) (x : RwP) : Prop where
  row : RwO w r x
  own : w.ownsRow base 45 34 (.slice r.A r.n r.c) r.n (codH.row x.Heads)
theorem RwN.fr {base : Nat} {M : Nat → Prop} {w w' : World} {r : RwW} {x : RwP} (h : RwN base w r x) (f : Fr M w w') (hs : NoHS M w) : RwN base w' r x :=
  ⟨h.row.fr f hs, own_fr h.own f (fun g hg hm => by
    rw [ownBlock_sl'] at hg
    obtain ⟨_, cur, z, h4⟩ := own_blk h.own hg
    exact (hs g hm cur z).1 h4)⟩
/-- their heads lie in blocks of their own -/
def ApR (a b : RwW) : Prop := ∀ g, a.A.map (·.block) = some g → b.A.map (·.block) ≠ some g
theorem ApR.symm {a b : RwW} (h : ApR a b) : ApR b a := fun g hb ha => h g ha hb
theorem AllO.perm {α β : Type} {R : World → α → β → Prop} {w : World} {rs rs' : List α} (hp : rs'.Perm rs) : ∀ {xs : List β}, AllO R w rs xs → ∃ xs', xs'.Perm xs ∧ AllO R w rs' xs' := by
  induction hp with
  | nil => exact fun h => ⟨_, .refl _, h⟩
  | cons r _ ih =>
    intro xs h
    match xs, h with
    | [], h => have := h.1; simp at this
    | x :: xs, h =>
      obtain ⟨ys, h1, h2⟩ := ih h.tail.2
      exact ⟨x :: ys, h1.cons x, AllO.cons h.tail.1 h2⟩
  | swap a b l =>
    intro xs h
    match xs, h with
    | [], h => have := h.1; simp at this
    | [x], h => have := h.1; simp at this
    | x :: y :: xs, h => exact ⟨y :: x :: xs, .swap x y xs, AllO.cons h.tail.2.tail.1 (AllO.cons h.tail.1 h.tail.2.tail.2)⟩
  | trans _ _ ih1 ih2 =>
    intro xs h
    obtain ⟨ys, h1, h2⟩ := ih2 h
    obtain ⟨zs, h3, h4⟩ := ih1 h2
    exact ⟨zs, h3.trans h1, h4⟩
def RowsTo (w : World) (xs : List RwP) (e : Ending) (w' : World) : Prop :=
  ∃ (A : Option Addr) (c : Nat) (rs : List RwW) (ys : List RwP), e = .returned (.slice A rs.length c) ∧ OwnC codR w w' A c rs ∧ AllO (RwN w.heap.size) w' rs ys ∧ rs.Pairwise ApR ∧ ys.Perm xs ∧ ys.Pairwise (fun a b => cmpS a.Node b.Node < 0) ∧ Fr noB w w'
theorem tab_split {α : Type} {f : α → RwW} {lz : List α} {l1 l2 : List (St × Value)} {p : St × Value} (h : tab (lz.map f) = l1 ++ p :: l2) :
    ∃ z1 z z2, lz = z1 ++ z :: z2 ∧ l1 = tab (z1.map f) ∧ p = ((f z).Node, .agg (codR.A (f z))) ∧ l2 = tab (z2.map f) := by
  unfold tab at h ⊢
  rw [List.map_map] at h
  obtain ⟨z1, zr, rfl, h1, h2⟩ := List.map_eq_append_iff.1 h
  obtain ⟨z, z2, rfl, h3, h4⟩ := List.map_eq_cons_iff.1 h2
  exact ⟨z1, z, z2, rfl, by rw [List.map_map]; exact h1.symm, h3.symm, by rw [List.map_map]; exact h4.symm⟩
theorem tab_nil {α : Type} {f : α → RwW} {lz : List α} (h : tab (lz.map f) = []) : lz = [] := by
  unfold tab at h
  simpa using h
theorem tab_app {α : Type} {f : α → RwW} (a b : List α) : tab ((a ++ b).map f) = tab (a.map f) ++ tab (b.map f) := by simp [tab]
theorem perm_mid {α : Type} {dz z1 z2 Z : List α} {z : α} (h : (dz ++ (z1 ++ z :: z2)).Perm Z) : ((dz ++ [z]) ++ (z1 ++ z2)).Perm Z := by
  refine List.Perm.trans ?_ h
  simp only [List.append_assoc, List.cons_append, List.nil_append]
  exact List.Perm.append_left dz List.perm_middle.symm
theorem NoHS.ownA {w : World} {base size n c : Nat} {e : TypeId} {A : Option Addr} {xs : List Value} (h : w.ownsRow base e size (.slice A n c) n xs) (h1 : e ≠ 45) (h2 : e ≠ 28) : NoHS (fun q => A.map (·.block) = some q) w := fun g hg => NoHS.own h h1 h2 g (by rw [ownBlock_sl']; exact hg)
def RwLoop (w : World) (m : Nat) (rs : List RwW) (Z : List (RwW × RwP)) (gk : Nat) (iv : Value) (wr : World) : Prop :=
  ∃ (dz lz : List (RwW × RwP)) (os : List RwW) (A : Option Addr) (c : Nat), gk = lz.length ∧ RngT wr w.heap.size m (tab rs) (tab (lz.map (·.1))) ∧ (dz ++ lz).Perm Z ∧ Fr noB w wr ∧ iv = .slice A os.length c ∧ OwnC codR w wr A c os ∧ AllO (RwN w.heap.size) wr os (dz.map (·.2)) ∧ os.Pairwise ApR
theorem zip_mem {w : World} {rs : List RwW} {xs : List RwP} (h : AllO RwO w rs xs) : ∀ z ∈ rs.zip xs, RwO w z.1 z.2 ∧ z.2 ∈ xs := fun z hz => by
  obtain ⟨i, hi, rfl⟩ := List.getElem_of_mem hz
  simp only [List.length_zip] at hi
  rw [List.getElem_zip]
  exact ⟨h.2 i (by omega) (by omega), List.getElem_mem _⟩
set_option maxRecDepth 100000 in
set_option maxHeartbeats 4000000 in
theorem gvRows_any {base : Nat} {w : World} {b : Nat} {t : TrW} {L : List Opn} (h : GvS base w b t L) (hL : L.length ≤ 100000) : Calls Tryz.prog 12 #[.pointer (some ⟨b, 0, none⟩)] w (RowsTo w (runX [] L)) := by
  have tm := h.tr.m
  obtain ⟨rs, hm, hR⟩ := h.rows
  have hbd := h.heads (by omega)
  have hxl : (runX [] L).length ≤ 100000 := by have := runX_len [] L; simp only [List.length_nil] at this; omega
  have hnd : ((runX [] L).map (·.Node)).Nodup := runX_nd (by simp) L
  generalize runX [] L = xs at hR hbd hxl hnd ⊢
  have hZ := Lib.hid (zip_mem hR)
  have hZl := Lib.hid (show (rs.zip xs).length = xs.length by rw [List.length_zip, hR.1]; exact Nat.min_self _)
  have hZ2 := Lib.hid (show (rs.zip xs).map (·.2) = xs by rw [List.map_snd_zip (by rw [hR.1]; exact Nat.le_refl _)])
  have hZ1 : (rs.zip xs).map (·.1) = rs := by rw [List.map_fst_zip (by rw [hR.1]; exact Nat.le_refl _)]
  have HBD := Lib.hid hbd
  have HND := Lib.hid hnd
  obtain ⟨_, hrg⟩ := rngT_all Tryz.underlying60 hm
  have F1 : Fr noB w (w.alloc (rngOT w t.m)) := (Fr.refl noB w).alloc _
  have h0 : RwLoop w t.m rs (rs.zip xs) xs.length (.slice none 0 0) (w.alloc (rngOT w t.m)) := ⟨[], rs.zip xs, [], none, 0, hZl.out.symm, by rw [hZ1]; exact hrg, by simp, F1, rfl, World.ownsRow_nil _ _ _ _, AllO.nil, .nil⟩
  have HXL := Lib.hid hxl
  clear hR hbd hnd hZ1 h hL hrg F1 hxl
  generalize rs.zip xs = Z at hZ hZl hZ2 h0
  go_enter Tryz.func12, Tryz.ntmps12
  go_wp2_with fail
  generalize w.alloc (rngOT w t.m) = w1 at h0 ⊢
  clear tm hm
  go_loopg [3] xs.length (fun gk iv wr => RwLoop w t.m rs Z gk iv wr)
  case atStart => exact h0
  case round =>
    clear h0
    obtain ⟨dz, lz, os, A, c, rfl, hr, hpm, hf, rfl, ho, ha, hap⟩ := hrel
    have HOL := Lib.hid (show os.length ≤ 100000 by
      have h1 := ha.1
      have h2 := hpm.length_eq
      have h3 := hZl.out
      have h4 := HXL.out
      simp only [List.length_append, List.length_map] at h1 h2
      omega)
    have HPM := Lib.hid hpm
    have HA := Lib.hid ha
    have HAP := Lib.hid hap
    clear hpm ha hap
    rcases hr.next hr.ne 0 with ⟨h0, hrun⟩ | ⟨l1, p, l2, w3, h0, hp, hwp, hrun, hr3, hf3, hent⟩
    · have h0' := tab_nil h0
      subst h0'
      have CS := Lib.hid (srtRows_any w wr A c _ os rfl ho (by have := HOL.out; omega))
      clear h0
      go_wp2_with (go_at_call 34; refine CS.out.mono ?_; rintro e w4 ⟨rfl, l', hp4, hs4, ho4, hf4⟩)
      go_ret
      have ha4 := HA.out.map fun r x h => h.fr hf4 (NoHS.ownA ho (by decide) (by decide))
      obtain ⟨ys, hy1, hy2⟩ := ha4.perm hp4
      have hyx : ys.Perm xs := hy1.trans (by
        have := HPM.out
        rw [List.append_nil] at this
        rw [← hZ2.out]
        exact this.map _)
      have hl' := hp4.length_eq
      refine ⟨A, c, l', ys, by rw [hl']; rfl, ho4, hy2, hp4.symm.pairwise HAP.out (fun h => h.symm), hyx, ?_, hf.step hf4 (fun g hg => .inl (own_blk ho hg).1)⟩
      have nd : (ys.map (·.Node)).Nodup := (hyx.map _).nodup_iff.2 HND.out
      rw [List.pairwise_iff_getElem] at hs4 ⊢
      intro i j hi hj hij
      have h1 : ¬ cmpS (l'[j]'(by rw [hy2.1]; exact hj)).Node (l'[i]'(by rw [hy2.1]; exact hi)).Node < 0 := of_decide_eq_false (hs4 i j (by rw [hy2.1]; exact hi) (by rw [hy2.1]; exact hj) hij)
      rw [← (hy2.2 i (by rw [hy2.1]; exact hi) hi).row.inn.node, ← (hy2.2 j (by rw [hy2.1]; exact hj) hj).row.inn.node] at h1
      have h2 : ys[i].Node ≠ ys[j].Node := fun e => by
        have := (List.pairwise_iff_getElem.1 nd) i j (by simpa using hi) (by simpa using hj) hij
        simp only [List.getElem_map] at this
        exact this e
      have h3 := cmpS_flip ys[i].Node ys[j].Node
      have h4 : cmpS ys[i].Node ys[j].Node ≠ 0 := fun e => h2 (cmpS_zero.1 e)
      omega
    · obtain ⟨z1, z, z2, rfl, rfl, rfl, rfl⟩ := tab_split h0
      have hzm : z ∈ Z := HPM.out.mem_iff.1 (by simp)
      obtain ⟨hz1, hz2⟩ := hZ.out z hzm
      have hzb := HBD.out _ hz2
      rw [← tab_app] at hr3
      have hent' := hent noB w3 (Fr.refl _ _) (by simp [noB]) (by simp [noB])
      simp only at hent'
      have hne1 := hr.nown ho
      have ho3 : OwnC codR w w3 A c os := own_fr ho hf3 (fun g hg e => by rw [ownBlock_sl'] at hg; exact (hne1 g hg).1 e)
      have ha3 := Lib.hid (HA.out.map fun r x h => h.fr hf3 hr.hs)
      have F3 : Fr noB w w3 := hf.step1 hf3 (Nat.le_refl _)
      have hz3 := hz1.fr F3 (NoHS.nob _)
      have HLZ := Lib.hid (show (z1 ++ z2).length < (z1 ++ z :: z2).length by simp)
      clear h0 hp hwp hent hr hf hf3 hne1 ho hz1 hz2 hzm HA
      simp only at hrun
      obtain ⟨r0, hr0⟩ : ∃ r, r = z.1 := ⟨_, rfl⟩
      have HR0 := Lib.hid hr0
      rw [← hr0] at hrun hent' hz3
      clear hr0
      go_upto_region 5 with fail
      have f12 : Fr noB w3 (w3.alloc (codR.o r0)) := (Fr.refl noB w3).alloc _
      have q12 := Cod.rd_new' (C := codR) w3 r0
      obtain ⟨D2, hD2⟩ : ∃ x, x = w3.heap.size := ⟨_, rfl⟩
      rw [← hD2] at q12 ⊢
      have o12 := Lib.hid (own_new0 ho3 f12)
      have a12 := Lib.hid (ha3.out.map fun r x h => h.fr f12 (NoHS.nob _))
      have r12 := Lib.hid (hr3.fr f12 (by simp [noB]) (by simp [noB]))
      have z12 := Lib.hid (hz3.fr f12 (NoHS.nob _))
      have F12 := Lib.hid (F3.step0 f12)
      clear ho3 ha3 hr3 hz3 F3 hD2 f12 hrun hent'
      generalize w3.alloc (codR.o r0) = W12 at q12 o12 a12 r12 z12 F12 ⊢
      go_wp2_with fail
      go_at_call 33
      refine (gvClone1_any W12 r0 z.2 z12.out hzb).mono ?_
      rintro e w5 ⟨r5, rfl, ho5, hn5, f5⟩
      have sl := Cod.sl_new (C := codR) w5 [r5]
      have fn : Fr noB w5 (w5.alloc (codR.ro [r5])) := (Fr.refl noB w5).alloc _
      have o6 := own_new0 (own_new0 o12.out f5) fn
      have f6 := f5.step0 fn
      have a6 := Lib.hid (a12.out.map fun r x h => h.fr f6 (NoHS.nob _))
      have r6 := Lib.hid (r12.out.fr f6 (by simp [noB]) (by simp [noB]))
      have F6 := F12.out.step0 f6
      have n6 := Lib.hid (show RwN w.heap.size (w5.alloc (codR.ro [r5])) r5 z.2 from ⟨ho5.fr fn (NoHS.nob _), own_new0 (own_base hn5 F12.out.size) fn⟩)
      have ap6 := Lib.hid (show ∀ a ∈ os, ApR a r5 from fun a ha g hg hg5 => by
        obtain ⟨i, hi, rfl⟩ := List.getElem_of_mem ha
        have h1 := (a12.out.2 i hi (by rw [← a12.out.1]; exact hi)).own
        have h2 := World.ownsRow.lt h1 g (by rw [ownBlock_sl']; exact hg)
        have h3 := (own_blk hn5 hg5).1
        omega)
      clear f6 o12 a12 r12 z12 F12 hn5 ho5 f5 q12 fn
      go_wp2_with (at_builtin; refine wpList_appC' etR w _ rfl _ _ rfl A os.length c os rfl rfl o6 (some ⟨w5.heap.size, 0, none⟩) 1 1 [r5] rfl sl rfl (by have := HOL.out; simp; omega) F6.size ?_; intro A7 c7 w7 hc7 hm7 o7 g7 hA7)
      have fg : Fr (fun q => A.map (·.block) = some q) (w5.alloc (codR.ro [r5])) w7 := Fr.ofGrown g7 (fun g hg => hg)
      have hs7 := NoHS.ownA o6 (by decide) (by decide)
      go_roundg (z1 ++ z2).length
      case measure => simp
      case rel =>
        have hne7 := r6.out.nown o6
        refine ⟨dz ++ [z], z1 ++ z2, os ++ [r5], A7, c7, rfl, r6.out.fr fg (fun e => (hne7 _ e).1 rfl) (fun e => (hne7 _ e).2 rfl), perm_mid HPM.out, gv_own F6 o6 g7, ?_, o7, ?_, ?_⟩
        · simp
        · rw [List.map_append]
          exact (a6.out.map fun r x h => h.fr fg hs7).snoc (n6.out.fr fg hs7)
        · rw [List.pairwise_append]
          exact ⟨HAP.out, by simp, fun a ha b hb => by rw [List.mem_singleton] at hb; subst hb; exact ap6.out a ha⟩
end Go.Proofs.YtdandpaeeodolaaGreat
namespace Go.Proofs.YtdandpaeeodolaaGreat
open Go.RowKit Go.Maps Go.Sort Go.Shelf
set_option linter.unusedVariables false
set_option linter.unusedSimpArgs false
attribute [local go_sem] Oper.semAt_some

/-- blocks are laid and draws made, nothing else -/
def Gr (w w' : World) : Prop := ∃ q os, w' = grow (w.drewN q) os
section
variable {w w1 : World}
theorem Gr.refl (w : World) : Gr w w := ⟨0, #[], by simp [grow, World.drewN]⟩
theorem Gr.alloc (h : Gr w w1) (o : Obj) : Gr w (w1.alloc o) := by
  obtain ⟨q, os, rfl⟩ := h
  exact ⟨q, os ++ #[o], by rw [alloc_eq_grow, grow_grow]⟩
theorem Gr.drew (h : Gr w w1) : Gr w w1.drew := by
  obtain ⟨q, os, rfl⟩ := h
  exact ⟨q + 1, os, rfl⟩
theorem Gr.trans {w2 : World} (h : Gr w w1) (k : Gr w1 w2) : Gr w w2 := by
  obtain ⟨q, os, rfl⟩ := h
  obtain ⟨q', os', rfl⟩ := k
  exact ⟨q + q', os ++ os', by simp [grow, World.drewN, Nat.add_assoc]⟩
theorem Gr.fr (h : Gr w w1) : Fr noB w w1 := by
  obtain ⟨q, os, rfl⟩ := h
  refine ⟨rfl, rfl, rfl, by simp [grow, World.drewN], fun k hk _ => ?_⟩
  simp [grow, World.drewN, Array.getElem?_append_left hk]
end
theorem cell_lt {w : World} {b o : Nat} {v : Value} (h : w.cell? ⟨b, o, none⟩ = some v) : b < w.heap.size := by
  rcases Nat.lt_or_ge b w.heap.size with h1 | h1
  · exact h1
  · simp [World.cell?, Array.getElem?_eq_none h1] at h
def rowW (rs : List RwW) (s : St) : RwW := (findW rs s).getD zRwW
theorem look_rowW (rs : List RwW) (s : St) : (look (tab rs) s).getD (.agg (codR.A zRwW)) = .agg (codR.A (rowW rs s)) := by
  rw [look_tab]
  unfold rowW
  cases findW rs s <;> rfl
set_option maxRecDepth 100000 in
set_option maxHeartbeats 2000000 in
theorem gvKids1X_any (w : World) (P b m : Nat) (rs : List RwW) (hP : w.cell? ⟨P, 0, none⟩ = some (.pointer (some ⟨b, 0, none⟩))) (hb : w.cell? ⟨b, 0, none⟩ = some (.map (some m))) (hm : mpT w m = some (tab rs)) (x y : St) (hx : wfS x = true) (hy : wfS y = true) :
    Calls Tryz.prog 43 #[.agg (codS.A x), .agg (codS.A y), .pointer (some ⟨P, 0, none⟩)] w (GivesX w (.int .i64 (cfK (fun s => (rowW rs s).Name) x y))) := by
  have g0 : Gr w ((w.alloc (.cells (codS.A x) 28)).alloc (.cells (codS.A y) 28)) := ((Gr.refl w).alloc _).alloc _
  have x0 := Cod.rd_fr0 (Cod.rd_new (C := codS) w 28 x) ((Fr.refl noB _).alloc (.cells (codS.A y) 28))
  have y0 := Cod.rd_new (C := codS) (w.alloc (.cells (codS.A x) 28)) 28 y
  have hz : (w.alloc (.cells (codS.A x) 28)).heap.size = w.heap.size + 1 := by simp
  rw [hz] at y0
  have hP0 := cell_fr0 hP g0.fr
  have hb0 := cell_fr0 hb g0.fr
  have hm0 := mpT_fr0 hm g0.fr
  have hlx := look_rowW rs x
  have hly := look_rowW rs y
  have HC := Lib.hid (show orI (cmpB (rowW rs x).Name (rowW rs y).Name) (cmpS x y) = cfK (fun s => (rowW rs s).Name) x y from rfl)
  generalize hrx : rowW rs x = rx at hlx HC ⊢
  generalize hry : rowW rs y = ry at hly HC ⊢
  generalize cfK (fun s => (rowW rs s).Name) x y = res at HC ⊢
  clear hP hb hm hz hrx hry
  go_enter Tryz.func43, Tryz.ntmps43
  go_upto_region 1 with fail
  generalize (w.alloc (.cells (codS.A x) 28)).alloc (.cells (codS.A y) 28) = W0 at g0 x0 y0 hP0 hb0 hm0 ⊢
  generalize w.heap.size + 1 = Q at y0 ⊢
  generalize w.heap.size = R at x0 ⊢
  have hk : ∀ w' w'' : World, Fr noB w' w'' → (w'.cell? ⟨P, 0, none⟩ = some (.pointer (some ⟨b, 0, none⟩)) ∧ w'.cell? ⟨b, 0, none⟩ = some (.map (some m)) ∧ mpT w' m = some (tab rs) ∧ codS.rd w' R 0 = some x ∧ codS.rd w' Q 0 = some y) → (w''.cell? ⟨P, 0, none⟩ = some (.pointer (some ⟨b, 0, none⟩)) ∧ w''.cell? ⟨b, 0, none⟩ = some (.map (some m)) ∧ mpT w'' m = some (tab rs) ∧ codS.rd w'' R 0 = some x ∧ codS.rd w'' Q 0 = some y) := fun w' w'' f h => ⟨cell_fr0 h.1 f, cell_fr0 h.2.1 f, mpT_fr0 h.2.2.1 f, Cod.rd_fr0 h.2.2.2.1 f, Cod.rd_fr0 h.2.2.2.2 f⟩
  have fd : Fr noB W0 W0.drew := (Fr.refl noB W0).drew
  have g1 := g0.drew
  refine wp_region_M 20 21 [⟨64, 4, 0⟩, ⟨128, 64, 1⟩, ⟨256, 128, 2⟩, ⟨512, 256, 4⟩, ⟨1024, 8, 0⟩, ⟨2048, 1536, 24⟩, ⟨4096, 2048, 32⟩, ⟨8192, 4, 0⟩, ⟨16384, 8192, 128⟩, ⟨32768, 16384, 256⟩, ⟨65536, 32768, 512⟩, ⟨131072, 16, 0⟩, ⟨262144, 196608, 3072⟩, ⟨524288, 262144, 4096⟩, ⟨1048576, 528384, 8256⟩, ⟨2097152, 8, 0⟩, ⟨4194304, 16, 0⟩, ⟨8388608, 6291456, 114688⟩, ⟨16777216, 9437184, 147456⟩, ⟨33554432, 16777216, 393216⟩, ⟨32, 33554432, 1048575⟩] [(true, 0), (true, 1), (true, 2), (true, 3), (true, 4), (true, 5), (true, 6), (true, 7), (true, 8), (true, 9), (true, 10), (true, 11), (true, 12), (true, 13), (true, 15), (true, 16), (false, 14), (false, 17), (false, 18), (false, 19)] (fun w' => w'.cell? ⟨P, 0, none⟩ = some (.pointer (some ⟨b, 0, none⟩)) ∧ w'.cell? ⟨b, 0, none⟩ = some (.map (some m)) ∧ mpT w' m = some (tab rs) ∧ codS.rd w' R 0 = some x ∧ codS.rd w' Q 0 = some y) (by kernel_rfl) rfl (by kernel_rfl) (by kernel_rfl) (by kernel_rfl) (hk _ _ fd ⟨hP0, hb0, hm0, x0, y0⟩) (fun hA hF => ?_)
  iterate 16
    refine wpAnyS_take (v := ?_) hA rfl (fun _ _ _ h => h) (Or.inl ⟨by rfl, ?_⟩) hF (fun hA => ?_)
    rotate_left
    · intro wS hSw; (try dsimp only at hSw); obtain ⟨s1, s2, s3, s4, s5⟩ := hSw; first | (apply Eq.trans; apply ex_ldR_at; exact rfl; exact rfl; assumption; with_reducible rfl) | (apply Eq.trans; apply ex_ldS_at; exact rfl; exact rfl; assumption; with_reducible rfl) | (go_simp; try with_reducible rfl)
    try simp only [List.getElem_toArray, List.getElem_cons_zero, List.getElem_cons_succ, Act.put, List.setIfInBounds_toArray, List.set_cons_zero, List.set_cons_succ]
  refine wpAnyS_one hA rfl (fun K' hK => ?_)
  go_simp
  go_at_call 44
  refine (compareS_any _ rx.Name ry.Name).mono ?_
  rintro e u1 ⟨rfl, rfl⟩
  replace hF := hk _ _ (Fr.refl noB _) hF
  refine hK.out _ _ hF (fun hA => ?_)
  clear hK K'
  as_aux_lemma =>
  refine wpAnyS_one hA rfl (fun K' hK => ?_)
  go_simp
  go_at_call 13
  refine (scmpX_v _ x y).mono ?_
  rintro e u2 ⟨rfl, g2⟩
  have g3 := g1.trans g2
  replace hF := hk _ _ (Gr.fr g2) hF
  refine hK.out _ _ hF (fun hA => ?_)
  clear hK K'
  as_aux_lemma =>
  refine wpAnyS_one hA rfl (fun K' hK => ?_)
  go_simp
  have f3 : Fr noB u2 (u2.alloc (.cells #[.int .i64 (cmpB rx.Name ry.Name), .int .i64 (cmpS x y)] 3)) := (Fr.refl noB _).alloc _
  have s3 : Sl (u2.alloc (.cells #[.int .i64 (cmpB rx.Name ry.Name), .int .i64 (cmpS x y)] 3)) (some ⟨u2.heap.size, 0, none⟩) [.int .i64 (cmpB rx.Name ry.Name), .int .i64 (cmpS x y)] := Sl.new u2 _ _
  have g4 := g3.alloc (.cells #[.int .i64 (cmpB rx.Name ry.Name), .int .i64 (cmpS x y)] 3)
  replace hF := hk _ _ f3 hF
  refine hK.out _ _ hF (fun hA => ?_)
  clear hK K'
  as_aux_lemma =>
  refine wpAnyS_one hA rfl (fun K' hK => ?_)
  go_simp
  go_at_call 36
  refine (or_any _ _ _ (cmpB rx.Name ry.Name) (cmpS x y) s3).mono ?_
  rintro e u4 ⟨rfl, rfl⟩
  replace hF := hk _ _ (Fr.refl noB _) hF
  refine hK.out _ _ hF (fun hA => ?_)
  clear hK K'
  as_aux_lemma =>
  refine wpAnyS_end hA rfl ?_
  simp only [List.drop_succ_cons, List.drop_zero]
  clear hF
  go_wp2_with fail
  go_ret
  exact ⟨by rw [HC.out]; rfl, g4⟩

/-- stamps whose numbers an int64 can be, as cells -/
def codK : Cod KS := ⟨28, 2, fun k => codS.cs k.1, ⟨zSt, by decide⟩, fun x => codS.len x.1, by decide, fun x u hu => codS.one x.1 u hu, fun x y h => Subtype.ext (codS.inj _ _ h)⟩
instance : Inhabited KS := ⟨⟨zSt, by decide⟩⟩
theorem codK_row (l : List KS) : codK.row l = codS.row (l.map (·.1)) := by
  unfold Cod.row
  rw [List.flatMap_map]
  rfl
theorem kids_up {l : List St} (h : ∀ s ∈ l, wfS s = true) : ∃ k : List KS, k.map (·.1) = l := by
  induction l with
  | nil => exact ⟨[], rfl⟩
  | cons s l ih =>
    obtain ⟨k, hk⟩ := ih fun x hx => h x (by simp [hx])
    exact ⟨⟨s, h s (by simp)⟩ :: k, by simp [hk]⟩
/-- facts of a world of the sort's -/
theorem sortW_fr (l : List KS) (w : World) (blk m : Nat) (dk : Array KS) (os : Array Obj) (h : blk < w.heap.size) : Fr (oneB blk) w (sortWorldK codK.cs 2 w blk 0 m dk os) := by
  refine ⟨rfl, rfl, rfl, by simp [sortWorldK, putRowK, Sort.ahead], fun k hk hne => ?_⟩
  unfold sortWorldK putRowK
  rw [heap_grow_old _ _ (by simpa using hk)]
  have : blk ≠ k := fun e => hne e.symm
  simp [putRow, mapBlock, Sort.ahead, Array.getElem?_modify, this]
theorem cmpK_lays (W w : World) (hW : W = w) (P b m : Nat) (rs : List RwW) (hP : w.cell? ⟨P, 0, none⟩ = some (.pointer (some ⟨b, 0, none⟩))) (hb : w.cell? ⟨b, 0, none⟩ = some (.map (some m))) (hm : mpT w m = some (tab rs)) (x y : KS) :
    Calls Tryz.prog 43 (#[.agg (codK.cs x).toArray, .agg (codK.cs y).toArray] ++ #[.pointer (some ⟨P, 0, none⟩)]) W fun e w' => e = .returned (.int .i64 (cfK (fun s => (rowW rs s).Name) x.1 y.1)) ∧ ∃ q os', w' = grow (W.drewN q) os' := by
  subst hW
  have := gvKids1X_any W P b m rs hP hb hm x.1 y.1 x.2 y.2
  rw [Cod.A_eq, Cod.A_eq] at this
  exact this
theorem srtKids_any (w0 w : World) (P b m : Nat) (rs : List RwW) (A : Option Addr) (c n : Nat) (l : List KS) (hn : l.length = n) (ho : OwnC codK w0 w A c l) (hl : l.length ≤ 1000000000000)
    (hP : w.cell? ⟨P, 0, none⟩ = some (.pointer (some ⟨b, 0, none⟩))) (hb : w.cell? ⟨b, 0, none⟩ = some (.map (some m))) (hm : mpT w m = some (tab rs)) (hne : ∀ g, A.map (·.block) = some g → g ≠ P ∧ g ≠ b ∧ g ≠ m) :
    Calls Tryz.prog 42 #[.slice A n c, .func (.func 43) #[] #[.pointer (some ⟨P, 0, none⟩)]] w fun e w' => e = .returned (.tuple #[]) ∧ ∃ l' : List KS, l'.Perm l ∧ l'.Pairwise (fun x y => ltOf (fun x y : KS => cfK (fun s => (rowW rs s).Name) x.1 y.1) y x = false) ∧ OwnC codK w0 w' A c l' ∧ Fr (fun b => A.map (·.block) = some b) w w' :=
  srtC_any codK Tryz.sortS (fun w => Tryz.isAgg28 w) (fun w => Tryz.sizeOf28 w) (fun x y : KS => cfK (fun s => (rowW rs s).Name) x.1 y.1) (swoK _ (fun k : KS => k.1)) 43 #[.pointer (some ⟨P, 0, none⟩)] (enters_of Tryz.func43 (by kernel_rfl) rfl) w0 w A c n l hn ho hl
    (fun blk hA hblk _ q os dk _ x y => by
      obtain ⟨h1, h2, h3⟩ := hne blk (by rw [hA]; rfl)
      have f := sortW_fr l w blk q dk os hblk
      exact cmpK_lays _ _ rfl P b m rs (gcell_fr hP f (fun e => h1 e.symm)) (gcell_fr hb f (fun e => h2 e.symm)) (mpT_fr hm f (fun e => h3 e.symm)) x y)
/-- the nodes right under p -/
def kidsW (p : St) (l : List RwW) : List St := (l.filter fun r => decide (r.Parent = p)).map (·.Node)
def kidsR (p : St) (l : List RwP) : List St := (l.filter fun r => decide (r.Parent = p)).map (·.Node)
def nmR (xs : List RwP) (s : St) : List UInt8 := ((findR xs s).getD zRwP).Name
theorem kidsW_eq {w : World} {p : St} {rs : List RwW} {xs : List RwP} (h : AllO RwO w rs xs) : kidsW p rs = kidsR p xs := by
  induction rs generalizing xs with
  | nil =>
    obtain rfl : xs = [] := List.length_eq_zero_iff.1 (by simpa using h.1.symm)
    rfl
  | cons r rs ih =>
    match xs, h with
    | [], h => have := h.1; simp at this
    | x :: xs, h =>
      have i := ih h.tail.2
      have h1 := h.tail.1.inn
      unfold kidsW kidsR at i ⊢
      rw [List.filter_cons, List.filter_cons, ← h1.parent]
      split
      · rw [List.map_cons, List.map_cons, i, ← h1.node]
      · exact i
theorem nmR_eq {w : World} {rs : List RwW} {xs : List RwP} (h : AllO RwO w rs xs) (s : St) : (rowW rs s).Name = nmR xs s := by
  unfold rowW nmR
  rcases RwsO_.find h s with ⟨h1, h2⟩ | ⟨r, x, h1, h2, h3⟩
  · rw [h1, h2]; rfl
  · rw [h1, h2]
    have : x.Name = r.Name := by rw [h3.inn.eq]; rfl
    rw [Option.getD_some, Option.getD_some, this]
theorem kids_nd {p : St} {xs : List RwP} (h : (xs.map (·.Node)).Nodup) : (kidsR p xs).Nodup := (h.sublist ((List.filter_sublist).map _))
def KidsTo (w : World) (xs : List RwP) (p : St) (e : Ending) (w' : World) : Prop :=
  ∃ (A : Option Addr) (c : Nat) (ks : List St), e = .returned (.slice A ks.length c) ∧ OwnC codS w w' A c ks ∧ ks.Perm (kidsR p xs) ∧ ks.Pairwise (fun a b => cfK (nmR xs) a b < 0) ∧ Fr noB w w'
def KdLoop (w : World) (it m : Nat) (rs : List RwW) (p : St) (gk : Nat) (iv : Value) (wr : World) : Prop :=
  ∃ (dz lz : List RwW) (os : List St) (A : Option Addr) (c : Nat), gk = lz.length ∧ RngT wr it m (tab rs) (tab (lz.map id)) ∧ (dz ++ lz).Perm rs ∧ Fr noB w wr ∧ iv = .slice A os.length c ∧ OwnC codS w wr A c os ∧ os = kidsW p dz
theorem kidsW_snoc (p : St) (l : List RwW) (r : RwW) : kidsW p (l ++ [r]) = if r.Parent = p then kidsW p l ++ [r.Node] else kidsW p l := by
  unfold kidsW
  rw [List.filter_append]
  split <;> simp [*]
theorem kidsW_len (p : St) (l : List RwW) : (kidsW p l).length ≤ l.length := by
  unfold kidsW
  rw [List.length_map]
  exact List.length_filter_le _ _
set_option maxRecDepth 100000 in
set_option maxHeartbeats 4000000 in
theorem gvKids_any {base : Nat} {w : World} {b : Nat} {t : TrW} {L : List Opn} (h : GvS base w b t L) (hL : L.length ≤ 100000) (p : St) : Calls Tryz.prog 16 #[.pointer (some ⟨b, 0, none⟩), .agg (codS.A p)] w (KidsTo w (runX [] L) p) := by
  have tm := h.tr.m
  obtain ⟨rs, hm, hR⟩ := h.rows
  have hxl : (runX [] L).length ≤ 100000 := by have := runX_len [] L; simp only [List.length_nil] at this; omega
  have hnd : ((runX [] L).map (·.Node)).Nodup := runX_nd (by simp) L
  generalize runX [] L = xs at hR hxl hnd ⊢
  have f0 : Fr noB w ((w.alloc (.cells #[.pointer (some ⟨b, 0, none⟩)] 23)).alloc (.cells (codS.A p) 28)) := ((Fr.refl noB w).alloc _).alloc _
  have hz : (w.alloc (.cells #[.pointer (some ⟨b, 0, none⟩)] 23)).heap.size = w.heap.size + 1 := by simp
  have tb : ((w.alloc (.cells #[.pointer (some ⟨b, 0, none⟩)] 23)).alloc (.cells (codS.A p) 28)).cell? ⟨w.heap.size, 0, none⟩ = some (.pointer (some ⟨b, 0, none⟩)) := by
    have h := (Blk.new w 23 [.pointer (some ⟨b, 0, none⟩)]).cell 0
    exact cell_fr0 h ((Fr.refl noB _).alloc (.cells (codS.A p) 28))
  have qp := Cod.rd_new (C := codS) (w.alloc (.cells #[.pointer (some ⟨b, 0, none⟩)] 23)) 28 p
  rw [hz] at qp
  have tm0 := cell_fr0 tm f0
  have hm0 := mpT_fr0 hm f0
  have HR := Lib.hid (show AllO RwO w rs xs from hR)
  have hwn := Lib.hid (show ∀ r ∈ rs, wfS r.Node = true from fun r hr => by
    obtain ⟨i, hi, rfl⟩ := List.getElem_of_mem hr
    exact (hR.2 i hi (by rw [← hR.1]; exact hi)).inn.wn)
  have HXL := Lib.hid (show rs.length ≤ 100000 by rw [hR.1]; exact hxl)
  have HND := Lib.hid hnd
  clear hR hxl hnd h hL hz tm hm
  go_enter Tryz.func16, Tryz.ntmps16
  go_upto_region 2 with fail
  generalize (w.alloc (.cells #[.pointer (some ⟨b, 0, none⟩)] 23)).alloc (.cells (codS.A p) 28) = W0 at f0 tb qp tm0 hm0 ⊢
  generalize w.heap.size + 1 = Q at qp ⊢
  generalize w.heap.size = P at tb ⊢
  obtain ⟨_, hrg⟩ := rngT_all Tryz.underlying60 hm0
  have F1 : Fr noB W0 (W0.alloc (rngOT W0 t.m)) := (Fr.refl noB W0).alloc _
  have h0 : KdLoop W0 W0.heap.size t.m rs p rs.length (.slice none 0 0) (W0.alloc (rngOT W0 t.m)) := ⟨[], rs, [], none, 0, rfl, by rw [List.map_id]; exact hrg, by simp, F1, rfl, World.ownsRow_nil _ _ _ _, rfl⟩
  have HP := Lib.hid (And.intro tb (And.intro qp (And.intro tm0 hm0)))
  clear hrg F1
  go_wp2_with fail
  generalize W0.alloc (rngOT W0 t.m) = w1 at h0 ⊢
  clear tb qp tm0 hm0
  go_loopg [5] rs.length (fun gk iv wr => KdLoop W0 W0.heap.size t.m rs p gk iv wr)
  case atStart => exact h0
  case round =>
    clear h0
    obtain ⟨dz, lz, os, A, c, rfl, hr, hpm, hf, rfl, ho, hos⟩ := hrel
    have HOL := Lib.hid (show os.length ≤ 100000 by
      have h1 := kidsW_len p dz
      have h2 := hpm.length_eq
      have h4 := HXL.out
      rw [hos]
      simp only [List.length_append] at h2
      omega)
    have HPM := Lib.hid hpm
    have HOS := Lib.hid hos
    clear hpm hos
    obtain ⟨hcP, hcQ, hcb, hmw⟩ := HP.out
    have hlo := fun g (hg : A.map (·.block) = some g) => (own_blk ho hg).1
    rcases hr.next hr.ne 0 with ⟨h0, hrun⟩ | ⟨l1, q, l2, w3, h0, hp, hwp, hrun, hr3, hf3, hent⟩
    · have h0' := tab_nil h0
      subst h0'
      obtain ⟨ks, hks⟩ := kids_up (l := os) (fun s hs => by
        rw [HOS.out] at hs
        unfold kidsW at hs
        obtain ⟨r, hr, rfl⟩ := List.mem_map.1 hs
        have hrr : r ∈ rs := by
          have := (List.mem_filter.1 hr).1
          have h2 := HPM.out
          rw [List.append_nil] at h2
          exact h2.mem_iff.1 this
        exact hwn.out r hrr)
      have hkl : ks.length = os.length := by rw [← hks, List.length_map]
      have hok : OwnC codK W0 wr A c ks := by
        show wr.ownsRow W0.heap.size 28 2 (.slice A ks.length c) ks.length (codK.row ks)
        rw [codK_row, hks, hkl]
        exact ho
      have CS := Lib.hid (srtKids_any W0 wr P b t.m rs A c _ ks hkl hok (by have := HOL.out; omega) (cell_fr0 hcP hf) (cell_fr0 hcb hf) (mpT_fr0 hmw hf) (fun g hg => by
        have h1 := hlo g hg
        refine ⟨?_, ?_, ?_⟩
        · rintro rfl
          have := cell_lt hcP
          omega
        · rintro rfl
          have := cell_lt hcb
          omega
        · rintro rfl
          have := mpT_lt hmw
          omega))
      have HKS := Lib.hid (And.intro hks hkl)
      clear h0 hks hkl hok hcP hcQ hcb hmw
      go_wp2_with (go_at_call 42; refine CS.out.mono ?_; rintro e w4 ⟨rfl, l', hp4, hs4, ho4, hf4⟩)
      go_ret
      obtain ⟨hks, hkl⟩ := HKS.out
      have hl4 : (l'.map (·.1)).length = os.length := by rw [List.length_map, hp4.length_eq, hkl]
      have hpx : (l'.map (·.1)).Perm (kidsR p xs) := by
        have h1 : (l'.map (·.1)).Perm (ks.map (·.1)) := hp4.map _
        rw [hks, HOS.out] at h1
        have h2 := HPM.out
        rw [List.append_nil] at h2
        rw [← kidsW_eq HR.out]
        exact h1.trans ((h2.filter _).map _)
      refine ⟨A, c, l'.map (·.1), by rw [hl4]; rfl, ?_, hpx, ?_, f0.step0 (hf.step hf4 (fun g hg => .inl (own_blk ho hg).1))⟩
      · have h1 : w4.ownsRow W0.heap.size 28 2 (.slice A l'.length c) l'.length (codK.row l') := ho4
        rw [codK_row] at h1
        show w4.ownsRow w.heap.size 28 2 (.slice A (l'.map (·.1)).length c) (l'.map (·.1)).length (codS.row (l'.map (·.1)))
        rw [List.length_map]
        exact own_base h1 f0.size
      · have nd : (l'.map (·.1)).Nodup := hpx.nodup_iff.2 (kids_nd HND.out)
        rw [List.pairwise_iff_getElem] at hs4 ⊢
        intro i j hi hj hij
        have hi' : i < l'.length := by simpa using hi
        have hj' : j < l'.length := by simpa using hj
        have h1 : ¬ cfK (fun s => (rowW rs s).Name) (l'[j]).1 (l'[i]).1 < 0 := of_decide_eq_false (hs4 i j hi' hj' hij)
        have e : (fun s => (rowW rs s).Name) = nmR xs := funext fun s => nmR_eq HR.out s
        rw [e] at h1
        have h2 := (List.pairwise_iff_getElem.1 nd) i j hi hj hij
        simp only [List.getElem_map] at h2 ⊢
        exact Decidable.byContradiction fun h3 => h2 (cfK_tri h3 h1)
    · obtain ⟨z1, z, z2, rfl, rfl, rfl, rfl⟩ := tab_split h0
      simp only [id] at hrun hent
      rw [← tab_app] at hr3
      have hent' := hent noB w3 (Fr.refl _ _) (by simp [noB]) (by simp [noB])
      have hne1 := hr.nown ho
      have ho3 : OwnC codS W0 w3 A c os := own_fr ho hf3 (fun g hg e => by rw [ownBlock_sl'] at hg; exact (hne1 g hg).1 e)
      have F3 : Fr noB W0 w3 := hf.step1 hf3 (Nat.le_refl _)
      clear h0 hp hwp hent hr hf hf3 hne1 ho
      go_upto_region 5 with fail
      have f12 : Fr noB w3 (w3.alloc (codR.o z)) := (Fr.refl noB w3).alloc _
      have q12 := rwAt (Cod.rd_new' (C := codR) w3 z)
      have q1 := q12.node
      have q2 := q12.parent
      obtain ⟨D2, hD2⟩ : ∃ x, x = w3.heap.size := ⟨_, rfl⟩
      rw [← hD2] at q1 q2 ⊢
      have o12 := own_new0 ho3 f12
      have r12 := Lib.hid (hr3.fr f12 (by simp [noB]) (by simp [noB]))
      have F12 := F3.step0 f12
      have hQ12 := Cod.rd_fr0 hcQ F12
      clear q12 ho3 hr3 F3 hD2 f12 hrun hent' hcP hcQ hcb hmw
      generalize w3.alloc (codR.o z) = W12 at q1 q2 o12 r12 F12 hQ12 ⊢
      by_cases hpz : z.Parent = p
      · have hd : decide (z.Parent = p) = true := by simp [hpz]
        have HSN := Lib.hid (show kidsW p (dz ++ [z]) = os ++ [z.Node] by rw [kidsW_snoc, if_pos hpz, HOS.out])
        rw [hpz] at q2 hd
        clear hpz
        have sl := Cod.sl_new (C := codS) W12 [z.Node]
        have fn : Fr noB W12 (W12.alloc (codS.ro [z.Node])) := (Fr.refl noB W12).alloc _
        have o13 := own_new0 o12 fn
        have F13 := F12.step0 fn
        have r13 := Lib.hid (r12.out.fr fn (by simp [noB]) (by simp [noB]))
        clear fn F12 r12 o12
        go_wp2_with (at_builtin; refine wpList_appC' etS W0 _ rfl _ _ rfl A os.length c os rfl rfl o13 (some ⟨W12.heap.size, 0, none⟩) 1 1 [z.Node] rfl sl rfl (by have := HOL.out; simp; omega) F13.size ?_; intro A7 c7 w7 hc7 hm7 o7 g7 hA7)
        have fg : Fr (fun q => A.map (·.block) = some q) (W12.alloc (codS.ro [z.Node])) w7 := Fr.ofGrown g7 (fun g hg => hg)
        go_roundg (z1 ++ z2).length
        case measure => simp
        case rel =>
          have hne7 := r13.out.nown o13
          refine ⟨dz ++ [z], z1 ++ z2, os ++ [z.Node], A7, c7, rfl, r13.out.fr fg (fun e => (hne7 _ e).1 rfl) (fun e => (hne7 _ e).2 rfl), perm_mid HPM.out, gv_own F13 o13 g7, ?_, o7, HSN.out.symm⟩
          simp
      · have hd : decide (z.Parent = p) = false := by simp [hpz]
        have HSN := Lib.hid (show kidsW p (dz ++ [z]) = os by rw [kidsW_snoc, if_neg hpz, HOS.out])
        have HPZ := Lib.hid hpz
        clear hpz
        go_wp2_with fail
        go_roundg (z1 ++ z2).length
        case measure => simp
        case rel => exact ⟨dz ++ [z], z1 ++ z2, os, A, c, rfl, r12.out, perm_mid HPM.out, F12, rfl, o12, HSN.out.symm⟩
end Go.Proofs.YtdandpaeeodolaaGreat
namespace Go.Proofs.YtdandpaeeodolaaGreat
open Go.RowKit Go.Sort
set_option linter.unusedVariables false
set_option linter.unusedSimpArgs false

theorem bldO_m5 (w : World) (k : Int) (a s t : St) (m : List UInt8) : (Instr.build 33 #[(0, .int .i64 k), (1, .agg (codS.A a)), (2, .agg (codS.A s)), (3, .agg (codS.A t)), (4, .string (str m))]).run Tryz.prog w = .ok (.agg (codO.A { zOpW with Kind := k, At := a, Node := s, Parent := t, Name := m })) w := by
  have h1 : ∀ place : Nat → Option (Nat × Nat), place 0 = some (0, 1) → place 1 = some (1, 2) → place 2 = some (3, 2) → place 3 = some (5, 2) → place 4 = some (7, 1) → Instr.fill place ([] ++ [Value.int .i64 0] ++ ([Value.int .i64 0, Value.int .i64 0, Value.int .i64 0, Value.int .i64 0, Value.int .i64 0, Value.int .i64 0, Value.string (str [])] ++ bv zID.1 ++ [Value.slice none 0 0])).toArray [(0, .int .i64 k), (1, .agg (codS.A a)), (2, .agg (codS.A s)), (3, .agg (codS.A t)), (4, .string (str m))] = some (codO.cs { zOpW with Kind := k, At := a, Node := s, Parent := t, Name := m }).toArray := by
    intro place p0 p1 p2 p3 p4
    refine (fill_one place [] [.int .i64 0] ([Value.int .i64 0, Value.int .i64 0, Value.int .i64 0, Value.int .i64 0, Value.int .i64 0, Value.int .i64 0, Value.string (str [])] ++ bv zID.1 ++ [Value.slice none 0 0]) [.int .i64 k] 0 (.int .i64 k) _ rfl (by simpa using p0) rfl).trans ?_
    have e0 := fill_one place [.int .i64 k] [.int .i64 0, .int .i64 0] ([.int .i64 0, .int .i64 0, .int .i64 0, .int .i64 0, Value.string (str [])] ++ bv zID.1 ++ [Value.slice none 0 0]) [.int .i64 a.T, .int .i64 a.R] 1 (.agg (codS.A a)) [(2, .agg (codS.A s)), (3, .agg (codS.A t)), (4, .string (str m))] (by rw [A_SS]; rfl) (by simpa using p1) rfl
    refine Eq.trans ?_ (e0.trans ?_)
    · simp
    have e1 := fill_one place [.int .i64 k, .int .i64 a.T, .int .i64 a.R] [.int .i64 0, .int .i64 0] ([.int .i64 0, .int .i64 0, Value.string (str [])] ++ bv zID.1 ++ [Value.slice none 0 0]) [.int .i64 s.T, .int .i64 s.R] 2 (.agg (codS.A s)) [(3, .agg (codS.A t)), (4, .string (str m))] (by rw [A_SS]; rfl) (by simpa using p2) rfl
    refine Eq.trans ?_ (e1.trans ?_)
    · simp
    have e2 := fill_one place [.int .i64 k, .int .i64 a.T, .int .i64 a.R, .int .i64 s.T, .int .i64 s.R] [.int .i64 0, .int .i64 0] ([Value.string (str [])] ++ bv zID.1 ++ [Value.slice none 0 0]) [.int .i64 t.T, .int .i64 t.R] 3 (.agg (codS.A t)) [(4, .string (str m))] (by rw [A_SS]; rfl) (by simpa using p3) rfl
    refine Eq.trans ?_ (e2.trans ?_)
    · simp
    have e3 := fill_one place [.int .i64 k, .int .i64 a.T, .int .i64 a.R, .int .i64 s.T, .int .i64 s.R, .int .i64 t.T, .int .i64 t.R] [Value.string (str [])] (bv zID.1 ++ [Value.slice none 0 0]) [.string (str m)] 4 (.string (str m)) [] rfl (by simpa using p4) rfl
    refine Eq.trans ?_ (e3.trans ?_)
    · simp
    · simp [Instr.fill, codO, csO, zOpW, zSt]
  have hz : (zeroValue 33).run Tryz.prog w = .ok (.agg (codO.cs codO.z).toArray) w := okO.zero w
  simp only [Instr.build, Sem.run_bind, hz, Result.andThen_ok, run_underlying Tryz.underlying33, zO_form]
  simp only [List.mapM_toArray, List.mapM_cons, List.mapM_nil, Sem.run_bind, Tryz.sizeOf3, Tryz.sizeOf30, Tryz.sizeOf31, Tryz.sizeOf9, Tryz.sizeOf28, Result.andThen_ok, Sem.run_pure, Sem.run_map, map_pure, bind_pure_comp]
  rw [h1 _ rfl rfl rfl rfl rfl]
  simp [Cod.A_eq]
@[simp ↓] theorem ex_bldOm5 (ρ : Operand → Value) (x0 x1 x2 x3 x4 : Operand) (d : Option Nat) (t : TypeId) (p : String) (f : Array Edge) (g : Option (Nat × Bool)) (w : World) :
    (execOp ρ { dst := d, op := .build 33 #[(0, x0), (1, x1), (2, x2), (3, x3), (4, x4)], type := t, pos := p, after := f, guard := g }).run Tryz.prog w = mkB 33 w [(0, ρ x0), (1, ρ x1), (2, ρ x2), (3, ρ x3), (4, ρ x4)] := (exB ρ _ _ _ rfl w).trans (by simp only [List.map_toArray, List.map_cons, List.map_nil])
@[simp] theorem mkB_Om5 (w : World) (k : Int) (a s t : St) (m : List UInt8) : mkB 33 w [(0, .int .i64 k), (1, .agg (codS.A a)), (2, .agg (codS.A s)), (3, .agg (codS.A t)), (4, .string (str m))] = .ok (.value (.agg (codO.A { zOpW with Kind := k, At := a, Node := s, Parent := t, Name := m }))) w := mkB_ok (bldO_m5 w k a s t m)
/-- a move, as it lies in memory, and as a value -/
def mvW (a s t : St) (m : List UInt8) : OpW := { zOpW with Kind := 1, At := a, Node := s, Parent := t, Name := m }
def mvP (a s t : St) (m : List UInt8) : Opn := ⟨1, a, s, t, m, zID, []⟩
theorem mv_in (w : World) (a s t : St) (m : List UInt8) (h : m.length ≤ 140737488355328) : OpIn w (mvW a s t m) (mvP a s t m) := ⟨rfl, rfl, Sl.nil _ _, by simp [mvP], h⟩
def MvTo12 (w : World) (r : OpW) (e : Ending) (w' : World) : Prop := e = .returned (.agg (codO.A r)) ∧ Fr noB w w'
set_option maxRecDepth 100000 in
theorem l12move_any (w : World) (a s t : St) (m : List UInt8) : Calls Tryz.prog 17 #[.agg (codS.A a), .agg (codS.A s), .agg (codS.A t), .string (str m)] w (MvTo12 w (mvW a s t m)) := by
  have f0 : Fr noB w ((((w.alloc (.cells (codS.A a) 28)).alloc (.cells (codS.A s) 28)).alloc (.cells (codS.A t) 28)).alloc (codO.o zOpW)) := ((((Fr.refl noB w).alloc _).alloc _).alloc _).alloc _
  have q1 : codS.rd ((((w.alloc (.cells (codS.A a) 28)).alloc (.cells (codS.A s) 28)).alloc (.cells (codS.A t) 28)).alloc (codO.o zOpW)) w.heap.size 0 = some a := Cod.rd_fr0 (Cod.rd_new (C := codS) w 28 a) ((((Fr.refl noB _).alloc _).alloc _).alloc _)
  have q2 := Cod.rd_fr0 (Cod.rd_new (C := codS) (w.alloc (.cells (codS.A a) 28)) 28 s) (((Fr.refl noB _).alloc (.cells (codS.A t) 28)).alloc (codO.o zOpW))
  have q3 := Cod.rd_fr0 (Cod.rd_new (C := codS) ((w.alloc (.cells (codS.A a) 28)).alloc (.cells (codS.A s) 28)) 28 t) ((Fr.refl noB _).alloc (codO.o zOpW))
  have b4 := Cod.bxd_new (C := codO) (((w.alloc (.cells (codS.A a) 28)).alloc (.cells (codS.A s) 28)).alloc (.cells (codS.A t) 28)) zOpW
  simp only [World.size_alloc] at q2 q3 b4
  go_enter Tryz.func17, Tryz.ntmps17
  go_upto_region 1 with fail
  generalize (((w.alloc (.cells (codS.A a) 28)).alloc (.cells (codS.A s) 28)).alloc (.cells (codS.A t) 28)).alloc (codO.o zOpW) = W0 at f0 q1 q2 q3 b4 ⊢
  have hlo : w.heap.size ≤ w.heap.size + 1 + 1 + 1 := by omega
  generalize w.heap.size + 1 + 1 + 1 = R at b4 hlo ⊢
  generalize w.heap.size + 1 + 1 = P3 at q3 ⊢
  generalize w.heap.size + 1 = P2 at q2 ⊢
  obtain ⟨P1, hP1⟩ : ∃ p, p = w.heap.size := ⟨_, rfl⟩
  rw [← hP1] at q1 ⊢
  have HP := Lib.hid (show P1 ≤ R by omega)
  have HP1 := Lib.hid hP1
  have hst := okO.stR_box b4 (mvW a s t m)
  obtain ⟨p1, p2, p3⟩ := Cod.put_fr b4 (mvW a s t m)
  have HPP := Lib.hid (And.intro p1 (And.intro p2 p3))
  clear hP1 hlo p1 p2 p3
  have hmv : { zOpW with Kind := 1, At := a, Node := s, Parent := t, Name := m } = mvW a s t m := rfl
  go_wp2_with fail
  obtain ⟨p1, p2, p3⟩ := HPP.out
  refine bodyPost_ret (ret_row okO rfl _ _ R _ (by rfl) p3) rfl ?_
  exact ⟨rfl, f0.step1 p1 (by rw [← HP1.out]; exact HP.out)⟩
/-- an operation that comes between -/
theorem filter_split {L1 L2 : List Opn} {s : St} (h1 : ∀ p ∈ L1, cmpS p.At s < 0) (h2 : ∀ p ∈ L2, cmpS s p.At < 0) : (L1 ++ L2).filter (fun p => decide (cmpS p.At s < 0)) = L1 := by
  rw [List.filter_append, List.filter_eq_self.2 (fun p hp => by simpa using h1 p hp), List.filter_eq_nil_iff.2 (fun p hp => by
    have := h2 p hp
    have e := cmpS_flip s p.At
    simp only [decide_eq_true_eq]
    omega), List.append_nil]
theorem InsP.mid {M1 M2 L' : List Opn} {o : Opn} {u E u' : Int} (h : InsP (M1 ++ M2) o u E L' u') (hg : goodOp o = true) (h1 : ∀ p ∈ M1, cmpS p.At o.At < 0) (h2 : ∀ p ∈ M2, cmpS o.At p.At < 0) : E = 0 ∧ L' = M1 ++ o :: M2 ∧ u' = (M2.length : Int) := by
  rcases h with ⟨h, _⟩ | ⟨_, p, hp, he, _⟩ | ⟨_, hE, L1, L2, hL, hL', h3, h4, hu⟩
  · rw [hg] at h; cases h
  · exfalso
    rcases List.mem_append.1 hp with hp | hp
    · have := h1 p hp
      rw [he, cmpS_self] at this
      omega
    · have := h2 p hp
      rw [he, cmpS_self] at this
      omega
  · have e1 : M1 = L1 := by rw [← filter_split h1 h2, hL, filter_split h3 h4]
    subst e1
    have e2 := List.append_cancel_left hL
    subst e2
    exact ⟨hE, hL', hu⟩
theorem InsP.srt {L L' : List Opn} {o : Opn} {u E u' : Int} (h : InsP L o u E L' u') (hs : SrtL L) : SrtL L' := by
  rcases h with ⟨_, _, rfl, _⟩ | ⟨_, p, hp, he, h⟩ | ⟨_, hE, L1, L2, rfl, rfl, h3, h4, hu⟩
  · exact hs
  · rcases h with ⟨_, _, rfl, _⟩ | ⟨_, _, rfl, _⟩ <;> exact hs
  · unfold SrtL at hs ⊢
    rw [List.pairwise_append] at hs ⊢
    obtain ⟨s1, s2, s3⟩ := hs
    refine ⟨s1, List.pairwise_cons.2 ⟨h4, s2⟩, fun a ha c hc => ?_⟩
    rcases List.mem_cons.1 hc with rfl | hc
    · exact h3 a ha
    · exact s3 a ha c hc
theorem InsP.len {L L' : List Opn} {o : Opn} {u E u' : Int} (h : InsP L o u E L' u') : L'.length ≤ L.length + 1 := by
  rcases h with ⟨_, _, rfl, _⟩ | ⟨_, p, hp, he, h⟩ | ⟨_, hE, L1, L2, rfl, rfl, h3, h4, hu⟩
  · omega
  · rcases h with ⟨_, _, rfl, _⟩ | ⟨_, _, rfl, _⟩ <;> omega
  · simp only [List.length_append, List.length_cons]; omega
theorem InsP.mem {L L' : List Opn} {o : Opn} {u E u' : Int} (h : InsP L o u E L' u') : ∀ p ∈ L', p ∈ L ∨ p = o := by
  rcases h with ⟨_, _, rfl, _⟩ | ⟨_, p, hp, he, h⟩ | ⟨_, hE, L1, L2, rfl, rfl, h3, h4, hu⟩
  · exact fun p hp => .inl hp
  · rcases h with ⟨_, _, rfl, _⟩ | ⟨_, _, rfl, _⟩ <;> exact fun p hp => .inl hp
  · intro p hp
    simp only [List.mem_append, List.mem_cons] at hp ⊢
    rcases hp with hp | rfl | hp
    · exact .inl (.inl hp)
    · exact .inr rfl
    · exact .inl (.inr hp)
theorem off_ins {b P : Nat} {t t' : TrW} {w : World} (hP : ¬ trM b t P) (hlt : P < w.heap.size) (hm : t'.m = t.m) (hA : t'.A.map (·.block) = t.A.map (·.block) ∨ ∀ g, t'.A.map (·.block) = some g → w.heap.size ≤ g) : ¬ trM b t' P := by
  rintro (h | h | h)
  · exact hP (.inl h)
  · exact hP (.inr (.inl (h.trans hm)))
  · rcases hA with e | e
    · exact hP (.inr (.inr (e ▸ h)))
    · have := e _ h
      omega
def InOk (base : Nat) (w : World) (b : Nat) (t : TrW) (L' : List Opn) (u : Int) (e : Ending) (w' : World) : Prop :=
  ∃ t' : TrW, e = .returned (.int .i64 0) ∧ GvS base w' b t' L' ∧ t'.u = u ∧ (∀ P, P < w.heap.size → ¬ trM b t P → ¬ trM b t' P) ∧ Fr (trM b t) w w'
theorem gvIns_mid {base : Nat} {w : World} {b : Nat} {t : TrW} (M1 M2 : List Opn) (hS : GvS base w b t (M1 ++ M2)) (hsrt : SrtL (M1 ++ M2)) (hL : (M1 ++ M2).length ≤ 100000) (r : OpW) (o : Opn) (ho : OpIn w r o) (hov : o.Over.length ≤ 1000000) (hg : goodOp o = true) (h1 : ∀ p ∈ M1, cmpS p.At o.At < 0) (h2 : ∀ p ∈ M2, cmpS o.At p.At < 0) :
    Calls Tryz.prog 11 #[.pointer (some ⟨b, 0, none⟩), .agg (codO.A r)] w (InOk base w b t (M1 ++ o :: M2) (M2.length : Int)) := by
  refine (gvInsert_any base w b t _ hS hsrt hL r o ho hov).mono ?_
  rintro e w' ⟨E, t', L', rfl, h3, h4, h5, h6, h7⟩
  obtain ⟨rfl, rfl, hu⟩ := h7.mid hg h1 h2
  exact ⟨t', rfl, h3, hu, fun P hP hP2 => off_ins hP2 hP h4 h5, h6⟩
def aA : St := ⟨1, 1⟩
def aB : St := ⟨2, 1⟩
def am1 : Opn := mvP aA aA zSt [97]
def am2 : Opn := mvP aB aB aA [98]
def am3 : Opn := mvP ⟨3, 1⟩ aA aB [97]
def am4 : Opn := mvP ⟨2, 2⟩ aB zSt [98]
theorem am_row3 : findR (runX [] [am1, am2, am3]) aA = some ⟨aA, zSt, aA, [97], []⟩ := rfl
theorem am_run4 : runX [] [am1, am2, am4, am3] = [⟨aA, aB, ⟨3, 1⟩, [97], []⟩, ⟨aB, zSt, ⟨2, 2⟩, [98], []⟩] := rfl
theorem rise_uniq {xs ys : List RwP} (h : ys.Perm xs) (h1 : ys.Pairwise fun a b => cmpS a.Node b.Node < 0) (h2 : xs.Pairwise fun a b => cmpS a.Node b.Node < 0) : ys = xs := by
  refine h.eq_of_pairwise (le := fun a b : RwP => cmpS a.Node b.Node < 0) (fun a b _ _ hab hba => ?_) h1 h2
  have := cmpS_flip a.Node b.Node
  omega
/-- what is new is no part of a tree that was there -/
theorem GvS.off {base : Nat} {w : World} {b : Nat} {t : TrW} {L : List Opn} (h : GvS base w b t L) {P : Nat} (hP : w.heap.size ≤ P) : ¬ trM b t P := by
  rintro (rfl | rfl | h1)
  · have := Blk.lt h.tr
    omega
  · obtain ⟨_, h1, _⟩ := h.rows
    have := mpT_lt h1
    omega
  · obtain ⟨ds, _, h2, _⟩ := h.log
    have := World.ownsRow.lt h2 P (by rw [ownBlock_sl']; exact h1)
    omega
theorem GvS.base {base : Nat} {w : World} {b : Nat} {t : TrW} {L : List Opn} (h : GvS base w b t L) {q : Nat} (hq : trM b t q) : base ≤ q := by
  rcases hq with rfl | rfl | h1
  · exact h.bb
  · exact h.mm
  · obtain ⟨ds, _, h2, _⟩ := h.log
    exact (own_blk h2 h1).1
theorem GvS.frR {base : Nat} {w w' : World} {b : Nat} {t : TrW} {L : List Opn} (h : GvS base w b t L) {R : Nat} {r : RwW} (hb : codR.bxd w R = some r) (f : Fr (oneB R) w w') (ho : ¬ trM b t R) : GvS base w' b t L :=
  h.fr f (NoHS.blk (Cod.bxd_blk hb) (by decide) (by decide)) (fun e => ho (.inl e.symm)) (fun e => ho (.inr (.inl e.symm))) (fun g hg e => ho (.inr (.inr (by rw [hg, show g = R from e]))))
set_option maxRecDepth 100000 in
set_option maxHeartbeats 4000000 in
theorem l12alive_any (w : World) : Calls Tryz.prog 9 #[] w (Gives w (.bool true)) := by
  go_enter Tryz.func9, Tryz.ntmps9
  go_upto_region 2 with (go_at_call 8; refine (gvNew_any _).mono ?_; rintro e w1 ⟨b, t0, rfl, h0, hu0, f1⟩)
  have f2 : Fr noB w1 ((w1.alloc (codS.o zSt)).alloc (codS.o zSt)) := ((Fr.refl noB w1).alloc _).alloc _
  have ba := Cod.bxd_fr0 (Cod.bxd_new (C := codS) w1 zSt) ((Fr.refl noB _).alloc (codS.o zSt))
  have bb := Cod.bxd_new (C := codS) (w1.alloc (codS.o zSt)) zSt
  simp only [World.size_alloc] at bb
  have oP : ¬ trM b t0 w1.heap.size := h0.off (Nat.le_refl _)
  have oQ : ¬ trM b t0 (w1.heap.size + 1) := h0.off (Nat.le_succ _)
  have h1 := h0.fr0 f2
  generalize hW : (w1.alloc (codS.o zSt)).alloc (codS.o zSt) = W0 at f2 ba bb h1
  generalize hP : w1.heap.size = P at oP oQ ba bb
  generalize hQ : P + 1 = Q at oQ bb
  have HPQ := Lib.hid (show w.heap.size ≤ P ∧ P ≠ Q ∧ w.heap.size ≤ Q by have := f1.size; omega)
  obtain ⟨p1, p2, p3⟩ := Cod.put_fr ba (⟨1, 1⟩ : St)
  have hst1 := okS.stR_box ba (⟨1, 1⟩ : St)
  have bb1 := Cod.bxd_fr bb p1 (by show ¬ Q = P; have := HPQ.out; omega)
  obtain ⟨q1, q2, q3⟩ := Cod.put_fr bb1 (⟨2, 1⟩ : St)
  have hst2 := okS.stR_box bb1 (⟨2, 1⟩ : St)
  have ba2 := Cod.bxd_fr p3 q1 (by show ¬ P = Q; have := HPQ.out; omega)
  have HP1 := Lib.hid (show w1.heap.size ≤ P ∧ w1.heap.size ≤ Q by omega)
  have F3 : Fr noB w1 (codS.put (codS.put W0 P ⟨1, 1⟩) Q ⟨2, 1⟩) := (f2.step1 p1 HP1.out.1).step1 q1 HP1.out.2
  have h3 := Lib.hid (h0.fr0 F3)
  have F := Lib.hid (f1.step0 F3)
  have qa := Cod.bxd_rd ba2
  have qb := Cod.bxd_rd q3
  have HLA := Lib.hid (Cod.bxd_lt ba2)
  have HLB := Lib.hid (Cod.bxd_lt q3)
  have OP := Lib.hid oP
  have OQ := Lib.hid oQ
  clear oP oQ h0 h1 f1 f2 F3 ba bb p1 p2 p3 bb1 q1 q2 q3 ba2 hu0
  go_upto_region 3 with fail
  clear hst1 hst2 hP hQ hW
  generalize codS.put (codS.put W0 P ⟨1, 1⟩) Q ⟨2, 1⟩ = W3 at h3 F qa qb HLA HLB ⊢
  have qa3 := qa
  have qb3 := qb
  clear qa qb
  have k1 : True := trivial
  have k2 : True := trivial
  have k3 : True := trivial
  have k4 : True := trivial
  have k5 : True := trivial
  have k6 : True := trivial
  have k7 : True := trivial
  have k8 : True := trivial
  have k9 : True := trivial
  have k10 : True := trivial
  have k11 : True := trivial
  have k12 : True := trivial
  go_upto_region 5 with (first
    | (go_at_call 17; have _t := k1; refine (l12move_any _ ⟨1, 1⟩ ⟨1, 1⟩ zSt [97]).mono ?_; rintro e w4 ⟨rfl, f4⟩; have h4 := Lib.hid (h3.out.fr0 f4); have F4 := Lib.hid (F.out.step0 f4); have qa4 := Cod.rd_fr0 qa3 f4; have qb4 := Cod.rd_fr0 qb3 f4; have la4 := Lib.hid (Nat.lt_of_lt_of_le HLA.out f4.size); have lb4 := Lib.hid (Nat.lt_of_lt_of_le HLB.out f4.size); clear k1 _t qa3 qb3 f4 h3)
    | (go_at_call 11; have _t := k2; go_loud (refine (gvIns_mid [] [] h4.out (by unfold SrtL; decide) (by decide) _ am1 (mv_in _ _ _ _ _ (by decide)) (by decide) (by decide) (by simp) (by simp)).mono ?_; rintro e w5 ⟨t5, rfl, h5', hu5, o5, f5⟩; have h5 := Lib.hid h5'; have HU5 := Lib.hid hu5; have qa5 := Cod.rd_fr qa4 f5 OP.out; have qb5 := Cod.rd_fr qb4 f5 OQ.out; have oa5 := Lib.hid (o5 _ la4.out OP.out); have ob5 := Lib.hid (o5 _ lb4.out OQ.out); have la5 := Lib.hid (Nat.lt_of_lt_of_le la4.out f5.size); have lb5 := Lib.hid (Nat.lt_of_lt_of_le lb4.out f5.size); have F5 := Lib.hid (F4.out.step f5 (fun g hg => .inl (h4.out.base hg))); clear k2 _t qa4 qb4 f5 h5' hu5 o5 h4))
    | (go_at_call 17; have _t := k3; refine (l12move_any _ ⟨2, 1⟩ ⟨2, 1⟩ ⟨1, 1⟩ [98]).mono ?_; rintro e w6 ⟨rfl, f6⟩; have h6 := Lib.hid (h5.out.fr0 f6); have F6 := Lib.hid (F5.out.step0 f6); have qa6 := Cod.rd_fr0 qa5 f6; have qb6 := Cod.rd_fr0 qb5 f6; have la6 := Lib.hid (Nat.lt_of_lt_of_le la5.out f6.size); have lb6 := Lib.hid (Nat.lt_of_lt_of_le lb5.out f6.size); clear k3 _t qa5 qb5 f6 h5)
    | (go_at_call 11; have _t := k4; go_loud (refine (gvIns_mid [am1] [] h6.out (by unfold SrtL; decide) (by decide) _ am2 (mv_in _ _ _ _ _ (by decide)) (by decide) (by decide) (by decide) (by decide)).mono ?_; rintro e w7 ⟨t7, rfl, h7', hu7, o7, f7⟩; have h7 := Lib.hid h7'; have HU7 := Lib.hid hu7; have qa7 := Cod.rd_fr qa6 f7 oa5.out; have qb7 := Cod.rd_fr qb6 f7 ob5.out; have oa7 := Lib.hid (o7 _ la6.out oa5.out); have ob7 := Lib.hid (o7 _ lb6.out ob5.out); have la7 := Lib.hid (Nat.lt_of_lt_of_le la6.out f7.size); have lb7 := Lib.hid (Nat.lt_of_lt_of_le lb6.out f7.size); have F7 := Lib.hid (F6.out.step f7 (fun g hg => .inl (h6.out.base hg))); clear k4 _t qa6 qb6 f7 h7' hu7 o7 h6))
    | (go_at_call 17; have _t := k5; refine (l12move_any _ ⟨3, 1⟩ ⟨1, 1⟩ ⟨2, 1⟩ [97]).mono ?_; rintro e w8 ⟨rfl, f8⟩; have h8 := Lib.hid (h7.out.fr0 f8); have F8 := Lib.hid (F7.out.step0 f8); have qa8 := Cod.rd_fr0 qa7 f8; have qb8 := Cod.rd_fr0 qb7 f8; have la8 := Lib.hid (Nat.lt_of_lt_of_le la7.out f8.size); have lb8 := Lib.hid (Nat.lt_of_lt_of_le lb7.out f8.size); clear k5 _t qa7 qb7 f8 h7)
    | (go_at_call 11; have _t := k6; go_loud (refine (gvIns_mid [am1, am2] [] h8.out (by unfold SrtL; decide) (by decide) _ am3 (mv_in _ _ _ _ _ (by decide)) (by decide) (by decide) (by decide) (by decide)).mono ?_; rintro e w9 ⟨t9, rfl, h9', hu9, o9, f9⟩; have h9 := Lib.hid h9'; have HU9 := Lib.hid hu9; have qa9 := Cod.rd_fr qa8 f9 oa7.out; have qb9 := Cod.rd_fr qb8 f9 ob7.out; have oa9 := Lib.hid (o9 _ la8.out oa7.out); have ob9 := Lib.hid (o9 _ lb8.out ob7.out); have la9 := Lib.hid (Nat.lt_of_lt_of_le la8.out f9.size); have lb9 := Lib.hid (Nat.lt_of_lt_of_le lb8.out f9.size); have F9 := Lib.hid (F8.out.step f9 (fun g hg => .inl (h8.out.base hg))); clear k6 _t qa8 qb8 f9 h9' hu9 o9 h8)))
  have e10 : (findR (runX [] ([am1, am2] ++ [am3])) ⟨1, 1⟩).isSome = true := rfl
  have HE10 := Lib.hid e10
  clear e10
  go_upto_region 6 with (go_at_call 18; go_loud (refine (gvRow_any h9.out (by decide) ⟨1, 1⟩ (by decide)).mono ?_; rintro e w10 ⟨r10, x10, rfl, hx10, hr10, _, f10⟩; rw [HE10.out]; have h10 := Lib.hid (h9.out.fr0 f10); have F10 := Lib.hid (F9.out.step0 f10); have qa10 := Cod.rd_fr0 qa9 f10; have qb10 := Cod.rd_fr0 qb9 f10; have la10 := Lib.hid (Nat.lt_of_lt_of_le la9.out f10.size); have lb10 := Lib.hid (Nat.lt_of_lt_of_le lb9.out f10.size); have hp10 : r10.Parent = zSt := hr10.inn.parent.symm.trans (by rw [hx10]; rfl); clear hx10 hr10 qa9 qb9 f10 h9))
  have f11 : Fr noB w10 (w10.alloc (codR.o r10)) := (Fr.refl noB w10).alloc _
  have bR := Cod.bxd_new (C := codR) w10 r10
  have qr := (rwAt (Cod.bxd_rd bR)).parent
  rw [hp10] at qr
  have oR := Lib.hid (h10.out.off (Nat.le_refl w10.heap.size))
  have lr := Lib.hid (Cod.bxd_lt bR)
  have HRB := Lib.hid (show w.heap.size ≤ w10.heap.size from F10.out.size)
  have HPR := Lib.hid (And.intro la10.out lb10.out)
  have h11 := Lib.hid (h10.out.fr0 f11)
  have F11 := Lib.hid (F10.out.step0 f11)
  have qa11 := Cod.rd_fr0 qa10 f11
  have qb11 := Cod.rd_fr0 qb10 f11
  have la11 := Lib.hid (Nat.lt_of_lt_of_le la10.out f11.size)
  have lb11 := Lib.hid (Nat.lt_of_lt_of_le lb10.out f11.size)
  have BR := Lib.hid bR
  clear f11 qa10 qb10 hp10 h10 bR
  generalize hR : w10.heap.size = R at qr oR lr HRB HPR BR ⊢
  clear hR
  generalize w10.alloc (codR.o r10) = W11 at BR qr lr h11 F11 qa11 qb11 la11 lb11 ⊢
  have z1 : t9.u = 0 := HU9.out
  go_upto_region 8 with (first
    | (go_at_call 22; have _t := k7; go_loud (refine (gvUndone_any h11.out).mono ?_; rintro e w12 ⟨rfl, f12⟩; rw [z1]; have h12 := Lib.hid (h11.out.fr0 f12); have F12 := Lib.hid (F11.out.step0 f12); have qa12 := Cod.rd_fr0 qa11 f12; have qb12 := Cod.rd_fr0 qb11 f12; have la12 := Lib.hid (Nat.lt_of_lt_of_le la11.out f12.size); have lb12 := Lib.hid (Nat.lt_of_lt_of_le lb11.out f12.size); have br12 := Lib.hid (Cod.bxd_fr0 BR.out f12); have lr12 := Lib.hid (Nat.lt_of_lt_of_le lr.out f12.size); clear k7 _t qa11 qb11 f12 h11 qr))
    | (go_at_call 22; go_loud (refine (gvUndone_any h14.out).mono ?_; rintro e w15 ⟨rfl, f15⟩; rw [show t14.u = 1 from HU14.out]; have h15 := Lib.hid (h14.out.fr0 f15); have F15 := Lib.hid (F14.out.step0 f15); have qa15 := Cod.rd_fr0 qa14 f15; have qb15 := Cod.rd_fr0 qb14 f15; have la15 := Lib.hid (Nat.lt_of_lt_of_le la14.out f15.size); have lb15 := Lib.hid (Nat.lt_of_lt_of_le lb14.out f15.size); have br15 := Lib.hid (Cod.bxd_fr0 br14.out f15); clear qa14 qb14 f15 h14))
    | (go_at_call 17; have _t := k8; refine (l12move_any _ ⟨2, 2⟩ ⟨2, 1⟩ zSt [98]).mono ?_; rintro e w13 ⟨rfl, f13⟩; have h13 := Lib.hid (h12.out.fr0 f13); have br13 := Lib.hid (Cod.bxd_fr0 br12.out f13); have lr13 := Lib.hid (Nat.lt_of_lt_of_le lr12.out f13.size); have F13 := Lib.hid (F12.out.step0 f13); have qa13 := Cod.rd_fr0 qa12 f13; have qb13 := Cod.rd_fr0 qb12 f13; have la13 := Lib.hid (Nat.lt_of_lt_of_le la12.out f13.size); have lb13 := Lib.hid (Nat.lt_of_lt_of_le lb12.out f13.size); clear k8 _t qa12 qb12 f13 h12)
    | (go_at_call 11; have _t := k9; go_loud (refine (gvIns_mid [am1, am2] [am3] h13.out (by unfold SrtL; decide) (by decide) _ am4 (mv_in _ _ _ _ _ (by decide)) (by decide) (by decide) (by decide) (by decide)).mono ?_; rintro e w14 ⟨t14, rfl, h14', hu14, o14, f14⟩; have h14 := Lib.hid h14'; have HU14 := Lib.hid hu14; have qa14 := Cod.rd_fr qa13 f14 oa9.out; have qb14 := Cod.rd_fr qb13 f14 ob9.out; have oa14 := Lib.hid (o14 _ la13.out oa9.out); have ob14 := Lib.hid (o14 _ lb13.out ob9.out); have la14 := Lib.hid (Nat.lt_of_lt_of_le la13.out f14.size); have lb14 := Lib.hid (Nat.lt_of_lt_of_le lb13.out f14.size); have br14 := Lib.hid (Cod.bxd_fr br13.out f14 (oR).out); have or14 := Lib.hid (o14 _ lr13.out (oR).out); have F14 := Lib.hid (F13.out.step f14 (fun g hg => .inl (h13.out.base hg))); clear k9 _t qa13 qb13 f14 h14' hu14 o14 h13)))
  have e16 : (findR (runX [] ([am1, am2] ++ am4 :: [am3])) ⟨1, 1⟩).isSome = true := rfl
  have HE16 := Lib.hid e16
  clear e16 z1
  go_upto_region 9 with (go_at_call 18; go_loud (refine (gvRow_any h15.out (by decide) ⟨1, 1⟩ (by decide)).mono ?_; rintro e w16 ⟨r16, x16, rfl, hx16, hr16, _, f16⟩; rw [HE16.out]; have h16 := Lib.hid (h15.out.fr0 f16); have F16 := Lib.hid (F15.out.step0 f16); have qa16 := Cod.rd_fr0 qa15 f16; have qb16 := Cod.rd_fr0 qb15 f16; have br16 := Cod.bxd_fr0 br15.out f16; have hst16 := okR.stR_box br16 r16; have hp16 : r16.Parent = ⟨2, 1⟩ := hr16.inn.parent.symm.trans (by rw [hx16]; rfl); clear hx16 hr16 qa15 qb15 h15))
  obtain ⟨p1, p2, p3⟩ := Cod.put_fr br16 r16
  have qr17 := (rwAt (Cod.bxd_rd p3)).parent
  rw [hp16] at qr17
  have hpr := HPR.out
  have qa17 := Cod.rd_fr qa16 p1 (by show ¬ P = R; omega)
  have qb17 := Cod.rd_fr qb16 p1 (by show ¬ Q = R; omega)
  have h17 := h16.out.frR br16 p1 or14.out
  have F17 := Lib.hid (F16.out.step1 p1 HRB.out)
  clear hst16 hp16 qa16 qb16 p1 p2 p3 br16 h16 hpr
  generalize codR.put w16 R r16 = W17 at qr17 qa17 qb17 h17 F17 ⊢
  have hk : ∀ w' w'' : World, Fr noB w' w'' → (codS.rd w' P 0 = some ⟨1, 1⟩ ∧ codS.rd w' Q 0 = some ⟨2, 1⟩ ∧ codS.rd w' R 2 = some ⟨2, 1⟩ ∧ GvS w.heap.size w' b t14 ([am1, am2] ++ am4 :: [am3])) → (codS.rd w'' P 0 = some ⟨1, 1⟩ ∧ codS.rd w'' Q 0 = some ⟨2, 1⟩ ∧ codS.rd w'' R 2 = some ⟨2, 1⟩ ∧ GvS w.heap.size w'' b t14 ([am1, am2] ++ am4 :: [am3])) := fun w' w'' f h => ⟨Cod.rd_fr0 h.1 f, Cod.rd_fr0 h.2.1 f, Cod.rd_fr0 h.2.2.1 f, h.2.2.2.fr0 f⟩
  have fd : Fr noB W17 W17.drew := (Fr.refl noB W17).drew
  refine wp_region_M 33 34 [⟨151115727451828646838272, 32, 0⟩, ⟨302231454903657293676544, 151115727451828646838272, 1⟩, ⟨604462909807314587353088, 302231454903657293676560, 2⟩, ⟨1208925819614629174706176, 906694364710971881029632, 6⟩, ⟨2417851639229258349412352, 302231454903657293676552, 2⟩, ⟨4835703278458516698824704, 3929008913747544817795072, 26⟩, ⟨9671406556917033397649408, 5137934733362173992501248, 34⟩, ⟨19342813113834066795298816, 9671406556917033397649408, 66⟩, ⟨38685626227668133590597632, 19342813113834066795298818, 128⟩, ⟨77371252455336267181195264, 58028439341502200385896448, 384⟩, ⟨154742504910672534362390528, 96714065569170333976494080, 640⟩, ⟨309485009821345068724781056, 174085318024506601157689344, 1152⟩, ⟨618970019642690137449562112, 328827822935179135520079872, 2176⟩, ⟨1237940039285380274899124224, 618970019642690137449562112, 4608⟩, ⟨2475880078570760549798248448, 1237940039285380274899124226, 8192⟩, ⟨4951760157141521099596496896, 1237940039285380274899124232, 8192⟩, ⟨9903520314283042199192993792, 8665580274997661924293869568, 57344⟩, ⟨19807040628566084398385987584, 11141460353568422474092118016, 73728⟩, ⟨39614081257132168796771975168, 21044980667851464673285111808, 139264⟩, ⟨79228162514264337593543950336, 40852021296417549071671099392, 270336⟩, ⟨158456325028528675187087900672, 79228162514264337593543950336, 589824⟩, ⟨316912650057057350374175801344, 158456325028528675187087900674, 1048576⟩, ⟨633825300114114700748351602688, 475368975085586025561263702016, 3145728⟩, ⟨1267650600228229401496703205376, 792281625142643375935439503360, 5242880⟩, ⟨2535301200456458802993406410752, 1426106925256758076683791106048, 9437184⟩, ⟨5070602400912917605986812821504, 2693757525484987478180494311424, 17825792⟩, ⟨10141204801825835211973625643008, 5070602400912917605986812821504, 37748736⟩, ⟨20282409603651670423947251286016, 10141204801825835211973625643010, 67108864⟩, ⟨40564819207303340847894502572032, 30423614405477505635920876929024, 201326592⟩, ⟨81129638414606681695789005144064, 10141204801825835211973625643012, 67108864⟩, ⟨162259276829213363391578010288128, 10141204801825835211973625643016, 67108864⟩, ⟨324518553658426726783156020576256, 294094939252949221147235143647232, 1946157056⟩, ⟨649037107316853453566312041152512, 334659758460252561995129646219264, 2214592512⟩, ⟨1, 649037107316853453566312041152512, 8589934591⟩] [(true, 0), (true, 1), (true, 2), (true, 3), (true, 4), (true, 5), (true, 6), (true, 7), (true, 8), (false, 9), (true, 10), (true, 11), (true, 12), (true, 13), (true, 14), (true, 15), (false, 16), (true, 17), (true, 18), (true, 19), (true, 20), (true, 21), (false, 22), (true, 23), (true, 24), (true, 25), (true, 26), (true, 27), (true, 29), (true, 30), (false, 28), (false, 31), (true, 32)] (fun w' => codS.rd w' P 0 = some ⟨1, 1⟩ ∧ codS.rd w' Q 0 = some ⟨2, 1⟩ ∧ codS.rd w' R 2 = some ⟨2, 1⟩ ∧ GvS w.heap.size w' b t14 ([am1, am2] ++ am4 :: [am3])) (by kernel_rfl) rfl (by kernel_rfl) (by kernel_rfl) (by kernel_rfl) (hk _ _ fd ⟨qa17, qb17, qr17, h17⟩) (fun hA hF => ?_)
  iterate 9
    refine wpAnyS_take (v := ?_) hA rfl (fun _ _ _ h => h) (Or.inl ⟨by rfl, ?_⟩) hF (fun hA => ?_)
    rotate_left
    · intro wS hSw; (try dsimp only at hSw); obtain ⟨s1, s2, s3, s4⟩ := hSw; first | (apply Eq.trans; apply ex_ldR_at; exact rfl; exact rfl; assumption; with_reducible rfl) | (apply Eq.trans; apply ex_ldS_at; exact rfl; exact rfl; assumption; with_reducible rfl) | (go_simp; try with_reducible rfl)
    try simp only [List.getElem_toArray, List.getElem_cons_zero, List.getElem_cons_succ, Act.put, List.setIfInBounds_toArray, List.set_cons_zero, List.set_cons_succ]
  refine wpAnyS_one hA rfl (fun K' hK => ?_)
  rw [if_pos (by rfl)]
  go_simp
  go_at_call 12
  refine (gvRows_any hF.2.2.2 (by decide)).mono ?_
  rintro e u1 ⟨A1, c1, rs1, ys1, rfl, _, x1, _, y1, _, g1⟩
  have l1 : rs1.length = 2 := x1.1.trans (y1.length_eq.trans (by rfl))
  rw [l1]
  replace hF := hk _ _ g1 hF
  refine hK.out _ _ hF (fun hA => ?_)
  clear hK K'
  as_aux_lemma =>
  iterate 6
    refine wpAnyS_take (v := ?_) hA rfl (fun _ _ _ h => h) (Or.inl ⟨by rfl, ?_⟩) hF (fun hA => ?_)
    rotate_left
    · intro wS hSw; (try dsimp only at hSw); obtain ⟨s1, s2, s3, s4⟩ := hSw; first | (apply Eq.trans; apply ex_ldR_at; exact rfl; exact rfl; assumption; with_reducible rfl) | (apply Eq.trans; apply ex_ldS_at; exact rfl; exact rfl; assumption; with_reducible rfl) | (go_simp; try with_reducible rfl)
    try simp only [List.getElem_toArray, List.getElem_cons_zero, List.getElem_cons_succ, Act.put, List.setIfInBounds_toArray, List.set_cons_zero, List.set_cons_succ]
  refine wpAnyS_one hA rfl (fun K' hK => ?_)
  rw [if_pos (by rfl)]
  go_simp
  go_at_call 16
  refine (gvKids_any hF.2.2.2 (by decide) ⟨2, 1⟩).mono ?_
  rintro e u2 ⟨A2, c2, ks2, rfl, _, y2, _, g2⟩
  have l2 : ks2.length = 1 := y2.length_eq.trans (by rfl)
  rw [l2]
  replace hF := hk _ _ g2 hF
  refine hK.out _ _ hF (fun hA => ?_)
  clear hK K'
  as_aux_lemma =>
  iterate 5
    refine wpAnyS_take (v := ?_) hA rfl (fun _ _ _ h => h) (Or.inl ⟨by rfl, ?_⟩) hF (fun hA => ?_)
    rotate_left
    · intro wS hSw; (try dsimp only at hSw); obtain ⟨s1, s2, s3, s4⟩ := hSw; first | (apply Eq.trans; apply ex_ldR_at; exact rfl; exact rfl; assumption; with_reducible rfl) | (apply Eq.trans; apply ex_ldS_at; exact rfl; exact rfl; assumption; with_reducible rfl) | (go_simp; try with_reducible rfl)
    try simp only [List.getElem_toArray, List.getElem_cons_zero, List.getElem_cons_succ, Act.put, List.setIfInBounds_toArray, List.set_cons_zero, List.set_cons_succ]
  refine wpAnyS_one hA rfl (fun K' hK => ?_)
  rw [if_pos (by rfl)]
  go_simp
  go_at_call 15
  refine (gvOps_any hF.2.2.2 (by unfold SrtL; decide) (by decide) (by decide)).mono ?_
  rintro e u3 ⟨A3, c3, os3, rfl, _, x3, _, g3⟩
  have l3 : os3.length = 4 := x3.1
  rw [l3]
  replace hF := hk _ _ g3 hF
  refine hK.out _ _ hF (fun hA => ?_)
  clear hK K'
  as_aux_lemma =>
  iterate 7
    refine wpAnyS_take (v := ?_) hA rfl (fun _ _ _ h => h) (Or.inl ⟨by rfl, ?_⟩) hF (fun hA => ?_)
    rotate_left
    · intro wS hSw; (try dsimp only at hSw); obtain ⟨s1, s2, s3, s4⟩ := hSw; first | (apply Eq.trans; apply ex_ldR_at; exact rfl; exact rfl; assumption; with_reducible rfl) | (apply Eq.trans; apply ex_ldS_at; exact rfl; exact rfl; assumption; with_reducible rfl) | (go_simp; try with_reducible rfl)
    try simp only [List.getElem_toArray, List.getElem_cons_zero, List.getElem_cons_succ, Act.put, List.setIfInBounds_toArray, List.set_cons_zero, List.set_cons_succ]
  refine wpAnyS_one hA rfl (fun K' hK => ?_)
  rw [if_pos (by rfl)]
  go_simp
  go_at_call 12
  refine (gvRows_any hF.2.2.2 (by decide)).mono ?_
  rintro e u4 ⟨A4, c4, rs4, ys4, rfl, o4, x4, _, y4, r4, g4⟩
  replace hF := hk _ _ g4 hF
  refine hK.out _ _ hF (fun hA => ?_)
  clear hK K'
  as_aux_lemma =>
  have hy4 := rise_uniq y4 r4 (by rw [show runX [] ([am1, am2] ++ am4 :: [am3]) = _ from am_run4]; decide)
  refine wpAnyS_one hA rfl (fun K' hK => ?_)
  rw [if_pos (by rfl)]
  go_simp
  go_at_call 14
  refine (gvLies_any u4 A4 c4 rs4.length rs4 ys4 rfl (Sl.own o4) (by rw [x4.1, y4.length_eq]; decide) ⟨x4.1, fun i h h' => (x4.2 i h h').row.inn⟩ ⟨1, 1⟩ ⟨2, 1⟩).mono ?_
  rintro e u5 ⟨rfl, g5⟩
  rw [show liesR ys4 ⟨1, 1⟩ ⟨2, 1⟩ = true by rw [hy4]; rfl]
  replace hF := hk _ _ g5 hF
  refine hK.out _ _ hF (fun hA => ?_)
  clear hK K'
  as_aux_lemma =>
  refine wpAnyS_take (v := ?_) hA rfl (fun _ _ _ h => h) (Or.inl ⟨by rfl, ?_⟩) hF (fun hA => ?_)
  rotate_left
  · intro wS hSw; (try dsimp only at hSw); obtain ⟨s1, s2, s3, s4⟩ := hSw; first | (apply Eq.trans; apply ex_ldR_at; exact rfl; exact rfl; assumption; with_reducible rfl) | (apply Eq.trans; apply ex_ldS_at; exact rfl; exact rfl; assumption; with_reducible rfl) | (go_simp; try with_reducible rfl)
  try simp only [List.getElem_toArray, List.getElem_cons_zero, List.getElem_cons_succ, Act.put, List.setIfInBounds_toArray, List.set_cons_zero, List.set_cons_succ]
  refine wpAnyS_end hA rfl ?_
  simp only [List.drop_succ_cons, List.drop_zero]
  have FF := ((((((F17.out.step0 fd).step0 g1).step0 g2).step0 g3).step0 g4).step0 g5)
  clear hF hk
  go_wp2_with fail
  go_ret
  exact ⟨rfl, FF⟩
end Go.Proofs.YtdandpaeeodolaaGreat
namespace Go.Proofs.YtdandpaeeodolaaGreat
set_option linter.unusedVariables false
set_option linter.unusedSimpArgs false

theorem findR_perm {xs ys : List RwP} (hp : ys.Perm xs) (nd : (xs.map (·.Node)).Nodup) (s : St) : findR ys s = findR xs s := by
  have nd' : (ys.map (·.Node)).Nodup := (hp.map _).nodup_iff.2 nd
  cases h : findR xs s with
  | none =>
    rw [findR_none] at h ⊢
    exact fun r hr => h r (hp.mem_iff.1 hr)
  | some r =>
    obtain ⟨h1, h2⟩ := findR_some h
    rw [← h2]
    exact findR_mem nd' (hp.mem_iff.2 h1)
theorem liesN_perm {xs ys : List RwP} (hp : ys.Perm xs) (nd : (xs.map (·.Node)).Nodup) : ∀ (k : Nat) (s p : St), liesN ys k s p = liesN xs k s p
  | 0, _, _ => rfl
  | k + 1, s, p => by
    unfold liesN
    rw [findR_perm hp nd s]
    cases findR xs s with
    | none => rfl
    | some r => simp only; rw [liesN_perm hp nd k]
theorem liesR_perm {xs ys : List RwP} (hp : ys.Perm xs) (nd : (xs.map (·.Node)).Nodup) (s p : St) : liesR ys s p = liesR xs s p := by
  unfold liesR
  rw [hp.length_eq, liesN_perm hp nd]
theorem liesN_none {xs : List RwP} {s : St} (h : findR xs s = none) (n : Nat) (p : St) : liesN xs n s p = false := by
  cases n with
  | zero => rfl
  | succ n => unfold liesN; rw [h]
theorem liesN_some {xs : List RwP} {s : St} {r : RwP} (h : findR xs s = some r) (n : Nat) (p : St) : liesN xs (n + 1) s p = (decide (r.Parent = p) || liesN xs n r.Parent p) := by
  conv => lhs; unfold liesN
  rw [h]
theorem GvT.root {xs : List RwP} (h : GvT xs) {s : St} (hs : s.T = 0) : findR xs s = none := by
  rw [findR_none]
  rintro r hr rfl
  exact rightS_T (h.rt r hr) hs
theorem lies_down {xs : List RwP} (h : GvT xs) : ∀ (n : Nat) (s p : St) (k : Nat), reach xs k s = true → s.T ≠ 0 → liesN xs n s p = true → ∃ j, j < k ∧ reach xs j p = true
  | 0, s, p, k, _, _, hl => by cases hl
  | n + 1, s, p, k, hr, hs, hl => by
    rcases reach_inv hr with hf | ⟨j, r, rfl, hf, hr'⟩
    · exact absurd (fixedS_T hf) hs
    · rw [liesN_some hf, Bool.or_eq_true, decide_eq_true_eq] at hl
      rcases hl with rfl | hl
      · exact ⟨j, by omega, hr'⟩
      · by_cases h0 : r.Parent.T = 0
        · rw [liesN_none (h.root h0)] at hl; cases hl
        · obtain ⟨i, h1, h2⟩ := lies_down h n r.Parent p j hr' h0 hl
          exact ⟨i, by omega, h2⟩
/-- no node lies under itself -/
theorem lies_self {xs : List RwP} (h : GvT xs) {s : St} (hs : s.T ≠ 0) (n : Nat) {k : Nat} (hr : reach xs k s = true) : liesN xs n s s = false := by
  cases hl : liesN xs n s s with
  | false => rfl
  | true =>
    exfalso
    have : ∀ k, reach xs k s = true → False := by
      intro k
      induction k using Nat.strongRecOn with
      | ind k ih =>
        intro hk
        obtain ⟨j, h1, h2⟩ := lies_down h n s s k hk hs hl
        exact ih j h1 h2
    exact this k hr
theorem fixedS_or {s : St} (h : fixedS s = true) : s = zSt ∨ s = trS := by
  unfold fixedS at h
  simp only [Bool.and_eq_true, Bool.or_eq_true, decide_eq_true_eq] at h
  cases s with | mk t r =>
  simp only at h
  obtain ⟨rfl, rfl | rfl⟩ := h
  · exact .inl rfl
  · exact .inr rfl
/-- each node lies under the root, or under the trash -/
theorem lies_one {xs : List RwP} (h : GvT xs) : ∀ (n : Nat) (s : St), reach xs n s = true → s.T ≠ 0 → liesN xs n s trS = !liesN xs n s zSt
  | 0, s, hr, hs => absurd (fixedS_T hr) hs
  | n + 1, s, hr, hs => by
    rcases reach_inv hr with hf | ⟨j, r, hj, hf, hr'⟩
    · exact absurd (fixedS_T hf) hs
    · obtain rfl : j = n := by omega
      rw [liesN_some hf, liesN_some hf]
      by_cases h0 : r.Parent.T = 0
      · rw [liesN_none (h.root h0), liesN_none (h.root h0)]
        have hfx : fixedS r.Parent = true := by
          rcases okP_or (h.pr r (findR_some hf).1) with h1 | h1
          · exact h1
          · exact absurd h0 h1
        rcases fixedS_or hfx with e | e <;> rw [e] <;> decide
      · have e1 : r.Parent ≠ zSt := fun e => h0 (by rw [e]; rfl)
        have e2 : r.Parent ≠ trS := fun e => h0 (by rw [e]; rfl)
        rw [decide_eq_false e1, decide_eq_false e2, Bool.false_or, Bool.false_or]
        exact lies_one h j r.Parent hr' h0
/-- a row comes of a move -/
def FromL (L : List Opn) (x : RwP) : Prop := ∃ o ∈ L, o.Kind = 1 ∧ o.At = x.At ∧ o.Node = x.Node ∧ o.Parent = x.Parent ∧ o.Name = x.Name
theorem doX_from {xs : List RwP} {L : List Opn} (h : ∀ x ∈ xs, FromL L x) (o : Opn) : ∀ x ∈ doX xs o, FromL (L ++ [o]) x := by
  have hm : ∀ x ∈ xs, FromL (L ++ [o]) x := fun x hx => by
    obtain ⟨p, hp, hq⟩ := h x hx
    exact ⟨p, by simp [hp], hq⟩
  unfold doX
  cases hn : newR xs o with
  | none => exact hm
  | some r =>
    intro x hx
    rcases mem_put hx with rfl | ⟨hx, _⟩
    · unfold newR at hn
      split at hn
      · rename_i hk
        split at hn
        · cases hn
        · injection hn with hn
          rw [← hn]
          exact ⟨o, by simp, hk, rfl, rfl, rfl, rfl⟩
      · cases hf : findR xs o.Node with
        | none => rw [hf] at hn; cases hn
        | some q =>
          rw [hf] at hn
          injection hn with hn
          rw [← hn]
          obtain ⟨p, hp, h1, h2, h3, h4, h5⟩ := hm q (findR_some hf).1
          exact ⟨p, hp, h1, h2, h3, h4, h5⟩
    · exact hm x hx
theorem runX_from : ∀ {xs : List RwP} {M : List Opn} (L : List Opn), (∀ x ∈ xs, FromL M x) → ∀ x ∈ runX xs L, FromL (M ++ L) x
  | xs, M, [], h => by simpa [runX] using h
  | xs, M, o :: L, h => by
    have := runX_from (M := M ++ [o]) L (doX_from h o)
    simpa [runX] using this
/-- heads rise, all of them no later than m -/
def HdsUp (m : St → Prop) (l : List Hd) : Prop := l.Pairwise (fun a b => cmpS a.At b.At < 0) ∧ ∀ h ∈ l, m h.At
theorem doX_hds {xs : List RwP} {m m' : St → Prop} {o : Opn} (h : ∀ x ∈ xs, HdsUp m x.Heads) (h1 : ∀ s, m s → m' s) (h2 : m' o.At) (h3 : ∀ s, m s → cmpS s o.At < 0) : ∀ x ∈ doX xs o, HdsUp m' x.Heads := by
  have hm : ∀ x ∈ xs, HdsUp m' x.Heads := fun x hx => ⟨(h x hx).1, fun a ha => h1 _ ((h x hx).2 a ha)⟩
  unfold doX
  cases hn : newR xs o with
  | none => exact hm
  | some r =>
    intro x hx
    rcases mem_put hx with rfl | ⟨hx, _⟩
    · unfold newR at hn
      split at hn
      · split at hn
        · cases hn
        · injection hn with hn
          rw [← hn]
          show HdsUp m' (hdsR xs o.Node)
          unfold hdsR
          cases hf : findR xs o.Node with
          | none => exact ⟨.nil, by simp⟩
          | some q => exact hm q (findR_some hf).1
      · cases hf : findR xs o.Node with
        | none => rw [hf] at hn; cases hn
        | some q =>
          rw [hf] at hn
          injection hn with hn
          rw [← hn]
          have hq := h q (findR_some hf).1
          show HdsUp m' (leftH o.Over q.Heads ++ [⟨o.At, o.Data⟩])
          refine ⟨List.pairwise_append.2 ⟨hq.1.sublist List.filter_sublist, by simp, fun a ha b hb => ?_⟩, fun a ha => ?_⟩
          · rw [List.mem_singleton] at hb
            subst hb
            exact h3 _ (hq.2 a (List.mem_filter.1 ha).1)
          · rcases List.mem_append.1 ha with ha | ha
            · exact h1 _ (hq.2 a (List.mem_filter.1 ha).1)
            · rw [List.mem_singleton] at ha
              subst ha
              exact h2
    · exact hm x hx
theorem runX_hds : ∀ {xs : List RwP} {M : List Opn} (L : List Opn), SrtL (M ++ L) → (∀ x ∈ xs, HdsUp (fun s => ∃ o ∈ M, o.At = s) x.Heads) → ∀ x ∈ runX xs L, HdsUp (fun s => ∃ o ∈ M ++ L, o.At = s) x.Heads
  | xs, M, [], _, h => by simpa [runX] using h
  | xs, M, o :: L, hs, h => by
    have hs' : SrtL ((M ++ [o]) ++ L) := by simpa using hs
    have h1 := doX_hds (o := o) (m' := fun s => ∃ p ∈ M ++ [o], p.At = s) h (fun s ⟨p, hp, e⟩ => ⟨p, by simp [hp], e⟩) ⟨o, by simp, rfl⟩ (fun s ⟨p, hp, e⟩ => by
      unfold SrtL at hs
      rw [List.pairwise_append] at hs
      rw [← e]
      exact hs.2.2 p hp o (by simp))
    have := runX_hds (M := M ++ [o]) L hs' h1
    simpa [runX] using this
theorem sum_zero {α : Type} {l : List α} {f : α → Nat} (h : ∀ x ∈ l, f x = 0) : (l.map f).sum = 0 := by
  induction l with
  | nil => rfl
  | cons a l ih => rw [List.map_cons, List.sum_cons, h a (by simp), ih fun x hx => h x (by simp [hx])]
/-- kids, counted place by place -/
theorem count_one {P : List St} (nd : P.Nodup) {s : St} (h : s ∈ P) : (P.map fun p => if s = p then 1 else 0).sum = 1 := by
  induction P with
  | nil => cases h
  | cons p P ih =>
    rw [List.nodup_cons] at nd
    rw [List.map_cons, List.sum_cons]
    by_cases e : s = p
    · subst e
      have : (P.map fun p => if s = p then 1 else 0).sum = 0 := by
        refine sum_zero fun q hq => ?_
        rw [if_neg (by rintro rfl; exact nd.1 hq)]
      rw [this, if_pos rfl]
    · rw [if_neg e, ih nd.2 (by rcases List.mem_cons.1 h with h | h; · exact absurd h e
                                · exact h)]
theorem sum_add {α : Type} (l : List α) (f g : α → Nat) : (l.map fun x => f x + g x).sum = (l.map f).sum + (l.map g).sum := by
  induction l with
  | nil => rfl
  | cons a l ih => simp only [List.map_cons, List.sum_cons, ih]; omega
theorem kids_sum {P : List St} (nd : P.Nodup) : ∀ (xs : List RwP), (∀ x ∈ xs, x.Parent ∈ P) → (P.map fun p => (kidsR p xs).length).sum = xs.length
  | [], _ => by
    exact sum_zero fun q hq => rfl
  | x :: xs, h => by
    have ih := kids_sum nd xs fun y hy => h y (by simp [hy])
    have e : (fun p => (kidsR p (x :: xs)).length) = fun p => (if x.Parent = p then 1 else 0) + (kidsR p xs).length := funext fun p => by
      unfold kidsR
      rw [List.filter_cons]
      by_cases hp : x.Parent = p
      · simp [hp]; omega
      · simp [hp]
    rw [e, sum_add, count_one nd (h x (by simp)), ih, List.length_cons]
    omega
theorem GvT.places {xs : List RwP} (h : GvT xs) : (zSt :: trS :: xs.map (·.Node)).Nodup ∧ ∀ x ∈ xs, x.Parent ∈ zSt :: trS :: xs.map (·.Node) := by
  constructor
  · rw [List.nodup_cons, List.nodup_cons]
    refine ⟨fun hm => ?_, fun hm => ?_, h.nd⟩
    · rcases List.mem_cons.1 hm with hm | hm
      · exact absurd hm (by decide)
      · obtain ⟨x, hx, e⟩ := List.mem_map.1 hm
        exact rightS_T (h.rt x hx) (by rw [e]; rfl)
    · obtain ⟨x, hx, e⟩ := List.mem_map.1 hm
      exact rightS_T (h.rt x hx) (by rw [e]; rfl)
  · intro x hx
    obtain ⟨k, hk⟩ := h.up x hx
    rcases reach_inv hk with hf | ⟨j, r, hj, hf, hr⟩
    · exact absurd (fixedS_T hf) (rightS_T (h.rt x hx))
    · rw [findR_mem h.nd hx] at hf
      injection hf with hf
      subst hf
      rcases reach_inv hr with hf | ⟨_, r, _, hf, _⟩
      · rcases fixedS_or hf with e | e <;> simp [e]
      · obtain ⟨h1, h2⟩ := findR_some hf
        have : x.Parent ∈ xs.map (·.Node) := List.mem_map.2 ⟨r, h1, h2⟩
        simp [this]
theorem GvT.count {xs ys : List RwP} (h : GvT xs) (hp : ys.Perm xs) : (kidsR zSt xs).length + (kidsR trS xs).length + (ys.map fun y => (kidsR y.Node xs).length).sum = ys.length := by
  have := kids_sum h.places.1 xs h.places.2
  rw [List.map_cons, List.map_cons, List.sum_cons, List.sum_cons, List.map_map] at this
  have e : (ys.map fun y => (kidsR y.Node xs).length).sum = (xs.map ((fun p => (kidsR p xs).length) ∘ fun x => x.Node)).sum := (hp.map _).sum_nat
  rw [e, hp.length_eq]
  omega
end Go.Proofs.YtdandpaeeodolaaGreat
namespace Go.Proofs.YtdandpaeeodolaaGreat
set_option linter.unusedVariables false
set_option linter.unusedSimpArgs false

def sH (x : Int) : St := ⟨x, 1⟩
def hdH (x : Int) : Hd := ⟨sH x, id2 x.toNat 0⟩
/-- 2, 3 .. at - 1 -/
def uptoH (n : Nat) : List Int := (List.range n).map fun y => ((y + 2 : Nat) : Int)
def ovH (g : Int → Bool) (n : Nat) : List Int := (uptoH n).filter g
def opH (i : Nat) (g : Int → Bool) : Opn := ⟨2, sH ((i + 2 : Nat) : Int), sH 1, zSt, [], id2 (i + 2) 0, (ovH g i).map sH⟩
def mvH : Opn := mvP (sH 1) (sH 1) zSt [97]
def rowH (l : List Int) : RwP := ⟨sH 1, zSt, sH 1, [97], l.map hdH⟩
/-- what is left, step by step -/
def leftL (g : Nat → Int → Bool) : Nat → List Int
  | 0 => []
  | i + 1 => (leftL g i).filter (fun x => !g i x) ++ [((i + 2 : Nat) : Int)]
def opsH (g : Nat → Int → Bool) (i : Nat) : List Opn := mvH :: (List.range i).map fun j => opH j (g j)
theorem sH_inj {x y : Int} (h : sH x = sH y) : x = y := by
  unfold sH at h
  simp only [St.mk.injEq, and_true] at h
  exact h
theorem upto_mem {n : Nat} {x : Int} : x ∈ uptoH n ↔ 2 ≤ x ∧ x < (n : Int) + 2 := by
  unfold uptoH
  rw [List.mem_map]
  constructor
  · rintro ⟨y, hy, rfl⟩
    rw [List.mem_range] at hy
    omega
  · rintro ⟨h1, h2⟩
    exact ⟨(x - 2).toNat, List.mem_range.2 (by omega), by omega⟩
theorem left_mem {g : Nat → Int → Bool} : ∀ {i : Nat} {x : Int}, x ∈ leftL g i → 2 ≤ x ∧ x < (i : Int) + 2
  | 0, x, h => by cases h
  | i + 1, x, h => by
    unfold leftL at h
    rcases List.mem_append.1 h with h | h
    · have := left_mem (List.mem_filter.1 h).1
      omega
    · rw [List.mem_singleton] at h
      omega
theorem left_len {g : Nat → Int → Bool} : ∀ i : Nat, (leftL g i).length ≤ i
  | 0 => by simp [leftL]
  | i + 1 => by
    have h := left_len (g := g) i
    have h2 := List.length_filter_le (fun x => !g i x) (leftL g i)
    unfold leftL
    rw [List.length_append, List.length_singleton]
    omega
theorem opsH_succ (g : Nat → Int → Bool) (i : Nat) : opsH g (i + 1) = opsH g i ++ [opH i (g i)] := by
  unfold opsH
  rw [List.range_succ, List.map_append]
  rfl
theorem leftH_map {i : Nat} {g : Int → Bool} {l : List Int} (h : ∀ x ∈ l, 2 ≤ x ∧ x < (i : Int) + 2) : leftH ((ovH g i).map sH) (l.map hdH) = (l.filter fun x => !g x).map hdH := by
  induction l with
  | nil => rfl
  | cons x l ih =>
    have ih := ih fun y hy => h y (by simp [hy])
    have hx := h x (by simp)
    unfold leftH at ih ⊢
    rw [List.map_cons, List.filter_cons, List.filter_cons]
    have hm : (decide ((hdH x).At ∈ (ovH g i).map sH)) = g x := by
      cases hg : g x with
      | true =>
        rw [decide_eq_true_eq]
        exact List.mem_map.2 ⟨x, List.mem_filter.2 ⟨upto_mem.2 hx, hg⟩, rfl⟩
      | false =>
        rw [decide_eq_false_iff_not]
        intro hm
        obtain ⟨y, hy, e⟩ := List.mem_map.1 hm
        have := sH_inj e
        subst this
        rw [(List.mem_filter.1 hy).2] at hg
        cases hg
    rw [hm]
    cases g x with
    | true => simpa using ih
    | false => simpa using ih
theorem find_rowH (l : List Int) : findR [rowH l] (sH 1) = some (rowH l) := by
  unfold findR
  rw [List.find?_cons, show decide ((rowH l).Node = sH 1) = true from decide_eq_true rfl]
theorem stepH {i : Nat} {g : Int → Bool} {l : List Int} (h : ∀ x ∈ l, 2 ≤ x ∧ x < (i : Int) + 2) : doX [rowH l] (opH i g) = [rowH (l.filter (fun x => !g x) ++ [((i + 2 : Nat) : Int)])] := by
  have hn : newR [rowH l] (opH i g) = some (rowH (l.filter (fun x => !g x) ++ [((i + 2 : Nat) : Int)])) := by
    unfold newR
    rw [if_neg (show ¬ (opH i g).Kind = 1 by show ¬ (2 : Int) = 1; decide), show (opH i g).Node = sH 1 from rfl, find_rowH]
    show some (⟨sH 1, zSt, sH 1, [97], leftH ((ovH g i).map sH) (l.map hdH) ++ [⟨sH ((i + 2 : Nat) : Int), id2 (i + 2) 0⟩]⟩ : RwP) = _
    rw [leftH_map h]
    unfold rowH
    rw [List.map_append]
    rfl
  unfold doX
  rw [hn]
  simp only
  unfold putR
  rw [show (rowH (l.filter (fun x => !g x) ++ [((i + 2 : Nat) : Int)])).Node = sH 1 from rfl, find_rowH]
  simp only [Option.isSome_some, if_true, List.map_cons, List.map_nil]
  rw [if_pos (show (rowH l).Node = sH 1 from rfl)]
theorem runH (g : Nat → Int → Bool) : ∀ i : Nat, runX [] (opsH g i) = [rowH (leftL g i)]
  | 0 => rfl
  | i + 1 => by
    rw [opsH_succ, runX_app, runH g i]
    exact stepH fun x hx => left_mem hx
theorem cmp_sH {x y : Int} (h : x < y) : cmpS (sH x) (sH y) < 0 := by
  unfold cmpS sH
  simp only
  split
  · omega
  · omega
theorem opsH_lt (g : Nat → Int → Bool) (i : Nat) : ∀ p ∈ opsH g i, cmpS p.At (sH ((i + 2 : Nat) : Int)) < 0 := by
  intro p hp
  unfold opsH at hp
  rcases List.mem_cons.1 hp with rfl | hp
  · exact cmp_sH (by omega)
  · obtain ⟨j, hj, rfl⟩ := List.mem_map.1 hp
    rw [List.mem_range] at hj
    exact cmp_sH (by omega)
theorem opsH_srt (g : Nat → Int → Bool) : ∀ i : Nat, SrtL (opsH g i)
  | 0 => by unfold SrtL opsH; simp
  | i + 1 => by
    have h := opsH_srt g i
    unfold SrtL at h ⊢
    rw [opsH_succ, List.pairwise_append]
    refine ⟨h, by simp, fun a ha b hb => ?_⟩
    rw [List.mem_singleton] at hb
    subst hb
    exact opsH_lt g i a ha
theorem opsH_len (g : Nat → Int → Bool) (i : Nat) : (opsH g i).length = i + 1 := by simp [opsH]
theorem ov_len (g : Int → Bool) (i : Nat) : (ovH g i).length ≤ i := by
  unfold ovH uptoH
  have := List.length_filter_le g ((List.range i).map fun y => ((y + 2 : Nat) : Int))
  simpa using this
theorem right_sH {x : Int} (h1 : 0 < x) (h2 : x ≤ 1000) : rightS (sH x) = true := by
  unfold rightS sH
  simp only [Bool.and_eq_true, decide_eq_true_eq]
  omega
theorem upto_rise (n : Nat) : (uptoH n).Pairwise (· < ·) := by
  unfold uptoH
  rw [List.pairwise_map]
  exact List.pairwise_lt_range.imp fun {a b} h => by omega
theorem id2_ne {k : Nat} (h1 : 0 < k) (h2 : k < 256) : id2 k 0 ≠ zID := by
  intro e
  have h := congrArg (fun x : ID => x.1) e
  have h3 : UInt8.ofNat k = 0 := by
    have : (UInt8.ofNat k :: UInt8.ofNat 0 :: List.replicate 30 0 : List UInt8) = zID.1 := h
    have h4 := congrArg List.head? this
    simpa [zID] using h4
  have := congrArg UInt8.toNat h3
  rw [UInt8.toNat_ofNat'] at this
  have h5 : (0 : UInt8).toNat = 0 := rfl
  rw [h5, Nat.mod_eq_of_lt (by omega)] at this
  omega
theorem opH_good {i : Nat} (hi : i ≤ 20) (g : Int → Bool) : goodOp (opH i g) = true := by
  unfold goodOp
  rw [if_neg (show ¬ (opH i g).Kind = 1 by show ¬ (2 : Int) = 1; decide), if_pos (show (opH i g).Kind = 2 from rfl)]
  have h1 : rightS (opH i g).At = true := right_sH (by omega) (by omega)
  have h2 : rightS (opH i g).Node = true := right_sH (by omega) (by omega)
  rw [h1, h2, Bool.and_self, Bool.true_and]
  unfold editOk
  have h3 : cmpS (opH i g).Node (opH i g).At < 0 := cmp_sH (by omega)
  have h4 : (opH i g).Data ≠ zID := id2_ne (by omega) (by omega)
  have h5 : (opH i g).Over.length ≤ 64 := by
    show ((ovH g i).map sH).length ≤ 64
    rw [List.length_map]
    have := ov_len g i
    omega
  have h6 : ((opH i g).Over.all fun s => rightS s && decide (cmpS s (opH i g).At < 0)) = true := by
    rw [List.all_eq_true]
    intro s hs
    obtain ⟨x, hx, rfl⟩ := List.mem_map.1 hs
    have hb := upto_mem.1 (List.mem_filter.1 hx).1
    have h7 : cmpS (sH x) (opH i g).At < 0 := cmp_sH (by omega)
    rw [right_sH (by omega) (by omega), decide_eq_true h7]
    rfl
  have h8 : riseB cmpS (opH i g).Over = true := by
    rw [riseB_pw cmpS (fun _ _ _ => cmpS_trans)]
    show ((ovH g i).map sH).Pairwise _
    rw [List.pairwise_map]
    exact ((upto_rise i).sublist List.filter_sublist).imp fun {a b} h => cmp_sH h
  rw [h6, h8, decide_eq_true h3, decide_eq_true (show (opH i g).Parent = zSt from rfl), decide_eq_true (show (opH i g).Name = [] from rfl), decide_eq_true h4, decide_eq_true h5]
  rfl
end Go.Proofs.YtdandpaeeodolaaGreat
