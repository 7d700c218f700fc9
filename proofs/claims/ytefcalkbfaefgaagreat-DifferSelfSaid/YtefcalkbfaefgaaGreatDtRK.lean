/- Contracts: slices.Clone of operations, the closures of stamp.Sort, slices.CompactFunc where nothing goes. (ex_ldS_at, ex_ldO_at) Contract: slices.CompactFunc of operations where nothing goes. (ex_ldO_at) Contracts: stamp.Sort of operations that have risen already; grove's Ops. (ex_ldO_at, ex_ldD_at) Contract: grove's Ops. (ex_ldO_at, ex_ldD_at) stamp.Cmp with its exact world; rows and stamps sorted by slices.SortFunc. (ex_ldS_at) Rows and stamps sorted by slices.SortFunc. cmp.Compare at strings; the order of a node's kids: by name, then by stamp. Contract: grove's Rows. (ex_ldR_at) Contract: grove's Kids. (ex_ldS_at, ex_ldR_at) Contracts: pollardlaw12.move, alive. (ex_ldS_at, ex_ldR_at) Plain laws of a tree that comes of operations (grove): ways, where rows come from, heads, kids counted. Plain: rows of a tree of right operations are a tree; what comes of a tree and itself, of a tree and nothing, of nothing and a tree. Plain: the operations that turn one tree into another one, done to it: each does something, and the trees are alike. Plain: each node's path, by its parent's. -/
import Derived.Test.YtefcalkbfaefgaaGreatGvQK
import Derived.Test.YtefcalkbfaefgaaGreatStabZoK
import Derived.Test.YtefcalkbfaefgaaGreatSortLK
import Derived.Laws.Cover1
import Derived.Test.YtefcalkbfaefgaaGreatDiffPK
import Derived.Test.YtefcalkbfaefgaaGreatPathPK
import Derived.Test.YtefcalkbfaefgaaGreatTreeSK
namespace Go.Proofs.YtefcalkbfaefgaaGreat
open Go.RowKit Go.Sort
set_option linter.unusedVariables false
set_option linter.unusedSimpArgs false
attribute [local go_sem] Oper.semAt_some

@[go_sem] theorem Ops_eq_nil (w : World) (a : Option Addr) (n c : Nat) : (binOp .eql 22 (.slice a n c) (.slice none 0 0)).run Tryz.prog w = .ok (.bool a.isNone) w :=
  Lib.run_eql_slice_nil w _ _ a n c 0 0 Tryz.underlying22
def NewOps (w : World) (l : List OpW) (e : Ending) (w' : World) : Prop := ∃ A c, e = .returned (.slice A l.length c) ∧ OwnC codO w w' A c l ∧ Fr noB w w' ∧ l.length ≤ c
theorem swoS : SWO (ltC (fun x y : OpW => cmpS x.At y.At)) where
  irrefl x := by simp [ltC, cmpS_self]
  trans x y z h1 h2 := by
    simp only [ltC, decide_eq_true_eq] at *
    exact cmpS_trans h1 h2
  ntrans x y z h1 h2 := by
    simp only [ltC, decide_eq_false_iff_not] at *
    intro h
    have e1 := cmpS_flip x.At y.At
    have e2 := cmpS_flip y.At z.At
    rcases Int.lt_trichotomy (cmpS y.At x.At) 0 with h3 | h3 | h3
    · exact h2 (cmpS_trans h3 h)
    · have := cmpS_zero.1 h3
      rw [this] at h2
      exact h2 h
    · omega
/-- what is risen already is not sorted otherwise -/
theorem risen_eq {l l' : List OpW} (h : l.Pairwise fun a b => cmpS a.At b.At < 0) (hp : l'.Perm l) (hs : l'.Pairwise fun x y => ltC (fun x y : OpW => cmpS x.At y.At) y x = false) : l' = l := by
  refine List.Perm.eq_of_pairwise (le := fun a b : OpW => ¬ cmpS b.At a.At < 0) (fun a b ha hb h1 h2 => ?_) (hs.imp fun h => ?_) (h.imp fun {a b} h => ?_) hp
  · have e := cmpS_flip a.At b.At
    have e0 : cmpS a.At b.At = 0 := by omega
    have ea := cmpS_zero.1 e0
    have hb' : b ∈ l := hb
    have ha' : a ∈ l := hp.mem_iff.1 ha
    obtain ⟨i, hi, rfl⟩ := List.getElem_of_mem ha'
    obtain ⟨j, hj, rfl⟩ := List.getElem_of_mem hb'
    rcases Nat.lt_trichotomy i j with h3 | h3 | h3
    · have := List.pairwise_iff_getElem.1 h i j hi hj h3
      omega
    · subst h3; rfl
    · have := List.pairwise_iff_getElem.1 h j i hj hi h3
      omega
  · simpa [ltC] using h
  · have e := cmpS_flip a.At b.At
    omega
end Go.Proofs.YtefcalkbfaefgaaGreat
namespace Go.Proofs.YtefcalkbfaefgaaGreat
open Go.RowKit Go.Sort
set_option linter.unusedVariables false
set_option linter.unusedSimpArgs false
attribute [local go_sem] Oper.semAt_some

def CpN (W : World) (L : Nat) (gk : Nat) (iv : Value) (wr : World) : Prop := ∃ k : Nat, iv = .int .i64 (k : Int) ∧ gk = L + 1 - k ∧ 1 ≤ k ∧ k ≤ L ∧ Fr noB W wr
end Go.Proofs.YtefcalkbfaefgaaGreat
namespace Go.Proofs.YtefcalkbfaefgaaGreat
open Go.RowKit Go.Sort
set_option linter.unusedVariables false
set_option linter.unusedSimpArgs false
attribute [local go_sem] Oper.semAt_some

theorem Cod.row_set {α : Type} {C : Cod α} {o : Nat} {u : Value} : ∀ (l : List α) (k : Nat) (hk : k < l.length) (x' : α) (_ : o < C.n) (_ : (C.cs l[k]).set o u = C.cs x'), (C.row l).set (k * C.n + o) u = C.row (l.set k x')
  | [], k, hk, _, _, _ => absurd hk (by simp)
  | x :: t, 0, _, x', ho, h => by
    have e : C.row (x :: t) = C.cs x ++ C.row t := by simp [Cod.row]
    have e' : C.row (x' :: t) = C.cs x' ++ C.row t := by simp [Cod.row]
    simp only [List.getElem_cons_zero] at h
    rw [Nat.zero_mul, Nat.zero_add, List.set_cons_zero, e, e', List.set_append_left _ _ (by rw [C.len]; exact ho), h]
  | x :: t, k + 1, hk, x', ho, h => by
    have e : C.row (x :: t) = C.cs x ++ C.row t := by simp [Cod.row]
    have e' : C.row (x :: t.set k x') = C.cs x ++ C.row (t.set k x') := by simp [Cod.row]
    have ih := Cod.row_set t k (by simpa using hk) x' ho (by simpa using h)
    have e3 : (k + 1) * C.n + o = k * C.n + o + C.n := by rw [Nat.add_mul]; omega
    rw [List.set_cons_succ, e, e', List.set_append_right _ _ (by rw [C.len, e3]; omega), C.len, e3, Nat.add_sub_cancel, ih]
theorem OwnC.put1 {α : Type} {C : Cod α} {w0 w : World} {A : Option Addr} {c g : Nat} {l : List α} (h : OwnC C w0 w A c l) (hA : A = some ⟨g, 0, none⟩) (k : Nat) (hk : k < l.length) (o : Nat) (ho : o < C.n) (u : Value) (x' : α) (hx : (C.cs l[k]).set o u = C.cs x') :
    OwnC C w0 (w.setCell ⟨g, k * C.n + o, none⟩ u) A c (l.set k x') ∧ Fr (oneB g) w (w.setCell ⟨g, k * C.n + o, none⟩ u) ∧ w.frozen? ⟨g, k * C.n + o, none⟩ = false := by
  have hlen : (l.set k x').length = l.length := by simp
  rcases h.2 with ⟨hv, h00⟩ | ⟨blk, cap, cur, hv, hb, hg, hnc, hm, hs, ht⟩
  · omega
  · injection hv with h1 _ h3
    rw [hA] at h1
    injection h1 with h1
    injection h1 with h1
    subst h1; subst h3
    have hg' : Blk w g C.t cur.toList := by unfold Blk; rw [Array.toArray_toList]; exact hg
    have hst := Blk.set hg' (k * C.n + o) u
    refine ⟨⟨by rw [Cod.row_len], .inr ⟨g, c, (cur.toList.set (k * C.n + o) u).toArray, by rw [hA, hlen], hb, hst, by rw [hlen]; exact hnc, hm, ?_, ?_⟩⟩, Cod.set_fr w g _ u, Blk.frozen hg' _⟩
    · simp only [List.size_toArray, List.length_set]
      rw [← hs]; simp
    · rw [hlen, ← Cod.row_set l k hk x' ho hx, ← ht]
      simp [List.take_set]
/-- operations as new memory: their rows and their stamps are the call's own -/
structure OpN (base : Nat) (w : World) (r : OpW) (o : Opn) : Prop where
  op : OpO w r o
  own : w.ownsRow base 30 2 (.slice r.A r.n r.c) r.n (codS.row o.Over)
theorem OpN.fr0 {base : Nat} {w w' : World} {r : OpW} {o : Opn} (h : OpN base w r o) (f : Fr noB w w') : OpN base w' r o := ⟨h.op.fr f (NoHS.nob _), own_new0 h.own f⟩
theorem OpN.frG {base g : Nat} {w w' : World} {r : OpW} {o : Opn} (h : OpN base w r o) {cur : Array Value} {z : Nat × Nat} (hb : w.heap[g]? = some (.cells cur 42 z)) (f : Fr (oneB g) w w') : OpN base w' r o := by
  refine ⟨h.op.fr f (fun b hb' cs z' => ?_), own_fr h.own f (fun q hq hm => ?_)⟩
  · have e : b = g := hb'
    subst e
    rw [hb]
    exact ⟨fun h => (by injection h with h; injection h with _ h; exact absurd h (by decide)), fun h => (by injection h with h; injection h with _ h; exact absurd h (by decide))⟩
  · rw [ownBlock_sl'] at hq
    obtain ⟨_, cur', z', h4⟩ := own_blk h.own hq
    have e : q = g := hm
    subst e
    rw [hb] at h4
    injection h4 with h4
    injection h4 with _ h4
    exact absurd h4 (by decide)
theorem OpN.frA {base c : Nat} {w0 w w' : World} {A : Option Addr} {l : List OpW} {r : OpW} {o : Opn} (h : OpN base w r o) (ho : OwnC codO w0 w A c l) (f : Fr (fun b => A.map (·.block) = some b) w w') : OpN base w' r o := by
  have hn := NoHS.own ho (by decide) (by decide)
  rw [ownBlock_sl'] at hn
  refine ⟨h.op.fr f hn, own_fr h.own f (fun q hq hm => ?_)⟩
  rw [ownBlock_sl'] at hq
  obtain ⟨_, cur, z, h4⟩ := own_blk h.own hq
  exact (hn q hm cur z).2 h4
def OpsTo (w : World) (os : List Opn) (e : Ending) (w' : World) : Prop :=
  ∃ (A : Option Addr) (c : Nat) (rs : List OpW), e = .returned (.slice A rs.length c) ∧ Sl w' A (codO.row rs) ∧ AllO (OpN w.heap.size) w' rs os ∧ (rs ≠ [] → ∃ g cur z, A = some ⟨g, 0, none⟩ ∧ w'.heap[g]? = some (.cells cur 42 z)) ∧ Fr noB w w'
/-- the clones of the stamps: the first k are new -/
def SoLoop (w : World) (A : Option Addr) (c : Nat) (os : List Opn) (gk : Nat) (iv : Value) (wr : World) : Prop :=
  ∃ (k : Nat) (rs : List OpW), iv = .int .i64 (k : Int) ∧ gk = os.length - k ∧ k ≤ os.length ∧ rs.length = os.length ∧ OwnC codO w wr A c rs ∧ (∀ i (h : i < rs.length) (h' : i < os.length), (k ≤ i → OpIn w rs[i] os[i]) ∧ (i < k → OpN w.heap.size wr rs[i] os[i])) ∧ Fr noB w wr
end Go.Proofs.YtefcalkbfaefgaaGreat
namespace Go.Proofs.YtefcalkbfaefgaaGreat
open Go.RowKit Go.Sort
set_option linter.unusedVariables false
set_option linter.unusedSimpArgs false
attribute [local go_sem] Oper.semAt_some

def OpLoop (w : World) (L : List Opn) (es : List OpW) (gk : Nat) (iv ov : Value) (wr : World) : Prop :=
  ∃ (k : Nat) (A : Option Addr) (c : Nat), iv = .int .i64 (k : Int) ∧ ov = .slice A k c ∧ gk = L.length - k ∧ k ≤ L.length ∧ wr.ownsRow w.heap.size 42 41 (.slice A k c) k (codO.row (es.take k)) ∧ Fr noB w wr
end Go.Proofs.YtefcalkbfaefgaaGreat
namespace Go.Proofs.YtefcalkbfaefgaaGreat
open Go.RowKit Go.Sort Go.Shelf
set_option linter.unusedVariables false
set_option linter.unusedSimpArgs false

/-- the answer, and a world that has but drawn and grown -/
def GivesX (w : World) (v : Value) (e : Ending) (w' : World) : Prop := e = .returned v ∧ ∃ q os', w' = grow (w.drewN q) os'
theorem three_grow (w : World) (a b c : Obj) : ((w.alloc a).alloc b).drew.alloc c = grow (w.drewN 1) #[a, b, c] := by
  rw [alloc_eq_grow, alloc_eq_grow, alloc_eq_grow]
  unfold grow World.drew World.drewN
  simp only [Array.append_assoc]
  rfl
set_option maxRecDepth 100000 in
theorem scmpX_any (w : World) (a b : St) : Calls Tryz.prog 22 #[encS a, encS b] w (GivesX w (.int .i64 (cmpS a b))) := by
  have f1 : Fr noB (w.alloc (sto a)) ((w.alloc (sto a)).alloc (sto b)) := (Fr.refl noB _).alloc _
  have f0 : Fr noB w ((w.alloc (sto a)).alloc (sto b)) := ((Fr.refl noB w).alloc _).alloc _
  obtain ⟨a0, a1⟩ := sto_cell w a
  obtain ⟨b0, b1⟩ := sto_cell (w.alloc (sto a)) b
  rw [World.size_alloc] at b0 b1
  have A0 := cell_fr0 a0 f1
  have A1 := cell_fr0 a1 f1
  have hcs := cmpS_or a b
  have HCS := Lib.hid hcs
  clear hcs a0 a1 f1
  go_enter Tryz.func22, Tryz.ntmps22
  go_upto_region 1 with fail
  obtain ⟨W, hW⟩ : ∃ W, W = (w.alloc (sto a)).alloc (sto b) := ⟨_, rfl⟩
  have HW := Lib.hid hW
  rw [← hW] at f0 b0 b1 A0 A1 ⊢
  clear hW
  generalize w.heap.size + 1 = B at b0 b1 ⊢
  generalize w.heap.size = A at A0 A1 ⊢
  have keep : ∀ w' w'' : World, Fr noB w' w'' → (w'.cell? ⟨A, 0, none⟩ = some (.int .i64 a.T) ∧ w'.cell? ⟨A, 1, none⟩ = some (.int .i64 a.R) ∧ w'.cell? ⟨B, 0, none⟩ = some (.int .i64 b.T) ∧ w'.cell? ⟨B, 1, none⟩ = some (.int .i64 b.R)) → (w''.cell? ⟨A, 0, none⟩ = some (.int .i64 a.T) ∧ w''.cell? ⟨A, 1, none⟩ = some (.int .i64 a.R) ∧ w''.cell? ⟨B, 0, none⟩ = some (.int .i64 b.T) ∧ w''.cell? ⟨B, 1, none⟩ = some (.int .i64 b.R)) := fun w' w'' f h => ⟨cell_fr0 h.1 f, cell_fr0 h.2.1 f, cell_fr0 h.2.2.1 f, cell_fr0 h.2.2.2 f⟩
  have fd := (Fr.refl noB W).drew
  have F0 := keep _ _ fd ⟨A0, A1, b0, b1⟩
  go_wp2_with fail
  refine wp_region_M 12 13 [⟨32, 4, 0⟩, ⟨64, 32, 1⟩, ⟨128, 8, 0⟩, ⟨256, 128, 4⟩, ⟨512, 320, 10⟩, ⟨1024, 4, 0⟩, ⟨2048, 1024, 32⟩, ⟨4096, 8, 0⟩, ⟨8192, 4096, 128⟩, ⟨16384, 10240, 336⟩, ⟨32768, 16896, 528⟩, ⟨65536, 32768, 1536⟩, ⟨16, 65536, 4095⟩] [(true, 0), (true, 1), (true, 2), (true, 3), (true, 5), (true, 6), (true, 7), (true, 8), (false, 4), (false, 9), (false, 10), (false, 11)] (fun w' => w'.cell? ⟨A, 0, none⟩ = some (.int .i64 a.T) ∧ w'.cell? ⟨A, 1, none⟩ = some (.int .i64 a.R) ∧ w'.cell? ⟨B, 0, none⟩ = some (.int .i64 b.T) ∧ w'.cell? ⟨B, 1, none⟩ = some (.int .i64 b.R)) (by kernel_rfl) rfl (by kernel_rfl) (by kernel_rfl) (by kernel_rfl) F0 (fun hA hF => ?_)
  iterate 8
    refine wpAnyS_take (v := ?_) hA rfl (fun _ _ _ h => h) (Or.inl ⟨by rfl, ?_⟩) hF (fun hA => ?_)
    rotate_left
    · intro wS hSw; (try dsimp only at hSw); obtain ⟨s1, s2, s3, s4⟩ := hSw; first | (apply Eq.trans; apply ex_ldS_at; exact rfl; exact rfl; assumption; with_reducible rfl) | (go_simp; try with_reducible rfl)
    try simp only [List.getElem_toArray, List.getElem_cons_zero, List.getElem_cons_succ, Act.put, List.setIfInBounds_toArray, List.set_cons_zero, List.set_cons_succ]
  refine wpAnyS_one hA rfl (fun K' hK => ?_)
  go_simp
  go_at_call 51
  refine (compare64_any _ a.T b.T).mono ?_
  rintro e u1 ⟨rfl, rfl⟩
  replace hF := keep _ _ (Fr.refl noB _) hF
  refine hK.out _ _ hF (fun hA => ?_)
  clear hK K'
  as_aux_lemma =>
  refine wpAnyS_one hA rfl (fun K' hK => ?_)
  go_simp
  go_at_call 52
  refine (compareI_any _ a.R b.R).mono ?_
  rintro e u2 ⟨rfl, rfl⟩
  replace hF := keep _ _ (Fr.refl noB _) hF
  refine hK.out _ _ hF (fun hA => ?_)
  clear hK K'
  as_aux_lemma =>
  refine wpAnyS_one hA rfl (fun K' hK => ?_)
  go_simp
  have f3 : Fr noB W.drew (W.drew.alloc (.cells #[.int .i64 (cmpZ a.T b.T), .int .i64 (cmpZ a.R b.R)] 3)) := (Fr.refl noB _).alloc _
  have s3 : Sl (W.drew.alloc (.cells #[.int .i64 (cmpZ a.T b.T), .int .i64 (cmpZ a.R b.R)] 3)) (some ⟨W.heap.size, 0, none⟩) [.int .i64 (cmpZ a.T b.T), .int .i64 (cmpZ a.R b.R)] := Sl.new W.drew _ _
  replace hF := keep _ _ f3 hF
  refine hK.out _ _ hF (fun hA => ?_)
  clear hK K'
  as_aux_lemma =>
  refine wpAnyS_one hA rfl (fun K' hK => ?_)
  go_simp
  go_at_call 50
  refine (or_any _ _ _ (cmpZ a.T b.T) (cmpZ a.R b.R) s3).mono ?_
  rintro e u4 ⟨rfl, rfl⟩
  replace hF := keep _ _ (Fr.refl noB _) hF
  refine hK.out _ _ hF (fun hA => ?_)
  clear hK K'
  as_aux_lemma =>
  refine wpAnyS_end hA rfl ?_
  simp only [List.drop_succ_cons, List.drop_zero]
  clear hF
  go_wp2_with fail
  go_ret
  exact ⟨by rw [HCS.out]; rfl, 1, #[sto a, sto b, .cells #[.int .i64 (cmpZ a.T b.T), .int .i64 (cmpZ a.R b.R)] 3], by rw [HW.out]; exact three_grow _ _ _ _⟩
theorem scmpX_v (w : World) (a b : St) : Calls Tryz.prog 22 #[.agg (codS.A a), .agg (codS.A b)] w (GivesX w (.int .i64 (cmpS a b))) := by rw [vS_eq, vS_eq]; exact scmpX_any w a b
theorem GivesX.of2 {w : World} {a b : Obj} {v : Value} {e : Ending} {w' : World} (h : GivesX ((w.alloc a).alloc b) v e w') : GivesX w v e w' := by
  obtain ⟨h1, q, os', rfl⟩ := h
  refine ⟨h1, q, #[a, b] ++ os', ?_⟩
  rw [alloc_eq_grow, alloc_eq_grow]
  unfold grow World.drewN
  rw [show #[a, b] = #[a] ++ #[b] from rfl]
  simp only [Array.append_assoc]
set_option maxRecDepth 100000 in
theorem gvRows1X_any (w : World) (x y : RwW) : Calls Tryz.prog 21 #[.agg (codR.A x), .agg (codR.A y)] w (GivesX w (.int .i64 (cmpS x.Node y.Node))) := by
  have b0 : codR.bxd (w.alloc (.cells (codR.A x) 36)) w.heap.size = some x := Cod.bxd_box (C := codR) w x
  have b1 := Cod.bxd_fr0 b0 ((Fr.refl noB _).alloc (.cells (codR.A y) 36))
  have b2 : codR.bxd ((w.alloc (.cells (codR.A x) 36)).alloc (.cells (codR.A y) 36)) (w.alloc (.cells (codR.A x) 36)).heap.size = some y := Cod.bxd_box (C := codR) _ y
  have hz : (w.alloc (.cells (codR.A x) 36)).heap.size = w.heap.size + 1 := by simp
  rw [hz] at b2
  have q1 := (rwAt (Cod.bxd_rd b1)).node
  have q2 := (rwAt (Cod.bxd_rd b2)).node
  generalize x.Node = s at q1 ⊢
  generalize y.Node = u at q2 ⊢
  clear b0 b1 b2 hz
  go_enter Tryz.func21, Tryz.ntmps21
  go_wp2_with (go_at_call 22; refine (scmpX_v _ s u).mono ?_; rintro e w2 ⟨rfl, f2⟩)
  go_ret
  exact GivesX.of2 ⟨rfl, f2⟩
end Go.Proofs.YtefcalkbfaefgaaGreat
namespace Go.Proofs.YtefcalkbfaefgaaGreat
open Go.RowKit Go.Sort Go.Shelf
set_option linter.unusedVariables false
set_option linter.unusedSimpArgs false

theorem Cod.flat {α : Type} [Inhabited α] {C : Cod α} : ∀ (l : List α), flatK C.cs C.n l.toArray = (C.row l).toArray := fun l => by
  apply Array.ext
  · simp [flatK, Cod.row_len]
  · intro t h1 h2
    have hlt : t < l.length * C.n := by simpa [flatK] using h1
    have hi : t / C.n < l.length := Nat.div_lt_of_lt_mul (by rw [Nat.mul_comm]; exact hlt)
    have hj : t % C.n < C.n := Nat.mod_lt _ C.pos
    have hd := Nat.div_add_mod t C.n
    have e1 : (C.row l)[t]? = (C.cs l[t / C.n])[t % C.n]? := by
      have h3 : (C.row l).drop (t / C.n * C.n) = C.row (l.drop (t / C.n)) := Cod.row_drop l _ (by omega)
      have h4 : C.row (l.drop (t / C.n)) = C.cs l[t / C.n] ++ C.row (l.drop (t / C.n + 1)) := by
        rw [List.drop_eq_getElem_cons hi]; unfold Cod.row; rw [List.flatMap_cons]
      have h5 : ((C.row l).drop (t / C.n * C.n))[t % C.n]? = (C.row l)[t]? := by
        rw [List.getElem?_drop]
        congr 1
        rw [Nat.mul_comm]; exact hd
      rw [← h5, h3, h4, List.getElem?_append_left (by rw [C.len]; exact hj)]
    have h6 : (C.row l).toArray[t] = (C.cs l[t / C.n])[t % C.n]'(by rw [C.len]; exact hj) := by
      have h7 : (C.row l)[t]? = some ((C.row l).toArray[t]) := by simp
      rw [e1, List.getElem?_eq_getElem (by rw [C.len]; exact hj)] at h7
      injection h7 with h7
      exact h7.symm
    rw [h6]
    simp [flatK, hi, C.len, hj]
theorem putCells_row {α : Type} [Inhabited α] {C : Cod α} (cur : Array Value) (l : List α) (h : l.length * C.n ≤ cur.size) : (putCells id 0 (C.row l).toArray cur).toList.take (l.length * C.n) = C.row l := by
  have hl := Cod.row_len (C := C) l
  apply List.ext_getElem?
  intro j
  by_cases hj : j < l.length * C.n
  · rw [List.getElem?_take_of_lt hj, Array.getElem?_toList]
    simp [putCells, hl, hj, show j < cur.size by omega]
  · rw [List.getElem?_take_eq_none (by omega), List.getElem?_eq_none (by omega)]
def cfN (x y : RwW) : Int := cmpS x.Node y.Node
theorem swoN : SWO (ltOf cfN) where
  irrefl x := by simp [ltOf, cfN, cmpS_self]
  trans x y z h1 h2 := by
    simp only [ltOf, decide_eq_true_eq] at *
    unfold cfN at *
    exact cmpS_trans h1 h2
  ntrans x y z h1 h2 := by
    simp only [ltOf, decide_eq_false_iff_not] at *
    unfold cfN at *
    intro h
    have e1 := cmpS_flip x.Node y.Node
    have e2 := cmpS_flip y.Node z.Node
    rcases Int.lt_trichotomy (cmpS y.Node x.Node) 0 with h3 | h3 | h3
    · exact h2 (cmpS_trans h3 h)
    · have := cmpS_zero.1 h3
      rw [this] at h2
      exact h2 h
    · omega
/-- slices.SortFunc at a type of several cells: a permutation that is sorted -/
theorem srtC_any {α : Type} [Inhabited α] (C : Cod α) {ρ : Ren} (L : SlLaysF0.n6 Tryz.prog ρ) (aE : ∀ w, (isAgg (ρ.t 24)).run Tryz.prog w = .ok true w) (zE : ∀ w, (Go.sizeOf (ρ.t 24)).run Tryz.prog w = .ok C.n w) (cf : α → α → Int) (hO : SWO (ltOf cf)) (g : Nat) (cb : Array Value) (eg : ∀ args w, (callFunc g args).run Tryz.prog w = .ok (.enter g args) w)
    (w0 w : World) (A : Option Addr) (c n : Nat) (l : List α) (hn : l.length = n) (ho : OwnC C w0 w A c l) (hl : l.length ≤ 1000000000000)
    (hcmp : ∀ blk, A = some ⟨blk, 0, none⟩ → blk < w.heap.size → w0.heap.size ≤ blk → CmpLays Tryz.prog g cb C.cs C.n cf blk 0 l.length w) :
    Calls Tryz.prog (ρ.f 6) #[.slice A n c, .func (.func g) #[] cb] w fun e w' => e = .returned (.tuple #[]) ∧ ∃ l' : List α, l'.Perm l ∧ l'.Pairwise (fun x y => ltOf cf y x = false) ∧ OwnC C w0 w' A c l' ∧ Fr (fun b => A.map (·.block) = some b) w w' := by
  subst hn
  by_cases h0 : l = []
  · subst h0
    refine (AnyF.slices_SortFunc_none L A c _ w).mono ?_
    rintro e w' ⟨rfl, rfl⟩
    exact ⟨rfl, [], .refl _, .nil, ho, Fr.refl _ _⟩
  · have ho' := ho
    have hlen : 0 < l.length := List.length_pos_iff.2 h0
    rcases ho'.2 with ⟨hv, h00⟩ | ⟨blk, cap, cur, hv, hb, hg, hnc, hm, hs, ht⟩
    · omega
    · injection hv with h1 _ h3
      subst h1; subst h3
      have hblk : blk < w.heap.size := (Array.getElem?_eq_some_iff.1 hg).1
      have hH : HoldsK C.cs C.n w blk 0 l.toArray := by
        unfold HoldsK
        rw [Cod.flat]
        intro j hj
        have hj' : j < (C.row l).length := by simpa using hj
        refine ⟨?_, by simp [World.frozen?, hg]⟩
        obtain ⟨g', off', e, _, hc⟩ := (Sl.own ho) (by intro h; rw [h] at hj'; simp at hj')
        injection e with e
        injection e with e1 e2
        subst e1; subst e2
        rw [hc j _ (List.getElem?_eq_getElem hj')]
        simp [hj']
      have hS := AnyQ.slices_SortFunc L C.n aE zE C.cs (fun x => C.len x) (fun x v hv => C.one x v hv) cf hO g cb blk 0 c l.toArray w eg (by rw [List.size_toArray]; exact hcmp blk rfl hblk hb) hH hblk (by simp; omega)
      rw [List.size_toArray] at hS
      refine hS.mono ?_
      rintro e w' ⟨rfl, d', m, os, hp, hso, rfl⟩
      have hds : d'.size = l.length := by have := hp.1; simpa using this
      have hpl : d'.toList.Perm l := by
        have := hp.2.2
        rw [show d'.extract 0 l.length = d' by rw [← hds]; simp, show l.toArray.extract 0 l.length = l.toArray by simp] at this
        simpa using this
      have hpw : d'.toList.Pairwise (fun x y => ltOf cf y x = false) := by
        rw [List.pairwise_iff_getElem]
        intro i j hi hj hij
        have hi' : i < d'.size := by simpa using hi
        have hj' : j < d'.size := by simpa using hj
        have := hso i j (Nat.zero_le _) hij (by omega)
        rw [getElem!_pos d' j hj', getElem!_pos d' i hi'] at this
        simpa using this
      have hlt : d'.toList.length = l.length := by simpa using hds
      refine ⟨rfl, d'.toList, hpl, hpw, ⟨by rw [Cod.row_len], .inr ⟨blk, c, putCells id 0 (C.row d'.toList).toArray cur, by rw [hlt], hb, ?_, by rw [hlt]; exact hnc, hm, by simp [putCells, hs], ?_⟩⟩, ?_⟩
      · unfold sortWorldK putRowK
        rw [heap_grow_old _ _ (by simpa using hblk), ← Cod.flat, Array.toArray_toList]
        simp [putRow, mapBlock, Sort.ahead, Array.getElem?_modify, hg, onCells]
      · exact putCells_row _ _ (by rw [hlt, hs]; exact Nat.mul_le_mul_right _ hnc)
      · refine ⟨rfl, rfl, rfl, by simp [sortWorldK, putRowK, Sort.ahead], fun k hk hne => ?_⟩
        unfold sortWorldK putRowK
        rw [heap_grow_old _ _ (by simpa using hk)]
        have : blk ≠ k := fun e => hne (by simp [e])
        simp [putRow, mapBlock, Sort.ahead, Array.getElem?_modify, this]
theorem cmpN_lays (W w : World) (hW : W = w) (x y : RwW) : Calls Tryz.prog 21 (#[.agg (codR.cs x).toArray, .agg (codR.cs y).toArray] ++ #[]) W fun e w' => e = .returned (.int .i64 (cfN x y)) ∧ ∃ q os', w' = grow (W.drewN q) os' := by
  have := gvRows1X_any W x y
  rw [Cod.A_eq, Cod.A_eq] at this
  rw [Array.append_empty]
  exact this
theorem srtRows_any (w0 w : World) (A : Option Addr) (c n : Nat) (l : List RwW) (hn : l.length = n) (ho : OwnC codR w0 w A c l) (hl : l.length ≤ 1000000000000) :
    Calls Tryz.prog 20 #[.slice A n c, .func (.func 21) #[] #[]] w fun e w' => e = .returned (.tuple #[]) ∧ ∃ l' : List RwW, l'.Perm l ∧ l'.Pairwise (fun x y => ltOf cfN y x = false) ∧ OwnC codR w0 w' A c l' ∧ Fr (fun b => A.map (·.block) = some b) w w' :=
  srtC_any codR Tryz.sortR (fun w => Tryz.isAgg36 w) (fun w => Tryz.sizeOf36 w) cfN swoN 21 #[] (enters_of Tryz.func21 (by kernel_rfl) rfl) w0 w A c n l hn ho hl (fun blk _ _ _ m os dk _ x y => cmpN_lays _ _ rfl x y)
end Go.Proofs.YtefcalkbfaefgaaGreat
namespace Go.Proofs.YtefcalkbfaefgaaGreat
open Go.RowKit Go.Sort Go.Shelf
set_option linter.unusedVariables false
set_option linter.unusedSimpArgs false

theorem less_self : ∀ a : List UInt8, Op.bytesLess a a = false
  | [] => rfl
  | x :: a => by
    have h : ¬ x < x := by rw [UInt8.lt_iff_toNat_lt]; omega
    simp [Op.bytesLess, h, less_self a]
theorem less_trans : ∀ {a b c : List UInt8}, Op.bytesLess a b = true → Op.bytesLess b c = true → Op.bytesLess a c = true
  | [], [], _, h, _ => by simp [Op.bytesLess] at h
  | [], _ :: _, [], _, h => by simp [Op.bytesLess] at h
  | [], _ :: _, _ :: _, _, _ => rfl
  | _ :: _, [], _, h, _ => by simp [Op.bytesLess] at h
  | _ :: _, _ :: _, [], _, h => by simp [Op.bytesLess] at h
  | x :: a, y :: b, z :: c, h1, h2 => by
    simp only [Op.bytesLess, Bool.or_eq_true, Bool.and_eq_true, decide_eq_true_eq, beq_iff_eq] at h1 h2 ⊢
    rcases h1 with h1 | ⟨rfl, h1⟩
    · rcases h2 with h2 | ⟨rfl, h2⟩
      · rw [UInt8.lt_iff_toNat_lt] at *; exact .inl (by omega)
      · exact .inl h1
    · rcases h2 with h2 | ⟨rfl, h2⟩
      · exact .inl h2
      · exact .inr ⟨rfl, less_trans h1 h2⟩
theorem less_tri : ∀ {a b : List UInt8}, Op.bytesLess a b = false → Op.bytesLess b a = false → a = b
  | [], [], _, _ => rfl
  | [], _ :: _, h, _ => by simp [Op.bytesLess] at h
  | _ :: _, [], _, h => by simp [Op.bytesLess] at h
  | x :: a, y :: b, h1, h2 => by
    simp only [Op.bytesLess, Bool.or_eq_false_iff, Bool.and_eq_false_iff, decide_eq_false_iff_not, beq_eq_false_iff_ne] at h1 h2
    have hxy : x = y := by
      rw [UInt8.lt_iff_toNat_lt] at h1 h2
      exact UInt8.toNat_inj.1 (by omega)
    subst hxy
    have h3 : Op.bytesLess a b = false := by rcases h1.2 with h | h; · exact absurd rfl h
                                             · exact h
    have h4 : Op.bytesLess b a = false := by rcases h2.2 with h | h; · exact absurd rfl h
                                             · exact h
    rw [less_tri h3 h4]
/-- the order of texts -/
def cmpB (a b : List UInt8) : Int := if Op.bytesLess a b then -1 else if a = b then 0 else 1
theorem cmpB_self (a : List UInt8) : cmpB a a = 0 := by unfold cmpB; rw [less_self]; simp
theorem cmpB_zero {a b : List UInt8} : cmpB a b = 0 ↔ a = b := by
  constructor
  · intro h
    unfold cmpB at h
    split at h
    · cases h
    · split at h
      · assumption
      · cases h
  · rintro rfl; exact cmpB_self a
theorem cmpB_lt {a b : List UInt8} : cmpB a b < 0 ↔ Op.bytesLess a b = true := by
  unfold cmpB
  split
  · simp [*]
  · split <;> simp [*, less_self]
theorem cmpB_flip (a b : List UInt8) : cmpB b a = - cmpB a b := by
  unfold cmpB
  by_cases h1 : Op.bytesLess a b = true
  · have h2 : Op.bytesLess b a = false := by
      cases h : Op.bytesLess b a with
      | false => rfl
      | true => have := less_trans h1 h; rw [less_self] at this; cases this
    have h3 : b ≠ a := by rintro rfl; rw [h1] at h2; cases h2
    simp [h1, h2, h3]
  · by_cases h2 : Op.bytesLess b a = true
    · have h3 : a ≠ b := by rintro rfl; exact h1 h2
      simp [h1, h2, h3]
    · have := less_tri (by simpa using h1) (by simpa using h2)
      subst this
      simp [h1]
/-- by name, then by stamp -/
def cfK (nm : St → List UInt8) (a b : St) : Int := orI (cmpB (nm a) (nm b)) (cmpS a b)
theorem cfK_lt {nm : St → List UInt8} {a b : St} : cfK nm a b < 0 ↔ Op.bytesLess (nm a) (nm b) = true ∨ (nm a = nm b ∧ cmpS a b < 0) := by
  unfold cfK
  rw [orI_eq]
  split
  · rename_i h
    have := cmpB_zero.1 h
    rw [this, less_self]
    simp
  · rename_i h
    rw [cmpB_lt]
    have : nm a ≠ nm b := fun e => h (cmpB_zero.2 e)
    simp [this]
theorem cfK_self (nm : St → List UInt8) (a : St) : cfK nm a a = 0 := by unfold cfK; rw [orI_eq, cmpB_self, cmpS_self]; rfl
theorem cfK_trans {nm : St → List UInt8} {a b c : St} (h1 : cfK nm a b < 0) (h2 : cfK nm b c < 0) : cfK nm a c < 0 := by
  rw [cfK_lt] at *
  rcases h1 with h1 | ⟨e1, h1⟩
  · rcases h2 with h2 | ⟨e2, h2⟩
    · exact .inl (less_trans h1 h2)
    · rw [e2] at h1; exact .inl h1
  · rcases h2 with h2 | ⟨e2, h2⟩
    · rw [← e1] at h2; exact .inl h2
    · exact .inr ⟨e1.trans e2, cmpS_trans h1 h2⟩
theorem cfK_tri {nm : St → List UInt8} {a b : St} (h1 : ¬ cfK nm a b < 0) (h2 : ¬ cfK nm b a < 0) : a = b := by
  rw [cfK_lt] at h1 h2
  have e : nm a = nm b := less_tri (Bool.eq_false_iff.2 fun h => h1 (.inl h)) (Bool.eq_false_iff.2 fun h => h2 (.inl h))
  have h3 : ¬ cmpS a b < 0 := fun h => h1 (.inr ⟨e, h⟩)
  have h4 : ¬ cmpS b a < 0 := fun h => h2 (.inr ⟨e.symm, h⟩)
  have := cmpS_flip a b
  exact cmpS_zero.1 (by omega)
theorem swoK {α : Type} (nm : St → List UInt8) (f : α → St) : SWO (ltOf fun x y : α => cfK nm (f x) (f y)) where
  irrefl x := by simp [ltOf, cfK_self]
  trans x y z h1 h2 := by
    simp only [ltOf, decide_eq_true_eq] at *
    exact cfK_trans h1 h2
  ntrans x y z h1 h2 := by
    simp only [ltOf, decide_eq_false_iff_not] at *
    intro h
    by_cases h3 : cfK nm (f y) (f x) < 0
    · exact h2 (cfK_trans h3 h)
    · have := cfK_tri h1 h3
      rw [this] at h
      exact h2 h
end Go.Proofs.YtefcalkbfaefgaaGreat
namespace Go.Proofs.YtefcalkbfaefgaaGreat
open Go.RowKit Go.Maps Go.Sort Go.Shelf
set_option linter.unusedVariables false
set_option linter.unusedSimpArgs false
attribute [local go_sem] Oper.semAt_some

theorem RngT.ne {w : World} {it r : Nat} {kv left : List (St × Value)} (h : RngT w it r kv left) : it ≠ r := by
  obtain ⟨_, _, ⟨es, clock, seen, hi, hb, _⟩, _, _⟩ := h
  rintro rfl
  rw [hi] at hb; cases hb
theorem RngT.hs {w : World} {it r : Nat} {kv left : List (St × Value)} (h : RngT w it r kv left) : NoHS (oneB it) w := fun b hb cs z => by
  obtain ⟨_, _, ⟨es, clock, seen, hi, hbb, _⟩, _, _⟩ := h
  have e : b = it := hb
  subst e
  rw [hi]
  exact ⟨fun h => (by cases h), fun h => (by cases h)⟩
theorem RngT.nown {w : World} {it r base n c size : Nat} {e : TypeId} {A : Option Addr} {xs : List Value} {kv left : List (St × Value)} (h : RngT w it r kv left) (ho : w.ownsRow base e size (.slice A n c) n xs) : ∀ g, A.map (·.block) = some g → g ≠ it ∧ g ≠ r := fun g hg => by
  obtain ⟨_, cur, z, hgg⟩ := own_blk ho hg
  obtain ⟨_, _, ⟨es, clock, seen, hi, hb, _⟩, _, _⟩ := h
  constructor
  · rintro rfl
    rw [hi] at hgg; cases hgg
  · rintro rfl
    rw [hb] at hgg; cases hgg
theorem doX_len (xs : List RwP) (o : Opn) : (doX xs o).length ≤ xs.length + 1 := by
  unfold doX
  split
  · omega
  · unfold putR
    split <;> simp
theorem runX_len (xs : List RwP) (L : List Opn) : (runX xs L).length ≤ xs.length + L.length := by
  induction L generalizing xs with
  | nil => simp [runX]
  | cons o L ih =>
    have h1 := ih (doX xs o)
    have h2 := doX_len xs o
    show (runX (doX xs o) L).length ≤ _
    simp only [List.length_cons]
    omega
/-- a row whose heads are new memory -/
structure RwN (base : Nat) (w : World) (r : RwW) (x : RwP) : Prop where
  row : RwO w r x
  own : w.ownsRow base 93 34 (.slice r.A r.n r.c) r.n (codH.row x.Heads)
theorem RwN.fr {base : Nat} {M : Nat → Prop} {w w' : World} {r : RwW} {x : RwP} (h : RwN base w r x) (f : Fr M w w') (hs : NoHS M w) : RwN base w' r x :=
  ⟨h.row.fr f hs, own_fr h.own f (fun g hg hm => by
    rw [ownBlock_sl'] at hg
    obtain ⟨_, cur, z, h4⟩ := own_blk h.own hg
    exact (hs g hm cur z).1 h4)⟩
/-- their heads lie in blocks of their own -/
def ApR (a b : RwW) : Prop := ∀ g, a.A.map (·.block) = some g → b.A.map (·.block) ≠ some g
theorem ApR.symm {a b : RwW} (h : ApR a b) : ApR b a := fun g hb ha => h g ha hb
theorem AllO.perm {α β : Type} {R : World → α → β → Prop} {w : World} {rs rs' : List α} (hp : rs'.Perm rs) : ∀ {xs : List β}, AllO R w rs xs → ∃ xs', xs'.Perm xs ∧ AllO R w rs' xs' := by
  induction hp with
  | nil => exact fun h => ⟨_, .refl _, h⟩
  | cons r _ ih =>
    intro xs h
    match xs, h with
    | [], h => have := h.1; simp at this
    | x :: xs, h =>
      obtain ⟨ys, h1, h2⟩ := ih h.tail.2
      exact ⟨x :: ys, h1.cons x, AllO.cons h.tail.1 h2⟩
  | swap a b l =>
    intro xs h
    match xs, h with
    | [], h => have := h.1; simp at this
    | [x], h => have := h.1; simp at this
    | x :: y :: xs, h => exact ⟨y :: x :: xs, .swap x y xs, AllO.cons h.tail.2.tail.1 (AllO.cons h.tail.1 h.tail.2.tail.2)⟩
  | trans _ _ ih1 ih2 =>
    intro xs h
    obtain ⟨ys, h1, h2⟩ := ih2 h
    obtain ⟨zs, h3, h4⟩ := ih1 h2
    exact ⟨zs, h3.trans h1, h4⟩
def RowsTo (w : World) (xs : List RwP) (e : Ending) (w' : World) : Prop :=
  ∃ (A : Option Addr) (c : Nat) (rs : List RwW) (ys : List RwP), e = .returned (.slice A rs.length c) ∧ OwnC codR w w' A c rs ∧ AllO (RwN w.heap.size) w' rs ys ∧ rs.Pairwise ApR ∧ ys.Perm xs ∧ ys.Pairwise (fun a b => cmpS a.Node b.Node < 0) ∧ Fr noB w w'
theorem tab_split {α : Type} {f : α → RwW} {lz : List α} {l1 l2 : List (St × Value)} {p : St × Value} (h : tab (lz.map f) = l1 ++ p :: l2) :
    ∃ z1 z z2, lz = z1 ++ z :: z2 ∧ l1 = tab (z1.map f) ∧ p = ((f z).Node, .agg (codR.A (f z))) ∧ l2 = tab (z2.map f) := by
  unfold tab at h ⊢
  rw [List.map_map] at h
  obtain ⟨z1, zr, rfl, h1, h2⟩ := List.map_eq_append_iff.1 h
  obtain ⟨z, z2, rfl, h3, h4⟩ := List.map_eq_cons_iff.1 h2
  exact ⟨z1, z, z2, rfl, by rw [List.map_map]; exact h1.symm, h3.symm, by rw [List.map_map]; exact h4.symm⟩
theorem tab_nil {α : Type} {f : α → RwW} {lz : List α} (h : tab (lz.map f) = []) : lz = [] := by
  unfold tab at h
  simpa using h
theorem tab_app {α : Type} {f : α → RwW} (a b : List α) : tab ((a ++ b).map f) = tab (a.map f) ++ tab (b.map f) := by simp [tab]
theorem perm_mid {α : Type} {dz z1 z2 Z : List α} {z : α} (h : (dz ++ (z1 ++ z :: z2)).Perm Z) : ((dz ++ [z]) ++ (z1 ++ z2)).Perm Z := by
  refine List.Perm.trans ?_ h
  simp only [List.append_assoc, List.cons_append, List.nil_append]
  exact List.Perm.append_left dz List.perm_middle.symm
theorem NoHS.ownA {w : World} {base size n c : Nat} {e : TypeId} {A : Option Addr} {xs : List Value} (h : w.ownsRow base e size (.slice A n c) n xs) (h1 : e ≠ 93) (h2 : e ≠ 30) : NoHS (fun q => A.map (·.block) = some q) w := fun g hg => NoHS.own h h1 h2 g (by rw [ownBlock_sl']; exact hg)
def RwLoop (w : World) (m : Nat) (rs : List RwW) (Z : List (RwW × RwP)) (gk : Nat) (iv : Value) (wr : World) : Prop :=
  ∃ (dz lz : List (RwW × RwP)) (os : List RwW) (A : Option Addr) (c : Nat), gk = lz.length ∧ RngT wr w.heap.size m (tab rs) (tab (lz.map (·.1))) ∧ (dz ++ lz).Perm Z ∧ Fr noB w wr ∧ iv = .slice A os.length c ∧ OwnC codR w wr A c os ∧ AllO (RwN w.heap.size) wr os (dz.map (·.2)) ∧ os.Pairwise ApR
theorem zip_mem {w : World} {rs : List RwW} {xs : List RwP} (h : AllO RwO w rs xs) : ∀ z ∈ rs.zip xs, RwO w z.1 z.2 ∧ z.2 ∈ xs := fun z hz => by
  obtain ⟨i, hi, rfl⟩ := List.getElem_of_mem hz
  simp only [List.length_zip] at hi
  rw [List.getElem_zip]
  exact ⟨h.2 i (by omega) (by omega), List.getElem_mem _⟩
set_option maxRecDepth 100000 in
set_option maxHeartbeats 4000000 in
theorem gvRows_any {base : Nat} {w : World} {b : Nat} {t : TrW} {L : List Opn} (h : GvS base w b t L) (hL : L.length ≤ 100000) : Calls Tryz.prog 8 #[.pointer (some ⟨b, 0, none⟩)] w (RowsTo w (runX [] L)) := by
  have tm := h.tr.m
  obtain ⟨rs, hm, hR⟩ := h.rows
  have hbd := h.heads (by omega)
  have hxl : (runX [] L).length ≤ 100000 := by have := runX_len [] L; simp only [List.length_nil] at this; omega
  have hnd : ((runX [] L).map (·.Node)).Nodup := runX_nd (by simp) L
  generalize runX [] L = xs at hR hbd hxl hnd ⊢
  have hZ := Lib.hid (zip_mem hR)
  have hZl := Lib.hid (show (rs.zip xs).length = xs.length by rw [List.length_zip, hR.1]; exact Nat.min_self _)
  have hZ2 := Lib.hid (show (rs.zip xs).map (·.2) = xs by rw [List.map_snd_zip (by rw [hR.1]; exact Nat.le_refl _)])
  have hZ1 : (rs.zip xs).map (·.1) = rs := by rw [List.map_fst_zip (by rw [hR.1]; exact Nat.le_refl _)]
  have HBD := Lib.hid hbd
  have HND := Lib.hid hnd
  obtain ⟨_, hrg⟩ := rngT_all Tryz.underlying51 hm
  have F1 : Fr noB w (w.alloc (rngOT w t.m)) := (Fr.refl noB w).alloc _
  have h0 : RwLoop w t.m rs (rs.zip xs) xs.length (.slice none 0 0) (w.alloc (rngOT w t.m)) := ⟨[], rs.zip xs, [], none, 0, hZl.out.symm, by rw [hZ1]; exact hrg, by simp, F1, rfl, World.ownsRow_nil _ _ _ _, AllO.nil, .nil⟩
  have HXL := Lib.hid hxl
  clear hR hbd hnd hZ1 h hL hrg F1 hxl
  generalize rs.zip xs = Z at hZ hZl hZ2 h0
  go_enter Tryz.func8, Tryz.ntmps8
  go_wp2_with fail
  generalize w.alloc (rngOT w t.m) = w1 at h0 ⊢
  clear tm hm
  go_loopg [3] xs.length (fun gk iv wr => RwLoop w t.m rs Z gk iv wr)
  case atStart => exact h0
  case round =>
    clear h0
    obtain ⟨dz, lz, os, A, c, rfl, hr, hpm, hf, rfl, ho, ha, hap⟩ := hrel
    have HOL := Lib.hid (show os.length ≤ 100000 by
      have h1 := ha.1
      have h2 := hpm.length_eq
      have h3 := hZl.out
      have h4 := HXL.out
      simp only [List.length_append, List.length_map] at h1 h2
      omega)
    have HPM := Lib.hid hpm
    have HA := Lib.hid ha
    have HAP := Lib.hid hap
    clear hpm ha hap
    rcases hr.next hr.ne 0 with ⟨h0, hrun⟩ | ⟨l1, p, l2, w3, h0, hp, hwp, hrun, hr3, hf3, hent⟩
    · have h0' := tab_nil h0
      subst h0'
      have CS := Lib.hid (srtRows_any w wr A c _ os rfl ho (by have := HOL.out; omega))
      clear h0
      go_wp2_with (go_at_call 20; refine CS.out.mono ?_; rintro e w4 ⟨rfl, l', hp4, hs4, ho4, hf4⟩)
      go_ret
      have ha4 := HA.out.map fun r x h => h.fr hf4 (NoHS.ownA ho (by decide) (by decide))
      obtain ⟨ys, hy1, hy2⟩ := ha4.perm hp4
      have hyx : ys.Perm xs := hy1.trans (by
        have := HPM.out
        rw [List.append_nil] at this
        rw [← hZ2.out]
        exact this.map _)
      have hl' := hp4.length_eq
      refine ⟨A, c, l', ys, by rw [hl']; rfl, ho4, hy2, hp4.symm.pairwise HAP.out (fun h => h.symm), hyx, ?_, hf.step hf4 (fun g hg => .inl (own_blk ho hg).1)⟩
      have nd : (ys.map (·.Node)).Nodup := (hyx.map _).nodup_iff.2 HND.out
      rw [List.pairwise_iff_getElem] at hs4 ⊢
      intro i j hi hj hij
      have h1 : ¬ cmpS (l'[j]'(by rw [hy2.1]; exact hj)).Node (l'[i]'(by rw [hy2.1]; exact hi)).Node < 0 := of_decide_eq_false (hs4 i j (by rw [hy2.1]; exact hi) (by rw [hy2.1]; exact hj) hij)
      rw [← (hy2.2 i (by rw [hy2.1]; exact hi) hi).row.inn.node, ← (hy2.2 j (by rw [hy2.1]; exact hj) hj).row.inn.node] at h1
      have h2 : ys[i].Node ≠ ys[j].Node := fun e => by
        have := (List.pairwise_iff_getElem.1 nd) i j (by simpa using hi) (by simpa using hj) hij
        simp only [List.getElem_map] at this
        exact this e
      have h3 := cmpS_flip ys[i].Node ys[j].Node
      have h4 : cmpS ys[i].Node ys[j].Node ≠ 0 := fun e => h2 (cmpS_zero.1 e)
      omega
    · obtain ⟨z1, z, z2, rfl, rfl, rfl, rfl⟩ := tab_split h0
      have hzm : z ∈ Z := HPM.out.mem_iff.1 (by simp)
      obtain ⟨hz1, hz2⟩ := hZ.out z hzm
      have hzb := HBD.out _ hz2
      rw [← tab_app] at hr3
      have hent' := hent noB w3 (Fr.refl _ _) (by simp [noB]) (by simp [noB])
      simp only at hent'
      have hne1 := hr.nown ho
      have ho3 : OwnC codR w w3 A c os := own_fr ho hf3 (fun g hg e => by rw [ownBlock_sl'] at hg; exact (hne1 g hg).1 e)
      have ha3 := Lib.hid (HA.out.map fun r x h => h.fr hf3 hr.hs)
      have F3 : Fr noB w w3 := hf.step1 hf3 (Nat.le_refl _)
      have hz3 := hz1.fr F3 (NoHS.nob _)
      have HLZ := Lib.hid (show (z1 ++ z2).length < (z1 ++ z :: z2).length by simp)
      clear h0 hp hwp hent hr hf hf3 hne1 ho hz1 hz2 hzm HA
      simp only at hrun
      obtain ⟨r0, hr0⟩ : ∃ r, r = z.1 := ⟨_, rfl⟩
      have HR0 := Lib.hid hr0
      rw [← hr0] at hrun hent' hz3
      clear hr0
      go_upto_region 5 with fail
      have f12 : Fr noB w3 (w3.alloc (codR.o r0)) := (Fr.refl noB w3).alloc _
      have q12 := Cod.rd_new' (C := codR) w3 r0
      obtain ⟨D2, hD2⟩ : ∃ x, x = w3.heap.size := ⟨_, rfl⟩
      rw [← hD2] at q12 ⊢
      have o12 := Lib.hid (own_new0 ho3 f12)
      have a12 := Lib.hid (ha3.out.map fun r x h => h.fr f12 (NoHS.nob _))
      have r12 := Lib.hid (hr3.fr f12 (by simp [noB]) (by simp [noB]))
      have z12 := Lib.hid (hz3.fr f12 (NoHS.nob _))
      have F12 := Lib.hid (F3.step0 f12)
      clear ho3 ha3 hr3 hz3 F3 hD2 f12 hrun hent'
      generalize w3.alloc (codR.o r0) = W12 at q12 o12 a12 r12 z12 F12 ⊢
      go_wp2_with fail
      go_at_call 19
      refine (gvClone1_any W12 r0 z.2 z12.out hzb).mono ?_
      rintro e w5 ⟨r5, rfl, ho5, hn5, f5⟩
      have sl := Cod.sl_new (C := codR) w5 [r5]
      have fn : Fr noB w5 (w5.alloc (codR.ro [r5])) := (Fr.refl noB w5).alloc _
      have o6 := own_new0 (own_new0 o12.out f5) fn
      have f6 := f5.step0 fn
      have a6 := Lib.hid (a12.out.map fun r x h => h.fr f6 (NoHS.nob _))
      have r6 := Lib.hid (r12.out.fr f6 (by simp [noB]) (by simp [noB]))
      have F6 := F12.out.step0 f6
      have n6 := Lib.hid (show RwN w.heap.size (w5.alloc (codR.ro [r5])) r5 z.2 from ⟨ho5.fr fn (NoHS.nob _), own_new0 (own_base hn5 F12.out.size) fn⟩)
      have ap6 := Lib.hid (show ∀ a ∈ os, ApR a r5 from fun a ha g hg hg5 => by
        obtain ⟨i, hi, rfl⟩ := List.getElem_of_mem ha
        have h1 := (a12.out.2 i hi (by rw [← a12.out.1]; exact hi)).own
        have h2 := World.ownsRow.lt h1 g (by rw [ownBlock_sl']; exact hg)
        have h3 := (own_blk hn5 hg5).1
        omega)
      clear f6 o12 a12 r12 z12 F12 hn5 ho5 f5 q12 fn
      go_wp2_with (at_builtin; refine wpList_appC' etR w _ rfl _ _ rfl A os.length c os rfl rfl o6 (some ⟨w5.heap.size, 0, none⟩) 1 1 [r5] rfl sl rfl (by have := HOL.out; simp; omega) F6.size ?_; intro A7 c7 w7 hc7 hm7 o7 g7 hA7)
      have fg : Fr (fun q => A.map (·.block) = some q) (w5.alloc (codR.ro [r5])) w7 := Fr.ofGrown g7 (fun g hg => hg)
      have hs7 := NoHS.ownA o6 (by decide) (by decide)
      go_roundg (z1 ++ z2).length
      case measure => simp
      case rel =>
        have hne7 := r6.out.nown o6
        refine ⟨dz ++ [z], z1 ++ z2, os ++ [r5], A7, c7, rfl, r6.out.fr fg (fun e => (hne7 _ e).1 rfl) (fun e => (hne7 _ e).2 rfl), perm_mid HPM.out, gv_own F6 o6 g7, ?_, o7, ?_, ?_⟩
        · simp
        · rw [List.map_append]
          exact (a6.out.map fun r x h => h.fr fg hs7).snoc (n6.out.fr fg hs7)
        · rw [List.pairwise_append]
          exact ⟨HAP.out, by simp, fun a ha b hb => by rw [List.mem_singleton] at hb; subst hb; exact ap6.out a ha⟩
end Go.Proofs.YtefcalkbfaefgaaGreat
namespace Go.Proofs.YtefcalkbfaefgaaGreat
open Go.RowKit Go.Maps Go.Sort Go.Shelf
set_option linter.unusedVariables false
set_option linter.unusedSimpArgs false
attribute [local go_sem] Oper.semAt_some

/-- blocks are laid and draws made, nothing else -/
def Gr (w w' : World) : Prop := ∃ q os, w' = grow (w.drewN q) os
section
variable {w w1 : World}
theorem Gr.refl (w : World) : Gr w w := ⟨0, #[], by simp [grow, World.drewN]⟩
theorem Gr.alloc (h : Gr w w1) (o : Obj) : Gr w (w1.alloc o) := by
  obtain ⟨q, os, rfl⟩ := h
  exact ⟨q, os ++ #[o], by rw [alloc_eq_grow, grow_grow]⟩
theorem Gr.drew (h : Gr w w1) : Gr w w1.drew := by
  obtain ⟨q, os, rfl⟩ := h
  exact ⟨q + 1, os, rfl⟩
theorem Gr.trans {w2 : World} (h : Gr w w1) (k : Gr w1 w2) : Gr w w2 := by
  obtain ⟨q, os, rfl⟩ := h
  obtain ⟨q', os', rfl⟩ := k
  exact ⟨q + q', os ++ os', by simp [grow, World.drewN, Nat.add_assoc]⟩
theorem Gr.fr (h : Gr w w1) : Fr noB w w1 := by
  obtain ⟨q, os, rfl⟩ := h
  refine ⟨rfl, rfl, rfl, by simp [grow, World.drewN], fun k hk _ => ?_⟩
  simp [grow, World.drewN, Array.getElem?_append_left hk]
end
theorem cell_lt {w : World} {b o : Nat} {v : Value} (h : w.cell? ⟨b, o, none⟩ = some v) : b < w.heap.size := by
  rcases Nat.lt_or_ge b w.heap.size with h1 | h1
  · exact h1
  · simp [World.cell?, Array.getElem?_eq_none h1] at h
def rowW (rs : List RwW) (s : St) : RwW := (findW rs s).getD zRwW
theorem look_rowW (rs : List RwW) (s : St) : (look (tab rs) s).getD (.agg (codR.A zRwW)) = .agg (codR.A (rowW rs s)) := by
  rw [look_tab]
  unfold rowW
  cases findW rs s <;> rfl
/-- stamps whose numbers an int64 can be, as cells -/
def codK : Cod KS := ⟨30, 2, fun k => codS.cs k.1, ⟨zSt, by decide⟩, fun x => codS.len x.1, by decide, fun x u hu => codS.one x.1 u hu, fun x y h => Subtype.ext (codS.inj _ _ h)⟩
instance : Inhabited KS := ⟨⟨zSt, by decide⟩⟩
theorem codK_row (l : List KS) : codK.row l = codS.row (l.map (·.1)) := by
  unfold Cod.row
  rw [List.flatMap_map]
  rfl
theorem kids_up {l : List St} (h : ∀ s ∈ l, wfS s = true) : ∃ k : List KS, k.map (·.1) = l := by
  induction l with
  | nil => exact ⟨[], rfl⟩
  | cons s l ih =>
    obtain ⟨k, hk⟩ := ih fun x hx => h x (by simp [hx])
    exact ⟨⟨s, h s (by simp)⟩ :: k, by simp [hk]⟩
/-- facts of a world of the sort's -/
theorem sortW_fr (l : List KS) (w : World) (blk m : Nat) (dk : Array KS) (os : Array Obj) (h : blk < w.heap.size) : Fr (oneB blk) w (sortWorldK codK.cs 2 w blk 0 m dk os) := by
  refine ⟨rfl, rfl, rfl, by simp [sortWorldK, putRowK, Sort.ahead], fun k hk hne => ?_⟩
  unfold sortWorldK putRowK
  rw [heap_grow_old _ _ (by simpa using hk)]
  have : blk ≠ k := fun e => hne e.symm
  simp [putRow, mapBlock, Sort.ahead, Array.getElem?_modify, this]
/-- the nodes right under p -/
def kidsW (p : St) (l : List RwW) : List St := (l.filter fun r => decide (r.Parent = p)).map (·.Node)
def kidsR (p : St) (l : List RwP) : List St := (l.filter fun r => decide (r.Parent = p)).map (·.Node)
def nmR (xs : List RwP) (s : St) : List UInt8 := ((findR xs s).getD zRwP).Name
theorem kidsW_eq {w : World} {p : St} {rs : List RwW} {xs : List RwP} (h : AllO RwO w rs xs) : kidsW p rs = kidsR p xs := by
  induction rs generalizing xs with
  | nil =>
    obtain rfl : xs = [] := List.length_eq_zero_iff.1 (by simpa using h.1.symm)
    rfl
  | cons r rs ih =>
    match xs, h with
    | [], h => have := h.1; simp at this
    | x :: xs, h =>
      have i := ih h.tail.2
      have h1 := h.tail.1.inn
      unfold kidsW kidsR at i ⊢
      rw [List.filter_cons, List.filter_cons, ← h1.parent]
      split
      · rw [List.map_cons, List.map_cons, i, ← h1.node]
      · exact i
theorem nmR_eq {w : World} {rs : List RwW} {xs : List RwP} (h : AllO RwO w rs xs) (s : St) : (rowW rs s).Name = nmR xs s := by
  unfold rowW nmR
  rcases RwsO_.find h s with ⟨h1, h2⟩ | ⟨r, x, h1, h2, h3⟩
  · rw [h1, h2]; rfl
  · rw [h1, h2]
    have : x.Name = r.Name := by rw [h3.inn.eq]; rfl
    rw [Option.getD_some, Option.getD_some, this]
theorem kids_nd {p : St} {xs : List RwP} (h : (xs.map (·.Node)).Nodup) : (kidsR p xs).Nodup := (h.sublist ((List.filter_sublist).map _))
def KidsTo (w : World) (xs : List RwP) (p : St) (e : Ending) (w' : World) : Prop :=
  ∃ (A : Option Addr) (c : Nat) (ks : List St), e = .returned (.slice A ks.length c) ∧ OwnC codS w w' A c ks ∧ ks.Perm (kidsR p xs) ∧ ks.Pairwise (fun a b => cfK (nmR xs) a b < 0) ∧ Fr noB w w'
def KdLoop (w : World) (it m : Nat) (rs : List RwW) (p : St) (gk : Nat) (iv : Value) (wr : World) : Prop :=
  ∃ (dz lz : List RwW) (os : List St) (A : Option Addr) (c : Nat), gk = lz.length ∧ RngT wr it m (tab rs) (tab (lz.map id)) ∧ (dz ++ lz).Perm rs ∧ Fr noB w wr ∧ iv = .slice A os.length c ∧ OwnC codS w wr A c os ∧ os = kidsW p dz
theorem kidsW_snoc (p : St) (l : List RwW) (r : RwW) : kidsW p (l ++ [r]) = if r.Parent = p then kidsW p l ++ [r.Node] else kidsW p l := by
  unfold kidsW
  rw [List.filter_append]
  split <;> simp [*]
theorem kidsW_len (p : St) (l : List RwW) : (kidsW p l).length ≤ l.length := by
  unfold kidsW
  rw [List.length_map]
  exact List.length_filter_le _ _
end Go.Proofs.YtefcalkbfaefgaaGreat
namespace Go.Proofs.YtefcalkbfaefgaaGreat
open Go.RowKit Go.Sort
set_option linter.unusedVariables false
set_option linter.unusedSimpArgs false

theorem bldO_m5 (w : World) (k : Int) (a s t : St) (m : List UInt8) : (Instr.build 42 #[(0, .int .i64 k), (1, .agg (codS.A a)), (2, .agg (codS.A s)), (3, .agg (codS.A t)), (4, .string (str m))]).run Tryz.prog w = .ok (.agg (codO.A { zOpW with Kind := k, At := a, Node := s, Parent := t, Name := m })) w := by
  have h1 : ∀ place : Nat → Option (Nat × Nat), place 0 = some (0, 1) → place 1 = some (1, 2) → place 2 = some (3, 2) → place 3 = some (5, 2) → place 4 = some (7, 1) → Instr.fill place ([] ++ [Value.int .i64 0] ++ ([Value.int .i64 0, Value.int .i64 0, Value.int .i64 0, Value.int .i64 0, Value.int .i64 0, Value.int .i64 0, Value.string (str [])] ++ bv zID.1 ++ [Value.slice none 0 0])).toArray [(0, .int .i64 k), (1, .agg (codS.A a)), (2, .agg (codS.A s)), (3, .agg (codS.A t)), (4, .string (str m))] = some (codO.cs { zOpW with Kind := k, At := a, Node := s, Parent := t, Name := m }).toArray := by
    intro place p0 p1 p2 p3 p4
    refine (fill_one place [] [.int .i64 0] ([Value.int .i64 0, Value.int .i64 0, Value.int .i64 0, Value.int .i64 0, Value.int .i64 0, Value.int .i64 0, Value.string (str [])] ++ bv zID.1 ++ [Value.slice none 0 0]) [.int .i64 k] 0 (.int .i64 k) _ rfl (by simpa using p0) rfl).trans ?_
    have e0 := fill_one place [.int .i64 k] [.int .i64 0, .int .i64 0] ([.int .i64 0, .int .i64 0, .int .i64 0, .int .i64 0, Value.string (str [])] ++ bv zID.1 ++ [Value.slice none 0 0]) [.int .i64 a.T, .int .i64 a.R] 1 (.agg (codS.A a)) [(2, .agg (codS.A s)), (3, .agg (codS.A t)), (4, .string (str m))] (by rw [A_SS]; rfl) (by simpa using p1) rfl
    refine Eq.trans ?_ (e0.trans ?_)
    · simp
    have e1 := fill_one place [.int .i64 k, .int .i64 a.T, .int .i64 a.R] [.int .i64 0, .int .i64 0] ([.int .i64 0, .int .i64 0, Value.string (str [])] ++ bv zID.1 ++ [Value.slice none 0 0]) [.int .i64 s.T, .int .i64 s.R] 2 (.agg (codS.A s)) [(3, .agg (codS.A t)), (4, .string (str m))] (by rw [A_SS]; rfl) (by simpa using p2) rfl
    refine Eq.trans ?_ (e1.trans ?_)
    · simp
    have e2 := fill_one place [.int .i64 k, .int .i64 a.T, .int .i64 a.R, .int .i64 s.T, .int .i64 s.R] [.int .i64 0, .int .i64 0] ([Value.string (str [])] ++ bv zID.1 ++ [Value.slice none 0 0]) [.int .i64 t.T, .int .i64 t.R] 3 (.agg (codS.A t)) [(4, .string (str m))] (by rw [A_SS]; rfl) (by simpa using p3) rfl
    refine Eq.trans ?_ (e2.trans ?_)
    · simp
    have e3 := fill_one place [.int .i64 k, .int .i64 a.T, .int .i64 a.R, .int .i64 s.T, .int .i64 s.R, .int .i64 t.T, .int .i64 t.R] [Value.string (str [])] (bv zID.1 ++ [Value.slice none 0 0]) [.string (str m)] 4 (.string (str m)) [] rfl (by simpa using p4) rfl
    refine Eq.trans ?_ (e3.trans ?_)
    · simp
    · simp [Instr.fill, codO, csO, zOpW, zSt]
  have hz : (zeroValue 42).run Tryz.prog w = .ok (.agg (codO.cs codO.z).toArray) w := okO.zero w
  simp only [Instr.build, Sem.run_bind, hz, Result.andThen_ok, run_underlying Tryz.underlying42, zO_form]
  simp only [List.mapM_toArray, List.mapM_cons, List.mapM_nil, Sem.run_bind, Tryz.sizeOf3, Tryz.sizeOf39, Tryz.sizeOf40, Tryz.sizeOf9, Tryz.sizeOf30, Result.andThen_ok, Sem.run_pure, Sem.run_map, map_pure, bind_pure_comp]
  rw [h1 _ rfl rfl rfl rfl rfl]
  simp [Cod.A_eq]
@[simp ↓] theorem ex_bldOm5 (ρ : Operand → Value) (x0 x1 x2 x3 x4 : Operand) (d : Option Nat) (t : TypeId) (p : String) (f : Array Edge) (g : Option (Nat × Bool)) (w : World) :
    (execOp ρ { dst := d, op := .build 42 #[(0, x0), (1, x1), (2, x2), (3, x3), (4, x4)], type := t, pos := p, after := f, guard := g }).run Tryz.prog w = mkB 42 w [(0, ρ x0), (1, ρ x1), (2, ρ x2), (3, ρ x3), (4, ρ x4)] := (exB ρ _ _ _ rfl w).trans (by simp only [List.map_toArray, List.map_cons, List.map_nil])
@[simp] theorem mkB_Om5 (w : World) (k : Int) (a s t : St) (m : List UInt8) : mkB 42 w [(0, .int .i64 k), (1, .agg (codS.A a)), (2, .agg (codS.A s)), (3, .agg (codS.A t)), (4, .string (str m))] = .ok (.value (.agg (codO.A { zOpW with Kind := k, At := a, Node := s, Parent := t, Name := m }))) w := mkB_ok (bldO_m5 w k a s t m)
/-- a move, as it lies in memory, and as a value -/
def mvW (a s t : St) (m : List UInt8) : OpW := { zOpW with Kind := 1, At := a, Node := s, Parent := t, Name := m }
def mvP (a s t : St) (m : List UInt8) : Opn := ⟨1, a, s, t, m, zID, []⟩
theorem mv_in (w : World) (a s t : St) (m : List UInt8) (h : m.length ≤ 140737488355328) : OpIn w (mvW a s t m) (mvP a s t m) := ⟨rfl, rfl, Sl.nil _ _, by simp [mvP], h⟩
def MvTo12 (w : World) (r : OpW) (e : Ending) (w' : World) : Prop := e = .returned (.agg (codO.A r)) ∧ Fr noB w w'
/-- an operation that comes between -/
theorem filter_split {L1 L2 : List Opn} {s : St} (h1 : ∀ p ∈ L1, cmpS p.At s < 0) (h2 : ∀ p ∈ L2, cmpS s p.At < 0) : (L1 ++ L2).filter (fun p => decide (cmpS p.At s < 0)) = L1 := by
  rw [List.filter_append, List.filter_eq_self.2 (fun p hp => by simpa using h1 p hp), List.filter_eq_nil_iff.2 (fun p hp => by
    have := h2 p hp
    have e := cmpS_flip s p.At
    simp only [decide_eq_true_eq]
    omega), List.append_nil]
theorem InsP.mid {M1 M2 L' : List Opn} {o : Opn} {u E u' : Int} (h : InsP (M1 ++ M2) o u E L' u') (hg : goodOp o = true) (h1 : ∀ p ∈ M1, cmpS p.At o.At < 0) (h2 : ∀ p ∈ M2, cmpS o.At p.At < 0) : E = 0 ∧ L' = M1 ++ o :: M2 ∧ u' = (M2.length : Int) := by
  rcases h with ⟨h, _⟩ | ⟨_, p, hp, he, _⟩ | ⟨_, hE, L1, L2, hL, hL', h3, h4, hu⟩
  · rw [hg] at h; cases h
  · exfalso
    rcases List.mem_append.1 hp with hp | hp
    · have := h1 p hp
      rw [he, cmpS_self] at this
      omega
    · have := h2 p hp
      rw [he, cmpS_self] at this
      omega
  · have e1 : M1 = L1 := by rw [← filter_split h1 h2, hL, filter_split h3 h4]
    subst e1
    have e2 := List.append_cancel_left hL
    subst e2
    exact ⟨hE, hL', hu⟩
theorem InsP.srt {L L' : List Opn} {o : Opn} {u E u' : Int} (h : InsP L o u E L' u') (hs : SrtL L) : SrtL L' := by
  rcases h with ⟨_, _, rfl, _⟩ | ⟨_, p, hp, he, h⟩ | ⟨_, hE, L1, L2, rfl, rfl, h3, h4, hu⟩
  · exact hs
  · rcases h with ⟨_, _, rfl, _⟩ | ⟨_, _, rfl, _⟩ <;> exact hs
  · unfold SrtL at hs ⊢
    rw [List.pairwise_append] at hs ⊢
    obtain ⟨s1, s2, s3⟩ := hs
    refine ⟨s1, List.pairwise_cons.2 ⟨h4, s2⟩, fun a ha c hc => ?_⟩
    rcases List.mem_cons.1 hc with rfl | hc
    · exact h3 a ha
    · exact s3 a ha c hc
theorem InsP.len {L L' : List Opn} {o : Opn} {u E u' : Int} (h : InsP L o u E L' u') : L'.length ≤ L.length + 1 := by
  rcases h with ⟨_, _, rfl, _⟩ | ⟨_, p, hp, he, h⟩ | ⟨_, hE, L1, L2, rfl, rfl, h3, h4, hu⟩
  · omega
  · rcases h with ⟨_, _, rfl, _⟩ | ⟨_, _, rfl, _⟩ <;> omega
  · simp only [List.length_append, List.length_cons]; omega
theorem InsP.mem {L L' : List Opn} {o : Opn} {u E u' : Int} (h : InsP L o u E L' u') : ∀ p ∈ L', p ∈ L ∨ p = o := by
  rcases h with ⟨_, _, rfl, _⟩ | ⟨_, p, hp, he, h⟩ | ⟨_, hE, L1, L2, rfl, rfl, h3, h4, hu⟩
  · exact fun p hp => .inl hp
  · rcases h with ⟨_, _, rfl, _⟩ | ⟨_, _, rfl, _⟩ <;> exact fun p hp => .inl hp
  · intro p hp
    simp only [List.mem_append, List.mem_cons] at hp ⊢
    rcases hp with hp | rfl | hp
    · exact .inl (.inl hp)
    · exact .inr rfl
    · exact .inl (.inr hp)
theorem off_ins {b P : Nat} {t t' : TrW} {w : World} (hP : ¬ trM b t P) (hlt : P < w.heap.size) (hm : t'.m = t.m) (hA : t'.A.map (·.block) = t.A.map (·.block) ∨ ∀ g, t'.A.map (·.block) = some g → w.heap.size ≤ g) : ¬ trM b t' P := by
  rintro (h | h | h)
  · exact hP (.inl h)
  · exact hP (.inr (.inl (h.trans hm)))
  · rcases hA with e | e
    · exact hP (.inr (.inr (e ▸ h)))
    · have := e _ h
      omega
def InOk (base : Nat) (w : World) (b : Nat) (t : TrW) (L' : List Opn) (u : Int) (e : Ending) (w' : World) : Prop :=
  ∃ t' : TrW, e = .returned (.int .i64 0) ∧ GvS base w' b t' L' ∧ t'.u = u ∧ (∀ P, P < w.heap.size → ¬ trM b t P → ¬ trM b t' P) ∧ Fr (trM b t) w w'
theorem gvIns_mid {base : Nat} {w : World} {b : Nat} {t : TrW} (M1 M2 : List Opn) (hS : GvS base w b t (M1 ++ M2)) (hsrt : SrtL (M1 ++ M2)) (hL : (M1 ++ M2).length ≤ 100000) (r : OpW) (o : Opn) (ho : OpIn w r o) (hov : o.Over.length ≤ 1000000) (hg : goodOp o = true) (h1 : ∀ p ∈ M1, cmpS p.At o.At < 0) (h2 : ∀ p ∈ M2, cmpS o.At p.At < 0) :
    Calls Tryz.prog 11 #[.pointer (some ⟨b, 0, none⟩), .agg (codO.A r)] w (InOk base w b t (M1 ++ o :: M2) (M2.length : Int)) := by
  refine (gvInsert_any base w b t _ hS hsrt hL r o ho hov).mono ?_
  rintro e w' ⟨E, t', L', rfl, h3, h4, h5, h6, h7⟩
  obtain ⟨rfl, rfl, hu⟩ := h7.mid hg h1 h2
  exact ⟨t', rfl, h3, hu, fun P hP hP2 => off_ins hP2 hP h4 h5, h6⟩
def aA : St := ⟨1, 1⟩
def aB : St := ⟨2, 1⟩
def am1 : Opn := mvP aA aA zSt [97]
def am2 : Opn := mvP aB aB aA [98]
def am3 : Opn := mvP ⟨3, 1⟩ aA aB [97]
def am4 : Opn := mvP ⟨2, 2⟩ aB zSt [98]
theorem am_row3 : findR (runX [] [am1, am2, am3]) aA = some ⟨aA, zSt, aA, [97], []⟩ := rfl
theorem am_run4 : runX [] [am1, am2, am4, am3] = [⟨aA, aB, ⟨3, 1⟩, [97], []⟩, ⟨aB, zSt, ⟨2, 2⟩, [98], []⟩] := rfl
theorem rise_uniq {xs ys : List RwP} (h : ys.Perm xs) (h1 : ys.Pairwise fun a b => cmpS a.Node b.Node < 0) (h2 : xs.Pairwise fun a b => cmpS a.Node b.Node < 0) : ys = xs := by
  refine h.eq_of_pairwise (le := fun a b : RwP => cmpS a.Node b.Node < 0) (fun a b _ _ hab hba => ?_) h1 h2
  have := cmpS_flip a.Node b.Node
  omega
/-- what is new is no part of a tree that was there -/
theorem GvS.off {base : Nat} {w : World} {b : Nat} {t : TrW} {L : List Opn} (h : GvS base w b t L) {P : Nat} (hP : w.heap.size ≤ P) : ¬ trM b t P := by
  rintro (rfl | rfl | h1)
  · have := Blk.lt h.tr
    omega
  · obtain ⟨_, h1, _⟩ := h.rows
    have := mpT_lt h1
    omega
  · obtain ⟨ds, _, h2, _⟩ := h.log
    have := World.ownsRow.lt h2 P (by rw [ownBlock_sl']; exact h1)
    omega
theorem GvS.base {base : Nat} {w : World} {b : Nat} {t : TrW} {L : List Opn} (h : GvS base w b t L) {q : Nat} (hq : trM b t q) : base ≤ q := by
  rcases hq with rfl | rfl | h1
  · exact h.bb
  · exact h.mm
  · obtain ⟨ds, _, h2, _⟩ := h.log
    exact (own_blk h2 h1).1
theorem GvS.frR {base : Nat} {w w' : World} {b : Nat} {t : TrW} {L : List Opn} (h : GvS base w b t L) {R : Nat} {r : RwW} (hb : codR.bxd w R = some r) (f : Fr (oneB R) w w') (ho : ¬ trM b t R) : GvS base w' b t L :=
  h.fr f (NoHS.blk (Cod.bxd_blk hb) (by decide) (by decide)) (fun e => ho (.inl e.symm)) (fun e => ho (.inr (.inl e.symm))) (fun g hg e => ho (.inr (.inr (by rw [hg, show g = R from e]))))
end Go.Proofs.YtefcalkbfaefgaaGreat
namespace Go.Proofs.YtefcalkbfaefgaaGreat
set_option linter.unusedVariables false
set_option linter.unusedSimpArgs false

theorem findR_perm {xs ys : List RwP} (hp : ys.Perm xs) (nd : (xs.map (·.Node)).Nodup) (s : St) : findR ys s = findR xs s := by
  have nd' : (ys.map (·.Node)).Nodup := (hp.map _).nodup_iff.2 nd
  cases h : findR xs s with
  | none =>
    rw [findR_none] at h ⊢
    exact fun r hr => h r (hp.mem_iff.1 hr)
  | some r =>
    obtain ⟨h1, h2⟩ := findR_some h
    rw [← h2]
    exact findR_mem nd' (hp.mem_iff.2 h1)
theorem liesN_perm {xs ys : List RwP} (hp : ys.Perm xs) (nd : (xs.map (·.Node)).Nodup) : ∀ (k : Nat) (s p : St), liesN ys k s p = liesN xs k s p
  | 0, _, _ => rfl
  | k + 1, s, p => by
    unfold liesN
    rw [findR_perm hp nd s]
    cases findR xs s with
    | none => rfl
    | some r => simp only; rw [liesN_perm hp nd k]
theorem liesR_perm {xs ys : List RwP} (hp : ys.Perm xs) (nd : (xs.map (·.Node)).Nodup) (s p : St) : liesR ys s p = liesR xs s p := by
  unfold liesR
  rw [hp.length_eq, liesN_perm hp nd]
theorem liesN_none {xs : List RwP} {s : St} (h : findR xs s = none) (n : Nat) (p : St) : liesN xs n s p = false := by
  cases n with
  | zero => rfl
  | succ n => unfold liesN; rw [h]
theorem liesN_some {xs : List RwP} {s : St} {r : RwP} (h : findR xs s = some r) (n : Nat) (p : St) : liesN xs (n + 1) s p = (decide (r.Parent = p) || liesN xs n r.Parent p) := by
  conv => lhs; unfold liesN
  rw [h]
theorem GvT.root {xs : List RwP} (h : GvT xs) {s : St} (hs : s.T = 0) : findR xs s = none := by
  rw [findR_none]
  rintro r hr rfl
  exact rightS_T (h.rt r hr) hs
theorem lies_down {xs : List RwP} (h : GvT xs) : ∀ (n : Nat) (s p : St) (k : Nat), reach xs k s = true → s.T ≠ 0 → liesN xs n s p = true → ∃ j, j < k ∧ reach xs j p = true
  | 0, s, p, k, _, _, hl => by cases hl
  | n + 1, s, p, k, hr, hs, hl => by
    rcases reach_inv hr with hf | ⟨j, r, rfl, hf, hr'⟩
    · exact absurd (fixedS_T hf) hs
    · rw [liesN_some hf, Bool.or_eq_true, decide_eq_true_eq] at hl
      rcases hl with rfl | hl
      · exact ⟨j, by omega, hr'⟩
      · by_cases h0 : r.Parent.T = 0
        · rw [liesN_none (h.root h0)] at hl; cases hl
        · obtain ⟨i, h1, h2⟩ := lies_down h n r.Parent p j hr' h0 hl
          exact ⟨i, by omega, h2⟩
/-- no node lies under itself -/
theorem lies_self {xs : List RwP} (h : GvT xs) {s : St} (hs : s.T ≠ 0) (n : Nat) {k : Nat} (hr : reach xs k s = true) : liesN xs n s s = false := by
  cases hl : liesN xs n s s with
  | false => rfl
  | true =>
    exfalso
    have : ∀ k, reach xs k s = true → False := by
      intro k
      induction k using Nat.strongRecOn with
      | ind k ih =>
        intro hk
        obtain ⟨j, h1, h2⟩ := lies_down h n s s k hk hs hl
        exact ih j h1 h2
    exact this k hr
theorem fixedS_or {s : St} (h : fixedS s = true) : s = zSt ∨ s = trS := by
  unfold fixedS at h
  simp only [Bool.and_eq_true, Bool.or_eq_true, decide_eq_true_eq] at h
  cases s with | mk t r =>
  simp only at h
  obtain ⟨rfl, rfl | rfl⟩ := h
  · exact .inl rfl
  · exact .inr rfl
/-- each node lies under the root, or under the trash -/
theorem lies_one {xs : List RwP} (h : GvT xs) : ∀ (n : Nat) (s : St), reach xs n s = true → s.T ≠ 0 → liesN xs n s trS = !liesN xs n s zSt
  | 0, s, hr, hs => absurd (fixedS_T hr) hs
  | n + 1, s, hr, hs => by
    rcases reach_inv hr with hf | ⟨j, r, hj, hf, hr'⟩
    · exact absurd (fixedS_T hf) hs
    · obtain rfl : j = n := by omega
      rw [liesN_some hf, liesN_some hf]
      by_cases h0 : r.Parent.T = 0
      · rw [liesN_none (h.root h0), liesN_none (h.root h0)]
        have hfx : fixedS r.Parent = true := by
          rcases okP_or (h.pr r (findR_some hf).1) with h1 | h1
          · exact h1
          · exact absurd h0 h1
        rcases fixedS_or hfx with e | e <;> rw [e] <;> decide
      · have e1 : r.Parent ≠ zSt := fun e => h0 (by rw [e]; rfl)
        have e2 : r.Parent ≠ trS := fun e => h0 (by rw [e]; rfl)
        rw [decide_eq_false e1, decide_eq_false e2, Bool.false_or, Bool.false_or]
        exact lies_one h j r.Parent hr' h0
/-- a row comes of a move -/
def FromL (L : List Opn) (x : RwP) : Prop := ∃ o ∈ L, o.Kind = 1 ∧ o.At = x.At ∧ o.Node = x.Node ∧ o.Parent = x.Parent ∧ o.Name = x.Name
theorem doX_from {xs : List RwP} {L : List Opn} (h : ∀ x ∈ xs, FromL L x) (o : Opn) : ∀ x ∈ doX xs o, FromL (L ++ [o]) x := by
  have hm : ∀ x ∈ xs, FromL (L ++ [o]) x := fun x hx => by
    obtain ⟨p, hp, hq⟩ := h x hx
    exact ⟨p, by simp [hp], hq⟩
  unfold doX
  cases hn : newR xs o with
  | none => exact hm
  | some r =>
    intro x hx
    rcases mem_put hx with rfl | ⟨hx, _⟩
    · unfold newR at hn
      split at hn
      · rename_i hk
        split at hn
        · cases hn
        · injection hn with hn
          rw [← hn]
          exact ⟨o, by simp, hk, rfl, rfl, rfl, rfl⟩
      · cases hf : findR xs o.Node with
        | none => rw [hf] at hn; cases hn
        | some q =>
          rw [hf] at hn
          injection hn with hn
          rw [← hn]
          obtain ⟨p, hp, h1, h2, h3, h4, h5⟩ := hm q (findR_some hf).1
          exact ⟨p, hp, h1, h2, h3, h4, h5⟩
    · exact hm x hx
theorem runX_from : ∀ {xs : List RwP} {M : List Opn} (L : List Opn), (∀ x ∈ xs, FromL M x) → ∀ x ∈ runX xs L, FromL (M ++ L) x
  | xs, M, [], h => by simpa [runX] using h
  | xs, M, o :: L, h => by
    have := runX_from (M := M ++ [o]) L (doX_from h o)
    simpa [runX] using this
/-- heads rise, all of them no later than m -/
def HdsUp (m : St → Prop) (l : List Hd) : Prop := l.Pairwise (fun a b => cmpS a.At b.At < 0) ∧ ∀ h ∈ l, m h.At
theorem doX_hds {xs : List RwP} {m m' : St → Prop} {o : Opn} (h : ∀ x ∈ xs, HdsUp m x.Heads) (h1 : ∀ s, m s → m' s) (h2 : m' o.At) (h3 : ∀ s, m s → cmpS s o.At < 0) : ∀ x ∈ doX xs o, HdsUp m' x.Heads := by
  have hm : ∀ x ∈ xs, HdsUp m' x.Heads := fun x hx => ⟨(h x hx).1, fun a ha => h1 _ ((h x hx).2 a ha)⟩
  unfold doX
  cases hn : newR xs o with
  | none => exact hm
  | some r =>
    intro x hx
    rcases mem_put hx with rfl | ⟨hx, _⟩
    · unfold newR at hn
      split at hn
      · split at hn
        · cases hn
        · injection hn with hn
          rw [← hn]
          show HdsUp m' (hdsR xs o.Node)
          unfold hdsR
          cases hf : findR xs o.Node with
          | none => exact ⟨.nil, by simp⟩
          | some q => exact hm q (findR_some hf).1
      · cases hf : findR xs o.Node with
        | none => rw [hf] at hn; cases hn
        | some q =>
          rw [hf] at hn
          injection hn with hn
          rw [← hn]
          have hq := h q (findR_some hf).1
          show HdsUp m' (leftH o.Over q.Heads ++ [⟨o.At, o.Data⟩])
          refine ⟨List.pairwise_append.2 ⟨hq.1.sublist List.filter_sublist, by simp, fun a ha b hb => ?_⟩, fun a ha => ?_⟩
          · rw [List.mem_singleton] at hb
            subst hb
            exact h3 _ (hq.2 a (List.mem_filter.1 ha).1)
          · rcases List.mem_append.1 ha with ha | ha
            · exact h1 _ (hq.2 a (List.mem_filter.1 ha).1)
            · rw [List.mem_singleton] at ha
              subst ha
              exact h2
    · exact hm x hx
theorem runX_hds : ∀ {xs : List RwP} {M : List Opn} (L : List Opn), SrtL (M ++ L) → (∀ x ∈ xs, HdsUp (fun s => ∃ o ∈ M, o.At = s) x.Heads) → ∀ x ∈ runX xs L, HdsUp (fun s => ∃ o ∈ M ++ L, o.At = s) x.Heads
  | xs, M, [], _, h => by simpa [runX] using h
  | xs, M, o :: L, hs, h => by
    have hs' : SrtL ((M ++ [o]) ++ L) := by simpa using hs
    have h1 := doX_hds (o := o) (m' := fun s => ∃ p ∈ M ++ [o], p.At = s) h (fun s ⟨p, hp, e⟩ => ⟨p, by simp [hp], e⟩) ⟨o, by simp, rfl⟩ (fun s ⟨p, hp, e⟩ => by
      unfold SrtL at hs
      rw [List.pairwise_append] at hs
      rw [← e]
      exact hs.2.2 p hp o (by simp))
    have := runX_hds (M := M ++ [o]) L hs' h1
    simpa [runX] using this
theorem sum_zero {α : Type} {l : List α} {f : α → Nat} (h : ∀ x ∈ l, f x = 0) : (l.map f).sum = 0 := by
  induction l with
  | nil => rfl
  | cons a l ih => rw [List.map_cons, List.sum_cons, h a (by simp), ih fun x hx => h x (by simp [hx])]
/-- kids, counted place by place -/
theorem count_one {P : List St} (nd : P.Nodup) {s : St} (h : s ∈ P) : (P.map fun p => if s = p then 1 else 0).sum = 1 := by
  induction P with
  | nil => cases h
  | cons p P ih =>
    rw [List.nodup_cons] at nd
    rw [List.map_cons, List.sum_cons]
    by_cases e : s = p
    · subst e
      have : (P.map fun p => if s = p then 1 else 0).sum = 0 := by
        refine sum_zero fun q hq => ?_
        rw [if_neg (by rintro rfl; exact nd.1 hq)]
      rw [this, if_pos rfl]
    · rw [if_neg e, ih nd.2 (by rcases List.mem_cons.1 h with h | h; · exact absurd h e
                                · exact h)]
theorem sum_add {α : Type} (l : List α) (f g : α → Nat) : (l.map fun x => f x + g x).sum = (l.map f).sum + (l.map g).sum := by
  induction l with
  | nil => rfl
  | cons a l ih => simp only [List.map_cons, List.sum_cons, ih]; omega
theorem kids_sum {P : List St} (nd : P.Nodup) : ∀ (xs : List RwP), (∀ x ∈ xs, x.Parent ∈ P) → (P.map fun p => (kidsR p xs).length).sum = xs.length
  | [], _ => by
    exact sum_zero fun q hq => rfl
  | x :: xs, h => by
    have ih := kids_sum nd xs fun y hy => h y (by simp [hy])
    have e : (fun p => (kidsR p (x :: xs)).length) = fun p => (if x.Parent = p then 1 else 0) + (kidsR p xs).length := funext fun p => by
      unfold kidsR
      rw [List.filter_cons]
      by_cases hp : x.Parent = p
      · simp [hp]; omega
      · simp [hp]
    rw [e, sum_add, count_one nd (h x (by simp)), ih, List.length_cons]
    omega
theorem GvT.places {xs : List RwP} (h : GvT xs) : (zSt :: trS :: xs.map (·.Node)).Nodup ∧ ∀ x ∈ xs, x.Parent ∈ zSt :: trS :: xs.map (·.Node) := by
  constructor
  · rw [List.nodup_cons, List.nodup_cons]
    refine ⟨fun hm => ?_, fun hm => ?_, h.nd⟩
    · rcases List.mem_cons.1 hm with hm | hm
      · exact absurd hm (by decide)
      · obtain ⟨x, hx, e⟩ := List.mem_map.1 hm
        exact rightS_T (h.rt x hx) (by rw [e]; rfl)
    · obtain ⟨x, hx, e⟩ := List.mem_map.1 hm
      exact rightS_T (h.rt x hx) (by rw [e]; rfl)
  · intro x hx
    obtain ⟨k, hk⟩ := h.up x hx
    rcases reach_inv hk with hf | ⟨j, r, hj, hf, hr⟩
    · exact absurd (fixedS_T hf) (rightS_T (h.rt x hx))
    · rw [findR_mem h.nd hx] at hf
      injection hf with hf
      subst hf
      rcases reach_inv hr with hf | ⟨_, r, _, hf, _⟩
      · rcases fixedS_or hf with e | e <;> simp [e]
      · obtain ⟨h1, h2⟩ := findR_some hf
        have : x.Parent ∈ xs.map (·.Node) := List.mem_map.2 ⟨r, h1, h2⟩
        simp [this]
theorem GvT.count {xs ys : List RwP} (h : GvT xs) (hp : ys.Perm xs) : (kidsR zSt xs).length + (kidsR trS xs).length + (ys.map fun y => (kidsR y.Node xs).length).sum = ys.length := by
  have := kids_sum h.places.1 xs h.places.2
  rw [List.map_cons, List.map_cons, List.sum_cons, List.sum_cons, List.map_map] at this
  have e : (ys.map fun y => (kidsR y.Node xs).length).sum = (xs.map ((fun p => (kidsR p xs).length) ∘ fun x => x.Node)).sum := (hp.map _).sum_nat
  rw [e, hp.length_eq]
  omega
end Go.Proofs.YtefcalkbfaefgaaGreat
namespace Go.Proofs.YtefcalkbfaefgaaGreat
set_option linter.unusedVariables false
set_option linter.unusedSimpArgs false

/-- whose heads come of edits of this node -/
def FromH (L : List Opn) (x : RwP) : Prop := ∀ h ∈ x.Heads, ∃ o ∈ L, o.Kind ≠ 1 ∧ o.At = h.At ∧ o.Node = x.Node ∧ o.Data = h.Data
theorem doX_fromH {xs : List RwP} {L : List Opn} (h : ∀ x ∈ xs, FromH L x) (o : Opn) : ∀ x ∈ doX xs o, FromH (L ++ [o]) x := by
  have hm : ∀ x ∈ xs, FromH (L ++ [o]) x := fun x hx a ha => by
    obtain ⟨p, hp, hq⟩ := h x hx a ha
    exact ⟨p, by simp [hp], hq⟩
  unfold doX
  cases hn : newR xs o with
  | none => exact hm
  | some r =>
    intro x hx
    rcases mem_put hx with rfl | ⟨hx, _⟩
    · unfold newR at hn
      split at hn
      · split at hn
        · cases hn
        · injection hn with hn
          rw [← hn]
          intro a ha
          have ha' : a ∈ hdsR xs o.Node := ha
          unfold hdsR at ha'
          cases hf : findR xs o.Node with
          | none => rw [hf] at ha'; cases ha'
          | some q =>
            rw [hf] at ha'
            obtain ⟨h1, h2⟩ := findR_some hf
            obtain ⟨p, hp, e1, e2, e3, e4⟩ := hm q h1 a ha'
            exact ⟨p, hp, e1, e2, e3.trans h2, e4⟩
      · rename_i hk
        cases hf : findR xs o.Node with
        | none => rw [hf] at hn; cases hn
        | some q =>
          rw [hf] at hn
          injection hn with hn
          rw [← hn]
          obtain ⟨h1, h2⟩ := findR_some hf
          intro a ha
          rcases List.mem_append.1 ha with ha | ha
          · exact hm q h1 a (List.mem_filter.1 ha).1
          · rw [List.mem_singleton] at ha
            subst ha
            exact ⟨o, by simp, hk, rfl, h2.symm, rfl⟩
    · exact hm x hx
theorem runX_fromH : ∀ {xs : List RwP} {M : List Opn} (L : List Opn), (∀ x ∈ xs, FromH M x) → ∀ x ∈ runX xs L, FromH (M ++ L) x
  | xs, M, [], h => by simpa [runX] using h
  | xs, M, o :: L, h => by
    have := runX_fromH (M := M ++ [o]) L (doX_fromH h o)
    simpa [runX] using this
theorem cmpS_lt {a b : St} (h : a.T < b.T) : cmpS a b < 0 := by
  unfold cmpS
  rw [if_pos h]
  decide
theorem cmpS_T {a b : St} (h : cmpS a b ≤ 0) : a.T ≤ b.T := by
  unfold cmpS at h
  repeat' split at h
  all_goals omega
theorem cmpS_T' {a b : St} (h : cmpS a b < 0) : a.T ≤ b.T := cmpS_T (Int.le_of_lt h)
/-- a row of right operations, none later than N -/
structure RwG (N : Int) (y : RwP) : Prop where
  nd : rightS y.Node = true
  at_ : rightS y.At = true
  an : cmpS y.Node y.At ≤ 0
  nt : y.At.T ≤ N
  pr : okP y.Parent = true
  nm : nameOk y.Name = true
  hd : ∀ h ∈ y.Heads, rightS h.At = true ∧ cmpS y.Node h.At < 0 ∧ h.At.T ≤ N ∧ h.Data ≠ zID
  hr : y.Heads.Pairwise fun a b => cmpS a.At b.At < 0
  hl : y.Heads.length ≤ 200
theorem RwG.nodeT {N : Int} {y : RwP} (h : RwG N y) : y.Node.T ≤ N := Int.le_trans (cmpS_T h.an) h.nt
theorem run_RwG {L : List Opn} {N : Int} (hok : ∀ o ∈ L, goodOp o = true) (hs : SrtL L) (hl : L.length ≤ 200) (hT : ∀ o ∈ L, o.At.T ≤ N) : ∀ y ∈ runX [] L, RwG N y := by
  intro y hy
  have h1 := runX_from (M := []) L (fun x hx => by cases hx) y hy
  have h2 := runX_hds (M := []) L (by simpa using hs) (fun x hx => by cases hx) y hy
  have h3 := runX_fromH (M := []) L (fun x hx => by cases hx) y hy
  have h4 := runX_heads L [] 0 (fun x hx => by cases hx) y hy
  simp only [List.nil_append] at h1 h2 h3
  obtain ⟨o, ho, hk, e1, e2, e3, e4⟩ := h1
  have hg := hok o ho
  obtain ⟨g1, g2, _⟩ := goodOp_at hg
  obtain ⟨m1, m2, m3, _⟩ := goodOp_move hg hk
  refine ⟨by rw [← e2]; exact g2, by rw [← e1]; exact g1, by rw [← e1, ← e2]; exact m3, by rw [← e1]; exact hT o ho, by rw [← e3]; exact m1, by rw [← e4]; exact m2, fun h hh => ?_, h2.1, by omega⟩
  obtain ⟨p, hp, k1, k2, k3, k4⟩ := h3 h hh
  have hg := hok p hp
  obtain ⟨g1, _, hk | hk⟩ := goodOp_at hg
  · exact absurd hk k1
  · have hg' := hg
    unfold goodOp at hg'
    rw [if_neg (by omega), if_pos hk] at hg'
    unfold editOk at hg'
    simp only [Bool.and_eq_true, decide_eq_true_eq] at hg'
    refine ⟨by rw [← k2]; exact g1, by rw [← k2, ← k3]; exact hg'.2.1.1.1.1.1.1, by rw [← k2]; exact hT p hp, by rw [← k4]; exact hg'.2.1.1.1.2⟩
theorem RwG.right {N : Int} {y : RwP} (h : RwG N y) (hN : N < 1099511627776) : rightR y = true := by
  have h1 : rightIt (itR y zID) = true := by
    unfold rightIt itR
    simp only [Bool.and_eq_true, decide_eq_true_eq]
    refine ⟨⟨⟨⟨⟨⟨h.nd, h.at_⟩, ?_⟩, h.nm⟩, by have := h.hl; omega⟩, ?_⟩, ?_⟩
    · have := h.an
      rw [cmpS_flip] at this
      omega
    · rw [List.all_eq_true]
      intro a ha
      obtain ⟨a1, a2, a3, a4⟩ := h.hd a ha
      simp only [Bool.and_eq_true, decide_eq_true_eq]
      refine ⟨⟨a1, ?_⟩, a4⟩
      rw [cmpS_flip] at a2
      omega
    · exact (riseB_pw (fun a b : Hd => cmpS a.At b.At) (fun _ _ _ => cmpS_trans) _).2 h.hr
  have h2 : y.Node ≠ lastS := fun e => by
    have := h.nodeT
    rw [e] at this
    have h3 : lastS.T = 1099511627776 := rfl
    omega
  unfold rightR rightDr
  simp [h1, h2, riseB]
structure RowsG (N : Int) (ys : List RwP) : Prop where
  len : ys.length ≤ 60
  row : ∀ y ∈ ys, RwG N y
  few : ∀ y ∈ ys, y.Heads.length ≤ 60
  rise : ys.Pairwise fun a b => cmpS a.Node b.Node < 0
  gv : GvT ys
theorem reach_perm {xs ys : List RwP} (hp : ys.Perm xs) (nd : (xs.map (·.Node)).Nodup) : ∀ (k : Nat) (s : St), reach ys k s = reach xs k s
  | 0, s => rfl
  | k + 1, s => by
    unfold reach
    rw [findR_perm hp nd]
    cases findR xs s with
    | none => rfl
    | some r => simp only [reach_perm hp nd k]
theorem GvT.perm {xs ys : List RwP} (h : GvT xs) (hp : ys.Perm xs) : GvT ys :=
  ⟨⟨(hp.map _).nodup_iff.2 h.nd, fun x hx => h.rt x (hp.mem_iff.1 hx), fun x hx => by
    obtain ⟨k, hk⟩ := h.up x (hp.mem_iff.1 hx)
    exact ⟨k, by rw [reach_perm hp h.nd]; exact hk⟩⟩, fun x hx => h.pr x (hp.mem_iff.1 hx)⟩
theorem rows_g {L : List Opn} {N : Int} (hok : ∀ o ∈ L, goodOp o = true) (hs : SrtL L) (hl : L.length ≤ 60) (hT : ∀ o ∈ L, o.At.T ≤ N) (hg : GvT (runX [] L)) {ys : List RwP} (hp : ys.Perm (runX [] L)) (hr : ys.Pairwise fun a b => cmpS a.Node b.Node < 0) : RowsG N ys :=
  ⟨by rw [hp.length_eq]; have := runX_len [] L; simp only [List.length_nil] at this; omega, fun y hy => run_RwG hok hs (by omega) hT y (hp.mem_iff.1 hy), fun y hy => by have := runX_heads L [] 0 (fun x hx => by cases hx) y (hp.mem_iff.1 hy); omega, hr, hg.perm hp⟩
theorem RowsG.tree {N : Int} {ys : List RwP} (h : RowsG N ys) (hN : N < 1099511627776) : TreeOk ys :=
  ⟨by have := h.len; omega, fun r hr => (h.row r hr).right hN, (riseB_pw (fun a b : RwP => cmpS a.Node b.Node) (fun _ _ _ => cmpS_trans) ys).2 h.rise, h.gv.up⟩
theorem tree_g {L : List Opn} {N : Int} (hok : ∀ o ∈ L, goodOp o = true) (hs : SrtL L) (hl : L.length ≤ 200) (hT : ∀ o ∈ L, o.At.T ≤ N) (hN : N < 1099511627776) (hg : GvT (runX [] L)) {ys : List RwP} (hp : ys.Perm (runX [] L)) (hr : ys.Pairwise fun a b => cmpS a.Node b.Node < 0) : TreeOk ys :=
  ⟨by rw [hp.length_eq]; have := runX_len [] L; simp only [List.length_nil] at this; omega, fun y hy => (run_RwG hok hs hl hT y (hp.mem_iff.1 hy)).right hN, (riseB_pw (fun a b : RwP => cmpS a.Node b.Node) (fun _ _ _ => cmpS_trans) ys).2 hr, (hg.perm hp).up⟩
theorem RowsG.nil (N : Int) : RowsG N [] := ⟨by simp, by simp, by simp, by simp, GvT.nil⟩
/-! the operations are right -/
theorem good_num : ∀ {s : St} {l : List Opn}, (∀ o ∈ l, ∀ i : Nat, i < l.length → goodOp { o with At := ⟨s.T + i, s.R⟩ } = true) → ∀ o ∈ numS s l, goodOp o = true := by
  intro s l h o ho
  obtain ⟨i, hi, rfl⟩ := List.getElem_of_mem ho
  have hi' : i < l.length := by rw [numS_len] at hi; exact hi
  rw [numS_get s l i hi']
  exact h _ (List.getElem_mem hi') i hi'
theorem right_at {s : St} {i : Nat} (h1 : rightS s = true) (h2 : s.T + i ≤ 1099511627776) : rightS ⟨s.T + i, s.R⟩ = true := by
  unfold rightS at h1 ⊢
  simp only [Bool.and_eq_true, decide_eq_true_eq] at h1 ⊢
  omega
theorem mv_good {N : Int} {y : RwP} (h : RwG N y) {s : St} (hs : rightS s = true) (hN : N < s.T) : goodOp { mvO y with At := s } = true := by
  unfold goodOp
  rw [if_pos (show ({ mvO y with At := s } : Opn).Kind = 1 from rfl)]
  unfold moveOk
  have h1 : cmpS y.Node s < 0 := cmpS_lt (by have := h.nodeT; omega)
  have h2 := h.pr
  unfold okP at h2
  simp only [mvO, Bool.and_eq_true, decide_eq_true_eq, List.length_nil]
  exact ⟨⟨hs, h.nd⟩, ⟨⟨⟨⟨decide_eq_true (Int.le_of_lt h1), h2⟩, h.nm⟩, trivial⟩, trivial⟩⟩
theorem tr_good {N : Int} {y : RwP} (h : RwG N y) {s : St} (hs : rightS s = true) (hN : N < s.T) : goodOp { trO y with At := s } = true := by
  unfold goodOp
  rw [if_pos (show ({ trO y with At := s } : Opn).Kind = 1 from rfl)]
  unfold moveOk
  have h1 : cmpS y.Node s < 0 := cmpS_lt (by have := h.nodeT; omega)
  simp only [trO, Bool.and_eq_true, decide_eq_true_eq, List.length_nil]
  exact ⟨⟨hs, h.nd⟩, ⟨⟨⟨⟨decide_eq_true (Int.le_of_lt h1), rfl⟩, h.nm⟩, trivial⟩, trivial⟩⟩
theorem ed_good {N : Int} {a : List RwP} (ha : ∀ y ∈ a, RwG N y) (hf60 : ∀ y ∈ a, y.Heads.length ≤ 60) {y : RwP} (h : RwG N y) {q : Hd} (hq : q ∈ y.Heads) {s : St} (hs : rightS s = true) (hN : N < s.T) : goodOp { edO a y q with At := s } = true := by
  have hh : ∀ x ∈ headsR a y.Node, rightS x.At = true ∧ x.At.T ≤ N := fun x hx => by
    unfold headsR at hx
    cases hf : findR a y.Node with
    | none => rw [hf] at hx; cases hx
    | some r =>
      rw [hf] at hx
      obtain ⟨a1, _, a3, _⟩ := (ha r (findR_some hf).1).hd x hx
      exact ⟨a1, a3⟩
  have hp : (headsR a y.Node).Pairwise (fun a b => cmpS a.At b.At < 0) ∧ (headsR a y.Node).length ≤ 60 := by
    unfold headsR
    cases hf : findR a y.Node with
    | none => exact ⟨.nil, by simp⟩
    | some r => exact ⟨(ha r (findR_some hf).1).hr, hf60 r (findR_some hf).1⟩
  unfold goodOp
  rw [if_neg (show ¬ ({ edO a y q with At := s } : Opn).Kind = 1 by show ¬ (2 : Int) = 1; decide), if_pos (show ({ edO a y q with At := s } : Opn).Kind = 2 from rfl)]
  unfold editOk
  have h1 : cmpS y.Node s < 0 := cmpS_lt (by have := h.nodeT; omega)
  simp only [edO, Bool.and_eq_true, decide_eq_true_eq, List.length_map]
  refine ⟨⟨hs, h.nd⟩, ⟨⟨⟨⟨⟨⟨decide_eq_true h1, trivial⟩, trivial⟩, decide_eq_true (h.hd q hq).2.2.2⟩, (show (headsR a y.Node).length ≤ 64 by have := hp.2; omega)⟩, ?_⟩, ?_⟩⟩
  · rw [List.all_eq_true]
    intro x hx
    obtain ⟨z, hz, rfl⟩ := List.mem_map.1 hx
    obtain ⟨z1, z2⟩ := hh z hz
    rw [z1, decide_eq_true (cmpS_lt (by omega))]
    rfl
  · rw [riseB_pw cmpS (fun _ _ _ => cmpS_trans), List.pairwise_map]
    exact hp.1
theorem flat_len' (xs : List RwP) : ∀ l : List RwP, (l.flatMap (edR xs)).length ≤ l.length
  | [] => by simp
  | r :: l => by
    have := flat_len' xs l
    have h1 : (edR xs r).length ≤ 1 := by
      unfold edR
      split
      · simp
      · split <;> simp
    simp only [List.flatMap_cons, List.length_append, List.length_cons]
    omega
theorem allO_good {N : Int} {a b l : List RwP} (ha : RowsG N a) (hb : RowsG N b) (hl : l.Perm (b.filter (movedR a))) {s : St} (hs : rightS s = true) (hN : N < s.T) (hM : s.T ≤ 549755813889) : ∀ o ∈ allO a b s l, goodOp o = true := by
  unfold allO
  refine good_num fun o ho i hi => ?_
  have hlen : (l.map mvO ++ (a.filter (goneR b)).map trO ++ b.flatMap (edR a)).length ≤ 200 := by
    have h1 := hl.length_eq
    have h2 := List.length_filter_le (movedR a) b
    have h3 := List.length_filter_le (goneR b) a
    have h4 := flat_len' a b
    have h5 := ha.len
    have h6 := hb.len
    simp only [List.length_append, List.length_map]
    omega
  have hs' : rightS ⟨s.T + i, s.R⟩ = true := right_at hs (by omega)
  have hN' : N < (⟨s.T + i, s.R⟩ : St).T := by show N < s.T + i; omega
  rcases List.mem_append.1 ho with ho | ho
  · rcases List.mem_append.1 ho with ho | ho
    · obtain ⟨y, hy, rfl⟩ := List.mem_map.1 ho
      exact mv_good (hb.row y (List.mem_filter.1 (hl.mem_iff.1 hy)).1) hs' hN'
    · obtain ⟨y, hy, rfl⟩ := List.mem_map.1 ho
      exact tr_good (ha.row y (List.mem_filter.1 hy).1) hs' hN'
  · obtain ⟨y, hy, hy2⟩ := List.mem_flatMap.1 ho
    unfold edR at hy2
    split at hy2
    · cases hy2
    · split at hy2
      · rename_i q hq
        rw [List.mem_singleton] at hy2
        subst hy2
        exact ed_good ha.row ha.few (hb.row y hy) (by rw [hq]; simp) hs' hN'
      · cases hy2
/-! of a tree and itself; of a tree and nothing; of nothing and a tree -/
theorem sameDt_self (l : List Hd) : sameDt l l = true := by simp [sameDt]
theorem headsR_self {a : List RwP} (nd : (a.map (·.Node)).Nodup) {y : RwP} (h : y ∈ a) : headsR a y.Node = y.Heads := by
  unfold headsR
  rw [findR_mem nd h]
theorem allO_self {a l : List RwP} (nd : (a.map (·.Node)).Nodup) (hl : l.Perm (a.filter (movedR a))) (s : St) : allO a a s l = [] := by
  have h1 : a.filter (movedR a) = [] := by
    rw [List.filter_eq_nil_iff]
    intro y hy
    unfold movedR
    rw [findR_mem nd hy]
    simp
  rw [h1, List.perm_nil] at hl
  have h2 : a.filter (goneR a) = [] := by
    rw [List.filter_eq_nil_iff]
    intro y hy
    unfold goneR
    rw [findR_mem nd hy]
    simp
  have h3 : a.flatMap (edR a) = [] := by
    rw [List.flatMap_eq_nil_iff]
    intro y hy
    unfold edR
    rw [headsR_self nd hy, sameDt_self, if_pos rfl]
  unfold allO
  rw [hl, h2, h3]
  rfl
theorem diff_self {a : List RwP} {s : St} {E : Int} {os : List Opn} (ht : TreeOk a) (hs : rightS s = true) (h : DiffTo a a s E os) : E = 0 ∧ os = [] := by
  have hE := h.yes ht ht hs (fun l hl => by rw [allO_self ht.nd hl]; simp) (fun r hr => by
    unfold oneR
    rw [headsR_self ht.nd hr, sameDt_self]
    rfl)
  obtain ⟨_, _, _, ⟨l, hl, ho⟩, _⟩ := h.ok hE
  exact ⟨hE, by rw [ho]; exact allO_self ht.nd hl s⟩
theorem diff_gone {N : Int} {a : List RwP} {s : St} {E : Int} {os : List Opn} (ha : RowsG N a) (hN : N < s.T) (hM : s.T ≤ 549755813889) (hs : rightS s = true) (h : DiffTo a [] s E os) : E = 0 ∧ os.length = (a.filter fun y => !decide (y.Parent = trS)).length := by
  have key : ∀ l : List RwP, l.Perm (([] : List RwP).filter (movedR a)) → (allO a [] s l).length = (a.filter fun y => !decide (y.Parent = trS)).length := fun l hl => by
    have hl' : l = [] := List.perm_nil.1 hl
    subst hl'
    unfold allO
    rw [numS_len]
    have : a.filter (goneR []) = a.filter fun y => !decide (y.Parent = trS) := List.filter_congr fun y _ => by
      unfold goneR findR
      simp
    simp [this]
  have hE := h.yes (ha.tree (by omega)) ((RowsG.nil N).tree (by omega)) hs (fun l hl => ⟨allO_good ha (RowsG.nil N) hl hs hN hM, by
    rw [key l hl]
    have h1 := List.length_filter_le (fun y : RwP => !decide (y.Parent = trS)) a
    have := ha.len
    omega⟩) (by simp)
  obtain ⟨_, _, _, ⟨l, hl, ho⟩, _⟩ := h.ok hE
  exact ⟨hE, by rw [ho]; exact key l hl⟩
theorem num_kind (s : St) (l : List Opn) (p : Opn → Bool) (hp : ∀ (o : Opn) (t : St), p { o with At := t } = p o) : ((numS s l).filter p).length = (l.filter p).length := by
  induction l generalizing s with
  | nil => rfl
  | cons o l ih =>
    unfold numS
    rw [List.filter_cons, List.filter_cons, hp]
    split
    · rw [List.length_cons, List.length_cons, ih]
    · exact ih _
theorem diff_all {N : Int} {b : List RwP} {s : St} {E : Int} {os : List Opn} (hb : RowsG N b) (hN : N < s.T) (hM : s.T ≤ 549755813889) (hs : rightS s = true) (h : DiffTo [] b s E os) : E = 3 ∨ E = 0 ∧ (os.filter fun o => decide (o.Kind = 1)).length = b.length := by
  rcases h.many ((RowsG.nil N).tree (by omega)) (hb.tree (by omega)) hs (fun l hl => allO_good (RowsG.nil N) hb hl hs hN hM) with hE | hE
  · right
    refine ⟨hE, ?_⟩
    obtain ⟨_, _, _, ⟨l, hl, ho⟩, _⟩ := h.ok hE
    rw [ho]
    unfold allO
    rw [num_kind _ _ _ (fun o t => rfl)]
    have e1 : b.filter (movedR []) = b := List.filter_eq_self.2 fun y _ => by unfold movedR findR; rfl
    rw [e1] at hl
    have e2 : ((b.flatMap (edR [])).filter fun o => decide (o.Kind = 1)) = [] := by
      rw [List.filter_eq_nil_iff]
      intro o ho
      obtain ⟨y, _, hy⟩ := List.mem_flatMap.1 ho
      unfold edR at hy
      split at hy
      · cases hy
      · split at hy
        · rw [List.mem_singleton] at hy
          subst hy
          show ¬ decide ((2 : Int) = 1) = true
          decide
        · cases hy
    have e3 : ((l.map mvO).filter fun o => decide (o.Kind = 1)) = l.map mvO := List.filter_eq_self.2 fun o ho => by
      obtain ⟨y, _, rfl⟩ := List.mem_map.1 ho
      rfl
    simp only [List.filter_nil, List.map_nil, List.append_nil, List.filter_append, e2, e3, List.length_map]
    exact hl.length_eq
  · exact .inl hE
end Go.Proofs.YtefcalkbfaefgaaGreat
namespace Go.Proofs.YtefcalkbfaefgaaGreat
set_option linter.unusedVariables false
set_option linter.unusedSimpArgs false

theorem depth_more {xs : List RwP} : ∀ (k : Nat) (s : St), reach xs k s = true → ∀ j, k ≤ j → depthN xs j s = depthN xs k s
  | 0, s, h, j, _ => by rw [depth_zero (fixedS_T h), depth_zero (fixedS_T h)]
  | k + 1, s, h, j, hj => by
    obtain ⟨j, rfl⟩ : ∃ i, j = i + 1 := ⟨j - 1, by omega⟩
    show (if s.T = 0 then 0 else match findR xs s with | none => 1 | some r => 1 + depthN xs j r.Parent) = (if s.T = 0 then 0 else match findR xs s with | none => 1 | some r => 1 + depthN xs k r.Parent)
    rcases reach_inv h with h | ⟨i, r, hi, hf, hr⟩
    · rw [if_pos (fixedS_T h), if_pos (fixedS_T h)]
    · obtain rfl : i = k := by omega
      rw [hf]
      simp only [depth_more i r.Parent hr j (by omega)]
theorem depth_at {ys : List RwP} (h : TreeOk ys) {r : RwP} (hr : r ∈ ys) : depthR ys r.Node = 1 + depthR ys r.Parent := by
  obtain ⟨j, r', hj, hf, hr', e⟩ := reach_next (h.reach hr) (h.T r hr)
  rw [findR_mem h.nd hr] at hf
  injection hf with hf
  subst hf
  unfold depthR
  rw [e, hj, depth_more j r.Parent hr' (j + 1) (by omega)]
theorem parent_in {ys : List RwP} (h : TreeOk ys) {r : RwP} (hr : r ∈ ys) : r.Parent.T = 0 ∨ ∃ y ∈ ys, y.Node = r.Parent := by
  obtain ⟨j, r', hj, hf, hr', e⟩ := reach_next (h.reach hr) (h.T r hr)
  rw [findR_mem h.nd hr] at hf
  injection hf with hf
  subst hf
  rcases reach_inv hr' with h | ⟨_, x, _, hf, _⟩
  · exact .inl (fixedS_T h)
  · obtain ⟨h1, h2⟩ := findR_some hf
    exact .inr ⟨x, h1, h2⟩
/-- where all that lies less deep has its place, none of it lies under the node -/
theorem above_settled {X ys : List RwP} (hy : TreeOk ys) {n : St} (hS : ∀ p ∈ ys, depthR ys p.Node < depthR ys n → ∃ q, findR X p.Node = some q ∧ q.Parent = p.Parent) :
    ∀ (k : Nat) (p : St), (p.T = 0 ∨ ∃ y ∈ ys, y.Node = p) → depthR ys p < depthR ys n → aboveN X k n p = false
  | 0, _, _, _ => rfl
  | k + 1, p, hp, hd => by
    show (if p.T = 0 then false else decide (p = n) || match findR X p with | none => false | some r => aboveN X k n r.Parent) = false
    by_cases h0 : p.T = 0
    · rw [if_pos h0]
    · rw [if_neg h0]
      obtain ⟨y, hy1, rfl⟩ := hp.resolve_left h0
      have hne : y.Node ≠ n := fun e => by rw [e] at hd; omega
      obtain ⟨q, hq, hqp⟩ := hS y hy1 hd
      rw [hq]
      simp only [hne, decide_false, Bool.false_or]
      rw [hqp]
      exact above_settled hy hS k _ (parent_in hy hy1) (by have := depth_at hy hy1; omega)
/-- each does something -/
def doesAll : List RwP → List Opn → Prop
  | _, [] => True
  | X, o :: os => (∃ r, newR X o = some r) ∧ doesAll (doX X o) os
theorem doesAll_app : ∀ (a b : List Opn) (X : List RwP), doesAll X a → doesAll (runX X a) b → doesAll X (a ++ b)
  | [], b, X, _, h => h
  | o :: a, b, X, h1, h2 => ⟨h1.1, doesAll_app a b _ h1.2 h2⟩
theorem numS_app2 (s : St) : ∀ (a b : List Opn), numS s (a ++ b) = numS s a ++ numS ⟨s.T + a.length, s.R⟩ b
  | [], b => by simp [numS]
  | o :: a, b => by
    show { o with At := s } :: numS ⟨s.T + 1, s.R⟩ (a ++ b) = { o with At := s } :: (numS ⟨s.T + 1, s.R⟩ a ++ numS ⟨s.T + (o :: a).length, s.R⟩ b)
    rw [numS_app2 ⟨s.T + 1, s.R⟩ a b]
    congr 4
    simp only [List.length_cons]
    omega
/-- behind moves -/
structure MidX (xs X M : List RwP) : Prop where
  mv : ∀ r ∈ M, ∃ a, findR X r.Node = some ⟨r.Node, r.Parent, a, r.Name, headsR xs r.Node⟩
  ot : ∀ s, (∀ r ∈ M, r.Node ≠ s) → findR X s = findR xs s
theorem doX_some {X : List RwP} {o : Opn} {r : RwP} (h : newR X o = some r) (s : St) : findR (doX X o) s = if r.Node = s then some r else findR X s := by
  unfold doX
  rw [h]
  exact findR_put X r s
theorem mid_step {xs X M : List RwP} {r : RwP} {a : St} (h : MidX xs X M) (hr : ∀ q ∈ M, q.Node ≠ r.Node) (hok : r.Parent.T = 0 ∨ ∃ q, findR X r.Parent = some q) (hab : aboveR X r.Node r.Parent = false) :
    (∃ r', newR X { mvO r with At := a } = some r') ∧ MidX xs (doX X { mvO r with At := a }) (M ++ [r]) := by
  have e : newR X { mvO r with At := a } = some ⟨r.Node, r.Parent, a, r.Name, hdsR X r.Node⟩ := by
    unfold newR
    rw [if_pos (show ({ mvO r with At := a } : Opn).Kind = 1 from rfl), if_neg]
    · rfl
    · show ¬ (((findR X r.Parent).isNone && !decide (r.Parent.T = 0)) || aboveR X r.Node r.Parent) = true
      rw [hab]
      rcases hok with h0 | ⟨q, hq⟩
      · simp [h0]
      · simp [hq]
  have eh : hdsR X r.Node = headsR xs r.Node := by
    unfold hdsR headsR
    rw [h.ot _ hr]
    cases findR xs r.Node <;> rfl
  refine ⟨⟨_, e⟩, ⟨fun q hq => ?_, fun s hs => ?_⟩⟩
  · rw [doX_some e]
    rcases List.mem_append.1 hq with hq | hq
    · simp only
      rw [if_neg (fun e => hr q hq e.symm)]
      exact h.mv q hq
    · rw [List.mem_singleton] at hq
      subst hq
      exact ⟨a, by rw [if_pos rfl, eh]⟩
  · rw [doX_some e]
    simp only
    rw [if_neg (hs r (by simp))]
    exact h.ot s fun q hq => hs q (by simp [hq])
theorem mid_all {xs ys l : List RwP} (hy : TreeOk ys) (hl : l.Perm (ys.filter (movedR xs))) (hd : l.Pairwise fun p q => ¬ depthN ys ys.length q.Node < depthN ys ys.length p.Node) :
    ∀ (l2 M X : List RwP) (s : St), l = M ++ l2 → MidX xs X M → doesAll X (numS s (l2.map mvO)) ∧ MidX xs (runX X (numS s (l2.map mvO))) l
  | [], M, X, s, e, h => ⟨trivial, by rw [e, List.append_nil]; exact h⟩
  | r :: l2, M, X, s, e, h => by
    have hrm : r ∈ ys.filter (movedR xs) := hl.mem_iff.1 (by rw [e]; simp)
    obtain ⟨hry, hrv⟩ := List.mem_filter.1 hrm
    have hnd : (l.map (·.Node)).Nodup := (hl.map (·.Node)).nodup_iff.2 ((List.filter_sublist.map _).nodup hy.nd)
    have hMr : ∀ q ∈ M, q.Node ≠ r.Node := fun q hq he => by
      rw [e, List.map_append, List.map_cons] at hnd
      have := (List.nodup_append.1 hnd).2.2 q.Node (List.mem_map.2 ⟨q, hq, rfl⟩) r.Node (by simp)
      exact this he
    have hS : ∀ p ∈ ys, depthR ys p.Node < depthR ys r.Node → ∃ q, findR X p.Node = some q ∧ q.Parent = p.Parent := fun p hp hlt => by
      by_cases hm : movedR xs p = true
      · have hpl : p ∈ l := hl.mem_iff.2 (List.mem_filter.2 ⟨hp, hm⟩)
        rw [e] at hpl hd
        rcases List.mem_append.1 hpl with h1 | h1
        · obtain ⟨a, ha⟩ := h.mv p h1
          exact ⟨_, ha, rfl⟩
        · rcases List.mem_cons.1 h1 with rfl | h1
          · omega
          · exact absurd hlt ((List.pairwise_cons.1 (List.pairwise_append.1 hd).2.1).1 p h1)
      · have hm' : movedR xs p = false := by simpa using hm
        rw [h.ot p.Node (fun q hq he => by
          have hql : q ∈ ys.filter (movedR xs) := hl.mem_iff.1 (by rw [e]; simp [hq])
          obtain ⟨q1, q2⟩ := List.mem_filter.1 hql
          have e1 := findR_mem hy.nd q1
          rw [he, findR_mem hy.nd hp] at e1
          injection e1 with e1
          rw [e1] at hm
          exact hm q2)]
        unfold movedR at hm'
        cases hf : findR xs p.Node with
        | none => rw [hf] at hm'; cases hm'
        | some x =>
          rw [hf] at hm'
          simp only [Bool.not_eq_false', Bool.and_eq_true, decide_eq_true_eq] at hm'
          exact ⟨x, rfl, hm'.1⟩
    have hdr := depth_at hy hry
    have hok : r.Parent.T = 0 ∨ ∃ q, findR X r.Parent = some q := by
      rcases parent_in hy hry with h0 | ⟨y, hy1, hy2⟩
      · exact .inl h0
      · obtain ⟨q, hq, _⟩ := hS y hy1 (by rw [hy2]; omega)
        rw [hy2] at hq
        exact .inr ⟨q, hq⟩
    obtain ⟨h1, h2⟩ := mid_step (a := s) h hMr hok (above_settled hy hS _ _ (parent_in hy hry) (by omega))
    obtain ⟨i1, i2⟩ := mid_all hy hl hd l2 (M ++ [r]) _ ⟨s.T + 1, s.R⟩ (by rw [e]; simp) h2
    exact ⟨⟨h1, i1⟩, i2⟩
/-- behind all moves, and what goes to the trash -/
structure TrX (xs ys X G : List RwP) : Prop where
  yy : ∀ r ∈ ys, ∃ a, findR X r.Node = some ⟨r.Node, r.Parent, a, r.Name, headsR xs r.Node⟩
  gn : ∀ r ∈ G, ∃ q, findR X r.Node = some q ∧ q.Parent = trS
  ot : ∀ s, (∀ r ∈ ys, r.Node ≠ s) → (∀ r ∈ G, r.Node ≠ s) → findR X s = findR xs s
theorem tr_zero {xs ys X l : List RwP} (hy : TreeOk ys) (hl : l.Perm (ys.filter (movedR xs))) (h : MidX xs X l) : TrX xs ys X [] := by
  refine ⟨fun r hr => ?_, fun r hr => (by cases hr), fun s hs _ => h.ot s fun r hr => hs r (List.mem_filter.1 (hl.mem_iff.1 hr)).1⟩
  by_cases hm : movedR xs r = true
  · exact h.mv r (hl.mem_iff.2 (List.mem_filter.2 ⟨hr, hm⟩))
  · have hm' : movedR xs r = false := by simpa using hm
    rw [h.ot r.Node (fun q hq he => by
      obtain ⟨q1, q2⟩ := List.mem_filter.1 (hl.mem_iff.1 hq)
      have e1 := findR_mem hy.nd q1
      rw [he, findR_mem hy.nd hr] at e1
      injection e1 with e1
      rw [e1] at hm
      exact hm q2)]
    unfold movedR at hm'
    unfold headsR
    cases hf : findR xs r.Node with
    | none => rw [hf] at hm'; cases hm'
    | some x =>
      rw [hf] at hm'
      simp only [Bool.not_eq_false', Bool.and_eq_true, decide_eq_true_eq] at hm'
      refine ⟨x.At, ?_⟩
      rw [← (findR_some hf).2, ← hm'.1, ← hm'.2]
theorem above_fixed (X : List RwP) (n : St) {p : St} (h : p.T = 0) : aboveR X n p = false := by
  unfold aboveR
  cases X.length with
  | zero => rfl
  | succ k =>
    show (if p.T = 0 then false else _) = false
    rw [if_pos h]
theorem tr_all {xs ys : List RwP} (hx : (xs.map (·.Node)).Nodup) : ∀ (G2 G X : List RwP) (s : St), (∀ r ∈ G2, ∀ y ∈ ys, y.Node ≠ r.Node) → TrX xs ys X G → doesAll X (numS s (G2.map trO)) ∧ TrX xs ys (runX X (numS s (G2.map trO))) (G ++ G2)
  | [], G, X, s, _, h => ⟨trivial, by rw [List.append_nil]; exact h⟩
  | r :: G2, G, X, s, hg, h => by
    have e : newR X { trO r with At := s } = some ⟨r.Node, trS, s, r.Name, hdsR X r.Node⟩ := by
      unfold newR
      rw [if_pos (show ({ trO r with At := s } : Opn).Kind = 1 from rfl), if_neg]
      · rfl
      · show ¬ (((findR X trS).isNone && !decide (trS.T = 0)) || aboveR X r.Node trS) = true
        rw [above_fixed X _ (show trS.T = 0 from rfl)]
        simp [show trS.T = 0 from rfl]
    have h2 : TrX xs ys (doX X { trO r with At := s }) (G ++ [r]) := by
      refine ⟨fun y hy => ?_, fun q hq => ?_, fun t ht1 ht2 => ?_⟩
      · rw [doX_some e]
        simp only
        rw [if_neg (fun e => hg r (by simp) y hy e.symm)]
        exact h.yy y hy
      · rw [doX_some e]
        simp only
        by_cases he : r.Node = q.Node
        · exact ⟨_, if_pos he, rfl⟩
        · rw [if_neg he]
          rcases List.mem_append.1 hq with hq | hq
          · exact h.gn q hq
          · rw [List.mem_singleton] at hq
            subst hq
            exact absurd rfl he
      · rw [doX_some e]
        simp only
        rw [if_neg (ht2 r (by simp))]
        exact h.ot t ht1 fun q hq => ht2 q (by simp [hq])
    obtain ⟨i1, i2⟩ := tr_all hx G2 (G ++ [r]) _ ⟨s.T + 1, s.R⟩ (fun q hq => hg q (by simp [hq])) h2
    rw [List.append_assoc, List.singleton_append] at i2
    exact ⟨⟨⟨_, e⟩, i1⟩, i2⟩
/-- behind the edits of D -/
structure EdX (xs ys X D : List RwP) : Prop where
  yy : ∀ r ∈ ys, ∃ q, findR X r.Node = some q ∧ q.Parent = r.Parent ∧ q.Name = r.Name ∧ (r ∈ D → sameDt q.Heads r.Heads = true) ∧ (r ∉ D → q.Heads = headsR xs r.Node)
  no : ∀ s, (∀ r ∈ ys, r.Node ≠ s) → ∀ q, findR X s = some q → q.Parent = trS
theorem ed_zero {xs ys X : List RwP} (hx : (xs.map (·.Node)).Nodup) (h : TrX xs ys X (xs.filter (goneR ys))) : EdX xs ys X [] := by
  refine ⟨fun r hr => ?_, fun s hs q hq => ?_⟩
  · obtain ⟨a, ha⟩ := h.yy r hr
    exact ⟨_, ha, rfl, rfl, fun h => (by cases h), fun _ => rfl⟩
  · by_cases hm : ∃ r ∈ xs.filter (goneR ys), r.Node = s
    · obtain ⟨r, hr, rfl⟩ := hm
      obtain ⟨q', h1, h2⟩ := h.gn r hr
      rw [hq] at h1
      injection h1 with h1
      rw [h1]; exact h2
    · have hot := h.ot s hs (fun r hr e => hm ⟨r, hr, e⟩)
      rw [hot] at hq
      obtain ⟨h1, h2⟩ := findR_some hq
      by_cases hp : q.Parent = trS
      · exact hp
      · refine absurd ⟨q, List.mem_filter.2 ⟨h1, ?_⟩, h2⟩ hm
        unfold goneR
        rw [Bool.and_eq_true]
        refine ⟨?_, by simpa using hp⟩
        rw [h2, findR_none.2 hs]
        rfl
theorem leftH_all (l : List Hd) : leftH (l.map (·.At)) l = [] := by
  unfold leftH
  rw [List.filter_eq_nil_iff]
  intro h hh
  have : h.At ∈ l.map (·.At) := List.mem_map.2 ⟨h, hh, rfl⟩
  simp [this]
theorem ed_all {xs ys : List RwP} (hy : TreeOk ys) (h1 : ∀ r ∈ ys, oneR xs r = true) : ∀ (D2 D X : List RwP) (s : St), ys = D ++ D2 → EdX xs ys X D → doesAll X (numS s (D2.flatMap (edR xs))) ∧ EdX xs ys (runX X (numS s (D2.flatMap (edR xs)))) ys
  | [], D, X, s, e, h => ⟨trivial, by
    rw [List.append_nil] at e
    rw [← e] at h
    exact h⟩
  | r :: D2, D, X, s, e, h => by
    have hry : r ∈ ys := by rw [e]; simp
    have hD : r ∉ D := fun hd => by
      have hnd := hy.nd
      rw [e, List.map_append, List.map_cons] at hnd
      exact (List.nodup_append.1 hnd).2.2 r.Node (List.mem_map.2 ⟨r, hd, rfl⟩) r.Node (by simp) rfl
    obtain ⟨q, hq, qp, qn, _, qh⟩ := h.yy r hry
    replace qh := qh hD
    rw [List.flatMap_cons, numS_app2]
    by_cases hs : sameDt (headsR xs r.Node) r.Heads = true
    · have e0 : edR xs r = [] := by unfold edR; rw [if_pos hs]
      rw [e0]
      have h2 : EdX xs ys X (D ++ [r]) := by
        refine ⟨fun y hy' => ?_, h.no⟩
        obtain ⟨z, z1, z2, z3, z4, z5⟩ := h.yy y hy'
        by_cases hyr : y = r
        · subst hyr
          rw [hq] at z1
          injection z1 with z1
          subst z1
          exact ⟨q, hq, z2, z3, fun _ => by rw [qh]; exact hs, fun hn => absurd (by simp) hn⟩
        · exact ⟨z, z1, z2, z3, fun hm => z4 (by simpa [hyr] using hm), fun hm => z5 (fun hm' => hm (by simp [hm']))⟩
      obtain ⟨i1, i2⟩ := ed_all hy h1 D2 (D ++ [r]) X ⟨s.T + ([] : List Opn).length, s.R⟩ (by rw [e]; simp) h2
      exact ⟨i1, i2⟩
    · have ho := h1 r hry
      unfold oneR at ho
      rw [Bool.or_eq_true, decide_eq_true_eq] at ho
      have hl1 := ho.resolve_left hs
      obtain ⟨hd, hhd⟩ := List.length_eq_one_iff.1 hl1
      have e0 : edR xs r = [edO xs r hd] := by unfold edR; rw [if_neg hs, hhd]
      rw [e0]
      have en : newR X { edO xs r hd with At := s } = some ⟨q.Node, q.Parent, q.At, q.Name, [⟨s, hd.Data⟩]⟩ := by
        unfold newR
        rw [if_neg (show ¬ ({ edO xs r hd with At := s } : Opn).Kind = 1 by show ¬ (2 : Int) = 1; decide)]
        show (match findR X r.Node with | none => none | some x => some (⟨x.Node, x.Parent, x.At, x.Name, leftH ((headsR xs r.Node).map fun h : Hd => h.At) x.Heads ++ [(⟨s, hd.Data⟩ : Hd)]⟩ : RwP)) = _
        rw [hq]
        simp only
        rw [qh, leftH_all]
        rfl
      have hqn := (findR_some hq).2
      have h2 : EdX xs ys (doX X { edO xs r hd with At := s }) (D ++ [r]) := by
        refine ⟨fun y hy' => ?_, fun t ht z hz => ?_⟩
        · rw [doX_some en]
          simp only
          by_cases hyr : y = r
          · subst hyr
            exact ⟨_, if_pos hqn, qp, qn, fun _ => by rw [hhd]; simp [sameDt], fun hn => absurd (by simp) hn⟩
          · have hne : q.Node ≠ y.Node := fun e1 => hyr (by
              have e2 := findR_mem hy.nd hy'
              rw [← e1, hqn, findR_mem hy.nd hry] at e2
              injection e2 with e2
              exact e2.symm)
            rw [if_neg hne]
            obtain ⟨z, z1, z2, z3, z4, z5⟩ := h.yy y hy'
            exact ⟨z, z1, z2, z3, fun hm => z4 (by simpa [hyr] using hm), fun hm => z5 (fun hm' => hm (by simp [hm']))⟩
        · rw [doX_some en] at hz
          simp only at hz
          rw [if_neg (by rw [hqn]; exact ht r hry)] at hz
          exact h.no t ht z hz
      obtain ⟨i1, i2⟩ := ed_all hy h1 D2 (D ++ [r]) (doX X { edO xs r hd with At := s }) ⟨s.T + ([edO xs r hd] : List Opn).length, s.R⟩ (by rw [e]; simp) h2
      exact ⟨⟨⟨_, en⟩, i1⟩, i2⟩
/-- all of it: from rows X with the finds of xs on -/
theorem turn_all {xs ys l X : List RwP} (hx : TreeOk xs) (hy : TreeOk ys) (hX : ∀ s, findR X s = findR xs s) (hl : l.Perm (ys.filter (movedR xs))) (hd : l.Pairwise fun p q => ¬ depthN ys ys.length q.Node < depthN ys ys.length p.Node) (h1 : ∀ r ∈ ys, oneR xs r = true) (s : St) :
    doesAll X (allO xs ys s l) ∧ EdX xs ys (runX X (allO xs ys s l)) ys := by
  unfold allO
  rw [numS_app2, numS_app2]
  obtain ⟨a1, a2⟩ := mid_all hy hl hd l [] X s rfl ⟨fun r hr => (by cases hr), fun s _ => hX s⟩
  have a3 := tr_zero hy hl a2
  obtain ⟨b1, b2⟩ := tr_all hx.nd (xs.filter (goneR ys)) [] _ ⟨s.T + (l.map mvO).length, s.R⟩ (fun r hr y hy' e => by
    have := (List.mem_filter.1 hr).2
    unfold goneR at this
    rw [← e, findR_mem hy.nd hy'] at this
    simp at this) a3
  rw [List.nil_append] at b2
  have b3 := ed_zero hx.nd b2
  obtain ⟨c1, c2⟩ := ed_all hy h1 ys [] _ ⟨s.T + (l.map mvO ++ (xs.filter (goneR ys)).map trO).length, s.R⟩ rfl b3
  have e : ∀ M : List Opn, runX X (numS s (l.map mvO) ++ M) = runX (runX X (numS s (l.map mvO))) M := fun M => runX_app _ _ _
  constructor
  · refine doesAll_app _ _ _ (doesAll_app _ _ _ a1 b1) ?_
    rw [runX_app]
    exact c1
  · rw [runX_app, runX_app]
    exact c2
/-! alike -/
theorem place_more {xs : List RwP} : ∀ (k : Nat) (s : St), reach xs k s = true → ∀ j, k ≤ j → placeN xs (j + 1) s = placeN xs (k + 1) s
  | 0, s, h, j, _ => by
    show (if s.T = 0 then some s else _) = (if s.T = 0 then some s else _)
    rw [if_pos (fixedS_T h), if_pos (fixedS_T h)]
  | k + 1, s, h, j, hj => by
    obtain ⟨j, rfl⟩ : ∃ i, j = i + 1 := ⟨j - 1, by omega⟩
    show (if s.T = 0 then some s else match findR xs s with | none => none | some r => placeN xs (j + 1) r.Parent) = (if s.T = 0 then some s else match findR xs s with | none => none | some r => placeN xs (k + 1) r.Parent)
    rcases reach_inv h with h | ⟨i, r, hi, hf, hr⟩
    · rw [if_pos (fixedS_T h), if_pos (fixedS_T h)]
    · obtain rfl : i = k := by omega
      rw [hf]
      simp only [place_more i r.Parent hr j (by omega)]
theorem place_like {ys zs : List RwP} (hz : ∀ r ∈ ys, ∃ q, findR zs r.Node = some q ∧ q.Parent = r.Parent) : ∀ (k : Nat) (s : St), reach ys k s = true → reach zs k s = true ∧ placeN zs (k + 1) s = placeN ys (k + 1) s
  | 0, s, h => ⟨h, by
    show (if s.T = 0 then some s else _) = (if s.T = 0 then some s else _)
    rw [if_pos (fixedS_T h), if_pos (fixedS_T h)]⟩
  | k + 1, s, h => by
    rcases reach_inv h with h | ⟨i, r, hi, hf, hr⟩
    · refine ⟨reach_fixed h _, ?_⟩
      show (if s.T = 0 then some s else _) = (if s.T = 0 then some s else _)
      rw [if_pos (fixedS_T h), if_pos (fixedS_T h)]
    · obtain rfl : i = k := by omega
      obtain ⟨f1, f2⟩ := findR_some hf
      obtain ⟨q, hq, hqp⟩ := hz r f1
      rw [f2] at hq
      obtain ⟨i1, i2⟩ := place_like hz i r.Parent hr
      refine ⟨reach_step hq (by rw [hqp]; exact i1), ?_⟩
      show (if s.T = 0 then some s else match findR zs s with | none => none | some r => placeN zs (i + 1) r.Parent) = (if s.T = 0 then some s else match findR ys s with | none => none | some r => placeN ys (i + 1) r.Parent)
      rw [hf, hq]
      simp only [hqp, i2]
theorem place_same {ys zs : List RwP} (hy : TreeOk ys) (hz : ∀ r ∈ ys, ∃ q, findR zs r.Node = some q ∧ q.Parent = r.Parent) {y : RwP} (h : y ∈ ys) : placeR zs y.Node = placeR ys y.Node := by
  obtain ⟨h1, h2⟩ := place_like hz _ _ (hy.reach h)
  unfold placeR
  rw [← h2, ← place_more _ _ h1 (max ys.length zs.length) (Nat.le_max_left _ _), ← place_more _ _ (reach_len h1) (max ys.length zs.length) (Nat.le_max_right _ _)]
theorem allTwo_rise : ∀ {A B : List RwP}, A.Pairwise (fun a b => cmpS a.Node b.Node < 0) → B.Pairwise (fun a b => cmpS a.Node b.Node < 0) → (∀ a ∈ A, ∃ b ∈ B, b.Node = a.Node) → (∀ b ∈ B, ∃ a ∈ A, a.Node = b.Node ∧ alikeRP a b = true) → allTwo alikeRP A B = true
  | [], [], _, _, _, _ => rfl
  | [], b :: B, _, _, _, h => by
    obtain ⟨a, ha, _⟩ := h b (by simp)
    cases ha
  | a :: A, [], _, _, h, _ => by
    obtain ⟨b, hb, _⟩ := h a (by simp)
    cases hb
  | a :: A, b :: B, hA, hB, h1, h2 => by
    obtain ⟨A1, A2⟩ := List.pairwise_cons.1 hA
    obtain ⟨B1, B2⟩ := List.pairwise_cons.1 hB
    have hn : a.Node = b.Node := by
      obtain ⟨b', hb', eb⟩ := h1 a (by simp)
      obtain ⟨a', ha', ea, _⟩ := h2 b (by simp)
      rcases List.mem_cons.1 hb' with rfl | hb'
      · exact eb.symm
      · rcases List.mem_cons.1 ha' with rfl | ha'
        · exact ea
        · have q1 := B1 b' hb'
          have q2 := A1 a' ha'
          rw [eb] at q1
          rw [ea] at q2
          have := cmpS_trans q1 q2
          rw [cmpS_self] at this
          omega
    have hne1 : ∀ x ∈ A, x.Node ≠ a.Node := fun x hx e => by
      have := A1 x hx
      rw [e, cmpS_self] at this
      omega
    have hne2 : ∀ x ∈ B, x.Node ≠ b.Node := fun x hx e => by
      have := B1 x hx
      rw [e, cmpS_self] at this
      omega
    have ha : alikeRP a b = true := by
      obtain ⟨a', ha', ea, hk⟩ := h2 b (by simp)
      rcases List.mem_cons.1 ha' with rfl | ha'
      · exact hk
      · exact absurd (ea.trans hn.symm) (hne1 a' ha')
    have ih : allTwo alikeRP A B = true := allTwo_rise A2 B2 (fun x hx => by
      obtain ⟨y, hy, e⟩ := h1 x (by simp [hx])
      rcases List.mem_cons.1 hy with rfl | hy
      · exact absurd (e.symm.trans hn.symm) (hne1 x hx)
      · exact ⟨y, hy, e⟩) (fun y hy => by
      obtain ⟨x, hx, e, hk⟩ := h2 y (by simp [hy])
      rcases List.mem_cons.1 hx with rfl | hx
      · exact absurd (e.symm.trans hn) (hne2 y hy)
      · exact ⟨x, hx, e, hk⟩)
    show (alikeRP a b && allTwo alikeRP A B) = true
    rw [ha, ih]
    rfl
theorem turn_alike {xs ys zs : List RwP} (hy : TreeOk ys) (hz : TreeOk zs) (h : EdX xs ys zs ys) : alikeR zs ys = true := by
  have hp : ∀ r ∈ ys, ∃ q, findR zs r.Node = some q ∧ q.Parent = r.Parent := fun r hr => by
    obtain ⟨q, q1, q2, _⟩ := h.yy r hr
    exact ⟨q, q1, q2⟩
  unfold alikeR
  refine allTwo_rise ((riseR_pw hz.rise).sublist List.filter_sublist) ((riseR_pw hy.rise).sublist List.filter_sublist) (fun a ha => ?_) (fun b hb => ?_)
  · obtain ⟨h1, h2⟩ := List.mem_filter.1 ha
    rw [decide_eq_true_eq] at h2
    by_cases hm : ∃ r ∈ ys, r.Node = a.Node
    · obtain ⟨r, hr, e⟩ := hm
      refine ⟨r, List.mem_filter.2 ⟨hr, ?_⟩, e⟩
      rw [decide_eq_true_eq, ← place_same hy hp hr, e]
      exact h2
    · have hq := h.no a.Node (fun r hr e => hm ⟨r, hr, e⟩) a (findR_mem hz.nd h1)
      refine absurd ?_ h2
      show (if a.Node.T = 0 then some a.Node else match findR zs a.Node with | none => none | some r => placeN zs zs.length r.Parent) = some trS
      rw [if_neg (hz.T a h1), findR_mem hz.nd h1]
      simp only
      rw [hq]
      cases hlen : zs.length with
      | zero =>
        rw [List.length_eq_zero_iff] at hlen
        rw [hlen] at h1
        cases h1
      | succ k =>
        exact if_pos rfl
  · obtain ⟨h1, h2⟩ := List.mem_filter.1 hb
    rw [decide_eq_true_eq] at h2
    obtain ⟨q, q1, q2, q3, q4, _⟩ := h.yy b h1
    obtain ⟨f1, f2⟩ := findR_some q1
    refine ⟨q, List.mem_filter.2 ⟨f1, ?_⟩, f2, ?_⟩
    · rw [decide_eq_true_eq, f2, place_same hy hp h1]
      exact h2
    · unfold alikeRP
      simp only [Bool.and_eq_true, decide_eq_true_eq]
      exact ⟨⟨⟨f2, q2⟩, q3⟩, q4 h1⟩
/-! what is done shows -/
theorem newR_shows {X : List RwP} {o : Opn} {r : RwP} (h : newR X o = some r) : r.At = o.At ∨ ∃ q ∈ r.Heads, q.At = o.At := by
  unfold newR at h
  split at h
  · split at h
    · cases h
    · injection h with h
      rw [← h]
      exact .inl rfl
  · cases hf : findR X o.Node with
    | none => rw [hf] at h; cases h
    | some q =>
      rw [hf] at h
      injection h with h
      rw [← h]
      exact .inr ⟨⟨o.At, o.Data⟩, by simp, rfl⟩
theorem does_turns {X as_ bs : List RwP} {o : Opn} {N : Int} (hX : ∀ y ∈ X, RwG N y) (hN : N < o.At.T) (h : ∃ r, newR X o = some r) (ha : as_.Perm X) (hb : bs.Perm (doX X o)) : as_ ≠ bs := by
  intro e
  obtain ⟨r, hr⟩ := h
  have h1 : findR (doX X o) r.Node = some r := by rw [doX_some hr, if_pos rfl]
  have h2 : r ∈ X := ha.mem_iff.1 (by rw [e]; exact hb.mem_iff.2 (findR_some h1).1)
  have g := hX r h2
  rcases newR_shows hr with h3 | ⟨q, hq, h3⟩
  · have := g.nt
    rw [h3] at this
    omega
  · have := (g.hd q hq).2.2.1
    rw [h3] at this
    omega
end Go.Proofs.YtefcalkbfaefgaaGreat
namespace Go.Proofs.YtefcalkbfaefgaaGreat
set_option linter.unusedVariables false
set_option linter.unusedSimpArgs false

theorem joinB_endX (sep n : List UInt8) : ∀ {l : List (List UInt8)}, l ≠ [] → joinB sep (l ++ [n]) = joinB sep l ++ sep ++ n
  | [], h => absurd rfl h
  | [x], _ => rfl
  | x :: y :: l, _ => by
    have ih := joinB_endX sep n (l := y :: l) (by simp)
    show x ++ sep ++ joinB sep (y :: l ++ [n]) = _
    rw [ih]
    show _ = x ++ sep ++ joinB sep (y :: l) ++ sep ++ n
    simp [List.append_assoc]
theorem names_more {xs : List RwP} : ∀ (k : Nat) (s : St), reach xs k s = true → ∀ j, k ≤ j → namesN xs j s = namesN xs k s
  | 0, s, h, j, _ => by rw [names_zero (fixedS_T h), names_zero (fixedS_T h)]
  | k + 1, s, h, j, hj => by
    obtain ⟨j, rfl⟩ : ∃ i, j = i + 1 := ⟨j - 1, by omega⟩
    show (if s.T = 0 then [] else match findR xs s with | none => [] | some r => r.Name :: namesN xs j r.Parent) = (if s.T = 0 then [] else match findR xs s with | none => [] | some r => r.Name :: namesN xs k r.Parent)
    rcases reach_inv h with h | ⟨i, r, hi, hf, hr⟩
    · rw [if_pos (fixedS_T h), if_pos (fixedS_T h)]
    · obtain rfl : i = k := by omega
      rw [hf]
      simp only [names_more i r.Parent hr j (by omega)]
theorem lies_mono {xs : List RwP} {p : St} : ∀ (k : Nat) (s : St), liesN xs k s p = true → liesN xs (k + 1) s p = true
  | 0, s, h => by cases h
  | k + 1, s, h => by
    cases hf : findR xs s with
    | none => rw [liesN_none hf] at h; cases h
    | some r =>
      rw [liesN_some hf, Bool.or_eq_true] at h ⊢
      rcases h with h | h
      · exact .inl h
      · exact .inr (lies_mono k _ h)
theorem GvT.T {xs : List RwP} (g : GvT xs) : ∀ r ∈ xs, r.Node.T ≠ 0 := fun r hr => rightS_T (g.rt r hr)
theorem GvT.reach {xs : List RwP} (g : GvT xs) {r : RwP} (hr : r ∈ xs) : Go.Proofs.YtefcalkbfaefgaaGreat.reach xs xs.length r.Node = true := by
  obtain ⟨k, hk⟩ := g.up r hr
  exact reach_len hk
theorem GvT.rootG {rs : List RwP} (h : GvT rs) (s : St) : (placeR rs s = some zSt ∧ s.T ≠ 0 ↔ liesR rs s zSt = true) := by
  by_cases hT : s.T = 0
  · have : findR rs s = none := findR_none.2 fun x hx e => h.T x hx (by rw [e]; exact hT)
    rw [lies_none this]
    simp [hT]
  · cases hf : findR rs s with
    | none =>
      rw [lies_none hf, place_none hT hf]
      simp
    | some r =>
      obtain ⟨h1, h2⟩ := findR_some hf
      have := place_lies h.T (p := zSt) rfl rs.length r.Node (h.reach h1) (h.T r h1)
      rw [h2] at this
      have e : placeR rs s = placeN rs (rs.length + 1) s := rfl
      have e2 : liesR rs s zSt = liesN rs rs.length s zSt := rfl
      rw [e, e2, this]
      simp [hT]
theorem pathR_liesG {rs : List RwP} (h : GvT rs) (s : St) : pathR rs s = if liesR rs s zSt = true then joinB [47] (namesN rs rs.length s).reverse else [] := by
  unfold pathR
  by_cases hl : liesR rs s zSt = true
  · rw [if_pos hl, if_pos ((h.rootG s).2 hl).1]
  · rw [if_neg hl]
    split
    · rename_i hp
      have hT : s.T = 0 := by
        rcases Classical.em (s.T = 0) with h0 | h0
        · exact h0
        · exact absurd ((h.rootG s).1 ⟨hp, h0⟩) hl
      rw [names_zero hT]
      rfl
    · rfl
theorem parent_inG {ys : List RwP} (h : GvT ys) {r : RwP} (hr : r ∈ ys) : r.Parent.T = 0 ∨ ∃ y ∈ ys, y.Node = r.Parent := by
  obtain ⟨j, r', hj, hf, hr', e⟩ := reach_next (h.reach hr) (h.T r hr)
  rw [findR_mem h.nd hr] at hf
  injection hf with hf
  subst hf
  rcases reach_inv hr' with h | ⟨_, x, _, hf, _⟩
  · exact .inl (fixedS_T h)
  · obtain ⟨h1, h2⟩ := findR_some hf
    exact .inr ⟨x, h1, h2⟩
theorem RowsG.pth {N : Int} {ys : List RwP} (h : RowsG N ys) : PthOk ys := ⟨by have := h.len; omega, h.gv.nd, h.gv.up, fun r hr => by
  have := (h.row r hr).nm
  unfold nameOk at this
  simp only [Bool.and_eq_true, decide_eq_true_eq] at this
  omega⟩
/-- what DifferPaths asks of a row -/
theorem path_of {xs : List RwP} (g : GvT xs) {r : RwP} (hr : r ∈ xs) :
    (liesR xs r.Node trS = true → pathR xs r.Node = []) ∧
    (liesR xs r.Node trS = false → r.Parent = zSt → pathR xs r.Node = r.Name) ∧
    (liesR xs r.Node trS = false → r.Parent ≠ zSt → pathR xs r.Node = pathR xs r.Parent ++ [47] ++ r.Name) := by
  have h0 := g.T r hr
  have hre := g.reach hr
  have one : liesR xs r.Node trS = !liesR xs r.Node zSt := lies_one g _ _ hre h0
  have hf := findR_mem g.nd hr
  obtain ⟨j, r', hj, hf', hrp, hnm⟩ := names_next hre h0
  rw [hf] at hf'
  injection hf' with hf'
  subst hf'
  refine ⟨fun h1 => ?_, fun h1 h2 => ?_, fun h1 h2 => ?_⟩
  · rw [h1] at one
    rw [pathR_liesG g, if_neg]
    intro h2
    rw [h2] at one
    cases one
  · rw [h1] at one
    have hz : liesR xs r.Node zSt = true := by
      cases hq : liesR xs r.Node zSt with
      | true => rfl
      | false => rw [hq] at one; cases one
    rw [pathR_liesG g, if_pos hz, hnm, h2, names_zero rfl]
    rfl
  · rw [h1] at one
    have hz : liesR xs r.Node zSt = true := by
      cases hq : liesR xs r.Node zSt with
      | true => rfl
      | false => rw [hq] at one; cases one
    have hz' := hz
    unfold liesR at hz'
    rw [hj, liesN_some hf, Bool.or_eq_true, decide_eq_true_eq] at hz'
    have hzp := hz'.resolve_left h2
    have hp : liesR xs r.Parent zSt = true := by
      unfold liesR
      rw [hj]
      exact lies_mono j _ hzp
    rw [pathR_liesG g, if_pos hz, pathR_liesG g, if_pos hp, hnm, ← names_more j _ hrp xs.length (by omega)]
    have hne : namesN xs xs.length r.Parent ≠ [] := by
      cases j with
      | zero => cases hzp
      | succ j =>
        have hpf : fixedS r.Parent = false := by
          cases hq : fixedS r.Parent with
          | false => rfl
          | true =>
            rw [liesN_none (g.root (fixedS_T hq))] at hzp
            cases hzp
        have hpT : r.Parent.T ≠ 0 := by
          intro hT
          rcases parent_inG g hr with _ | ⟨y, hy1, hy2⟩
          · rw [liesN_none (g.root hT)] at hzp
            cases hzp
          · exact absurd (by rw [hy2]; exact hT) (g.T y hy1)
        obtain ⟨i, q, hi, _, _, e⟩ := names_next (reach_le hrp (by omega : j + 1 ≤ xs.length)) hpT
        rw [e]
        simp
    generalize namesN xs xs.length r.Parent = l at hne ⊢
    rw [List.reverse_cons]
    exact joinB_endX [47] r.Name (by simpa using hne)
theorem path_zero (xs : List RwP) : pathR xs zSt = [] := by
  unfold pathR
  rw [names_zero rfl]
  simp [joinB]
theorem path_not {xs : List RwP} (g : GvT xs) : pathR xs ⟨1, 0⟩ = [] := by
  have hf : findR xs ⟨1, 0⟩ = none := findR_none.2 fun x hx e => by
    have := g.rt x hx
    rw [e] at this
    revert this
    decide
  unfold pathR
  rw [place_none (by decide) hf]
  simp
end Go.Proofs.YtefcalkbfaefgaaGreat
