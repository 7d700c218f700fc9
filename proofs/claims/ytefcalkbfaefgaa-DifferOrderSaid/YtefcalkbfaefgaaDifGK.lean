/- Contract: differ.maker.moves: the order of depths, the moves. (ex_ldS_at ex_bldOm_at, Fr.sameR) Contract: differ.maker.moves. (ex_ldS_at ex_bldOm_at, Fr.sameR) -/
import Derived.Test.YtefcalkbfaefgaaDifEK
import Derived.Test.YtefcalkbfaefgaaStabZK
namespace Go.Proofs.Ytefcalkbfaefgaa
open Go.RowKit Go.Sort
set_option linter.unusedVariables false
set_option linter.unusedSimpArgs false

@[simp] theorem str_beq (a b : List UInt8) : ((str a).toList == (str b).toList) = decide (a = b) := by
  rw [str_toList, str_toList]
  by_cases h : a = b
  · simp [h]
  · simp [h]
theorem cmpI_call (w : World) (a b : Int) : Calls Try.prog 51 #[.int .i64 a, .int .i64 b] w (Gives w (.int .i64 (cmpZ a b))) := (compareI_any w a b).mono fun e w' ⟨h1, h2⟩ => ⟨h1, h2 ▸ Fr.refl _ _⟩
def cfD (ys : List RwP) (x y : RwW) : Int := cmpZ (depthN ys ys.length x.Node) (depthN ys ys.length y.Node)
theorem cfD_neg (ys : List RwP) (x y : RwW) : ltC (cfD ys) x y = decide (depthN ys ys.length x.Node < depthN ys ys.length y.Node) := by
  unfold ltC cfD cmpZ
  by_cases h : depthN ys ys.length x.Node < depthN ys ys.length y.Node
  · have h' : (depthN ys ys.length x.Node : Int) < (depthN ys ys.length y.Node : Int) := by omega
    simp [h, h']
  · have h' : ¬ (depthN ys ys.length x.Node : Int) < (depthN ys ys.length y.Node : Int) := by omega
    rw [if_neg h']
    split <;> simp [h]
theorem swoD (ys : List RwP) : SWO (ltC (cfD ys)) where
  irrefl x := by rw [cfD_neg]; simp
  trans x y z h1 h2 := by
    rw [cfD_neg, decide_eq_true_eq] at *
    omega
  ntrans x y z h1 h2 := by
    rw [cfD_neg, decide_eq_false_iff_not] at *
    omega
/-- what the order is asked of -/
def okD (ys : List RwP) (x : RwW) : Prop := wfS x.Node = true ∧ reach ys ys.length x.Node = true
set_option maxRecDepth 100000 in
set_option maxHeartbeats 1000000 in
theorem moves1_any (w : World) (Y t : Nat) (rs : List RwW) (ys : List RwP) (hY : w.cell? ⟨Y, 0, none⟩ = some (.map (some t))) (hm : mpT w t = some (tab rs)) (hR : RwsIn w rs ys) (hl : ys.length ≤ 100000) (x y : RwW) (hx : okD ys x) (hy : okD ys y) :
    Calls Try.prog 50 #[.agg (codR.A x), .agg (codR.A y), .pointer (some ⟨Y, 0, none⟩)] w (Gives w (.int .i64 (cfD ys x y))) := by
  have fa : Fr noB w ((w.alloc (.cells (codR.A x) 44)).alloc (.cells (codR.A y) 44)) := ((Fr.refl noB w).alloc _).alloc _
  have q1 := (rwAt (Cod.rd_fr0 (Cod.rd_new (C := codR) w 44 x) ((Fr.refl noB _).alloc (.cells (codR.A y) 44)))).node
  have q2 := (rwAt (Cod.rd_new (C := codR) (w.alloc (.cells (codR.A x) 44)) 44 y)).node
  have hz : (w.alloc (.cells (codR.A x) 44)).heap.size = w.heap.size + 1 := by simp
  rw [hz] at q2
  have q0 := cell_fr0 hY fa
  have hm1 := mpT_fr0 hm fa
  have hR1 := hR.fr fa
  have z1 : w.heap.size < ((w.alloc (.cells (codR.A x) 44)).alloc (.cells (codR.A y) 44)).heap.size := by simp; omega
  have z2 : w.heap.size + 1 < ((w.alloc (.cells (codR.A x) 44)).alloc (.cells (codR.A y) 44)).heap.size := by simp
  have z3 : Y < ((w.alloc (.cells (codR.A x) 44)).alloc (.cells (codR.A y) 44)).heap.size := by
    have : Y < w.heap.size := World.block_lt_of_cell? _ _ hY
    have := fa.size
    omega
  have HCF := Lib.hid (show cfD ys x y = cmpZ (depthN ys ys.length x.Node) (depthN ys ys.length y.Node) from rfl)
  clear hz hY hm hR
  go_enter Try.func50, Try.ntmps50
  go_upto_region 1 with fail
  generalize (w.alloc (.cells (codR.A x) 44)).alloc (.cells (codR.A y) 44) = W1 at fa q0 q1 q2 hm1 hR1 z1 z2 z3 ⊢
  have D1 : ∀ w', Fr noB W1 w' → Calls Try.prog 52 #[.map (some t), .agg (codS.A x.Node)] w' (Gives w' (.int .i64 (depthN ys ys.length x.Node))) := fun w' f => depth_any w' t rs ys (mpT_fr0 hm1 f) (hR1.fr f) x.Node hx.1 ys.length hx.2 (by omega)
  have D2 : ∀ w', Fr noB W1 w' → Calls Try.prog 52 #[.map (some t), .agg (codS.A y.Node)] w' (Gives w' (.int .i64 (depthN ys ys.length y.Node))) := fun w' f => depth_any w' t rs ys (mpT_fr0 hm1 f) (hR1.fr f) y.Node hy.1 ys.length hy.2 (by omega)
  generalize depthN ys ys.length x.Node = a at D1 HCF
  generalize depthN ys ys.length y.Node = b at D2 HCF
  have C3 := fun wS : World => cmpI_call wS (a : Int) (b : Int)
  generalize cmpZ (a : Int) (b : Int) = z at C3 HCF
  clear hm1 hR1
  refine wp_region_fr (by kernel_rfl) (by kernel_rfl) ?_
  iterate 3
    refine wpQ_take (v := ?_) (by rfl) (fun wS hS => ?_) ?_
    rotate_left
    · obtain ⟨L1, L2, L3, L4, L5, L6⟩ := Fr.same hS; have L7 := Fr.sameR hS; go_simp; try with_reducible rfl
    try simp only [List.getElem_toArray, List.getElem_cons_zero, List.getElem_cons_succ, Act.put, List.setIfInBounds_toArray, List.set_cons_zero, List.set_cons_succ]
  refine wpQ_call (by rfl) (fun wS hS => ⟨_, _, ?qh69, Calls.fr hS (D1 _ hS)⟩) ?qk69
  case qh69 => obtain ⟨L1, L2, L3, L4, L5, L6⟩ := Fr.same hS; go_simp; try with_reducible rfl
  try simp only [List.getElem_toArray, List.getElem_cons_zero, List.getElem_cons_succ, Act.put, List.setIfInBounds_toArray, List.set_cons_zero, List.set_cons_succ]
  iterate 3
    refine wpQ_take (v := ?_) (by rfl) (fun wS hS => ?_) ?_
    rotate_left
    · obtain ⟨L1, L2, L3, L4, L5, L6⟩ := Fr.same hS; have L7 := Fr.sameR hS; go_simp; try with_reducible rfl
    try simp only [List.getElem_toArray, List.getElem_cons_zero, List.getElem_cons_succ, Act.put, List.setIfInBounds_toArray, List.set_cons_zero, List.set_cons_succ]
  refine wpQ_call (by rfl) (fun wS hS => ⟨_, _, ?qh77, Calls.fr hS (D2 _ hS)⟩) ?qk77
  case qh77 => obtain ⟨L1, L2, L3, L4, L5, L6⟩ := Fr.same hS; go_simp; try with_reducible rfl
  try simp only [List.getElem_toArray, List.getElem_cons_zero, List.getElem_cons_succ, Act.put, List.setIfInBounds_toArray, List.set_cons_zero, List.set_cons_succ]
  refine wpQ_call (by rfl) (fun wS hS => ⟨_, _, ?qh80, Calls.fr hS (C3 _)⟩) ?qk80
  case qh80 => obtain ⟨L1, L2, L3, L4, L5, L6⟩ := Fr.same hS; go_simp; try with_reducible rfl
  try simp only [List.getElem_toArray, List.getElem_cons_zero, List.getElem_cons_succ, Act.put, List.setIfInBounds_toArray, List.set_cons_zero, List.set_cons_succ]
  refine wpQ_take (v := ?_) (by rfl) (fun wS hS => ?_) ?_
  rotate_left
  · obtain ⟨L1, L2, L3, L4, L5, L6⟩ := Fr.same hS; have L7 := Fr.sameR hS; go_simp; try with_reducible rfl
  try simp only [List.getElem_toArray, List.getElem_cons_zero, List.getElem_cons_succ, Act.put, List.setIfInBounds_toArray, List.set_cons_zero, List.set_cons_succ]
  refine wpQ_nil ?_
  intro w1 f1
  go_wp2_with fail
  go_ret
  exact ⟨by rw [HCF.out]; rfl, fa.step0 f1⟩
/-! moves -/
def movedW (as_ : List RwW) (r : RwW) : Bool := match findW as_ r.Node with
  | none => true
  | some x => !(decide (x.Parent = r.Parent) && decide (x.Name = r.Name))
def goneW (bs : List RwW) (r : RwW) : Bool := (findW bs r.Node).isNone && decide (r.Parent ≠ trS)
theorem movedW_eq {w : World} {as_ : List RwW} {xs : List RwP} (h : RwsIn w as_ xs) {r : RwW} {x : RwP} (hr : RwIn w r x) : movedW as_ r = movedR xs x := by
  unfold movedW movedR
  rw [hr.node]
  rcases h.find r.Node with ⟨h1, h2⟩ | ⟨r', x', h1, h2, h3⟩
  · rw [h1, h2]
  · rw [h1, h2]
    simp only [h3.parent, h3.name, hr.parent, hr.name]
theorem goneW_eq {w : World} {bs : List RwW} {ys : List RwP} (h : RwsIn w bs ys) {r : RwW} {x : RwP} (hr : RwIn w r x) : goneW bs r = goneR ys x := by
  unfold goneW goneR
  rw [hr.node, hr.parent]
  rcases h.find r.Node with ⟨h1, h2⟩ | ⟨r', x', h1, h2, h3⟩
  · rw [h1, h2]; rfl
  · rw [h1, h2]; rfl
/-- the plain row of a row of a tree's -/
def plR (ys : List RwP) (r : RwW) : RwP := (findR ys r.Node).getD ⟨zSt, zSt, zSt, [], []⟩
theorem plR_eq {w : World} {bs : List RwW} {ys : List RwP} (h : RwsIn w bs ys) (hn : (ys.map (·.Node)).Nodup) {r : RwW} {x : RwP} (hx : x ∈ ys) (hr : RwIn w r x) : plR ys r = x := by
  unfold plR
  rw [← hr.node, findR_mem hn hx]
  rfl
theorem filter_two {w : World} : ∀ {bs : List RwW} {ys : List RwP} (all : List RwP), RwsIn w bs ys → (all.map (·.Node)).Nodup → (∀ y ∈ ys, y ∈ all) → ∀ (f : RwW → Bool) (g : RwP → Bool), (∀ r x, RwIn w r x → f r = g x) → (bs.filter f).map (plR all) = ys.filter g
  | [], ys, all, h, hn, hs, f, g, hfg => by
    have := h.len
    obtain rfl : ys = [] := List.length_eq_zero_iff.1 (by simpa using this.symm)
    rfl
  | r :: bs, [], all, h, hn, hs, f, g, hfg => by have := h.len; simp at this
  | r :: bs, y :: ys, all, h, hn, hs, f, g, hfg => by
    obtain ⟨h1, h2⟩ := h.tail
    have ih := filter_two all h2 hn (fun z hz => hs z (List.mem_cons_of_mem _ hz)) f g hfg
    have hy : plR all r = y := by
      unfold plR
      rw [← h1.node, findR_mem hn (hs y (List.mem_cons_self ..))]
      rfl
    rw [List.filter_cons, List.filter_cons, hfg r y h1]
    split
    · rw [List.map_cons, ih, hy]
    · exact ih
def mvW (r : RwW) : OpW := { zOpW with Kind := 1, Node := r.Node, Parent := r.Parent, Name := r.Name }
def trW (r : RwW) : OpW := { zOpW with Kind := 1, Node := r.Node, Parent := trS, Name := r.Name }
theorem mvV {W w w' : World} {r : RwW} {x : RwP} (h : RwIn w r x) : OpV W w' (mvW r) (mvO x) :=
  ⟨⟨by unfold mvO opOf mvW zOpW; simp only [h.node, h.parent, h.name], rfl, Sl.nil _ _, by simp [mvO], h.nm⟩, World.ownsRow_nil _ _ _ _⟩
theorem trV {W w w' : World} {r : RwW} {x : RwP} (h : RwIn w r x) : OpV W w' (trW r) (trO x) :=
  ⟨⟨by unfold trO opOf trW zOpW; simp only [h.node, h.name], rfl, Sl.nil _ _, by simp [trO], h.nm⟩, World.ownsRow_nil _ _ _ _⟩
def MvA (w : World) (W : World) (M : Nat) (s : St) (as_ bs : List RwW) (gk : Nat) (lv iv : Value) (wr : World) : Prop :=
  ∃ (k : Nat) (A8 : Option Addr) (c8 : Nat) (ls : List RwW), iv = .int .i64 (k : Int) ∧ lv = .slice A8 ls.length c8 ∧ gk = bs.length - k ∧ k ≤ bs.length ∧ ls = (bs.take k).filter (movedW as_) ∧ OwnC codR w wr A8 c8 ls ∧ Fr noB w wr
theorem filter_take_succ {α : Type} (f : α → Bool) (l : List α) (k : Nat) (h : k < l.length) : (l.take (k + 1)).filter f = (l.take k).filter f ++ (if f l[k] then [l[k]] else []) := by
  rw [List.take_succ_eq_append_getElem h, List.filter_append]
  congr 1
  by_cases hf : f l[k] <;> simp [hf]
theorem length_filter_take {α : Type} (f : α → Bool) (l : List α) (k : Nat) : ((l.take k).filter f).length ≤ k := by
  have := List.length_filter_le f (l.take k)
  rw [List.length_take] at this
  omega
end Go.Proofs.Ytefcalkbfaefgaa
namespace Go.Proofs.Ytefcalkbfaefgaa
open Go.RowKit Go.Sort
set_option linter.unusedVariables false
set_option linter.unusedSimpArgs false

theorem RwA.mk_ {w w' : World} {g : Nat} {d : Array RwW} (h : RwA codR w g d) (f : Fr (MkB w) w w') : RwA codR w' g d := by
  have hl := h.lt
  obtain ⟨cur, hg, ht⟩ := h
  refine ⟨cur, (f.block g hl fun hM => ?_).trans hg, ht⟩
  obtain ⟨cs, t, z, hb, h1⟩ := hM
  rw [hg] at hb
  injection hb with hb
  injection hb with _ h2
  subst h2
  rcases h1 with h1 | h1 <;> exact absurd h1 (by decide)
theorem Blk.mk_ {w w' : World} {g : Nat} {cs : List Value} (h : Blk w g 56 cs) (f : Fr (MkB w) w w') : Blk w' g 56 cs := h.fr f fun ⟨cs', t, z, hb, h1⟩ => by
  unfold Blk at h
  rw [h] at hb
  injection hb with hb
  injection hb with _ h2
  subst h2
  rcases h1 with h1 | h1 <;> exact absurd h1 (by decide)
def MvB (V : World) (M : Nat) (s : St) (ys : List RwP) (A8 : Option Addr) (l : List RwW) (Y t2 : Nat) (bs : List RwW) (gk : Nat) (iv : Value) (wr : World) : Prop :=
  ∃ k : Nat, iv = .int .i64 (k : Int) ∧ gk = l.length - k ∧ k ≤ l.length ∧ MkL V wr M s ((l.take k).map fun r => mvO (plR ys r)) ∧ (∀ g, A8 = some ⟨g, 0, none⟩ → l ≠ [] → RwA codR wr g l.toArray) ∧ Blk wr Y 56 [.map (some t2)] ∧ mpT wr t2 = some (tab bs)
def MvC (V : World) (M : Nat) (s : St) (L1 : List Opn) (xs ys : List RwP) (Y t2 : Nat) (bs : List RwW) (gk : Nat) (iv : Value) (wr : World) : Prop :=
  ∃ k : Nat, iv = .int .i64 (k : Int) ∧ gk = xs.length - k ∧ k ≤ xs.length ∧ MkL V wr M s (L1 ++ ((xs.take k).filter (goneR ys)).map trO) ∧ Blk wr Y 56 [.map (some t2)] ∧ mpT wr t2 = some (tab bs)
theorem own_ne_map {w : World} {base : Nat} {e : TypeId} {size n c : Nat} {A : Option Addr} {xs : List Value} (h : w.ownsRow base e size (.slice A n c) n xs) {r : Nat} {kv : List (St × Value)} (hm : mpT w r = some kv) : ¬ A.map (·.block) = some r := fun e => by
  rcases h.2 with ⟨hv, _⟩ | ⟨g, cap, cur, hv, _, hg, _⟩
  · injection hv with hv; subst hv; cases e
  · injection hv with hv
    subst hv
    simp only [Option.map_some, Option.some.injEq] at e
    exact mpT_ne hm hg e
theorem MkL.two {V w w' : World} {M : Nat} {s : St} {L : List Opn} (h : MkL V w M s L) {base n c : Nat} {A : Option Addr} {xs : List Value} (ho : w.ownsRow base codR.t codR.n (.slice A n c) n xs) (hb : V.heap.size ≤ base) (f : Fr (fun b => A.map (·.block) = some b) w w') : MkL V w' M s L := by
  obtain ⟨B, d, rs, h1, h2, h3, h4⟩ := h
  have hne := (Cod.bxd_blk h1).ne_own ho (by decide)
  refine ⟨B, d, rs, Cod.bxd_fr h1 f (fun e => hne M (by rw [ownBlock_sl']; exact e) rfl), ⟨own_two ho h2.hps (by decide) f, own_two ho h2.hrs (by decide) f, h2.hos.map fun v n l hv => own_two ho hv (by decide) f⟩, h3.step f (fun b hb' => .inl ?_), h4⟩
  have := (own_lt ho b hb').1
  omega
/-- the moves of a turn -/
def MvTo (V : World) (M : Nat) (s : St) (xs ys : List RwP) (e : Ending) (w' : World) : Prop := e = .returned (.tuple #[]) ∧ ∃ l : List RwP, l.Perm (ys.filter (movedR xs)) ∧ l.Pairwise (fun p q => ¬ depthN ys ys.length q.Node < depthN ys ys.length p.Node) ∧ MkL V w' M s (l.map mvO ++ (xs.filter (goneR ys)).map trO)
set_option maxRecDepth 100000 in
set_option maxHeartbeats 8000000 in
theorem moves_any (V w : World) (M : Nat) (s : St) (hs : 0 ≤ s.T ∧ s.T ≤ 100000000000000) (h : MkL V w M s []) (A B : Option Addr) (c d n m : Nat) (as_ bs : List RwW) (xs ys : List RwP) (hn : as_.length = n) (hm : bs.length = m)
    (hSA : Sl V A (codR.row as_)) (hSB : Sl V B (codR.row bs)) (hX : RwsIn V as_ xs) (hY : RwsIn V bs ys) (tX : TreeOk xs) (tY : TreeOk ys) :
    Calls Try.prog 36 #[.pointer (some ⟨M, 0, none⟩), .slice A n c, .slice B m d] w (MvTo V M s xs ys) := by
  subst hn hm
  have hla : as_.length ≤ 5000 := by rw [hX.len]; exact tX.len
  have hlb : bs.length ≤ 5000 := by rw [hY.len]; exact tY.len
  have hV := MkS.fr h
  have ndA : (as_.map (·.Node)).Nodup := by rw [hX.nodes]; exact tX.nd
  have ndB : (bs.map (·.Node)).Nodup := by rw [hY.nodes]; exact tY.nd
  have HNB := Lib.hid tY.nd
  have C1 := of_any w A c as_.length as_ rfl (hSA.fr0 hV) (by omega) ndA (fun r hr => (hX.wf hr).1)
  have C2 := fun w' => fun (f : Fr noB w w') => of_any w' B d bs.length bs rfl ((hSB.fr0 hV).fr0 f) (by omega) ndB (fun r hr => (hY.wf hr).1)
  have HC := Lib.hid (And.intro C1 C2)
  clear C1 C2 ndA ndB
  go_enter Try.func36, Try.ntmps36
  have tok : True := trivial
  go_upto_region 1 with (first
    | (go_at_call 24; have _t := tok; refine HC.out.1.mono ?_; rintro e w1 ⟨t1, rfl, m1, hg1, f1⟩; clear tok _t)
    | (go_at_call 24; refine (HC.out.2 w1 f1).mono ?_; rintro e w2 ⟨t2, rfl, m2, hg2, f2⟩))
  have fY : Fr noB w2 (w2.alloc (.cells #[.map (some t2)] 56)) := (Fr.refl noB w2).alloc _
  have bY : Blk (w2.alloc (.cells #[.map (some t2)] 56)) w2.heap.size 56 [.map (some t2)] := Blk.new w2 56 [.map (some t2)]
  have m1' := mpT_fr0 (mpT_fr0 m1 f2) fY
  have m2' := mpT_fr0 m2 fY
  have fW := (f1.step0 f2).step0 fY
  clear HC m1 m2 hg1 hg2
  generalize w2.alloc (.cells #[.map (some t2)] 56) = W2 at bY m1' m2' fW ⊢
  clear f1 f2 fY
  obtain ⟨Y, hYe⟩ : ∃ x, x = w2.heap.size := ⟨_, rfl⟩
  rw [← hYe] at bY ⊢
  clear hYe
  have hVW := hV.step0 fW
  have HM := Lib.hid (MkL.new h fW)
  clear h hV
  go_wp2_with fail
  go_loopg [8, 25] bs.length (fun gk lv iv wr => MvA W2 V M s as_ bs gk lv iv wr)
  case atStart => exact ⟨0, none, 0, [], rfl, rfl, by omega, by omega, rfl, World.ownsRow_nil _ _ _ _, Fr.refl _ _⟩
  case round =>
    obtain ⟨k, A8, c8, ls, rfl, rfl, rfl, hk, hls, hown, hf2⟩ := hrel
    have HLS := Lib.hid hls
    have hlsb : ls.length ≤ k := by rw [hls]; exact length_filter_take _ _ _
    clear hls
    by_cases hlt : k < bs.length
    · have i1 : (k : Int) < (bs.length : Int) := by omega
      have i0 : (0 : Int) ≤ (k : Int) := by omega
      have hBr := (hSB.fr0 hVW).fr0 hf2
      obtain ⟨g, off, rfl, hg⟩ := hBr.adC (by omega)
      have e1 : codR.rd wr g (off + k * 8) = some bs[k] := hBr.rd k hlt
      have hwf := (hY.wf (List.getElem_mem hlt)).1
      have hnext := filter_take_succ (movedW as_) bs k hlt
      generalize bs[k] = r at e1 hwf hnext
      have HNX := Lib.hid hnext
      clear hnext
      have fa : Fr noB wr (wr.alloc (codR.o r)) := (Fr.refl noB wr).alloc _
      have mx := mpT_fr0 (mpT_fr0 m1' hf2) fa
      have n1 := Cod.rd_new' (C := codR) wr r
      have nn1 := (rwAt n1).node
      cases hfw : findW as_ r.Node with
      | none =>
        have HMV := Lib.hid (show movedW as_ r = true by unfold movedW; rw [hfw])
        have hlk : Go.Proofs.Ytefcalkbfaefgaa.look (tab as_) r.Node = none := by rw [look_tab, hfw]; rfl
        clear hfw
        -- the other row's box holds zRwW
        have fb : Fr noB (wr.alloc (codR.o r)) ((wr.alloc (codR.o r)).alloc (codR.o zRwW)) := (Fr.refl noB _).alloc _
        have n2 := Cod.rd_new' (C := codR) (wr.alloc (codR.o r)) zRwW
        have hz : (wr.alloc (codR.o r)).heap.size = wr.heap.size + 1 := by simp
        rw [hz] at n2
        have n1b := Cod.rd_fr0 n1 fb
        obtain ⟨u1, u2, u3, u4, u5, u6⟩ := rwAt n1b
        obtain ⟨v1, v2, v3, v4, v5, v6⟩ := rwAt n2
        have hown4 := own_new0 (own_new0 hown fa) fb
        have hf24 := (hf2.step0 fa).step0 fb
        clear hz n1b n2 n1 hown u1 u3 u5 v1 v3 v5 v6
        -- the row is taken
        have fr_ : Fr noB ((wr.alloc (codR.o r)).alloc (codR.o zRwW)) (((wr.alloc (codR.o r)).alloc (codR.o zRwW)).alloc (codR.ro [r])) := (Fr.refl noB _).alloc _
        have sl := Cod.sl_new (C := codR) ((wr.alloc (codR.o r)).alloc (codR.o zRwW)) [r]
        have hz2 : ((wr.alloc (codR.o r)).alloc (codR.o zRwW)).heap.size = wr.heap.size + 2 := by simp
        rw [hz2] at sl
        have hown5 := own_new0 hown4 fr_
        have hf25 := hf24.step0 fr_
        have hnx := HNX.out.trans (by rw [if_pos HMV.out, ← HLS.out])
        have HNX2 := Lib.hid hnx
        clear hz2 hown4 fr_ hf24 hnx
        go_wp2_with (at_builtin; refine wpList_appC' etR W2 _ rfl _ _ rfl A8 ls.length c8 ls rfl rfl hown5 (some ⟨wr.heap.size + 2, 0, none⟩) 1 1 [r] rfl sl rfl (by simp; omega) hf25.size ?_; intro A7 c7 w7 hc7 hmx7 ho7 hg7 hA7; obtain ⟨ls', hls'⟩ : ∃ l : List RwW, l = ls ++ [r] := ⟨_, rfl⟩; rw [← hls'] at ho7 ⊢; have HLE := Lib.hid hls'; clear hls' hmx7 hc7)
        have hf7 := Fr.own' hf25 hown5 hg7
        go_roundg (bs.length - (k + 1))
        case measure => omega
        case rel => exact ⟨k + 1, A7, c7, ls', by simp, rfl, rfl, by omega, by rw [HNX2.out]; exact HLE.out, ho7, hf7⟩
      | some x =>
        have hlk : Go.Proofs.Ytefcalkbfaefgaa.look (tab as_) r.Node = some (.agg (codR.A x)) := by rw [look_tab, hfw]; rfl
        have hmv : movedW as_ r = !(decide (x.Parent = r.Parent) && decide (x.Name = r.Name)) := by unfold movedW; rw [hfw]
        clear hfw
        by_cases hp : x.Parent = r.Parent
        · by_cases hq : x.Name = r.Name
          · have HMV := Lib.hid (show movedW as_ r = false by rw [hmv]; simp [hp, hq])
            have d1 : decide (x.Parent = r.Parent) = true := by simp [hp]
            have d2 : decide (x.Name = r.Name) = true := by simp [hq]
            clear hmv hp hq
            -- the other row's box holds x
            have fb : Fr noB (wr.alloc (codR.o r)) ((wr.alloc (codR.o r)).alloc (codR.o x)) := (Fr.refl noB _).alloc _
            have n2 := Cod.rd_new' (C := codR) (wr.alloc (codR.o r)) x
            have hz : (wr.alloc (codR.o r)).heap.size = wr.heap.size + 1 := by simp
            rw [hz] at n2
            have n1b := Cod.rd_fr0 n1 fb
            obtain ⟨u1, u2, u3, u4, u5, u6⟩ := rwAt n1b
            obtain ⟨v1, v2, v3, v4, v5, v6⟩ := rwAt n2
            have hown4 := own_new0 (own_new0 hown fa) fb
            have hf24 := (hf2.step0 fa).step0 fb
            clear hz n1b n2 n1 hown u1 u3 u5 v1 v3 v5 v6
            have hnx := HNX.out.trans (by rw [if_neg (by rw [HMV.out]; decide), ← HLS.out, List.append_nil])
            have HNX2 := Lib.hid hnx
            clear hnx
            go_wp2_with fail
            go_roundg (bs.length - (k + 1))
            case measure => omega
            case rel => exact ⟨k + 1, A8, c8, ls, by simp, rfl, rfl, by omega, HNX2.out.symm, hown4, hf24⟩
          · have HMV := Lib.hid (show movedW as_ r = true by rw [hmv]; simp [hq])
            have d1 : decide (x.Parent = r.Parent) = true := by simp [hp]
            have d2 : decide (x.Name = r.Name) = false := by simp [hq]
            clear hmv hp hq
            -- the other row's box holds x
            have fb : Fr noB (wr.alloc (codR.o r)) ((wr.alloc (codR.o r)).alloc (codR.o x)) := (Fr.refl noB _).alloc _
            have n2 := Cod.rd_new' (C := codR) (wr.alloc (codR.o r)) x
            have hz : (wr.alloc (codR.o r)).heap.size = wr.heap.size + 1 := by simp
            rw [hz] at n2
            have n1b := Cod.rd_fr0 n1 fb
            obtain ⟨u1, u2, u3, u4, u5, u6⟩ := rwAt n1b
            obtain ⟨v1, v2, v3, v4, v5, v6⟩ := rwAt n2
            have hown4 := own_new0 (own_new0 hown fa) fb
            have hf24 := (hf2.step0 fa).step0 fb
            clear hz n1b n2 n1 hown u1 u3 u5 v1 v3 v5 v6
            -- the row is taken
            have fr_ : Fr noB ((wr.alloc (codR.o r)).alloc (codR.o x)) (((wr.alloc (codR.o r)).alloc (codR.o x)).alloc (codR.ro [r])) := (Fr.refl noB _).alloc _
            have sl := Cod.sl_new (C := codR) ((wr.alloc (codR.o r)).alloc (codR.o x)) [r]
            have hz2 : ((wr.alloc (codR.o r)).alloc (codR.o x)).heap.size = wr.heap.size + 2 := by simp
            rw [hz2] at sl
            have hown5 := own_new0 hown4 fr_
            have hf25 := hf24.step0 fr_
            have hnx := HNX.out.trans (by rw [if_pos HMV.out, ← HLS.out])
            have HNX2 := Lib.hid hnx
            clear hz2 hown4 fr_ hf24 hnx
            go_wp2_with (at_builtin; refine wpList_appC' etR W2 _ rfl _ _ rfl A8 ls.length c8 ls rfl rfl hown5 (some ⟨wr.heap.size + 2, 0, none⟩) 1 1 [r] rfl sl rfl (by simp; omega) hf25.size ?_; intro A7 c7 w7 hc7 hmx7 ho7 hg7 hA7; obtain ⟨ls', hls'⟩ : ∃ l : List RwW, l = ls ++ [r] := ⟨_, rfl⟩; rw [← hls'] at ho7 ⊢; have HLE := Lib.hid hls'; clear hls' hmx7 hc7)
            have hf7 := Fr.own' hf25 hown5 hg7
            go_roundg (bs.length - (k + 1))
            case measure => omega
            case rel => exact ⟨k + 1, A7, c7, ls', by simp, rfl, rfl, by omega, by rw [HNX2.out]; exact HLE.out, ho7, hf7⟩
        · have HMV := Lib.hid (show movedW as_ r = true by rw [hmv]; simp [hp])
          have d1 : decide (x.Parent = r.Parent) = false := by simp [hp]
          clear hmv hp
          -- the other row's box holds x
          have fb : Fr noB (wr.alloc (codR.o r)) ((wr.alloc (codR.o r)).alloc (codR.o x)) := (Fr.refl noB _).alloc _
          have n2 := Cod.rd_new' (C := codR) (wr.alloc (codR.o r)) x
          have hz : (wr.alloc (codR.o r)).heap.size = wr.heap.size + 1 := by simp
          rw [hz] at n2
          have n1b := Cod.rd_fr0 n1 fb
          obtain ⟨u1, u2, u3, u4, u5, u6⟩ := rwAt n1b
          obtain ⟨v1, v2, v3, v4, v5, v6⟩ := rwAt n2
          have hown4 := own_new0 (own_new0 hown fa) fb
          have hf24 := (hf2.step0 fa).step0 fb
          clear hz n1b n2 n1 hown u1 u3 u5 v1 v3 v5 v6
          -- the row is taken
          have fr_ : Fr noB ((wr.alloc (codR.o r)).alloc (codR.o x)) (((wr.alloc (codR.o r)).alloc (codR.o x)).alloc (codR.ro [r])) := (Fr.refl noB _).alloc _
          have sl := Cod.sl_new (C := codR) ((wr.alloc (codR.o r)).alloc (codR.o x)) [r]
          have hz2 : ((wr.alloc (codR.o r)).alloc (codR.o x)).heap.size = wr.heap.size + 2 := by simp
          rw [hz2] at sl
          have hown5 := own_new0 hown4 fr_
          have hf25 := hf24.step0 fr_
          have hnx := HNX.out.trans (by rw [if_pos HMV.out, ← HLS.out])
          have HNX2 := Lib.hid hnx
          clear hz2 hown4 fr_ hf24 hnx
          go_wp2_with (at_builtin; refine wpList_appC' etR W2 _ rfl _ _ rfl A8 ls.length c8 ls rfl rfl hown5 (some ⟨wr.heap.size + 2, 0, none⟩) 1 1 [r] rfl sl rfl (by simp; omega) hf25.size ?_; intro A7 c7 w7 hc7 hmx7 ho7 hg7 hA7; obtain ⟨ls', hls'⟩ : ∃ l : List RwW, l = ls ++ [r] := ⟨_, rfl⟩; rw [← hls'] at ho7 ⊢; have HLE := Lib.hid hls'; clear hls' hmx7 hc7)
          have hf7 := Fr.own' hf25 hown5 hg7
          go_roundg (bs.length - (k + 1))
          case measure => omega
          case rel => exact ⟨k + 1, A7, c7, ls', by simp, rfl, rfl, by omega, by rw [HNX2.out]; exact HLE.out, ho7, hf7⟩
    · have hkn : k = bs.length := by omega
      subst hkn
      have i1 : ¬ (bs.length : Int) < (bs.length : Int) := by omega
      have hls := HLS.out
      rw [List.take_length] at hls
      have HLS2 := Lib.hid hls
      have hmem : ∀ r ∈ ls, r ∈ bs := fun r hr => by
        rw [hls] at hr
        exact (List.mem_filter.1 hr).1
      have hok : ∀ r ∈ ls, okD ys r := fun r hr => by
        obtain ⟨x, hx, hin⟩ := hY.mem (hmem r hr)
        exact ⟨hin.wn, by rw [← hin.node]; exact tY.reach hx⟩
      have HOK := Lib.hid hok
      have HMEM := Lib.hid hmem
      have hyl : ys.length ≤ 100000 := by rw [← hY.len]; omega
      have HCM := Lib.hid (show ∀ g, A8 = some ⟨g, 0, none⟩ → CmpFRow (okD ys) wr g (.pointer (some ⟨Y, 0, none⟩)) (cfD ys) ls.length from fun g hg W d hd S x y px py => by
        have hgn : W2.heap.size ≤ g ∧ g < wr.heap.size := by
          subst hg
          exact own_lt hown g rfl
        have fS : Fr noB W2 W := hf2.step1 S.fr hgn.1
        refine moves1_any W Y t2 bs ys ?_ (mpT_fr0 m2' fS) (hY.fr (hVW.step0 fS)) hyl x y px py
        have := (bY.fr fS (by simp [noB])).cell 0
        simpa using this)
      have HM2 := Lib.hid (MkL.new HM.out hf2)
      have bY2 := bY.fr hf2 (by simp [noB])
      have m22 := mpT_fr0 m2' hf2
      have hown' := hown
      have hf2' := hf2
      clear hls hmem hok m1' m2' bY HM hlt HLS hk
      go_upto_region 10 with (go_at_call 49; refine (ssRow_any (okD ys) (cfD ys) (swoD ys) _ W2.heap.size A8 c8 ls.length ls (.pointer (some ⟨Y, 0, none⟩)) rfl hown HOK.out (by omega) HCM.out).mono ?_; rintro e w5 ⟨rfl, ls', hperm, hpw, hsl, f5, hra⟩)
      have hM5 := HM2.out.two hown' (Nat.le_trans (Nat.le_refl _) hVW.size) f5
      have bY5 := bY2.fr f5 (fun e => (bY2.ne_own hown' (by decide)) Y (by rw [ownBlock_sl']; exact e) rfl)
      have m25 := mpT_fr m22 f5 (own_ne_map hown' m22)
      have HGA := Lib.hid (show ls' ≠ [] → ∃ g, A8 = some ⟨g, 0, none⟩ from fun h0 => by
        have h1 : ls ≠ [] := fun e => h0 (by subst e; exact List.Perm.eq_nil hperm)
        obtain ⟨g, hg, _⟩ := RwA.own hown' h1
        exact ⟨g, hg⟩)
      have hlen := hperm.length_eq
      rw [← hlen]
      have HPW := Lib.hid hpw
      have HPERM := Lib.hid hperm
      have HRA := Lib.hid hra
      have hllb : ls'.length ≤ 5000 := by omega
      have HMEM2 := Lib.hid (show ∀ r ∈ ls', r ∈ bs from fun r hr => HMEM.out r (hperm.mem_iff.1 hr))
      clear hown hown' hf2 hf2' bY2 m22 HM2 HCM HOK HMEM hsl f5 hlen hpw hperm hra hlsb
      go_wp2_with fail
      go_loopg [62] ls'.length (fun gk iv wr => MvB V M s ys A8 ls' Y t2 bs gk iv wr)
      case atStart => exact ⟨0, rfl, by omega, by omega, hM5, HRA.out, bY5, m25⟩
      case round =>
        clear hM5 bY5 m25 HRA
        obtain ⟨k, rfl, rfl, hk, hM6, hra, bY6, m26⟩ := hrel
        have HRA := Lib.hid hra
        clear hra
        by_cases hlt : k < ls'.length
        · have i3 : (k : Int) < (ls'.length : Int) := by omega
          have i4 : (0 : Int) ≤ (k : Int) := by omega
          have hne : ls' ≠ [] := by intro h0; rw [h0] at hlt; simp at hlt
          obtain ⟨g, rfl⟩ := HGA.out hne
          have hra := HRA.out g rfl hne
          have e1 : codR.rd wr g (k * 8) = some ls'[k] := by
            have h1 : codR.rd wr g (k * 8) = some (ls'.toArray[k]!) := hra.rd k (by simpa using hlt)
            rw [getElem!_pos _ k (by simpa using hlt)] at h1
            simpa using h1
          have hmb := HMEM2.out _ (List.getElem_mem hlt)
          have hnext := List.take_succ_eq_append_getElem hlt
          generalize ls'[k] = r at e1 hmb hnext
          obtain ⟨y, hy, hin⟩ := hY.mem hmb
          have hpl := plR_eq hY HNB.out hy hin
          have HL := Lib.hid (show (ls'.take (k + 1)).map (fun r => mvO (plR ys r)) = (ls'.take k).map (fun r => mvO (plR ys r)) ++ [mvO (plR ys r)] by rw [hnext, List.map_append]; rfl)
          rw [← hpl] at hin
          have hRA := Lib.hid hra
          have fa : Fr noB wr (wr.alloc (codR.o r)) := (Fr.refl noB wr).alloc _
          obtain ⟨u1, u2, u3, u4, u5, u6⟩ := rwAt (Cod.rd_new' (C := codR) wr r)
          have hM7 := MkL.new hM6 fa
          have HOV := Lib.hid (show OpV V (wr.alloc (codR.o r)) (mvW r) (mvO (plR ys r)) from mvV hin)
          have hbl : ((ls'.take k).map fun r => mvO (plR ys r)).length ≤ 100000000 := by simp; omega
          have HBL := Lib.hid hbl
          clear hnext hpl hy hmb hin hra hM6 u3 u5 u6 hbl
          go_wp2_with (go_at_call 53; refine (put_l V _ M s _ hM7 hs HBL.out (mvW r) (mvO (plR ys r)) HOV.out).mono ?_; rintro e w8 ⟨rfl, hM8, f8⟩)
          go_roundg (ls'.length - (k + 1))
          case measure => omega
          case rel => exact ⟨k + 1, by simp, rfl, by omega, by rw [HL.out]; exact hM8, fun g' hg' _ => by
            injection hg' with hg'
            injection hg' with hg'
            subst hg'
            exact (hRA.out.fr0 fa).mk_ f8, (bY6.fr fa (by simp [noB])).mk_ f8, mpT_mk f8 (mpT_fr0 m26 fa)⟩
        · have hkn : k = ls'.length := by omega
          subst hkn
          have i3 : ¬ (ls'.length : Int) < (ls'.length : Int) := by omega
          rw [List.take_length] at hM6
          have hxl : xs.length = as_.length := hX.len.symm
          have HXL := Lib.hid hxl
          obtain ⟨L1, hL1⟩ : ∃ L1, L1 = ls'.map fun r => mvO (plR ys r) := ⟨_, rfl⟩
          rw [← hL1] at hM6
          have HL1 := Lib.hid hL1
          have hL1b : L1.length ≤ 5000 := by rw [hL1]; simp; omega
          clear hL1 HRA hk hlt hxl
          go_wp2_with fail
          go_loopg [78] as_.length (fun gk iv wr => MvC V M s L1 xs ys Y t2 bs gk iv wr)
          case atStart => exact ⟨0, rfl, by have := HXL.out; omega, by omega, by simpa using hM6, bY6, m26⟩
          case round =>
            clear hM6 bY6 m26
            obtain ⟨k, rfl, hgk, hk, hM6, bY6, m26⟩ := hrel
            have HGK := Lib.hid hgk
            clear hgk
            by_cases hlt : k < as_.length
            · have i5 : (k : Int) < (as_.length : Int) := by omega
              have i6 : (0 : Int) ≤ (k : Int) := by omega
              have hfV := MkS.fr hM6
              have hSr := hSA.fr0 hfV
              obtain ⟨g, off, rfl, hg⟩ := hSr.adC (by omega)
              have e1 : codR.rd wr g (off + k * 8) = some as_[k] := hSr.rd k hlt
              have hlt2 : k < xs.length := by rw [HXL.out]; exact hlt
              have hin : RwIn V as_[k] xs[k] := hX.at_ k hlt hlt2
              have hgo := goneW_eq hY hin
              have hnext := filter_take_succ (goneR ys) xs k hlt2
              have hlf := length_filter_take (goneR ys) xs k
              generalize as_[k] = r at e1 hin hgo
              generalize xs[k] = x at hin hgo hnext
              rw [← hgo] at hnext
              have HNX := Lib.hid hnext
              have HLF := Lib.hid hlf
              have hwf := hin.wn
              have HOV := Lib.hid (fun w' => (show OpV V w' (trW r) (trO x) from trV hin))
              clear hnext hlf hgo hin hfV hlt2
              have fa : Fr noB wr (wr.alloc (codR.o r)) := (Fr.refl noB wr).alloc _
              have bYa := bY6.fr fa (by simp [noB])
              have yc : (wr.alloc (codR.o r)).cell? ⟨Y, 0, none⟩ = some (.map (some t2)) := by simpa using bYa.cell 0
              have mx := mpT_fr0 m26 fa
              have n1 := Cod.rd_new' (C := codR) wr r
              have nn1 := (rwAt n1).node
              cases hfw : findW bs r.Node with
              | some y =>
                have hlk : Go.Proofs.Ytefcalkbfaefgaa.look (tab bs) r.Node = some (.agg (codR.A y)) := by rw [look_tab, hfw]; rfl
                have HG := Lib.hid (show goneW bs r = false by unfold goneW; rw [hfw]; rfl)
                clear hfw
                have fb : Fr noB (wr.alloc (codR.o r)) ((wr.alloc (codR.o r)).alloc (codR.o y)) := (Fr.refl noB _).alloc _
                obtain ⟨u1, u2, u3, u4, u5, u6⟩ := rwAt (Cod.rd_fr0 n1 fb)
                have hM7 := MkL.new (MkL.new hM6 fa) fb
                have bY7 := bYa.fr fb (by simp [noB])
                have m27 := mpT_fr0 mx fb
                have zN : wr.heap.size < ((wr.alloc (codR.o r)).alloc (codR.o y)).heap.size := by simp; omega
                clear n1 u3 u5 u6 hM6 bY6 m26
                go_upto_region 19 with fail
                generalize (wr.alloc (codR.o r)).alloc (codR.o y) = W7 at u1 u2 u4 hM7 bY7 m27 zN ⊢
                obtain ⟨N, hN⟩ : ∃ x, x = wr.heap.size := ⟨_, rfl⟩
                rw [← hN] at u1 u2 u4 zN ⊢
                clear hN fa fb yc mx nn1 bYa hlk e1
                refine wp_region_fr (by kernel_rfl) (by kernel_rfl) ?_
                iterate 3
                  refine wpQ_take (v := ?_) (by rfl) (fun wS hS => ?_) ?_
                  rotate_left
                  · obtain ⟨L1, L2, L3, L4, L5, L6⟩ := Fr.same hS; have L7 := Fr.sameR hS; go_simp; try with_reducible rfl
                  try simp only [List.getElem_toArray, List.getElem_cons_zero, List.getElem_cons_succ, Act.put, List.setIfInBounds_toArray, List.set_cons_zero, List.set_cons_succ]
                iterate 4
                  refine wpQ_off (by rfl) ?_
                  try simp only [List.getElem_toArray, List.getElem_cons_zero, List.getElem_cons_succ, Act.put, List.setIfInBounds_toArray, List.set_cons_zero, List.set_cons_succ]
                refine wpQ_take (v := ?_) (by rfl) (fun wS hS => ?_) ?_
                rotate_left
                · obtain ⟨L1, L2, L3, L4, L5, L6⟩ := Fr.same hS; have L7 := Fr.sameR hS; go_simp; try with_reducible rfl
                try simp only [List.getElem_toArray, List.getElem_cons_zero, List.getElem_cons_succ, Act.put, List.setIfInBounds_toArray, List.set_cons_zero, List.set_cons_succ]
                refine wpQ_nil ?_
                intro w1 f1
                have HNX2 := Lib.hid (HNX.out.trans (by rw [if_neg (by rw [HG.out]; decide), List.append_nil]))
                go_wp2_with fail
                go_roundg (xs.length - (k + 1))
                case measure => have := HGK.out; have := HXL.out; omega
                case rel => exact ⟨k + 1, by simp, rfl, by have := HXL.out; omega, by rw [HNX2.out]; exact MkL.new hM7 f1, bY7.fr f1 (by simp [noB]), mpT_fr0 m27 f1⟩
              | none =>
                have hlk : Go.Proofs.Ytefcalkbfaefgaa.look (tab bs) r.Node = none := by rw [look_tab, hfw]; rfl
                by_cases hpt : r.Parent = trS
                · have HG := Lib.hid (show goneW bs r = false by unfold goneW; rw [hpt]; simp)
                  have d1 : decide (r.Parent = trS) = true := by simp [hpt]
                  clear hfw hpt
                  have fb : Fr noB (wr.alloc (codR.o r)) ((wr.alloc (codR.o r)).alloc (codR.o zRwW)) := (Fr.refl noB _).alloc _
                  obtain ⟨u1, u2, u3, u4, u5, u6⟩ := rwAt (Cod.rd_fr0 n1 fb)
                  have hM7 := MkL.new (MkL.new hM6 fa) fb
                  have bY7 := bYa.fr fb (by simp [noB])
                  have m27 := mpT_fr0 mx fb
                  have zN : wr.heap.size < ((wr.alloc (codR.o r)).alloc (codR.o zRwW)).heap.size := by simp; omega
                  clear n1 u3 u5 u6 hM6 bY6 m26
                  go_upto_region 19 with fail
                  generalize (wr.alloc (codR.o r)).alloc (codR.o zRwW) = W7 at u1 u2 u4 hM7 bY7 m27 zN ⊢
                  obtain ⟨N, hN⟩ : ∃ x, x = wr.heap.size := ⟨_, rfl⟩
                  rw [← hN] at u1 u2 u4 zN ⊢
                  clear hN fa fb yc mx nn1 bYa hlk e1
                  have C1 := fun wS : World => trash_any wS
                  refine wp_region_fr (by kernel_rfl) (by kernel_rfl) ?_
                  iterate 5
                    refine wpQ_take (v := ?_) (by rfl) (fun wS hS => ?_) ?_
                    rotate_left
                    · obtain ⟨L1, L2, L3, L4, L5, L6⟩ := Fr.same hS; have L7 := Fr.sameR hS; go_simp; try with_reducible rfl
                    try simp only [List.getElem_toArray, List.getElem_cons_zero, List.getElem_cons_succ, Act.put, List.setIfInBounds_toArray, List.set_cons_zero, List.set_cons_succ]
                  refine wpQ_call (by rfl) (fun wS hS => ⟨_, _, ?qh412, Calls.fr hS (C1 _)⟩) ?qk412
                  case qh412 => obtain ⟨L1, L2, L3, L4, L5, L6⟩ := Fr.same hS; go_simp; try with_reducible rfl
                  try simp only [List.getElem_toArray, List.getElem_cons_zero, List.getElem_cons_succ, Act.put, List.setIfInBounds_toArray, List.set_cons_zero, List.set_cons_succ]
                  iterate 2
                    refine wpQ_take (v := ?_) (by rfl) (fun wS hS => ?_) ?_
                    rotate_left
                    · obtain ⟨L1, L2, L3, L4, L5, L6⟩ := Fr.same hS; have L7 := Fr.sameR hS; go_simp; try with_reducible rfl
                    try simp only [List.getElem_toArray, List.getElem_cons_zero, List.getElem_cons_succ, Act.put, List.setIfInBounds_toArray, List.set_cons_zero, List.set_cons_succ]
                  refine wpQ_nil ?_
                  intro w1 f1
                  have HNX2 := Lib.hid (HNX.out.trans (by rw [if_neg (by rw [HG.out]; decide), List.append_nil]))
                  go_wp2_with fail
                  go_roundg (xs.length - (k + 1))
                  case measure => have := HGK.out; have := HXL.out; omega
                  case rel => exact ⟨k + 1, by simp, rfl, by have := HXL.out; omega, by rw [HNX2.out]; exact MkL.new hM7 f1, bY7.fr f1 (by simp [noB]), mpT_fr0 m27 f1⟩
                · have HG := Lib.hid (show goneW bs r = true by unfold goneW; rw [hfw]; simp [hpt])
                  have d1 : decide (r.Parent = trS) = false := by simp [hpt]
                  clear hfw hpt
                  have fb : Fr noB (wr.alloc (codR.o r)) ((wr.alloc (codR.o r)).alloc (codR.o zRwW)) := (Fr.refl noB _).alloc _
                  obtain ⟨u1, u2, u3, u4, u5, u6⟩ := rwAt (Cod.rd_fr0 n1 fb)
                  have hM7 := MkL.new (MkL.new hM6 fa) fb
                  have bY7 := bYa.fr fb (by simp [noB])
                  have m27 := mpT_fr0 mx fb
                  have zN : wr.heap.size < ((wr.alloc (codR.o r)).alloc (codR.o zRwW)).heap.size := by simp; omega
                  clear n1 u3 u5 u6 hM6 bY6 m26
                  go_upto_region 19 with fail
                  generalize (wr.alloc (codR.o r)).alloc (codR.o zRwW) = W7 at u1 u2 u4 hM7 bY7 m27 zN ⊢
                  obtain ⟨N, hN⟩ : ∃ x, x = wr.heap.size := ⟨_, rfl⟩
                  rw [← hN] at u1 u2 u4 zN ⊢
                  clear hN fa fb yc mx nn1 bYa hlk e1
                  have C1 := fun wS : World => trash_any wS
                  refine wp_region_fr (by kernel_rfl) (by kernel_rfl) ?_
                  iterate 5
                    refine wpQ_take (v := ?_) (by rfl) (fun wS hS => ?_) ?_
                    rotate_left
                    · obtain ⟨L1, L2, L3, L4, L5, L6⟩ := Fr.same hS; have L7 := Fr.sameR hS; go_simp; try with_reducible rfl
                    try simp only [List.getElem_toArray, List.getElem_cons_zero, List.getElem_cons_succ, Act.put, List.setIfInBounds_toArray, List.set_cons_zero, List.set_cons_succ]
                  refine wpQ_call (by rfl) (fun wS hS => ⟨_, _, ?qh449, Calls.fr hS (C1 _)⟩) ?qk449
                  case qh449 => obtain ⟨L1, L2, L3, L4, L5, L6⟩ := Fr.same hS; go_simp; try with_reducible rfl
                  try simp only [List.getElem_toArray, List.getElem_cons_zero, List.getElem_cons_succ, Act.put, List.setIfInBounds_toArray, List.set_cons_zero, List.set_cons_succ]
                  iterate 2
                    refine wpQ_take (v := ?_) (by rfl) (fun wS hS => ?_) ?_
                    rotate_left
                    · obtain ⟨L1, L2, L3, L4, L5, L6⟩ := Fr.same hS; have L7 := Fr.sameR hS; go_simp; try with_reducible rfl
                    try simp only [List.getElem_toArray, List.getElem_cons_zero, List.getElem_cons_succ, Act.put, List.setIfInBounds_toArray, List.set_cons_zero, List.set_cons_succ]
                  refine wpQ_nil ?_
                  intro w1 f1
                  clear C1
                  have HNX2 := Lib.hid (HNX.out.trans (by rw [if_pos HG.out]))
                  replace u1 := Cod.rd_fr0 u1 f1
                  replace u4 := cell_fr0 u4 f1
                  replace hM7 := MkL.new hM7 f1
                  replace bY7 := bY7.fr f1 (by simp [noB])
                  replace m27 := mpT_fr0 m27 f1
                  clear u2 zN f1
                  have hkp : ∀ w' w'' : World, Fr noB w' w'' → (codS.rd w' N 0 = some r.Node ∧ w'.cell? ⟨N, 6, none⟩ = some (.string (str r.Name))) → (codS.rd w'' N 0 = some r.Node ∧ w''.cell? ⟨N, 6, none⟩ = some (.string (str r.Name))) := fun w' w'' f h => ⟨Cod.rd_fr0 h.1 f, cell_fr0 h.2 f⟩
                  have fd := (Fr.refl noB w1).drew
                  go_upto_region 20 with fail
                  refine wp_region_M 7 8 [⟨158456325028528675187087900672, 1, 0⟩, ⟨316912650057057350374175801344, 65536, 0⟩, ⟨633825300114114700748351602688, 316912650057057350374175801344, 2⟩, ⟨1267650600228229401496703205376, 0, 0⟩, ⟨2535301200456458802993406410752, 65536, 0⟩, ⟨5070602400912917605986812821504, 2535301200456458802993406410752, 16⟩, ⟨10141204801825835211973625643008, 6972078301255261708231867629568, 44⟩, ⟨20282409603651670423947251286016, 10299661126854363887160713543680, 73⟩] [(true, 0), (true, 1), (true, 2), (true, 4), (true, 5), (false, 3), (true, 6)] (fun w' => codS.rd w' N 0 = some r.Node ∧ w'.cell? ⟨N, 6, none⟩ = some (.string (str r.Name))) (by kernel_rfl) rfl (by kernel_rfl) (by kernel_rfl) (by kernel_rfl) (hkp _ _ fd ⟨u1, u4⟩) (fun hA hF => ?_)
                  iterate 5
                    refine wpAnyS_take (v := ?_) hA rfl (fun _ _ _ h => h) (Or.inl ⟨by rfl, ?_⟩) hF (fun hA => ?_)
                    rotate_left
                    · intro wS hSw; (try dsimp only at hSw); obtain ⟨s1, s2⟩ := hSw; first | (apply Eq.trans; apply ex_ldS_at; exact rfl; exact rfl; assumption; with_reducible rfl) | (apply Eq.trans; apply ex_bldOm_at; exact rfl; exact rfl; exact rfl; exact rfl; exact rfl; with_reducible rfl) | (go_simp; try with_reducible rfl)
                    try simp only [List.getElem_toArray, List.getElem_cons_zero, List.getElem_cons_succ, Act.put, List.setIfInBounds_toArray, List.set_cons_zero, List.set_cons_succ]
                  refine wpAnyS_one hA rfl (fun K' hK => ?_)
                  go_simp
                  go_at_call 26
                  refine (trash_any _).mono ?_
                  rintro e w6 ⟨rfl, f6⟩
                  replace hF := hkp _ _ f6 hF
                  refine hK.out _ _ hF (fun hA => ?_)
                  clear hK K'
                  as_aux_lemma =>
                  refine wpAnyS_take (v := ?_) hA rfl (fun _ _ _ h => h) (Or.inl ⟨by rfl, ?_⟩) hF (fun hA => ?_)
                  rotate_left
                  · intro wS hSw; (try dsimp only at hSw); obtain ⟨s1, s2⟩ := hSw; first | (apply Eq.trans; apply ex_ldS_at; exact rfl; exact rfl; assumption; with_reducible rfl) | (apply Eq.trans; apply ex_bldOm_at; exact rfl; exact rfl; exact rfl; exact rfl; exact rfl; with_reducible rfl) | (go_simp; try with_reducible rfl)
                  try simp only [List.getElem_toArray, List.getElem_cons_zero, List.getElem_cons_succ, Act.put, List.setIfInBounds_toArray, List.set_cons_zero, List.set_cons_succ]
                  refine wpAnyS_end hA rfl ?_
                  simp only [List.drop_succ_cons, List.drop_zero]
                  clear hF hkp u1 u4
                  have hM8 := MkL.new (MkL.new hM7 fd) f6
                  have HBL := Lib.hid (show (L1 ++ ((xs.take k).filter (goneR ys)).map trO).length ≤ 100000000 by
                    have := HLF.out
                    rw [List.length_append, List.length_map]
                    omega)
                  go_wp2_with (go_at_call 53; refine (put_l V _ M s _ hM8 hs HBL.out (trW r) (trO x) (HOV.out _)).mono ?_; rintro e w8 ⟨rfl, hM9, f8⟩)
                  go_roundg (xs.length - (k + 1))
                  case measure => have := HGK.out; have := HXL.out; omega
                  case rel => exact ⟨k + 1, by simp, rfl, by have := HXL.out; omega, by rw [HNX2.out, List.map_append, ← List.append_assoc]; exact hM9, ((bY7.fr fd (by simp [noB])).fr f6 (by simp [noB])).mk_ f8, mpT_mk f8 (mpT_fr0 (mpT_fr0 m27 fd) f6)⟩
            · have hkn : k = as_.length := by have := HXL.out; omega
              subst hkn
              have i5 : ¬ (as_.length : Int) < (as_.length : Int) := by omega
              go_wp2_with fail
              go_end0
              refine ⟨rfl, ls'.map (plR ys), ?_, ?_, ?_⟩
              · have h1 := HPERM.out.map (plR ys)
                rwa [HLS2.out, filter_two ys hY HNB.out (fun y hy => hy) (movedW as_) (movedR xs) (fun r x hrx => movedW_eq (hX) hrx)] at h1
              · rw [List.pairwise_map]
                refine (List.Pairwise.imp_of_mem (fun {p q} hp hq hpq => ?_) HPW.out)
                have hnode : ∀ r ∈ ls', (plR ys r).Node = r.Node := fun r hr => by
                  obtain ⟨y, hy, hin⟩ := hY.mem (HMEM2.out r hr)
                  rw [plR_eq hY HNB.out hy hin, hin.node]
                rw [hnode p hp, hnode q hq]
                rw [cfD_neg, decide_eq_false_iff_not] at hpq
                exact hpq
              · rw [List.map_map]
                have hl := HL1.out
                rw [List.take_of_length_le (by have := HXL.out; omega)] at hM6
                rw [hl] at hM6
                exact hM6
end Go.Proofs.Ytefcalkbfaefgaa
