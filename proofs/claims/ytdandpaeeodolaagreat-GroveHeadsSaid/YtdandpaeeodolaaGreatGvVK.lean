/- Contracts: slices.Clone of operations, the closures of stamp.Sort, slices.CompactFunc where nothing goes. (ex_ldS_at, ex_ldO_at) Contract: slices.CompactFunc of operations where nothing goes. (ex_ldO_at) Contracts: stamp.Sort of operations that have risen already; grove's Ops. (ex_ldO_at, ex_ldD_at) Contract: grove's Ops. (ex_ldO_at, ex_ldD_at) -/
import Derived.Test.YtdandpaeeodolaaGreatGvQK
import Derived.Test.YtdandpaeeodolaaGreatStabZoK
namespace Go.Proofs.YtdandpaeeodolaaGreat
open Go.RowKit Go.Sort
set_option linter.unusedVariables false
set_option linter.unusedSimpArgs false
attribute [local go_sem] Oper.semAt_some

@[go_sem] theorem Ops_eq_nil (w : World) (a : Option Addr) (n c : Nat) : (binOp .eql 22 (.slice a n c) (.slice none 0 0)).run Tryz.prog w = .ok (.bool a.isNone) w :=
  Lib.run_eql_slice_nil w _ _ a n c 0 0 Tryz.underlying22
def NewOps (w : World) (l : List OpW) (e : Ending) (w' : World) : Prop := ∃ A c, e = .returned (.slice A l.length c) ∧ OwnC codO w w' A c l ∧ Fr noB w w' ∧ l.length ≤ c
set_option maxRecDepth 100000 in
theorem clOps_any (w : World) (A : Option Addr) (c : Nat) (l : List OpW) (n : Nat) (hn : l.length = n) (hs : Sl w A (codO.row l)) (hb : l.length * 128 ≤ 140737488355328) :
    Calls Tryz.prog 65 #[.slice A n c] w (NewOps w l) := by
  subst hn
  rcases A with _ | ad
  · have hl : l = [] := by
      cases l with
      | nil => rfl
      | cons b t => obtain ⟨g, off, h, _⟩ := hs (Cod.row_ne (by simp)); cases h
    subst hl
    go_enter Tryz.func65, Tryz.ntmps65
    go_wp2
    go_ret
    exact ⟨none, 0, rfl, World.ownsRow_nil _ _ _ _, Fr.refl _ _, Nat.le_refl _⟩
  · have hown := World.ownsRow_lit (base := w.heap.size) (e := 33) (size := 41) w #[] 0 (Nat.le_refl _) (by simp [maxLen]) rfl
    have hs1 : Sl (w.alloc (.cells #[] 33)) (some ad) (codO.row l) := hs.fr0 ((Fr.refl noB w).alloc _)
    go_enter Tryz.func65, Tryz.ntmps65
    go_wp2_with (at_builtin; refine wpList_app _ etO rfl _ _ rfl w.heap.size _ _ _ rfl hown (some ad) l.length c (codO.row l) rfl hs1 (Cod.row_len l) (Cod.row_one l) (by simpa using hb) (by simp) ?_; intro v' w1 h1 h2 h3)
    go_ret
    obtain ⟨A', c', rfl, hcc, _⟩ := own_form h1
    simp only [Nat.zero_add, List.nil_append] at h1
    exact ⟨A', c', by simp, h1, ((Fr.refl noB w).alloc _).stepG (r := some w.heap.size) h2 (by intro g hg; injection hg with hg; omega), by simpa using hcc⟩
set_option maxRecDepth 100000 in
theorem sSort1_any (w : World) (x y : OpW) : Calls Tryz.prog 67 #[.agg (codO.A x), .agg (codO.A y)] w (Gives w (.int .i64 (cmpS x.At y.At))) := by
  have b0 : codO.bxd (w.alloc (.cells (codO.A x) 33)) w.heap.size = some x := Cod.bxd_box (C := codO) w x
  have b1 := Cod.bxd_fr0 b0 ((Fr.refl noB _).alloc (.cells (codO.A y) 33))
  have b2 : codO.bxd ((w.alloc (.cells (codO.A x) 33)).alloc (.cells (codO.A y) 33)) (w.alloc (.cells (codO.A x) 33)).heap.size = some y := Cod.bxd_box (C := codO) _ y
  have hz : (w.alloc (.cells (codO.A x) 33)).heap.size = w.heap.size + 1 := by simp
  rw [hz] at b2
  have q1 := (opAt (Cod.bxd_rd b1)).At
  have q2 := (opAt (Cod.bxd_rd b2)).At
  have f0 : Fr noB w ((w.alloc (.cells (codO.A x) 33)).alloc (.cells (codO.A y) 33)) := ((Fr.refl noB w).alloc _).alloc _
  generalize x.At = s at q1 ⊢
  generalize y.At = u at q2 ⊢
  clear b0 b1 b2 hz
  go_enter Tryz.func67, Tryz.ntmps67
  go_wp2_with (go_at_call 13; refine (scmp_v _ s u).mono ?_; rintro e w2 ⟨rfl, f2⟩)
  go_ret
  exact ⟨rfl, f0.step0 f2⟩
set_option maxRecDepth 100000 in
theorem sSort2_any (w : World) (x y : OpW) : Calls Tryz.prog 69 #[.agg (codO.A x), .agg (codO.A y)] w (Gives w (.bool (decide (x.At = y.At)))) := by
  have b0 : codO.bxd (w.alloc (.cells (codO.A x) 33)) w.heap.size = some x := Cod.bxd_box (C := codO) w x
  have b1 := Cod.bxd_fr0 b0 ((Fr.refl noB _).alloc (.cells (codO.A y) 33))
  have b2 : codO.bxd ((w.alloc (.cells (codO.A x) 33)).alloc (.cells (codO.A y) 33)) (w.alloc (.cells (codO.A x) 33)).heap.size = some y := Cod.bxd_box (C := codO) _ y
  have hz : (w.alloc (.cells (codO.A x) 33)).heap.size = w.heap.size + 1 := by simp
  rw [hz] at b2
  have q1 := (opAt (Cod.bxd_rd b1)).At
  have q2 := (opAt (Cod.bxd_rd b2)).At
  have f0 : Fr noB w ((w.alloc (.cells (codO.A x) 33)).alloc (.cells (codO.A y) 33)) := ((Fr.refl noB w).alloc _).alloc _
  generalize x.At = s at q1 ⊢
  generalize y.At = u at q2 ⊢
  clear b0 b1 b2 hz
  go_enter Tryz.func69, Tryz.ntmps69
  go_wp2_with fail
  go_ret
  exact ⟨rfl, f0⟩
theorem swoS : SWO (ltC (fun x y : OpW => cmpS x.At y.At)) where
  irrefl x := by simp [ltC, cmpS_self]
  trans x y z h1 h2 := by
    simp only [ltC, decide_eq_true_eq] at *
    exact cmpS_trans h1 h2
  ntrans x y z h1 h2 := by
    simp only [ltC, decide_eq_false_iff_not] at *
    intro h
    have e1 := cmpS_flip x.At y.At
    have e2 := cmpS_flip y.At z.At
    rcases Int.lt_trichotomy (cmpS y.At x.At) 0 with h3 | h3 | h3
    · exact h2 (cmpS_trans h3 h)
    · have := cmpS_zero.1 h3
      rw [this] at h2
      exact h2 h
    · omega
/-- what is risen already is not sorted otherwise -/
theorem risen_eq {l l' : List OpW} (h : l.Pairwise fun a b => cmpS a.At b.At < 0) (hp : l'.Perm l) (hs : l'.Pairwise fun x y => ltC (fun x y : OpW => cmpS x.At y.At) y x = false) : l' = l := by
  refine List.Perm.eq_of_pairwise (le := fun a b : OpW => ¬ cmpS b.At a.At < 0) (fun a b ha hb h1 h2 => ?_) (hs.imp fun h => ?_) (h.imp fun {a b} h => ?_) hp
  · have e := cmpS_flip a.At b.At
    have e0 : cmpS a.At b.At = 0 := by omega
    have ea := cmpS_zero.1 e0
    have hb' : b ∈ l := hb
    have ha' : a ∈ l := hp.mem_iff.1 ha
    obtain ⟨i, hi, rfl⟩ := List.getElem_of_mem ha'
    obtain ⟨j, hj, rfl⟩ := List.getElem_of_mem hb'
    rcases Nat.lt_trichotomy i j with h3 | h3 | h3
    · have := List.pairwise_iff_getElem.1 h i j hi hj h3
      omega
    · subst h3; rfl
    · have := List.pairwise_iff_getElem.1 h j i hj hi h3
      omega
  · simpa [ltC] using h
  · have e := cmpS_flip a.At b.At
    omega
end Go.Proofs.YtdandpaeeodolaaGreat
namespace Go.Proofs.YtdandpaeeodolaaGreat
open Go.RowKit Go.Sort
set_option linter.unusedVariables false
set_option linter.unusedSimpArgs false
attribute [local go_sem] Oper.semAt_some

def CpN (W : World) (L : Nat) (gk : Nat) (iv : Value) (wr : World) : Prop := ∃ k : Nat, iv = .int .i64 (k : Int) ∧ gk = L + 1 - k ∧ 1 ≤ k ∧ k ≤ L ∧ Fr noB W wr
set_option maxRecDepth 100000 in
set_option maxHeartbeats 2000000 in
theorem cptOps_none (w : World) (A : Option Addr) (c n : Nat) (l : List OpW) (hn : l.length = n) (hs : Sl w A (codO.row l)) (hd : ∀ i (h : i + 1 < l.length), l[i + 1].At ≠ l[i].At) (hb : l.length ≤ 140737488355328) :
    Calls Tryz.prog 68 #[.slice A n c, .func (.func 69) #[] #[]] w (Gives w (.slice A n c)) := by
  subst hn
  by_cases hl2 : l.length < 2
  · have i1 : (l.length : Int) < 2 := by omega
    clear hs hd
    go_enter Tryz.func68, Tryz.ntmps68
    go_wp2_with fail
    go_ret
    exact ⟨rfl, Fr.refl _ _⟩
  · obtain ⟨g, off, rfl, hg⟩ := hs.adC (by omega)
    have i1 : ¬ (l.length : Int) < 2 := by omega
    go_enter Tryz.func68, Tryz.ntmps68
    go_wp2_with fail
    go_loopg [5] l.length (fun gk iv wr => CpN w l.length gk iv wr)
    case atStart => exact ⟨1, rfl, by omega, by omega, by omega, Fr.refl _ _⟩
    case round =>
      obtain ⟨k, rfl, rfl, hk1, hk, hf⟩ := hrel
      by_cases hlt : k < l.length
      · have i2 : (k : Int) < (l.length : Int) := by omega
        have i0 : (0 : Int) ≤ (k : Int) := by omega
        obtain ⟨q, rfl⟩ : ∃ q, k = q + 1 := ⟨k - 1, by omega⟩
        have r1 : codO.rd wr.drew g (off + q * 41) = some (l[q]'(by omega)) := (hs.fr0 hf.drew).rd q (by omega)
        have r2 : codO.rd wr.drew g (off + (q + 1) * 41) = some l[q + 1] := (hs.fr0 hf.drew).rd (q + 1) hlt
        have hne := hd q hlt
        generalize (l[q]'(by omega)) = y at r1 hne
        generalize l[q + 1] = x at r2 hne
        have hne2 : decide (x.At = y.At) = false := by simp [hne]
        have mw : IntKind.i64.wrap (((q + 1 : Nat) : Int) - 1) = (q : Int) := by rw [IntKind.wrap_i64]; omega
        have j0 : (0 : Int) ≤ (q : Int) := by omega
        have j1 : (q : Int) < (l.length : Int) := by omega
        have keep : ∀ w' w'' : World, Fr noB w' w'' → (codO.rd w' g (off + (q + 1) * 41) = some x ∧ codO.rd w' g (off + q * 41) = some y) → (codO.rd w'' g (off + (q + 1) * 41) = some x ∧ codO.rd w'' g (off + q * 41) = some y) := fun w' w'' f h => ⟨Cod.rd_fr0 h.1 f, Cod.rd_fr0 h.2 f⟩
        go_upto_region 6 with fail
        obtain ⟨kk, hkk⟩ : ∃ kk : Nat, kk = q + 1 := ⟨_, rfl⟩
        rw [← hkk] at r2 i0 i2 mw keep ⊢
        have HK := Lib.hid (And.intro hkk (And.intro hlt hne))
        clear hkk hne hk1 hk hlt
        refine wp_region_M 10 11 [⟨262144, 2, 0⟩, ⟨524288, 1, 0⟩, ⟨1048576, 32, 0⟩, ⟨2097152, 1572864, 6⟩, ⟨4194304, 2097152, 8⟩, ⟨8388608, 1, 0⟩, ⟨16777216, 32, 0⟩, ⟨33554432, 16777216, 64⟩, ⟨67108864, 41943040, 160⟩, ⟨134217728, 67108864, 256⟩, ⟨268435456, 138674176, 529⟩] [(true, 0), (true, 1), (true, 2), (true, 3), (true, 4), (true, 5), (true, 6), (true, 7), (true, 8), (true, 9)] (fun w' => codO.rd w' g (off + kk * 41) = some x ∧ codO.rd w' g (off + q * 41) = some y) (by kernel_rfl) rfl (by kernel_rfl) (by kernel_rfl) (by kernel_rfl) ⟨r2, r1⟩ (fun hA hF => ?_)
        iterate 10
          refine wpAnyS_take (v := ?_) hA rfl (fun _ _ _ h => h) (Or.inl ⟨by rfl, ?_⟩) hF (fun hA => ?_)
          rotate_left
          · intro wS hSw; (try dsimp only at hSw); obtain ⟨s1, s2⟩ := hSw; first | (apply Eq.trans; apply ex_ldO_at; exact rfl; exact rfl; assumption; with_reducible rfl) | (go_simp; try with_reducible rfl)
          try simp only [List.getElem_toArray, List.getElem_cons_zero, List.getElem_cons_succ, Act.put, List.setIfInBounds_toArray, List.set_cons_zero, List.set_cons_succ]
        refine wpAnyS_end hA rfl ?_
        simp only [List.drop_succ_cons, List.drop_zero]
        clear hF keep r1 r2
        go_wp2_with (go_at_call 69; refine (sSort2_any _ x y).mono ?_; rintro e w2 ⟨rfl, f2⟩; rw [hne2])
        go_roundg (l.length - kk)
        case measure => have := HK.out.1; have := HK.out.2.1; omega
        case rel => exact ⟨kk + 1, by simp, by omega, by omega, by have := HK.out; omega, hf.drew.step0 f2⟩
      · have i2 : ¬ (k : Int) < (l.length : Int) := by omega
        go_wp2_with fail
        go_ret
        exact ⟨rfl, hf⟩
end Go.Proofs.YtdandpaeeodolaaGreat
namespace Go.Proofs.YtdandpaeeodolaaGreat
open Go.RowKit Go.Sort
set_option linter.unusedVariables false
set_option linter.unusedSimpArgs false
attribute [local go_sem] Oper.semAt_some

theorem Cod.row_set {α : Type} {C : Cod α} {o : Nat} {u : Value} : ∀ (l : List α) (k : Nat) (hk : k < l.length) (x' : α) (_ : o < C.n) (_ : (C.cs l[k]).set o u = C.cs x'), (C.row l).set (k * C.n + o) u = C.row (l.set k x')
  | [], k, hk, _, _, _ => absurd hk (by simp)
  | x :: t, 0, _, x', ho, h => by
    have e : C.row (x :: t) = C.cs x ++ C.row t := by simp [Cod.row]
    have e' : C.row (x' :: t) = C.cs x' ++ C.row t := by simp [Cod.row]
    simp only [List.getElem_cons_zero] at h
    rw [Nat.zero_mul, Nat.zero_add, List.set_cons_zero, e, e', List.set_append_left _ _ (by rw [C.len]; exact ho), h]
  | x :: t, k + 1, hk, x', ho, h => by
    have e : C.row (x :: t) = C.cs x ++ C.row t := by simp [Cod.row]
    have e' : C.row (x :: t.set k x') = C.cs x ++ C.row (t.set k x') := by simp [Cod.row]
    have ih := Cod.row_set t k (by simpa using hk) x' ho (by simpa using h)
    have e3 : (k + 1) * C.n + o = k * C.n + o + C.n := by rw [Nat.add_mul]; omega
    rw [List.set_cons_succ, e, e', List.set_append_right _ _ (by rw [C.len, e3]; omega), C.len, e3, Nat.add_sub_cancel, ih]
theorem OwnC.put1 {α : Type} {C : Cod α} {w0 w : World} {A : Option Addr} {c g : Nat} {l : List α} (h : OwnC C w0 w A c l) (hA : A = some ⟨g, 0, none⟩) (k : Nat) (hk : k < l.length) (o : Nat) (ho : o < C.n) (u : Value) (x' : α) (hx : (C.cs l[k]).set o u = C.cs x') :
    OwnC C w0 (w.setCell ⟨g, k * C.n + o, none⟩ u) A c (l.set k x') ∧ Fr (oneB g) w (w.setCell ⟨g, k * C.n + o, none⟩ u) ∧ w.frozen? ⟨g, k * C.n + o, none⟩ = false := by
  have hlen : (l.set k x').length = l.length := by simp
  rcases h.2 with ⟨hv, h00⟩ | ⟨blk, cap, cur, hv, hb, hg, hnc, hm, hs, ht⟩
  · omega
  · injection hv with h1 _ h3
    rw [hA] at h1
    injection h1 with h1
    injection h1 with h1
    subst h1; subst h3
    have hg' : Blk w g C.t cur.toList := by unfold Blk; rw [Array.toArray_toList]; exact hg
    have hst := Blk.set hg' (k * C.n + o) u
    refine ⟨⟨by rw [Cod.row_len], .inr ⟨g, c, (cur.toList.set (k * C.n + o) u).toArray, by rw [hA, hlen], hb, hst, by rw [hlen]; exact hnc, hm, ?_, ?_⟩⟩, Cod.set_fr w g _ u, Blk.frozen hg' _⟩
    · simp only [List.size_toArray, List.length_set]
      rw [← hs]; simp
    · rw [hlen, ← Cod.row_set l k hk x' ho hx, ← ht]
      simp [List.take_set]
/-- operations as new memory: their rows and their stamps are the call's own -/
structure OpN (base : Nat) (w : World) (r : OpW) (o : Opn) : Prop where
  op : OpO w r o
  own : w.ownsRow base 28 2 (.slice r.A r.n r.c) r.n (codS.row o.Over)
theorem OpN.fr0 {base : Nat} {w w' : World} {r : OpW} {o : Opn} (h : OpN base w r o) (f : Fr noB w w') : OpN base w' r o := ⟨h.op.fr f (NoHS.nob _), own_new0 h.own f⟩
theorem OpN.frG {base g : Nat} {w w' : World} {r : OpW} {o : Opn} (h : OpN base w r o) {cur : Array Value} {z : Nat × Nat} (hb : w.heap[g]? = some (.cells cur 33 z)) (f : Fr (oneB g) w w') : OpN base w' r o := by
  refine ⟨h.op.fr f (fun b hb' cs z' => ?_), own_fr h.own f (fun q hq hm => ?_)⟩
  · have e : b = g := hb'
    subst e
    rw [hb]
    exact ⟨fun h => (by injection h with h; injection h with _ h; exact absurd h (by decide)), fun h => (by injection h with h; injection h with _ h; exact absurd h (by decide))⟩
  · rw [ownBlock_sl'] at hq
    obtain ⟨_, cur', z', h4⟩ := own_blk h.own hq
    have e : q = g := hm
    subst e
    rw [hb] at h4
    injection h4 with h4
    injection h4 with _ h4
    exact absurd h4 (by decide)
theorem OpN.frA {base c : Nat} {w0 w w' : World} {A : Option Addr} {l : List OpW} {r : OpW} {o : Opn} (h : OpN base w r o) (ho : OwnC codO w0 w A c l) (f : Fr (fun b => A.map (·.block) = some b) w w') : OpN base w' r o := by
  have hn := NoHS.own ho (by decide) (by decide)
  rw [ownBlock_sl'] at hn
  refine ⟨h.op.fr f hn, own_fr h.own f (fun q hq hm => ?_)⟩
  rw [ownBlock_sl'] at hq
  obtain ⟨_, cur, z, h4⟩ := own_blk h.own hq
  exact (hn q hm cur z).2 h4
def OpsTo (w : World) (os : List Opn) (e : Ending) (w' : World) : Prop :=
  ∃ (A : Option Addr) (c : Nat) (rs : List OpW), e = .returned (.slice A rs.length c) ∧ Sl w' A (codO.row rs) ∧ AllO (OpN w.heap.size) w' rs os ∧ (rs ≠ [] → ∃ g cur z, A = some ⟨g, 0, none⟩ ∧ w'.heap[g]? = some (.cells cur 33 z)) ∧ Fr noB w w'
/-- the clones of the stamps: the first k are new -/
def SoLoop (w : World) (A : Option Addr) (c : Nat) (os : List Opn) (gk : Nat) (iv : Value) (wr : World) : Prop :=
  ∃ (k : Nat) (rs : List OpW), iv = .int .i64 (k : Int) ∧ gk = os.length - k ∧ k ≤ os.length ∧ rs.length = os.length ∧ OwnC codO w wr A c rs ∧ (∀ i (h : i < rs.length) (h' : i < os.length), (k ≤ i → OpIn w rs[i] os[i]) ∧ (i < k → OpN w.heap.size wr rs[i] os[i])) ∧ Fr noB w wr
set_option maxRecDepth 100000 in
set_option maxHeartbeats 4000000 in
theorem sSort_any (w : World) (A : Option Addr) (c n : Nat) (rs : List OpW) (os : List Opn) (hn : rs.length = n) (hs : Sl w A (codO.row rs)) (hX : AllO OpIn w rs os) (hr : os.Pairwise fun a b => cmpS a.At b.At < 0) (hb : os.length ≤ 1000000) (hov : ∀ o ∈ os, o.Over.length ≤ 1000000) :
    Calls Tryz.prog 41 #[.slice A n c] w (OpsTo w os) := by
  subst hn
  have HXL := Lib.hid hX.1
  have HX := Lib.hid hX
  have HR := Lib.hid hr
  have HB := Lib.hid hb
  have HOV := Lib.hid hov
  have CO := Lib.hid (clOps_any w A c rs rs.length rfl hs (by have := hX.1; omega))
  clear hs hX hr hb hov
  go_enter Tryz.func41, Tryz.ntmps41
  go_upto_region 2 with (go_at_call 65; refine CO.out.mono ?_; rintro e w1 ⟨A1, c1, rfl, o1, f1, hc1⟩)
  have h0 : SoLoop w A1 c1 os os.length (.int .i64 ((0 : Nat) : Int)) w1 := ⟨0, rs, rfl, rfl, Nat.zero_le _, HXL.out, o1, fun i h h' => ⟨fun _ => HX.out.2 i h h', fun h => absurd h (by omega)⟩, f1⟩
  rw [HXL.out]
  clear CO o1 f1 hc1
  go_wp2_with fail
  go_loopg [9] os.length (fun gk iv wr => SoLoop w A1 c1 os gk iv wr)
  case atStart => exact h0
  case round =>
    clear h0
    obtain ⟨k, qs, rfl, rfl, hk, hql, ho, hq, hf⟩ := hrel
    have HQ := Lib.hid hq
    clear hq
    by_cases hlt : k < os.length
    · have i2 : (k : Int) < (os.length : Int) := by omega
      have i0 : (0 : Int) ≤ (k : Int) := by omega
      have hkq : k < qs.length := by omega
      obtain ⟨g, rfl, hg, _, _, _⟩ := RwA.own ho (by intro h; rw [h] at hkq; simp at hkq)
      have e1 : codO.rd wr g (k * 41) = some qs[k] := by
        have := (Sl.own ho).rd k hkq
        simpa [show codO.n = 41 from rfl] using this
      have u1 : wr.cell? ⟨g, k * 41 + 40, none⟩ = some (.slice (qs[k]).A (qs[k]).n (qs[k]).c) := Cod.rd_cell e1 40 (getEnd (qs[k]).Data (opL qs[k]) [.slice (qs[k]).A (qs[k]).n (qs[k]).c] 40 rfl 0)
      have hin := ((HQ.out k hkq hlt).1 (Nat.le_refl _)).fr hf
      have CS := Lib.hid (clStamps_any wr (qs[k]).A (qs[k]).c (os[k]).Over (qs[k]).n hin.len hin.sl (by have := HOV.out _ (List.getElem_mem hlt); omega))
      have HIN := Lib.hid hin
      have HO := Lib.hid ho
      obtain ⟨x, hx⟩ : ∃ x, x = qs[k] := ⟨_, rfl⟩
      obtain ⟨ov, hov⟩ : ∃ ov, ov = (os[k]).Over := ⟨_, rfl⟩
      rw [← hov] at CS
      rw [← hx] at CS u1
      have HXE := Lib.hid (And.intro hx hov)
      have HKQ := Lib.hid hkq
      have HQL := Lib.hid hql
      clear hin ho e1 hx hov hql
      go_upto_region 6 with (go_at_call 28; go_loud (refine CS.out.mono ?_; rintro e w4 ⟨A4, c4, rfl, o4, f4, hc4⟩; have u4 := cell_fr0 u1 f4; have z4 : w4.frozen? ⟨g, k * 41 + 40, none⟩ = false := (OwnC.put1 (C := codO) (w0 := w) (own_new0 HO.out f4) rfl k HKQ.out 40 (by decide) (.slice A4 ov.length c4) { qs[k]'HKQ.out with A := A4, n := ov.length, c := c4 } (seO_Over _ _ _ _)).2.2))
      obtain ⟨hp1, hp2, _⟩ := OwnC.put1 (C := codO) (w0 := w) (own_new0 HO.out f4) rfl k HKQ.out 40 (by decide) (.slice A4 ov.length c4) { qs[k]'HKQ.out with A := A4, n := ov.length, c := c4 } (seO_Over _ _ _ _)
      obtain ⟨hgl, cur, zz, hgb⟩ := own_blk (own_new0 HO.out f4) (g := g) rfl
      have o5 := own_fr o4 hp2 (fun q hq hm => by
        rw [ownBlock_sl'] at hq
        obtain ⟨_, cur', z', h4⟩ := own_blk o4 hq
        have e : q = g := hm
        subst e
        rw [hgb] at h4
        injection h4 with h4
        injection h4 with _ h4
        exact absurd h4 (by decide))
      have hF5 := (hf.step0 f4).step1 hp2 hgl
      have hN5 : ∀ i (h : i < (qs.set k { qs[k]'HKQ.out with A := A4, n := ov.length, c := c4 }).length) (h' : i < os.length), (k + 1 ≤ i → OpIn w (qs.set k { qs[k]'HKQ.out with A := A4, n := ov.length, c := c4 })[i] os[i]) ∧ (i < k + 1 → OpN w.heap.size (w4.setCell ⟨g, k * 41 + 40, none⟩ (.slice A4 ov.length c4)) (qs.set k { qs[k]'HKQ.out with A := A4, n := ov.length, c := c4 })[i] os[i]) := by
        intro i h h'
        have hi : i < qs.length := by simpa using h
        by_cases e : i = k
        · subst e
          rw [List.getElem_set_self]
          have h0 := HIN.out
          have o6 := own_base o5 hf.size
          refine ⟨fun h => absurd h (by omega), fun _ => ⟨⟨⟨h0.eq, by rw [HXE.out.2], by rw [← HXE.out.2]; exact Sl.own o6, h0.bd, h0.nm⟩, .inr (by rw [← HXE.out.2]; exact own_base o6 (Nat.zero_le _))⟩, by rw [← HXE.out.2]; exact o6⟩⟩
        · rw [List.getElem_set_ne (Ne.symm e)]
          exact ⟨fun h => (HQ.out i hi h').1 (by omega), fun h => (((HQ.out i hi h').2 (by omega)).fr0 f4).frG hgb hp2⟩
      have HNX := Lib.hid (And.intro hp1 (And.intro hN5 hF5))
      clear hp1 hN5 hF5 o5 hgb hgl hp2 u4 z4
      have hi9 : k ≤ 1000000 := by have := HB.out; omega
      have HLT := Lib.hid hlt
      go_wp2_with fail
      go_roundg (os.length - (k + 1))
      case measure => have := HLT.out; omega
      case rel => exact ⟨k + 1, _, by first | rfl | simp | exact congrArg (Value.int .i64) (IntWalk.wrap64_in _ (by omega)), rfl, HLT.out, by rw [List.length_set]; exact HQL.out, HNX.out.1, HNX.out.2.1, HNX.out.2.2⟩
    · have i2 : ¬ (k : Int) < (os.length : Int) := by omega
      have hke : k = os.length := by omega
      have hqa : AllO (OpN w.heap.size) wr qs os := ⟨hql, fun i h h' => (HQ.out i h h').2 (by omega)⟩
      have hat : ∀ i (h : i < qs.length) (h' : i < os.length), qs[i].At = os[i].At := fun i h h' => by rw [(hqa.2 i h h').op.inn.eq]; rfl
      have hrs : qs.Pairwise fun a b => cmpS a.At b.At < 0 := by
        rw [List.pairwise_iff_getElem]
        intro i j hi hj hij
        rw [hat i hi (by omega), hat j hj (by omega)]
        exact List.pairwise_iff_getElem.1 HR.out i j _ _ hij
      have SS := Lib.hid (ssOp_any (fun _ => True) (fun x y => cmpS x.At y.At) swoS wr w.heap.size A1 c1 os.length qs undef hql (by rw [← hql]; exact ho) (fun _ _ => trivial) (by have := HB.out; omega) (fun g hg W d hd hS x y _ _ => sSort1_any W x y))
      have HQA := Lib.hid hqa
      have HRS := Lib.hid hrs
      have HOW := Lib.hid ho
      have HQL := Lib.hid hql
      clear hke hqa hat hrs ho hql
      go_wp2_with (first
        | (go_at_call 66; refine SS.out.mono ?_; rintro e w5 ⟨rfl, l5, hpm, hpw, hs5, hf5, hr5⟩; have e5 : l5 = qs := risen_eq HRS.out hpm hpw; rw [e5] at hs5 hr5)
        | (go_at_call 68; refine (cptOps_none w5 A1 c1 os.length qs HQL.out hs5 (fun i h => fun e => by have := List.pairwise_iff_getElem.1 HRS.out i (i + 1) (by omega) h (by omega); rw [e, cmpS_self] at this; omega) (by have := HB.out; have := HQL.out; omega)).mono ?_; rintro e w6 ⟨rfl, f6⟩))
      go_ret
      exact ⟨A1, c1, qs, by rw [HQL.out]; rfl, hs5.fr0 f6, HQA.out.map fun r x h => (h.frA HOW.out hf5).fr0 f6, fun hne => by
        rcases HOW.out.2 with ⟨_, h00⟩ | ⟨blk, cap, cur, hv, _⟩
        · exact absurd (List.length_eq_zero_iff.1 h00) hne
        · injection hv with h1 _ _
          obtain ⟨cur', h2, _⟩ := hr5 blk h1 hne
          exact ⟨blk, _, _, h1, by rw [f6.block blk (Array.getElem?_eq_some_iff.1 h2).1 (by simp [noB])]; exact h2⟩, (hf.step hf5 (fun b hb => .inl (own_lt HOW.out b hb).1)).step0 f6⟩
end Go.Proofs.YtdandpaeeodolaaGreat
namespace Go.Proofs.YtdandpaeeodolaaGreat
open Go.RowKit Go.Sort
set_option linter.unusedVariables false
set_option linter.unusedSimpArgs false
attribute [local go_sem] Oper.semAt_some

def OpLoop (w : World) (L : List Opn) (es : List OpW) (gk : Nat) (iv ov : Value) (wr : World) : Prop :=
  ∃ (k : Nat) (A : Option Addr) (c : Nat), iv = .int .i64 (k : Int) ∧ ov = .slice A k c ∧ gk = L.length - k ∧ k ≤ L.length ∧ wr.ownsRow w.heap.size 33 41 (.slice A k c) k (codO.row (es.take k)) ∧ Fr noB w wr
set_option maxRecDepth 100000 in
set_option maxHeartbeats 4000000 in
theorem gvOps_any {base : Nat} {w : World} {b : Nat} {t : TrW} {L : List Opn} (h : GvS base w b t L) (hsrt : SrtL L) (hL : L.length ≤ 100000) (hov : ∀ o ∈ L, o.Over.length ≤ 1000000) : Calls Tryz.prog 15 #[.pointer (some ⟨b, 0, none⟩)] w (OpsTo w L) := by
  have lg := h.tr.log
  obtain ⟨ds, hdn, hdo, hda⟩ := h.log
  have hdL : ds.length = L.length := by rw [hda.1, logX_len]
  rw [h.len] at lg
  have hsl0 := Sl.own hdo
  obtain ⟨A0, hA0⟩ : ∃ A, A = t.A := ⟨_, rfl⟩
  rw [← hA0] at hsl0 lg
  have hsl := Lib.hid hsl0
  have HDA := Lib.hid hda
  have HLL := Lib.hid hL
  have HSRT := Lib.hid hsrt
  have HOV := Lib.hid hov
  have HDL := Lib.hid hdL
  obtain ⟨es, hes⟩ : ∃ es : List OpW, es = ds.map (·.op) := ⟨_, rfl⟩
  have hel : es.length = L.length := by rw [hes, List.length_map, hdL]
  have HEL := Lib.hid hel
  have HES := Lib.hid (fun i (h : i < ds.length) (h' : i < es.length) => show es[i] = (ds[i]).op by simp [hes])
  have h0 : OpLoop w L es L.length (.int .i64 ((0 : Nat) : Int)) (.slice none 0 0) w := ⟨0, none, 0, rfl, rfl, rfl, Nat.zero_le _, World.ownsRow_nil _ _ _ _, Fr.refl _ _⟩
  clear h hdn hdo hda hL hsl0 hA0 hdL hsrt hov hes hel
  go_enter Tryz.func15, Tryz.ntmps15
  go_wp2_with fail
  clear lg
  go_loopg [11, 3] L.length (fun gk iv ov wr => OpLoop w L es gk iv ov wr)
  case atStart => exact h0
  case round =>
    clear h0
    obtain ⟨k, A, c, rfl, rfl, rfl, hk, ho, hf⟩ := hrel
    by_cases hlt : k < L.length
    · have j0 : (0 : Int) ≤ (k : Int) := by omega
      have j1 : (k : Int) < (L.length : Int) := by omega
      have hdl6 := hsl.out
      have hkd : k < ds.length := by rw [HDL.out]; exact hlt
      obtain ⟨g, off, rfl, hgg⟩ := hdl6.adC (by omega)
      have e0 : codD.rd w g (off + k * 51) = some ds[k] := hdl6.rd k hkd
      have e1 := Cod.rd_fr0 e0 hf
      have hke : k < es.length := by rw [HEL.out]; exact hlt
      have hkl : (es.take k).length = k := by rw [List.length_take]; omega
      have hsn : es.take (k + 1) = es.take k ++ [(ds[k]).op] := by rw [List.take_succ_eq_append_getElem hke, HES.out k hkd hke]
      have HSN := Lib.hid hsn
      generalize ds[k] = dq at e1 hsn HSN
      have HO := Lib.hid ho
      have HLT := Lib.hid hlt
      clear e0 hdl6 ho hsn hkd hke
      go_upto_region 5 with fail
      have f12 : Fr noB wr (wr.alloc (codD.o dq)) := (Fr.refl noB wr).alloc _
      have n12 := (dnAt (Cod.bxd_rd (Cod.bxd_new (C := codD) wr dq))).op
      obtain ⟨D2, hD2⟩ : ∃ x, x = wr.heap.size := ⟨_, rfl⟩
      rw [← hD2] at n12 ⊢
      have o12 := own_new0 HO.out f12
      have F12 := hf.step0 f12
      clear e1 hD2
      generalize wr.alloc (codD.o dq) = W12 at n12 o12 F12 ⊢
      generalize dq.op = x at n12 HSN ⊢
      have fn : Fr noB W12 (W12.alloc (codO.ro [x])) := (Fr.refl noB W12).alloc _
      have sl := Cod.sl_new (C := codO) W12 [x]
      have o13 : OwnC codO w (W12.alloc (codO.ro [x])) A c (es.take k) := by
        show (W12.alloc (codO.ro [x])).ownsRow w.heap.size 33 41 (.slice A (es.take k).length c) (es.take k).length _
        rw [hkl]
        exact own_new0 o12 fn
      have HKL := Lib.hid hkl
      have F13 := F12.step0 fn
      clear hkl HO o12
      go_wp2_with (at_builtin; refine wpList_appC' etO w _ rfl _ _ rfl A k c (es.take k) rfl HKL.out o13 (some ⟨W12.heap.size, 0, none⟩) 1 1 [x] rfl sl rfl (by rw [HKL.out]; have := HLL.out; have := HLT.out; simp; omega) F13.size ?_; intro A7 c7 w7 hc7 hm7 o7 g7 hA7)
      have hl7 : (es.take k ++ [x]).length = k + 1 := by rw [List.length_append, HKL.out]; rfl
      have o8 : w7.ownsRow w.heap.size 33 41 (.slice A7 (k + 1) c7) (k + 1) (codO.row (es.take (k + 1))) := by
        rw [HSN.out]
        rw [← hl7]
        exact o7
      have F7 := gv_own F13 o13 g7
      have HN := Lib.hid (And.intro o8 F7)
      have HL7 := Lib.hid hl7
      clear o7 g7 hA7 hc7 hm7 o13 F13 F12 sl fn o8 F7 hl7
      have hi9 : k ≤ 100000 := by have := HLL.out; have := HLT.out; omega
      go_roundg (L.length - (k + 1))
      case measure => have := HLT.out; omega
      case rel => exact ⟨k + 1, A7, c7, congrArg (Value.int .i64) (IntWalk.wrap64_in _ (by omega)), by simp; exact Nat.min_eq_left (by rw [HEL.out]; exact Nat.le_of_lt HLT.out), rfl, HLT.out, HN.out.1, HN.out.2⟩
    · have j1 : ¬ (k : Int) < (L.length : Int) := by omega
      have hke : k = es.length := by rw [HEL.out]; omega
      have hte : es.take k = es := by rw [hke, List.take_length]
      rw [hte] at ho
      have hX : AllO OpIn wr es L := ⟨HEL.out, fun i h h' => by
        have hd : i < ds.length := by rw [HDL.out]; exact h'
        have h1 := ((HDA.out.2 i hd (by rw [logX_len]; exact h')).op.inn).fr hf
        rw [logX_op [] L i h'] at h1
        rw [HES.out i hd h]
        exact h1⟩
      have CS := Lib.hid (sSort_any wr A c k es L hke.symm (Sl.own ho) hX HSRT.out (by have := HLL.out; omega) HOV.out)
      clear hke hte ho hX
      go_wp2_with (go_at_call 41; refine CS.out.mono ?_; rintro e w5 ⟨A5, c5, rs5, rfl, hs5, hx5, ty5, hf5⟩)
      go_ret
      exact ⟨A5, c5, rs5, rfl, hs5, ⟨hx5.1, fun i h1 h2 => ⟨(hx5.2 i h1 h2).op, own_base (hx5.2 i h1 h2).own hf.size⟩⟩, ty5, hf.step0 hf5⟩
end Go.Proofs.YtdandpaeeodolaaGreat
