/- Contracts: pollardlaw12.move, alive. (ex_ldS_at, ex_ldR_at) -/
import Derived.Test.YtdandpaeeodolaaGreatGwBK
namespace Go.Proofs.YtdandpaeeodolaaGreat
open Go.RowKit Go.Sort
set_option linter.unusedVariables false
set_option linter.unusedSimpArgs false

theorem bldO_m5 (w : World) (k : Int) (a s t : St) (m : List UInt8) : (Instr.build 33 #[(0, .int .i64 k), (1, .agg (codS.A a)), (2, .agg (codS.A s)), (3, .agg (codS.A t)), (4, .string (str m))]).run Tryz.prog w = .ok (.agg (codO.A { zOpW with Kind := k, At := a, Node := s, Parent := t, Name := m })) w := by
  have h1 : ∀ place : Nat → Option (Nat × Nat), place 0 = some (0, 1) → place 1 = some (1, 2) → place 2 = some (3, 2) → place 3 = some (5, 2) → place 4 = some (7, 1) → Instr.fill place ([] ++ [Value.int .i64 0] ++ ([Value.int .i64 0, Value.int .i64 0, Value.int .i64 0, Value.int .i64 0, Value.int .i64 0, Value.int .i64 0, Value.string (str [])] ++ bv zID.1 ++ [Value.slice none 0 0])).toArray [(0, .int .i64 k), (1, .agg (codS.A a)), (2, .agg (codS.A s)), (3, .agg (codS.A t)), (4, .string (str m))] = some (codO.cs { zOpW with Kind := k, At := a, Node := s, Parent := t, Name := m }).toArray := by
    intro place p0 p1 p2 p3 p4
    refine (fill_one place [] [.int .i64 0] ([Value.int .i64 0, Value.int .i64 0, Value.int .i64 0, Value.int .i64 0, Value.int .i64 0, Value.int .i64 0, Value.string (str [])] ++ bv zID.1 ++ [Value.slice none 0 0]) [.int .i64 k] 0 (.int .i64 k) _ rfl (by simpa using p0) rfl).trans ?_
    have e0 := fill_one place [.int .i64 k] [.int .i64 0, .int .i64 0] ([.int .i64 0, .int .i64 0, .int .i64 0, .int .i64 0, Value.string (str [])] ++ bv zID.1 ++ [Value.slice none 0 0]) [.int .i64 a.T, .int .i64 a.R] 1 (.agg (codS.A a)) [(2, .agg (codS.A s)), (3, .agg (codS.A t)), (4, .string (str m))] (by rw [A_SS]; rfl) (by simpa using p1) rfl
    refine Eq.trans ?_ (e0.trans ?_)
    · simp
    have e1 := fill_one place [.int .i64 k, .int .i64 a.T, .int .i64 a.R] [.int .i64 0, .int .i64 0] ([.int .i64 0, .int .i64 0, Value.string (str [])] ++ bv zID.1 ++ [Value.slice none 0 0]) [.int .i64 s.T, .int .i64 s.R] 2 (.agg (codS.A s)) [(3, .agg (codS.A t)), (4, .string (str m))] (by rw [A_SS]; rfl) (by simpa using p2) rfl
    refine Eq.trans ?_ (e1.trans ?_)
    · simp
    have e2 := fill_one place [.int .i64 k, .int .i64 a.T, .int .i64 a.R, .int .i64 s.T, .int .i64 s.R] [.int .i64 0, .int .i64 0] ([Value.string (str [])] ++ bv zID.1 ++ [Value.slice none 0 0]) [.int .i64 t.T, .int .i64 t.R] 3 (.agg (codS.A t)) [(4, .string (str m))] (by rw [A_SS]; rfl) (by simpa using p3) rfl
    refine Eq.trans ?_ (e2.trans ?_)
    · simp
    have e3 := fill_one place [.int .i64 k, .int .i64 a.T, .int .i64 a.R, .int .i64 s.T, .int .i64 s.R, .int .i64 t.T, .int .i64 t.R] [Value.string (str [])] (bv zID.1 ++ [Value.slice none 0 0]) [.string (str m)] 4 (.string (str m)) [] rfl (by simpa using p4) rfl
    refine Eq.trans ?_ (e3.trans ?_)
    · simp
    · simp [Instr.fill, codO, csO, zOpW, zSt]
  have hz : (zeroValue 33).run Tryz.prog w = .ok (.agg (codO.cs codO.z).toArray) w := okO.zero w
  simp only [Instr.build, Sem.run_bind, hz, Result.andThen_ok, run_underlying Tryz.underlying33, zO_form]
  simp only [List.mapM_toArray, List.mapM_cons, List.mapM_nil, Sem.run_bind, Tryz.sizeOf3, Tryz.sizeOf30, Tryz.sizeOf31, Tryz.sizeOf9, Tryz.sizeOf28, Result.andThen_ok, Sem.run_pure, Sem.run_map, map_pure, bind_pure_comp]
  rw [h1 _ rfl rfl rfl rfl rfl]
  simp [Cod.A_eq]
@[simp ↓] theorem ex_bldOm5 (ρ : Operand → Value) (x0 x1 x2 x3 x4 : Operand) (d : Option Nat) (t : TypeId) (p : String) (f : Array Edge) (g : Option (Nat × Bool)) (w : World) :
    (execOp ρ { dst := d, op := .build 33 #[(0, x0), (1, x1), (2, x2), (3, x3), (4, x4)], type := t, pos := p, after := f, guard := g }).run Tryz.prog w = mkB 33 w [(0, ρ x0), (1, ρ x1), (2, ρ x2), (3, ρ x3), (4, ρ x4)] := (exB ρ _ _ _ rfl w).trans (by simp only [List.map_toArray, List.map_cons, List.map_nil])
@[simp] theorem mkB_Om5 (w : World) (k : Int) (a s t : St) (m : List UInt8) : mkB 33 w [(0, .int .i64 k), (1, .agg (codS.A a)), (2, .agg (codS.A s)), (3, .agg (codS.A t)), (4, .string (str m))] = .ok (.value (.agg (codO.A { zOpW with Kind := k, At := a, Node := s, Parent := t, Name := m }))) w := mkB_ok (bldO_m5 w k a s t m)
/-- a move, as it lies in memory, and as a value -/
def mvW (a s t : St) (m : List UInt8) : OpW := { zOpW with Kind := 1, At := a, Node := s, Parent := t, Name := m }
def mvP (a s t : St) (m : List UInt8) : Opn := ⟨1, a, s, t, m, zID, []⟩
theorem mv_in (w : World) (a s t : St) (m : List UInt8) (h : m.length ≤ 140737488355328) : OpIn w (mvW a s t m) (mvP a s t m) := ⟨rfl, rfl, Sl.nil _ _, by simp [mvP], h⟩
def MvTo12 (w : World) (r : OpW) (e : Ending) (w' : World) : Prop := e = .returned (.agg (codO.A r)) ∧ Fr noB w w'
set_option maxRecDepth 100000 in
theorem l12move_any (w : World) (a s t : St) (m : List UInt8) : Calls Tryz.prog 17 #[.agg (codS.A a), .agg (codS.A s), .agg (codS.A t), .string (str m)] w (MvTo12 w (mvW a s t m)) := by
  have f0 : Fr noB w ((((w.alloc (.cells (codS.A a) 28)).alloc (.cells (codS.A s) 28)).alloc (.cells (codS.A t) 28)).alloc (codO.o zOpW)) := ((((Fr.refl noB w).alloc _).alloc _).alloc _).alloc _
  have q1 : codS.rd ((((w.alloc (.cells (codS.A a) 28)).alloc (.cells (codS.A s) 28)).alloc (.cells (codS.A t) 28)).alloc (codO.o zOpW)) w.heap.size 0 = some a := Cod.rd_fr0 (Cod.rd_new (C := codS) w 28 a) ((((Fr.refl noB _).alloc _).alloc _).alloc _)
  have q2 := Cod.rd_fr0 (Cod.rd_new (C := codS) (w.alloc (.cells (codS.A a) 28)) 28 s) (((Fr.refl noB _).alloc (.cells (codS.A t) 28)).alloc (codO.o zOpW))
  have q3 := Cod.rd_fr0 (Cod.rd_new (C := codS) ((w.alloc (.cells (codS.A a) 28)).alloc (.cells (codS.A s) 28)) 28 t) ((Fr.refl noB _).alloc (codO.o zOpW))
  have b4 := Cod.bxd_new (C := codO) (((w.alloc (.cells (codS.A a) 28)).alloc (.cells (codS.A s) 28)).alloc (.cells (codS.A t) 28)) zOpW
  simp only [World.size_alloc] at q2 q3 b4
  go_enter Tryz.func17, Tryz.ntmps17
  go_upto_region 1 with fail
  generalize (((w.alloc (.cells (codS.A a) 28)).alloc (.cells (codS.A s) 28)).alloc (.cells (codS.A t) 28)).alloc (codO.o zOpW) = W0 at f0 q1 q2 q3 b4 ⊢
  have hlo : w.heap.size ≤ w.heap.size + 1 + 1 + 1 := by omega
  generalize w.heap.size + 1 + 1 + 1 = R at b4 hlo ⊢
  generalize w.heap.size + 1 + 1 = P3 at q3 ⊢
  generalize w.heap.size + 1 = P2 at q2 ⊢
  obtain ⟨P1, hP1⟩ : ∃ p, p = w.heap.size := ⟨_, rfl⟩
  rw [← hP1] at q1 ⊢
  have HP := Lib.hid (show P1 ≤ R by omega)
  have HP1 := Lib.hid hP1
  have hst := okO.stR_box b4 (mvW a s t m)
  obtain ⟨p1, p2, p3⟩ := Cod.put_fr b4 (mvW a s t m)
  have HPP := Lib.hid (And.intro p1 (And.intro p2 p3))
  clear hP1 hlo p1 p2 p3
  have hmv : { zOpW with Kind := 1, At := a, Node := s, Parent := t, Name := m } = mvW a s t m := rfl
  go_wp2_with fail
  obtain ⟨p1, p2, p3⟩ := HPP.out
  refine bodyPost_ret (ret_row okO rfl _ _ R _ (by rfl) p3) rfl ?_
  exact ⟨rfl, f0.step1 p1 (by rw [← HP1.out]; exact HP.out)⟩
/-- an operation that comes between -/
theorem filter_split {L1 L2 : List Opn} {s : St} (h1 : ∀ p ∈ L1, cmpS p.At s < 0) (h2 : ∀ p ∈ L2, cmpS s p.At < 0) : (L1 ++ L2).filter (fun p => decide (cmpS p.At s < 0)) = L1 := by
  rw [List.filter_append, List.filter_eq_self.2 (fun p hp => by simpa using h1 p hp), List.filter_eq_nil_iff.2 (fun p hp => by
    have := h2 p hp
    have e := cmpS_flip s p.At
    simp only [decide_eq_true_eq]
    omega), List.append_nil]
theorem InsP.mid {M1 M2 L' : List Opn} {o : Opn} {u E u' : Int} (h : InsP (M1 ++ M2) o u E L' u') (hg : goodOp o = true) (h1 : ∀ p ∈ M1, cmpS p.At o.At < 0) (h2 : ∀ p ∈ M2, cmpS o.At p.At < 0) : E = 0 ∧ L' = M1 ++ o :: M2 ∧ u' = (M2.length : Int) := by
  rcases h with ⟨h, _⟩ | ⟨_, p, hp, he, _⟩ | ⟨_, hE, L1, L2, hL, hL', h3, h4, hu⟩
  · rw [hg] at h; cases h
  · exfalso
    rcases List.mem_append.1 hp with hp | hp
    · have := h1 p hp
      rw [he, cmpS_self] at this
      omega
    · have := h2 p hp
      rw [he, cmpS_self] at this
      omega
  · have e1 : M1 = L1 := by rw [← filter_split h1 h2, hL, filter_split h3 h4]
    subst e1
    have e2 := List.append_cancel_left hL
    subst e2
    exact ⟨hE, hL', hu⟩
theorem InsP.srt {L L' : List Opn} {o : Opn} {u E u' : Int} (h : InsP L o u E L' u') (hs : SrtL L) : SrtL L' := by
  rcases h with ⟨_, _, rfl, _⟩ | ⟨_, p, hp, he, h⟩ | ⟨_, hE, L1, L2, rfl, rfl, h3, h4, hu⟩
  · exact hs
  · rcases h with ⟨_, _, rfl, _⟩ | ⟨_, _, rfl, _⟩ <;> exact hs
  · unfold SrtL at hs ⊢
    rw [List.pairwise_append] at hs ⊢
    obtain ⟨s1, s2, s3⟩ := hs
    refine ⟨s1, List.pairwise_cons.2 ⟨h4, s2⟩, fun a ha c hc => ?_⟩
    rcases List.mem_cons.1 hc with rfl | hc
    · exact h3 a ha
    · exact s3 a ha c hc
theorem InsP.len {L L' : List Opn} {o : Opn} {u E u' : Int} (h : InsP L o u E L' u') : L'.length ≤ L.length + 1 := by
  rcases h with ⟨_, _, rfl, _⟩ | ⟨_, p, hp, he, h⟩ | ⟨_, hE, L1, L2, rfl, rfl, h3, h4, hu⟩
  · omega
  · rcases h with ⟨_, _, rfl, _⟩ | ⟨_, _, rfl, _⟩ <;> omega
  · simp only [List.length_append, List.length_cons]; omega
theorem InsP.mem {L L' : List Opn} {o : Opn} {u E u' : Int} (h : InsP L o u E L' u') : ∀ p ∈ L', p ∈ L ∨ p = o := by
  rcases h with ⟨_, _, rfl, _⟩ | ⟨_, p, hp, he, h⟩ | ⟨_, hE, L1, L2, rfl, rfl, h3, h4, hu⟩
  · exact fun p hp => .inl hp
  · rcases h with ⟨_, _, rfl, _⟩ | ⟨_, _, rfl, _⟩ <;> exact fun p hp => .inl hp
  · intro p hp
    simp only [List.mem_append, List.mem_cons] at hp ⊢
    rcases hp with hp | rfl | hp
    · exact .inl (.inl hp)
    · exact .inr rfl
    · exact .inl (.inr hp)
theorem off_ins {b P : Nat} {t t' : TrW} {w : World} (hP : ¬ trM b t P) (hlt : P < w.heap.size) (hm : t'.m = t.m) (hA : t'.A.map (·.block) = t.A.map (·.block) ∨ ∀ g, t'.A.map (·.block) = some g → w.heap.size ≤ g) : ¬ trM b t' P := by
  rintro (h | h | h)
  · exact hP (.inl h)
  · exact hP (.inr (.inl (h.trans hm)))
  · rcases hA with e | e
    · exact hP (.inr (.inr (e ▸ h)))
    · have := e _ h
      omega
def InOk (base : Nat) (w : World) (b : Nat) (t : TrW) (L' : List Opn) (u : Int) (e : Ending) (w' : World) : Prop :=
  ∃ t' : TrW, e = .returned (.int .i64 0) ∧ GvS base w' b t' L' ∧ t'.u = u ∧ (∀ P, P < w.heap.size → ¬ trM b t P → ¬ trM b t' P) ∧ Fr (trM b t) w w'
theorem gvIns_mid {base : Nat} {w : World} {b : Nat} {t : TrW} (M1 M2 : List Opn) (hS : GvS base w b t (M1 ++ M2)) (hsrt : SrtL (M1 ++ M2)) (hL : (M1 ++ M2).length ≤ 100000) (r : OpW) (o : Opn) (ho : OpIn w r o) (hov : o.Over.length ≤ 1000000) (hg : goodOp o = true) (h1 : ∀ p ∈ M1, cmpS p.At o.At < 0) (h2 : ∀ p ∈ M2, cmpS o.At p.At < 0) :
    Calls Tryz.prog 11 #[.pointer (some ⟨b, 0, none⟩), .agg (codO.A r)] w (InOk base w b t (M1 ++ o :: M2) (M2.length : Int)) := by
  refine (gvInsert_any base w b t _ hS hsrt hL r o ho hov).mono ?_
  rintro e w' ⟨E, t', L', rfl, h3, h4, h5, h6, h7⟩
  obtain ⟨rfl, rfl, hu⟩ := h7.mid hg h1 h2
  exact ⟨t', rfl, h3, hu, fun P hP hP2 => off_ins hP2 hP h4 h5, h6⟩
def aA : St := ⟨1, 1⟩
def aB : St := ⟨2, 1⟩
def am1 : Opn := mvP aA aA zSt [97]
def am2 : Opn := mvP aB aB aA [98]
def am3 : Opn := mvP ⟨3, 1⟩ aA aB [97]
def am4 : Opn := mvP ⟨2, 2⟩ aB zSt [98]
theorem am_row3 : findR (runX [] [am1, am2, am3]) aA = some ⟨aA, zSt, aA, [97], []⟩ := rfl
theorem am_run4 : runX [] [am1, am2, am4, am3] = [⟨aA, aB, ⟨3, 1⟩, [97], []⟩, ⟨aB, zSt, ⟨2, 2⟩, [98], []⟩] := rfl
theorem rise_uniq {xs ys : List RwP} (h : ys.Perm xs) (h1 : ys.Pairwise fun a b => cmpS a.Node b.Node < 0) (h2 : xs.Pairwise fun a b => cmpS a.Node b.Node < 0) : ys = xs := by
  refine h.eq_of_pairwise (le := fun a b : RwP => cmpS a.Node b.Node < 0) (fun a b _ _ hab hba => ?_) h1 h2
  have := cmpS_flip a.Node b.Node
  omega
/-- what is new is no part of a tree that was there -/
theorem GvS.off {base : Nat} {w : World} {b : Nat} {t : TrW} {L : List Opn} (h : GvS base w b t L) {P : Nat} (hP : w.heap.size ≤ P) : ¬ trM b t P := by
  rintro (rfl | rfl | h1)
  · have := Blk.lt h.tr
    omega
  · obtain ⟨_, h1, _⟩ := h.rows
    have := mpT_lt h1
    omega
  · obtain ⟨ds, _, h2, _⟩ := h.log
    have := World.ownsRow.lt h2 P (by rw [ownBlock_sl']; exact h1)
    omega
theorem GvS.base {base : Nat} {w : World} {b : Nat} {t : TrW} {L : List Opn} (h : GvS base w b t L) {q : Nat} (hq : trM b t q) : base ≤ q := by
  rcases hq with rfl | rfl | h1
  · exact h.bb
  · exact h.mm
  · obtain ⟨ds, _, h2, _⟩ := h.log
    exact (own_blk h2 h1).1
theorem GvS.frR {base : Nat} {w w' : World} {b : Nat} {t : TrW} {L : List Opn} (h : GvS base w b t L) {R : Nat} {r : RwW} (hb : codR.bxd w R = some r) (f : Fr (oneB R) w w') (ho : ¬ trM b t R) : GvS base w' b t L :=
  h.fr f (NoHS.blk (Cod.bxd_blk hb) (by decide) (by decide)) (fun e => ho (.inl e.symm)) (fun e => ho (.inr (.inl e.symm))) (fun g hg e => ho (.inr (.inr (by rw [hg, show g = R from e]))))
set_option maxRecDepth 100000 in
set_option maxHeartbeats 4000000 in
theorem l12alive_any (w : World) : Calls Tryz.prog 9 #[] w (Gives w (.bool true)) := by
  go_enter Tryz.func9, Tryz.ntmps9
  go_upto_region 2 with (go_at_call 8; refine (gvNew_any _).mono ?_; rintro e w1 ⟨b, t0, rfl, h0, hu0, f1⟩)
  have f2 : Fr noB w1 ((w1.alloc (codS.o zSt)).alloc (codS.o zSt)) := ((Fr.refl noB w1).alloc _).alloc _
  have ba := Cod.bxd_fr0 (Cod.bxd_new (C := codS) w1 zSt) ((Fr.refl noB _).alloc (codS.o zSt))
  have bb := Cod.bxd_new (C := codS) (w1.alloc (codS.o zSt)) zSt
  simp only [World.size_alloc] at bb
  have oP : ¬ trM b t0 w1.heap.size := h0.off (Nat.le_refl _)
  have oQ : ¬ trM b t0 (w1.heap.size + 1) := h0.off (Nat.le_succ _)
  have h1 := h0.fr0 f2
  generalize hW : (w1.alloc (codS.o zSt)).alloc (codS.o zSt) = W0 at f2 ba bb h1
  generalize hP : w1.heap.size = P at oP oQ ba bb
  generalize hQ : P + 1 = Q at oQ bb
  have HPQ := Lib.hid (show w.heap.size ≤ P ∧ P ≠ Q ∧ w.heap.size ≤ Q by have := f1.size; omega)
  obtain ⟨p1, p2, p3⟩ := Cod.put_fr ba (⟨1, 1⟩ : St)
  have hst1 := okS.stR_box ba (⟨1, 1⟩ : St)
  have bb1 := Cod.bxd_fr bb p1 (by show ¬ Q = P; have := HPQ.out; omega)
  obtain ⟨q1, q2, q3⟩ := Cod.put_fr bb1 (⟨2, 1⟩ : St)
  have hst2 := okS.stR_box bb1 (⟨2, 1⟩ : St)
  have ba2 := Cod.bxd_fr p3 q1 (by show ¬ P = Q; have := HPQ.out; omega)
  have HP1 := Lib.hid (show w1.heap.size ≤ P ∧ w1.heap.size ≤ Q by omega)
  have F3 : Fr noB w1 (codS.put (codS.put W0 P ⟨1, 1⟩) Q ⟨2, 1⟩) := (f2.step1 p1 HP1.out.1).step1 q1 HP1.out.2
  have h3 := Lib.hid (h0.fr0 F3)
  have F := Lib.hid (f1.step0 F3)
  have qa := Cod.bxd_rd ba2
  have qb := Cod.bxd_rd q3
  have HLA := Lib.hid (Cod.bxd_lt ba2)
  have HLB := Lib.hid (Cod.bxd_lt q3)
  have OP := Lib.hid oP
  have OQ := Lib.hid oQ
  clear oP oQ h0 h1 f1 f2 F3 ba bb p1 p2 p3 bb1 q1 q2 q3 ba2 hu0
  go_upto_region 3 with fail
  clear hst1 hst2 hP hQ hW
  generalize codS.put (codS.put W0 P ⟨1, 1⟩) Q ⟨2, 1⟩ = W3 at h3 F qa qb HLA HLB ⊢
  have qa3 := qa
  have qb3 := qb
  clear qa qb
  have k1 : True := trivial
  have k2 : True := trivial
  have k3 : True := trivial
  have k4 : True := trivial
  have k5 : True := trivial
  have k6 : True := trivial
  have k7 : True := trivial
  have k8 : True := trivial
  have k9 : True := trivial
  have k10 : True := trivial
  have k11 : True := trivial
  have k12 : True := trivial
  go_upto_region 5 with (first
    | (go_at_call 17; have _t := k1; refine (l12move_any _ ⟨1, 1⟩ ⟨1, 1⟩ zSt [97]).mono ?_; rintro e w4 ⟨rfl, f4⟩; have h4 := Lib.hid (h3.out.fr0 f4); have F4 := Lib.hid (F.out.step0 f4); have qa4 := Cod.rd_fr0 qa3 f4; have qb4 := Cod.rd_fr0 qb3 f4; have la4 := Lib.hid (Nat.lt_of_lt_of_le HLA.out f4.size); have lb4 := Lib.hid (Nat.lt_of_lt_of_le HLB.out f4.size); clear k1 _t qa3 qb3 f4 h3)
    | (go_at_call 11; have _t := k2; go_loud (refine (gvIns_mid [] [] h4.out (by unfold SrtL; decide) (by decide) _ am1 (mv_in _ _ _ _ _ (by decide)) (by decide) (by decide) (by simp) (by simp)).mono ?_; rintro e w5 ⟨t5, rfl, h5', hu5, o5, f5⟩; have h5 := Lib.hid h5'; have HU5 := Lib.hid hu5; have qa5 := Cod.rd_fr qa4 f5 OP.out; have qb5 := Cod.rd_fr qb4 f5 OQ.out; have oa5 := Lib.hid (o5 _ la4.out OP.out); have ob5 := Lib.hid (o5 _ lb4.out OQ.out); have la5 := Lib.hid (Nat.lt_of_lt_of_le la4.out f5.size); have lb5 := Lib.hid (Nat.lt_of_lt_of_le lb4.out f5.size); have F5 := Lib.hid (F4.out.step f5 (fun g hg => .inl (h4.out.base hg))); clear k2 _t qa4 qb4 f5 h5' hu5 o5 h4))
    | (go_at_call 17; have _t := k3; refine (l12move_any _ ⟨2, 1⟩ ⟨2, 1⟩ ⟨1, 1⟩ [98]).mono ?_; rintro e w6 ⟨rfl, f6⟩; have h6 := Lib.hid (h5.out.fr0 f6); have F6 := Lib.hid (F5.out.step0 f6); have qa6 := Cod.rd_fr0 qa5 f6; have qb6 := Cod.rd_fr0 qb5 f6; have la6 := Lib.hid (Nat.lt_of_lt_of_le la5.out f6.size); have lb6 := Lib.hid (Nat.lt_of_lt_of_le lb5.out f6.size); clear k3 _t qa5 qb5 f6 h5)
    | (go_at_call 11; have _t := k4; go_loud (refine (gvIns_mid [am1] [] h6.out (by unfold SrtL; decide) (by decide) _ am2 (mv_in _ _ _ _ _ (by decide)) (by decide) (by decide) (by decide) (by decide)).mono ?_; rintro e w7 ⟨t7, rfl, h7', hu7, o7, f7⟩; have h7 := Lib.hid h7'; have HU7 := Lib.hid hu7; have qa7 := Cod.rd_fr qa6 f7 oa5.out; have qb7 := Cod.rd_fr qb6 f7 ob5.out; have oa7 := Lib.hid (o7 _ la6.out oa5.out); have ob7 := Lib.hid (o7 _ lb6.out ob5.out); have la7 := Lib.hid (Nat.lt_of_lt_of_le la6.out f7.size); have lb7 := Lib.hid (Nat.lt_of_lt_of_le lb6.out f7.size); have F7 := Lib.hid (F6.out.step f7 (fun g hg => .inl (h6.out.base hg))); clear k4 _t qa6 qb6 f7 h7' hu7 o7 h6))
    | (go_at_call 17; have _t := k5; refine (l12move_any _ ⟨3, 1⟩ ⟨1, 1⟩ ⟨2, 1⟩ [97]).mono ?_; rintro e w8 ⟨rfl, f8⟩; have h8 := Lib.hid (h7.out.fr0 f8); have F8 := Lib.hid (F7.out.step0 f8); have qa8 := Cod.rd_fr0 qa7 f8; have qb8 := Cod.rd_fr0 qb7 f8; have la8 := Lib.hid (Nat.lt_of_lt_of_le la7.out f8.size); have lb8 := Lib.hid (Nat.lt_of_lt_of_le lb7.out f8.size); clear k5 _t qa7 qb7 f8 h7)
    | (go_at_call 11; have _t := k6; go_loud (refine (gvIns_mid [am1, am2] [] h8.out (by unfold SrtL; decide) (by decide) _ am3 (mv_in _ _ _ _ _ (by decide)) (by decide) (by decide) (by decide) (by decide)).mono ?_; rintro e w9 ⟨t9, rfl, h9', hu9, o9, f9⟩; have h9 := Lib.hid h9'; have HU9 := Lib.hid hu9; have qa9 := Cod.rd_fr qa8 f9 oa7.out; have qb9 := Cod.rd_fr qb8 f9 ob7.out; have oa9 := Lib.hid (o9 _ la8.out oa7.out); have ob9 := Lib.hid (o9 _ lb8.out ob7.out); have la9 := Lib.hid (Nat.lt_of_lt_of_le la8.out f9.size); have lb9 := Lib.hid (Nat.lt_of_lt_of_le lb8.out f9.size); have F9 := Lib.hid (F8.out.step f9 (fun g hg => .inl (h8.out.base hg))); clear k6 _t qa8 qb8 f9 h9' hu9 o9 h8)))
  have e10 : (findR (runX [] ([am1, am2] ++ [am3])) ⟨1, 1⟩).isSome = true := rfl
  have HE10 := Lib.hid e10
  clear e10
  go_upto_region 6 with (go_at_call 18; go_loud (refine (gvRow_any h9.out (by decide) ⟨1, 1⟩ (by decide)).mono ?_; rintro e w10 ⟨r10, x10, rfl, hx10, hr10, _, f10⟩; rw [HE10.out]; have h10 := Lib.hid (h9.out.fr0 f10); have F10 := Lib.hid (F9.out.step0 f10); have qa10 := Cod.rd_fr0 qa9 f10; have qb10 := Cod.rd_fr0 qb9 f10; have la10 := Lib.hid (Nat.lt_of_lt_of_le la9.out f10.size); have lb10 := Lib.hid (Nat.lt_of_lt_of_le lb9.out f10.size); have hp10 : r10.Parent = zSt := hr10.inn.parent.symm.trans (by rw [hx10]; rfl); clear hx10 hr10 qa9 qb9 f10 h9))
  have f11 : Fr noB w10 (w10.alloc (codR.o r10)) := (Fr.refl noB w10).alloc _
  have bR := Cod.bxd_new (C := codR) w10 r10
  have qr := (rwAt (Cod.bxd_rd bR)).parent
  rw [hp10] at qr
  have oR := Lib.hid (h10.out.off (Nat.le_refl w10.heap.size))
  have lr := Lib.hid (Cod.bxd_lt bR)
  have HRB := Lib.hid (show w.heap.size ≤ w10.heap.size from F10.out.size)
  have HPR := Lib.hid (And.intro la10.out lb10.out)
  have h11 := Lib.hid (h10.out.fr0 f11)
  have F11 := Lib.hid (F10.out.step0 f11)
  have qa11 := Cod.rd_fr0 qa10 f11
  have qb11 := Cod.rd_fr0 qb10 f11
  have la11 := Lib.hid (Nat.lt_of_lt_of_le la10.out f11.size)
  have lb11 := Lib.hid (Nat.lt_of_lt_of_le lb10.out f11.size)
  have BR := Lib.hid bR
  clear f11 qa10 qb10 hp10 h10 bR
  generalize hR : w10.heap.size = R at qr oR lr HRB HPR BR ⊢
  clear hR
  generalize w10.alloc (codR.o r10) = W11 at BR qr lr h11 F11 qa11 qb11 la11 lb11 ⊢
  have z1 : t9.u = 0 := HU9.out
  go_upto_region 8 with (first
    | (go_at_call 22; have _t := k7; go_loud (refine (gvUndone_any h11.out).mono ?_; rintro e w12 ⟨rfl, f12⟩; rw [z1]; have h12 := Lib.hid (h11.out.fr0 f12); have F12 := Lib.hid (F11.out.step0 f12); have qa12 := Cod.rd_fr0 qa11 f12; have qb12 := Cod.rd_fr0 qb11 f12; have la12 := Lib.hid (Nat.lt_of_lt_of_le la11.out f12.size); have lb12 := Lib.hid (Nat.lt_of_lt_of_le lb11.out f12.size); have br12 := Lib.hid (Cod.bxd_fr0 BR.out f12); have lr12 := Lib.hid (Nat.lt_of_lt_of_le lr.out f12.size); clear k7 _t qa11 qb11 f12 h11 qr))
    | (go_at_call 22; go_loud (refine (gvUndone_any h14.out).mono ?_; rintro e w15 ⟨rfl, f15⟩; rw [show t14.u = 1 from HU14.out]; have h15 := Lib.hid (h14.out.fr0 f15); have F15 := Lib.hid (F14.out.step0 f15); have qa15 := Cod.rd_fr0 qa14 f15; have qb15 := Cod.rd_fr0 qb14 f15; have la15 := Lib.hid (Nat.lt_of_lt_of_le la14.out f15.size); have lb15 := Lib.hid (Nat.lt_of_lt_of_le lb14.out f15.size); have br15 := Lib.hid (Cod.bxd_fr0 br14.out f15); clear qa14 qb14 f15 h14))
    | (go_at_call 17; have _t := k8; refine (l12move_any _ ⟨2, 2⟩ ⟨2, 1⟩ zSt [98]).mono ?_; rintro e w13 ⟨rfl, f13⟩; have h13 := Lib.hid (h12.out.fr0 f13); have br13 := Lib.hid (Cod.bxd_fr0 br12.out f13); have lr13 := Lib.hid (Nat.lt_of_lt_of_le lr12.out f13.size); have F13 := Lib.hid (F12.out.step0 f13); have qa13 := Cod.rd_fr0 qa12 f13; have qb13 := Cod.rd_fr0 qb12 f13; have la13 := Lib.hid (Nat.lt_of_lt_of_le la12.out f13.size); have lb13 := Lib.hid (Nat.lt_of_lt_of_le lb12.out f13.size); clear k8 _t qa12 qb12 f13 h12)
    | (go_at_call 11; have _t := k9; go_loud (refine (gvIns_mid [am1, am2] [am3] h13.out (by unfold SrtL; decide) (by decide) _ am4 (mv_in _ _ _ _ _ (by decide)) (by decide) (by decide) (by decide) (by decide)).mono ?_; rintro e w14 ⟨t14, rfl, h14', hu14, o14, f14⟩; have h14 := Lib.hid h14'; have HU14 := Lib.hid hu14; have qa14 := Cod.rd_fr qa13 f14 oa9.out; have qb14 := Cod.rd_fr qb13 f14 ob9.out; have oa14 := Lib.hid (o14 _ la13.out oa9.out); have ob14 := Lib.hid (o14 _ lb13.out ob9.out); have la14 := Lib.hid (Nat.lt_of_lt_of_le la13.out f14.size); have lb14 := Lib.hid (Nat.lt_of_lt_of_le lb13.out f14.size); have br14 := Lib.hid (Cod.bxd_fr br13.out f14 (oR).out); have or14 := Lib.hid (o14 _ lr13.out (oR).out); have F14 := Lib.hid (F13.out.step f14 (fun g hg => .inl (h13.out.base hg))); clear k9 _t qa13 qb13 f14 h14' hu14 o14 h13)))
  have e16 : (findR (runX [] ([am1, am2] ++ am4 :: [am3])) ⟨1, 1⟩).isSome = true := rfl
  have HE16 := Lib.hid e16
  clear e16 z1
  go_upto_region 9 with (go_at_call 18; go_loud (refine (gvRow_any h15.out (by decide) ⟨1, 1⟩ (by decide)).mono ?_; rintro e w16 ⟨r16, x16, rfl, hx16, hr16, _, f16⟩; rw [HE16.out]; have h16 := Lib.hid (h15.out.fr0 f16); have F16 := Lib.hid (F15.out.step0 f16); have qa16 := Cod.rd_fr0 qa15 f16; have qb16 := Cod.rd_fr0 qb15 f16; have br16 := Cod.bxd_fr0 br15.out f16; have hst16 := okR.stR_box br16 r16; have hp16 : r16.Parent = ⟨2, 1⟩ := hr16.inn.parent.symm.trans (by rw [hx16]; rfl); clear hx16 hr16 qa15 qb15 h15))
  obtain ⟨p1, p2, p3⟩ := Cod.put_fr br16 r16
  have qr17 := (rwAt (Cod.bxd_rd p3)).parent
  rw [hp16] at qr17
  have hpr := HPR.out
  have qa17 := Cod.rd_fr qa16 p1 (by show ¬ P = R; omega)
  have qb17 := Cod.rd_fr qb16 p1 (by show ¬ Q = R; omega)
  have h17 := h16.out.frR br16 p1 or14.out
  have F17 := Lib.hid (F16.out.step1 p1 HRB.out)
  clear hst16 hp16 qa16 qb16 p1 p2 p3 br16 h16 hpr
  generalize codR.put w16 R r16 = W17 at qr17 qa17 qb17 h17 F17 ⊢
  have hk : ∀ w' w'' : World, Fr noB w' w'' → (codS.rd w' P 0 = some ⟨1, 1⟩ ∧ codS.rd w' Q 0 = some ⟨2, 1⟩ ∧ codS.rd w' R 2 = some ⟨2, 1⟩ ∧ GvS w.heap.size w' b t14 ([am1, am2] ++ am4 :: [am3])) → (codS.rd w'' P 0 = some ⟨1, 1⟩ ∧ codS.rd w'' Q 0 = some ⟨2, 1⟩ ∧ codS.rd w'' R 2 = some ⟨2, 1⟩ ∧ GvS w.heap.size w'' b t14 ([am1, am2] ++ am4 :: [am3])) := fun w' w'' f h => ⟨Cod.rd_fr0 h.1 f, Cod.rd_fr0 h.2.1 f, Cod.rd_fr0 h.2.2.1 f, h.2.2.2.fr0 f⟩
  have fd : Fr noB W17 W17.drew := (Fr.refl noB W17).drew
  refine wp_region_M 33 34 [⟨151115727451828646838272, 32, 0⟩, ⟨302231454903657293676544, 151115727451828646838272, 1⟩, ⟨604462909807314587353088, 302231454903657293676560, 2⟩, ⟨1208925819614629174706176, 906694364710971881029632, 6⟩, ⟨2417851639229258349412352, 302231454903657293676552, 2⟩, ⟨4835703278458516698824704, 3929008913747544817795072, 26⟩, ⟨9671406556917033397649408, 5137934733362173992501248, 34⟩, ⟨19342813113834066795298816, 9671406556917033397649408, 66⟩, ⟨38685626227668133590597632, 19342813113834066795298818, 128⟩, ⟨77371252455336267181195264, 58028439341502200385896448, 384⟩, ⟨154742504910672534362390528, 96714065569170333976494080, 640⟩, ⟨309485009821345068724781056, 174085318024506601157689344, 1152⟩, ⟨618970019642690137449562112, 328827822935179135520079872, 2176⟩, ⟨1237940039285380274899124224, 618970019642690137449562112, 4608⟩, ⟨2475880078570760549798248448, 1237940039285380274899124226, 8192⟩, ⟨4951760157141521099596496896, 1237940039285380274899124232, 8192⟩, ⟨9903520314283042199192993792, 8665580274997661924293869568, 57344⟩, ⟨19807040628566084398385987584, 11141460353568422474092118016, 73728⟩, ⟨39614081257132168796771975168, 21044980667851464673285111808, 139264⟩, ⟨79228162514264337593543950336, 40852021296417549071671099392, 270336⟩, ⟨158456325028528675187087900672, 79228162514264337593543950336, 589824⟩, ⟨316912650057057350374175801344, 158456325028528675187087900674, 1048576⟩, ⟨633825300114114700748351602688, 475368975085586025561263702016, 3145728⟩, ⟨1267650600228229401496703205376, 792281625142643375935439503360, 5242880⟩, ⟨2535301200456458802993406410752, 1426106925256758076683791106048, 9437184⟩, ⟨5070602400912917605986812821504, 2693757525484987478180494311424, 17825792⟩, ⟨10141204801825835211973625643008, 5070602400912917605986812821504, 37748736⟩, ⟨20282409603651670423947251286016, 10141204801825835211973625643010, 67108864⟩, ⟨40564819207303340847894502572032, 30423614405477505635920876929024, 201326592⟩, ⟨81129638414606681695789005144064, 10141204801825835211973625643012, 67108864⟩, ⟨162259276829213363391578010288128, 10141204801825835211973625643016, 67108864⟩, ⟨324518553658426726783156020576256, 294094939252949221147235143647232, 1946157056⟩, ⟨649037107316853453566312041152512, 334659758460252561995129646219264, 2214592512⟩, ⟨1, 649037107316853453566312041152512, 8589934591⟩] [(true, 0), (true, 1), (true, 2), (true, 3), (true, 4), (true, 5), (true, 6), (true, 7), (true, 8), (false, 9), (true, 10), (true, 11), (true, 12), (true, 13), (true, 14), (true, 15), (false, 16), (true, 17), (true, 18), (true, 19), (true, 20), (true, 21), (false, 22), (true, 23), (true, 24), (true, 25), (true, 26), (true, 27), (true, 29), (true, 30), (false, 28), (false, 31), (true, 32)] (fun w' => codS.rd w' P 0 = some ⟨1, 1⟩ ∧ codS.rd w' Q 0 = some ⟨2, 1⟩ ∧ codS.rd w' R 2 = some ⟨2, 1⟩ ∧ GvS w.heap.size w' b t14 ([am1, am2] ++ am4 :: [am3])) (by kernel_rfl) rfl (by kernel_rfl) (by kernel_rfl) (by kernel_rfl) (hk _ _ fd ⟨qa17, qb17, qr17, h17⟩) (fun hA hF => ?_)
  iterate 9
    refine wpAnyS_take (v := ?_) hA rfl (fun _ _ _ h => h) (Or.inl ⟨by rfl, ?_⟩) hF (fun hA => ?_)
    rotate_left
    · intro wS hSw; (try dsimp only at hSw); obtain ⟨s1, s2, s3, s4⟩ := hSw; first | (apply Eq.trans; apply ex_ldR_at; exact rfl; exact rfl; assumption; with_reducible rfl) | (apply Eq.trans; apply ex_ldS_at; exact rfl; exact rfl; assumption; with_reducible rfl) | (go_simp; try with_reducible rfl)
    try simp only [List.getElem_toArray, List.getElem_cons_zero, List.getElem_cons_succ, Act.put, List.setIfInBounds_toArray, List.set_cons_zero, List.set_cons_succ]
  refine wpAnyS_one hA rfl (fun K' hK => ?_)
  rw [if_pos (by rfl)]
  go_simp
  go_at_call 12
  refine (gvRows_any hF.2.2.2 (by decide)).mono ?_
  rintro e u1 ⟨A1, c1, rs1, ys1, rfl, _, x1, _, y1, _, g1⟩
  have l1 : rs1.length = 2 := x1.1.trans (y1.length_eq.trans (by rfl))
  rw [l1]
  replace hF := hk _ _ g1 hF
  refine hK.out _ _ hF (fun hA => ?_)
  clear hK K'
  as_aux_lemma =>
  iterate 6
    refine wpAnyS_take (v := ?_) hA rfl (fun _ _ _ h => h) (Or.inl ⟨by rfl, ?_⟩) hF (fun hA => ?_)
    rotate_left
    · intro wS hSw; (try dsimp only at hSw); obtain ⟨s1, s2, s3, s4⟩ := hSw; first | (apply Eq.trans; apply ex_ldR_at; exact rfl; exact rfl; assumption; with_reducible rfl) | (apply Eq.trans; apply ex_ldS_at; exact rfl; exact rfl; assumption; with_reducible rfl) | (go_simp; try with_reducible rfl)
    try simp only [List.getElem_toArray, List.getElem_cons_zero, List.getElem_cons_succ, Act.put, List.setIfInBounds_toArray, List.set_cons_zero, List.set_cons_succ]
  refine wpAnyS_one hA rfl (fun K' hK => ?_)
  rw [if_pos (by rfl)]
  go_simp
  go_at_call 16
  refine (gvKids_any hF.2.2.2 (by decide) ⟨2, 1⟩).mono ?_
  rintro e u2 ⟨A2, c2, ks2, rfl, _, y2, _, g2⟩
  have l2 : ks2.length = 1 := y2.length_eq.trans (by rfl)
  rw [l2]
  replace hF := hk _ _ g2 hF
  refine hK.out _ _ hF (fun hA => ?_)
  clear hK K'
  as_aux_lemma =>
  iterate 5
    refine wpAnyS_take (v := ?_) hA rfl (fun _ _ _ h => h) (Or.inl ⟨by rfl, ?_⟩) hF (fun hA => ?_)
    rotate_left
    · intro wS hSw; (try dsimp only at hSw); obtain ⟨s1, s2, s3, s4⟩ := hSw; first | (apply Eq.trans; apply ex_ldR_at; exact rfl; exact rfl; assumption; with_reducible rfl) | (apply Eq.trans; apply ex_ldS_at; exact rfl; exact rfl; assumption; with_reducible rfl) | (go_simp; try with_reducible rfl)
    try simp only [List.getElem_toArray, List.getElem_cons_zero, List.getElem_cons_succ, Act.put, List.setIfInBounds_toArray, List.set_cons_zero, List.set_cons_succ]
  refine wpAnyS_one hA rfl (fun K' hK => ?_)
  rw [if_pos (by rfl)]
  go_simp
  go_at_call 15
  refine (gvOps_any hF.2.2.2 (by unfold SrtL; decide) (by decide) (by decide)).mono ?_
  rintro e u3 ⟨A3, c3, os3, rfl, _, x3, _, g3⟩
  have l3 : os3.length = 4 := x3.1
  rw [l3]
  replace hF := hk _ _ g3 hF
  refine hK.out _ _ hF (fun hA => ?_)
  clear hK K'
  as_aux_lemma =>
  iterate 7
    refine wpAnyS_take (v := ?_) hA rfl (fun _ _ _ h => h) (Or.inl ⟨by rfl, ?_⟩) hF (fun hA => ?_)
    rotate_left
    · intro wS hSw; (try dsimp only at hSw); obtain ⟨s1, s2, s3, s4⟩ := hSw; first | (apply Eq.trans; apply ex_ldR_at; exact rfl; exact rfl; assumption; with_reducible rfl) | (apply Eq.trans; apply ex_ldS_at; exact rfl; exact rfl; assumption; with_reducible rfl) | (go_simp; try with_reducible rfl)
    try simp only [List.getElem_toArray, List.getElem_cons_zero, List.getElem_cons_succ, Act.put, List.setIfInBounds_toArray, List.set_cons_zero, List.set_cons_succ]
  refine wpAnyS_one hA rfl (fun K' hK => ?_)
  rw [if_pos (by rfl)]
  go_simp
  go_at_call 12
  refine (gvRows_any hF.2.2.2 (by decide)).mono ?_
  rintro e u4 ⟨A4, c4, rs4, ys4, rfl, o4, x4, _, y4, r4, g4⟩
  replace hF := hk _ _ g4 hF
  refine hK.out _ _ hF (fun hA => ?_)
  clear hK K'
  as_aux_lemma =>
  have hy4 := rise_uniq y4 r4 (by rw [show runX [] ([am1, am2] ++ am4 :: [am3]) = _ from am_run4]; decide)
  refine wpAnyS_one hA rfl (fun K' hK => ?_)
  rw [if_pos (by rfl)]
  go_simp
  go_at_call 14
  refine (gvLies_any u4 A4 c4 rs4.length rs4 ys4 rfl (Sl.own o4) (by rw [x4.1, y4.length_eq]; decide) ⟨x4.1, fun i h h' => (x4.2 i h h').row.inn⟩ ⟨1, 1⟩ ⟨2, 1⟩).mono ?_
  rintro e u5 ⟨rfl, g5⟩
  rw [show liesR ys4 ⟨1, 1⟩ ⟨2, 1⟩ = true by rw [hy4]; rfl]
  replace hF := hk _ _ g5 hF
  refine hK.out _ _ hF (fun hA => ?_)
  clear hK K'
  as_aux_lemma =>
  refine wpAnyS_take (v := ?_) hA rfl (fun _ _ _ h => h) (Or.inl ⟨by rfl, ?_⟩) hF (fun hA => ?_)
  rotate_left
  · intro wS hSw; (try dsimp only at hSw); obtain ⟨s1, s2, s3, s4⟩ := hSw; first | (apply Eq.trans; apply ex_ldR_at; exact rfl; exact rfl; assumption; with_reducible rfl) | (apply Eq.trans; apply ex_ldS_at; exact rfl; exact rfl; assumption; with_reducible rfl) | (go_simp; try with_reducible rfl)
  try simp only [List.getElem_toArray, List.getElem_cons_zero, List.getElem_cons_succ, Act.put, List.setIfInBounds_toArray, List.set_cons_zero, List.set_cons_succ]
  refine wpAnyS_end hA rfl ?_
  simp only [List.drop_succ_cons, List.drop_zero]
  have FF := ((((((F17.out.step0 fd).step0 g1).step0 g2).step0 g3).step0 g4).step0 g5)
  clear hF hk
  go_wp2_with fail
  go_ret
  exact ⟨rfl, FF⟩
end Go.Proofs.YtdandpaeeodolaaGreat
