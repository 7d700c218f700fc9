/- Contracts: pollardlaw12.move, alive. (ex_ldS_at, ex_ldR_at) Plain laws of a tree that comes of operations (grove): ways, where rows come from, heads, kids counted. Plain: rows of a tree of right operations are a tree; what comes of a tree and itself, of a tree and nothing, of nothing and a tree. Plain: the operations that turn one tree into another one, done to it: each does something, and the trees are alike. -/
import Derived.Test.YtefcalkbfaefgaaGreatGwBK
import Derived.Test.YtefcalkbfaefgaaGreatDiffPK
import Derived.Test.YtefcalkbfaefgaaGreatPathPK
import Derived.Test.YtefcalkbfaefgaaGreatTreeSK
namespace Go.Proofs.YtefcalkbfaefgaaGreat
open Go.RowKit Go.Sort
set_option linter.unusedVariables false
set_option linter.unusedSimpArgs false

theorem bldO_m5 (w : World) (k : Int) (a s t : St) (m : List UInt8) : (Instr.build 42 #[(0, .int .i64 k), (1, .agg (codS.A a)), (2, .agg (codS.A s)), (3, .agg (codS.A t)), (4, .string (str m))]).run Tryz.prog w = .ok (.agg (codO.A { zOpW with Kind := k, At := a, Node := s, Parent := t, Name := m })) w := by
  have h1 : ∀ place : Nat → Option (Nat × Nat), place 0 = some (0, 1) → place 1 = some (1, 2) → place 2 = some (3, 2) → place 3 = some (5, 2) → place 4 = some (7, 1) → Instr.fill place ([] ++ [Value.int .i64 0] ++ ([Value.int .i64 0, Value.int .i64 0, Value.int .i64 0, Value.int .i64 0, Value.int .i64 0, Value.int .i64 0, Value.string (str [])] ++ bv zID.1 ++ [Value.slice none 0 0])).toArray [(0, .int .i64 k), (1, .agg (codS.A a)), (2, .agg (codS.A s)), (3, .agg (codS.A t)), (4, .string (str m))] = some (codO.cs { zOpW with Kind := k, At := a, Node := s, Parent := t, Name := m }).toArray := by
    intro place p0 p1 p2 p3 p4
    refine (fill_one place [] [.int .i64 0] ([Value.int .i64 0, Value.int .i64 0, Value.int .i64 0, Value.int .i64 0, Value.int .i64 0, Value.int .i64 0, Value.string (str [])] ++ bv zID.1 ++ [Value.slice none 0 0]) [.int .i64 k] 0 (.int .i64 k) _ rfl (by simpa using p0) rfl).trans ?_
    have e0 := fill_one place [.int .i64 k] [.int .i64 0, .int .i64 0] ([.int .i64 0, .int .i64 0, .int .i64 0, .int .i64 0, Value.string (str [])] ++ bv zID.1 ++ [Value.slice none 0 0]) [.int .i64 a.T, .int .i64 a.R] 1 (.agg (codS.A a)) [(2, .agg (codS.A s)), (3, .agg (codS.A t)), (4, .string (str m))] (by rw [A_SS]; rfl) (by simpa using p1) rfl
    refine Eq.trans ?_ (e0.trans ?_)
    · simp
    have e1 := fill_one place [.int .i64 k, .int .i64 a.T, .int .i64 a.R] [.int .i64 0, .int .i64 0] ([.int .i64 0, .int .i64 0, Value.string (str [])] ++ bv zID.1 ++ [Value.slice none 0 0]) [.int .i64 s.T, .int .i64 s.R] 2 (.agg (codS.A s)) [(3, .agg (codS.A t)), (4, .string (str m))] (by rw [A_SS]; rfl) (by simpa using p2) rfl
    refine Eq.trans ?_ (e1.trans ?_)
    · simp
    have e2 := fill_one place [.int .i64 k, .int .i64 a.T, .int .i64 a.R, .int .i64 s.T, .int .i64 s.R] [.int .i64 0, .int .i64 0] ([Value.string (str [])] ++ bv zID.1 ++ [Value.slice none 0 0]) [.int .i64 t.T, .int .i64 t.R] 3 (.agg (codS.A t)) [(4, .string (str m))] (by rw [A_SS]; rfl) (by simpa using p3) rfl
    refine Eq.trans ?_ (e2.trans ?_)
    · simp
    have e3 := fill_one place [.int .i64 k, .int .i64 a.T, .int .i64 a.R, .int .i64 s.T, .int .i64 s.R, .int .i64 t.T, .int .i64 t.R] [Value.string (str [])] (bv zID.1 ++ [Value.slice none 0 0]) [.string (str m)] 4 (.string (str m)) [] rfl (by simpa using p4) rfl
    refine Eq.trans ?_ (e3.trans ?_)
    · simp
    · simp [Instr.fill, codO, csO, zOpW, zSt]
  have hz : (zeroValue 42).run Tryz.prog w = .ok (.agg (codO.cs codO.z).toArray) w := okO.zero w
  simp only [Instr.build, Sem.run_bind, hz, Result.andThen_ok, run_underlying Tryz.underlying42, zO_form]
  simp only [List.mapM_toArray, List.mapM_cons, List.mapM_nil, Sem.run_bind, Tryz.sizeOf3, Tryz.sizeOf39, Tryz.sizeOf40, Tryz.sizeOf9, Tryz.sizeOf30, Result.andThen_ok, Sem.run_pure, Sem.run_map, map_pure, bind_pure_comp]
  rw [h1 _ rfl rfl rfl rfl rfl]
  simp [Cod.A_eq]
@[simp ↓] theorem ex_bldOm5 (ρ : Operand → Value) (x0 x1 x2 x3 x4 : Operand) (d : Option Nat) (t : TypeId) (p : String) (f : Array Edge) (g : Option (Nat × Bool)) (w : World) :
    (execOp ρ { dst := d, op := .build 42 #[(0, x0), (1, x1), (2, x2), (3, x3), (4, x4)], type := t, pos := p, after := f, guard := g }).run Tryz.prog w = mkB 42 w [(0, ρ x0), (1, ρ x1), (2, ρ x2), (3, ρ x3), (4, ρ x4)] := (exB ρ _ _ _ rfl w).trans (by simp only [List.map_toArray, List.map_cons, List.map_nil])
@[simp] theorem mkB_Om5 (w : World) (k : Int) (a s t : St) (m : List UInt8) : mkB 42 w [(0, .int .i64 k), (1, .agg (codS.A a)), (2, .agg (codS.A s)), (3, .agg (codS.A t)), (4, .string (str m))] = .ok (.value (.agg (codO.A { zOpW with Kind := k, At := a, Node := s, Parent := t, Name := m }))) w := mkB_ok (bldO_m5 w k a s t m)
/-- a move, as it lies in memory, and as a value -/
def mvW (a s t : St) (m : List UInt8) : OpW := { zOpW with Kind := 1, At := a, Node := s, Parent := t, Name := m }
def mvP (a s t : St) (m : List UInt8) : Opn := ⟨1, a, s, t, m, zID, []⟩
theorem mv_in (w : World) (a s t : St) (m : List UInt8) (h : m.length ≤ 140737488355328) : OpIn w (mvW a s t m) (mvP a s t m) := ⟨rfl, rfl, Sl.nil _ _, by simp [mvP], h⟩
def MvTo12 (w : World) (r : OpW) (e : Ending) (w' : World) : Prop := e = .returned (.agg (codO.A r)) ∧ Fr noB w w'
/-- an operation that comes between -/
theorem filter_split {L1 L2 : List Opn} {s : St} (h1 : ∀ p ∈ L1, cmpS p.At s < 0) (h2 : ∀ p ∈ L2, cmpS s p.At < 0) : (L1 ++ L2).filter (fun p => decide (cmpS p.At s < 0)) = L1 := by
  rw [List.filter_append, List.filter_eq_self.2 (fun p hp => by simpa using h1 p hp), List.filter_eq_nil_iff.2 (fun p hp => by
    have := h2 p hp
    have e := cmpS_flip s p.At
    simp only [decide_eq_true_eq]
    omega), List.append_nil]
theorem InsP.mid {M1 M2 L' : List Opn} {o : Opn} {u E u' : Int} (h : InsP (M1 ++ M2) o u E L' u') (hg : goodOp o = true) (h1 : ∀ p ∈ M1, cmpS p.At o.At < 0) (h2 : ∀ p ∈ M2, cmpS o.At p.At < 0) : E = 0 ∧ L' = M1 ++ o :: M2 ∧ u' = (M2.length : Int) := by
  rcases h with ⟨h, _⟩ | ⟨_, p, hp, he, _⟩ | ⟨_, hE, L1, L2, hL, hL', h3, h4, hu⟩
  · rw [hg] at h; cases h
  · exfalso
    rcases List.mem_append.1 hp with hp | hp
    · have := h1 p hp
      rw [he, cmpS_self] at this
      omega
    · have := h2 p hp
      rw [he, cmpS_self] at this
      omega
  · have e1 : M1 = L1 := by rw [← filter_split h1 h2, hL, filter_split h3 h4]
    subst e1
    have e2 := List.append_cancel_left hL
    subst e2
    exact ⟨hE, hL', hu⟩
theorem InsP.srt {L L' : List Opn} {o : Opn} {u E u' : Int} (h : InsP L o u E L' u') (hs : SrtL L) : SrtL L' := by
  rcases h with ⟨_, _, rfl, _⟩ | ⟨_, p, hp, he, h⟩ | ⟨_, hE, L1, L2, rfl, rfl, h3, h4, hu⟩
  · exact hs
  · rcases h with ⟨_, _, rfl, _⟩ | ⟨_, _, rfl, _⟩ <;> exact hs
  · unfold SrtL at hs ⊢
    rw [List.pairwise_append] at hs ⊢
    obtain ⟨s1, s2, s3⟩ := hs
    refine ⟨s1, List.pairwise_cons.2 ⟨h4, s2⟩, fun a ha c hc => ?_⟩
    rcases List.mem_cons.1 hc with rfl | hc
    · exact h3 a ha
    · exact s3 a ha c hc
theorem InsP.len {L L' : List Opn} {o : Opn} {u E u' : Int} (h : InsP L o u E L' u') : L'.length ≤ L.length + 1 := by
  rcases h with ⟨_, _, rfl, _⟩ | ⟨_, p, hp, he, h⟩ | ⟨_, hE, L1, L2, rfl, rfl, h3, h4, hu⟩
  · omega
  · rcases h with ⟨_, _, rfl, _⟩ | ⟨_, _, rfl, _⟩ <;> omega
  · simp only [List.length_append, List.length_cons]; omega
theorem InsP.mem {L L' : List Opn} {o : Opn} {u E u' : Int} (h : InsP L o u E L' u') : ∀ p ∈ L', p ∈ L ∨ p = o := by
  rcases h with ⟨_, _, rfl, _⟩ | ⟨_, p, hp, he, h⟩ | ⟨_, hE, L1, L2, rfl, rfl, h3, h4, hu⟩
  · exact fun p hp => .inl hp
  · rcases h with ⟨_, _, rfl, _⟩ | ⟨_, _, rfl, _⟩ <;> exact fun p hp => .inl hp
  · intro p hp
    simp only [List.mem_append, List.mem_cons] at hp ⊢
    rcases hp with hp | rfl | hp
    · exact .inl (.inl hp)
    · exact .inr rfl
    · exact .inl (.inr hp)
theorem off_ins {b P : Nat} {t t' : TrW} {w : World} (hP : ¬ trM b t P) (hlt : P < w.heap.size) (hm : t'.m = t.m) (hA : t'.A.map (·.block) = t.A.map (·.block) ∨ ∀ g, t'.A.map (·.block) = some g → w.heap.size ≤ g) : ¬ trM b t' P := by
  rintro (h | h | h)
  · exact hP (.inl h)
  · exact hP (.inr (.inl (h.trans hm)))
  · rcases hA with e | e
    · exact hP (.inr (.inr (e ▸ h)))
    · have := e _ h
      omega
def InOk (base : Nat) (w : World) (b : Nat) (t : TrW) (L' : List Opn) (u : Int) (e : Ending) (w' : World) : Prop :=
  ∃ t' : TrW, e = .returned (.int .i64 0) ∧ GvS base w' b t' L' ∧ t'.u = u ∧ (∀ P, P < w.heap.size → ¬ trM b t P → ¬ trM b t' P) ∧ Fr (trM b t) w w'
theorem gvIns_mid {base : Nat} {w : World} {b : Nat} {t : TrW} (M1 M2 : List Opn) (hS : GvS base w b t (M1 ++ M2)) (hsrt : SrtL (M1 ++ M2)) (hL : (M1 ++ M2).length ≤ 100000) (r : OpW) (o : Opn) (ho : OpIn w r o) (hov : o.Over.length ≤ 1000000) (hg : goodOp o = true) (h1 : ∀ p ∈ M1, cmpS p.At o.At < 0) (h2 : ∀ p ∈ M2, cmpS o.At p.At < 0) :
    Calls Tryz.prog 11 #[.pointer (some ⟨b, 0, none⟩), .agg (codO.A r)] w (InOk base w b t (M1 ++ o :: M2) (M2.length : Int)) := by
  refine (gvInsert_any base w b t _ hS hsrt hL r o ho hov).mono ?_
  rintro e w' ⟨E, t', L', rfl, h3, h4, h5, h6, h7⟩
  obtain ⟨rfl, rfl, hu⟩ := h7.mid hg h1 h2
  exact ⟨t', rfl, h3, hu, fun P hP hP2 => off_ins hP2 hP h4 h5, h6⟩
def aA : St := ⟨1, 1⟩
def aB : St := ⟨2, 1⟩
def am1 : Opn := mvP aA aA zSt [97]
def am2 : Opn := mvP aB aB aA [98]
def am3 : Opn := mvP ⟨3, 1⟩ aA aB [97]
def am4 : Opn := mvP ⟨2, 2⟩ aB zSt [98]
theorem am_row3 : findR (runX [] [am1, am2, am3]) aA = some ⟨aA, zSt, aA, [97], []⟩ := rfl
theorem am_run4 : runX [] [am1, am2, am4, am3] = [⟨aA, aB, ⟨3, 1⟩, [97], []⟩, ⟨aB, zSt, ⟨2, 2⟩, [98], []⟩] := rfl
theorem rise_uniq {xs ys : List RwP} (h : ys.Perm xs) (h1 : ys.Pairwise fun a b => cmpS a.Node b.Node < 0) (h2 : xs.Pairwise fun a b => cmpS a.Node b.Node < 0) : ys = xs := by
  refine h.eq_of_pairwise (le := fun a b : RwP => cmpS a.Node b.Node < 0) (fun a b _ _ hab hba => ?_) h1 h2
  have := cmpS_flip a.Node b.Node
  omega
/-- what is new is no part of a tree that was there -/
theorem GvS.off {base : Nat} {w : World} {b : Nat} {t : TrW} {L : List Opn} (h : GvS base w b t L) {P : Nat} (hP : w.heap.size ≤ P) : ¬ trM b t P := by
  rintro (rfl | rfl | h1)
  · have := Blk.lt h.tr
    omega
  · obtain ⟨_, h1, _⟩ := h.rows
    have := mpT_lt h1
    omega
  · obtain ⟨ds, _, h2, _⟩ := h.log
    have := World.ownsRow.lt h2 P (by rw [ownBlock_sl']; exact h1)
    omega
theorem GvS.base {base : Nat} {w : World} {b : Nat} {t : TrW} {L : List Opn} (h : GvS base w b t L) {q : Nat} (hq : trM b t q) : base ≤ q := by
  rcases hq with rfl | rfl | h1
  · exact h.bb
  · exact h.mm
  · obtain ⟨ds, _, h2, _⟩ := h.log
    exact (own_blk h2 h1).1
theorem GvS.frR {base : Nat} {w w' : World} {b : Nat} {t : TrW} {L : List Opn} (h : GvS base w b t L) {R : Nat} {r : RwW} (hb : codR.bxd w R = some r) (f : Fr (oneB R) w w') (ho : ¬ trM b t R) : GvS base w' b t L :=
  h.fr f (NoHS.blk (Cod.bxd_blk hb) (by decide) (by decide)) (fun e => ho (.inl e.symm)) (fun e => ho (.inr (.inl e.symm))) (fun g hg e => ho (.inr (.inr (by rw [hg, show g = R from e]))))
end Go.Proofs.YtefcalkbfaefgaaGreat
namespace Go.Proofs.YtefcalkbfaefgaaGreat
set_option linter.unusedVariables false
set_option linter.unusedSimpArgs false

theorem findR_perm {xs ys : List RwP} (hp : ys.Perm xs) (nd : (xs.map (·.Node)).Nodup) (s : St) : findR ys s = findR xs s := by
  have nd' : (ys.map (·.Node)).Nodup := (hp.map _).nodup_iff.2 nd
  cases h : findR xs s with
  | none =>
    rw [findR_none] at h ⊢
    exact fun r hr => h r (hp.mem_iff.1 hr)
  | some r =>
    obtain ⟨h1, h2⟩ := findR_some h
    rw [← h2]
    exact findR_mem nd' (hp.mem_iff.2 h1)
theorem liesN_perm {xs ys : List RwP} (hp : ys.Perm xs) (nd : (xs.map (·.Node)).Nodup) : ∀ (k : Nat) (s p : St), liesN ys k s p = liesN xs k s p
  | 0, _, _ => rfl
  | k + 1, s, p => by
    unfold liesN
    rw [findR_perm hp nd s]
    cases findR xs s with
    | none => rfl
    | some r => simp only; rw [liesN_perm hp nd k]
theorem liesR_perm {xs ys : List RwP} (hp : ys.Perm xs) (nd : (xs.map (·.Node)).Nodup) (s p : St) : liesR ys s p = liesR xs s p := by
  unfold liesR
  rw [hp.length_eq, liesN_perm hp nd]
theorem liesN_none {xs : List RwP} {s : St} (h : findR xs s = none) (n : Nat) (p : St) : liesN xs n s p = false := by
  cases n with
  | zero => rfl
  | succ n => unfold liesN; rw [h]
theorem liesN_some {xs : List RwP} {s : St} {r : RwP} (h : findR xs s = some r) (n : Nat) (p : St) : liesN xs (n + 1) s p = (decide (r.Parent = p) || liesN xs n r.Parent p) := by
  conv => lhs; unfold liesN
  rw [h]
theorem GvT.root {xs : List RwP} (h : GvT xs) {s : St} (hs : s.T = 0) : findR xs s = none := by
  rw [findR_none]
  rintro r hr rfl
  exact rightS_T (h.rt r hr) hs
theorem lies_down {xs : List RwP} (h : GvT xs) : ∀ (n : Nat) (s p : St) (k : Nat), reach xs k s = true → s.T ≠ 0 → liesN xs n s p = true → ∃ j, j < k ∧ reach xs j p = true
  | 0, s, p, k, _, _, hl => by cases hl
  | n + 1, s, p, k, hr, hs, hl => by
    rcases reach_inv hr with hf | ⟨j, r, rfl, hf, hr'⟩
    · exact absurd (fixedS_T hf) hs
    · rw [liesN_some hf, Bool.or_eq_true, decide_eq_true_eq] at hl
      rcases hl with rfl | hl
      · exact ⟨j, by omega, hr'⟩
      · by_cases h0 : r.Parent.T = 0
        · rw [liesN_none (h.root h0)] at hl; cases hl
        · obtain ⟨i, h1, h2⟩ := lies_down h n r.Parent p j hr' h0 hl
          exact ⟨i, by omega, h2⟩
/-- no node lies under itself -/
theorem lies_self {xs : List RwP} (h : GvT xs) {s : St} (hs : s.T ≠ 0) (n : Nat) {k : Nat} (hr : reach xs k s = true) : liesN xs n s s = false := by
  cases hl : liesN xs n s s with
  | false => rfl
  | true =>
    exfalso
    have : ∀ k, reach xs k s = true → False := by
      intro k
      induction k using Nat.strongRecOn with
      | ind k ih =>
        intro hk
        obtain ⟨j, h1, h2⟩ := lies_down h n s s k hk hs hl
        exact ih j h1 h2
    exact this k hr
theorem fixedS_or {s : St} (h : fixedS s = true) : s = zSt ∨ s = trS := by
  unfold fixedS at h
  simp only [Bool.and_eq_true, Bool.or_eq_true, decide_eq_true_eq] at h
  cases s with | mk t r =>
  simp only at h
  obtain ⟨rfl, rfl | rfl⟩ := h
  · exact .inl rfl
  · exact .inr rfl
/-- each node lies under the root, or under the trash -/
theorem lies_one {xs : List RwP} (h : GvT xs) : ∀ (n : Nat) (s : St), reach xs n s = true → s.T ≠ 0 → liesN xs n s trS = !liesN xs n s zSt
  | 0, s, hr, hs => absurd (fixedS_T hr) hs
  | n + 1, s, hr, hs => by
    rcases reach_inv hr with hf | ⟨j, r, hj, hf, hr'⟩
    · exact absurd (fixedS_T hf) hs
    · obtain rfl : j = n := by omega
      rw [liesN_some hf, liesN_some hf]
      by_cases h0 : r.Parent.T = 0
      · rw [liesN_none (h.root h0), liesN_none (h.root h0)]
        have hfx : fixedS r.Parent = true := by
          rcases okP_or (h.pr r (findR_some hf).1) with h1 | h1
          · exact h1
          · exact absurd h0 h1
        rcases fixedS_or hfx with e | e <;> rw [e] <;> decide
      · have e1 : r.Parent ≠ zSt := fun e => h0 (by rw [e]; rfl)
        have e2 : r.Parent ≠ trS := fun e => h0 (by rw [e]; rfl)
        rw [decide_eq_false e1, decide_eq_false e2, Bool.false_or, Bool.false_or]
        exact lies_one h j r.Parent hr' h0
/-- a row comes of a move -/
def FromL (L : List Opn) (x : RwP) : Prop := ∃ o ∈ L, o.Kind = 1 ∧ o.At = x.At ∧ o.Node = x.Node ∧ o.Parent = x.Parent ∧ o.Name = x.Name
theorem doX_from {xs : List RwP} {L : List Opn} (h : ∀ x ∈ xs, FromL L x) (o : Opn) : ∀ x ∈ doX xs o, FromL (L ++ [o]) x := by
  have hm : ∀ x ∈ xs, FromL (L ++ [o]) x := fun x hx => by
    obtain ⟨p, hp, hq⟩ := h x hx
    exact ⟨p, by simp [hp], hq⟩
  unfold doX
  cases hn : newR xs o with
  | none => exact hm
  | some r =>
    intro x hx
    rcases mem_put hx with rfl | ⟨hx, _⟩
    · unfold newR at hn
      split at hn
      · rename_i hk
        split at hn
        · cases hn
        · injection hn with hn
          rw [← hn]
          exact ⟨o, by simp, hk, rfl, rfl, rfl, rfl⟩
      · cases hf : findR xs o.Node with
        | none => rw [hf] at hn; cases hn
        | some q =>
          rw [hf] at hn
          injection hn with hn
          rw [← hn]
          obtain ⟨p, hp, h1, h2, h3, h4, h5⟩ := hm q (findR_some hf).1
          exact ⟨p, hp, h1, h2, h3, h4, h5⟩
    · exact hm x hx
theorem runX_from : ∀ {xs : List RwP} {M : List Opn} (L : List Opn), (∀ x ∈ xs, FromL M x) → ∀ x ∈ runX xs L, FromL (M ++ L) x
  | xs, M, [], h => by simpa [runX] using h
  | xs, M, o :: L, h => by
    have := runX_from (M := M ++ [o]) L (doX_from h o)
    simpa [runX] using this
/-- heads rise, all of them no later than m -/
def HdsUp (m : St → Prop) (l : List Hd) : Prop := l.Pairwise (fun a b => cmpS a.At b.At < 0) ∧ ∀ h ∈ l, m h.At
theorem doX_hds {xs : List RwP} {m m' : St → Prop} {o : Opn} (h : ∀ x ∈ xs, HdsUp m x.Heads) (h1 : ∀ s, m s → m' s) (h2 : m' o.At) (h3 : ∀ s, m s → cmpS s o.At < 0) : ∀ x ∈ doX xs o, HdsUp m' x.Heads := by
  have hm : ∀ x ∈ xs, HdsUp m' x.Heads := fun x hx => ⟨(h x hx).1, fun a ha => h1 _ ((h x hx).2 a ha)⟩
  unfold doX
  cases hn : newR xs o with
  | none => exact hm
  | some r =>
    intro x hx
    rcases mem_put hx with rfl | ⟨hx, _⟩
    · unfold newR at hn
      split at hn
      · split at hn
        · cases hn
        · injection hn with hn
          rw [← hn]
          show HdsUp m' (hdsR xs o.Node)
          unfold hdsR
          cases hf : findR xs o.Node with
          | none => exact ⟨.nil, by simp⟩
          | some q => exact hm q (findR_some hf).1
      · cases hf : findR xs o.Node with
        | none => rw [hf] at hn; cases hn
        | some q =>
          rw [hf] at hn
          injection hn with hn
          rw [← hn]
          have hq := h q (findR_some hf).1
          show HdsUp m' (leftH o.Over q.Heads ++ [⟨o.At, o.Data⟩])
          refine ⟨List.pairwise_append.2 ⟨hq.1.sublist List.filter_sublist, by simp, fun a ha b hb => ?_⟩, fun a ha => ?_⟩
          · rw [List.mem_singleton] at hb
            subst hb
            exact h3 _ (hq.2 a (List.mem_filter.1 ha).1)
          · rcases List.mem_append.1 ha with ha | ha
            · exact h1 _ (hq.2 a (List.mem_filter.1 ha).1)
            · rw [List.mem_singleton] at ha
              subst ha
              exact h2
    · exact hm x hx
theorem runX_hds : ∀ {xs : List RwP} {M : List Opn} (L : List Opn), SrtL (M ++ L) → (∀ x ∈ xs, HdsUp (fun s => ∃ o ∈ M, o.At = s) x.Heads) → ∀ x ∈ runX xs L, HdsUp (fun s => ∃ o ∈ M ++ L, o.At = s) x.Heads
  | xs, M, [], _, h => by simpa [runX] using h
  | xs, M, o :: L, hs, h => by
    have hs' : SrtL ((M ++ [o]) ++ L) := by simpa using hs
    have h1 := doX_hds (o := o) (m' := fun s => ∃ p ∈ M ++ [o], p.At = s) h (fun s ⟨p, hp, e⟩ => ⟨p, by simp [hp], e⟩) ⟨o, by simp, rfl⟩ (fun s ⟨p, hp, e⟩ => by
      unfold SrtL at hs
      rw [List.pairwise_append] at hs
      rw [← e]
      exact hs.2.2 p hp o (by simp))
    have := runX_hds (M := M ++ [o]) L hs' h1
    simpa [runX] using this
theorem sum_zero {α : Type} {l : List α} {f : α → Nat} (h : ∀ x ∈ l, f x = 0) : (l.map f).sum = 0 := by
  induction l with
  | nil => rfl
  | cons a l ih => rw [List.map_cons, List.sum_cons, h a (by simp), ih fun x hx => h x (by simp [hx])]
/-- kids, counted place by place -/
theorem count_one {P : List St} (nd : P.Nodup) {s : St} (h : s ∈ P) : (P.map fun p => if s = p then 1 else 0).sum = 1 := by
  induction P with
  | nil => cases h
  | cons p P ih =>
    rw [List.nodup_cons] at nd
    rw [List.map_cons, List.sum_cons]
    by_cases e : s = p
    · subst e
      have : (P.map fun p => if s = p then 1 else 0).sum = 0 := by
        refine sum_zero fun q hq => ?_
        rw [if_neg (by rintro rfl; exact nd.1 hq)]
      rw [this, if_pos rfl]
    · rw [if_neg e, ih nd.2 (by rcases List.mem_cons.1 h with h | h; · exact absurd h e
                                · exact h)]
theorem sum_add {α : Type} (l : List α) (f g : α → Nat) : (l.map fun x => f x + g x).sum = (l.map f).sum + (l.map g).sum := by
  induction l with
  | nil => rfl
  | cons a l ih => simp only [List.map_cons, List.sum_cons, ih]; omega
theorem kids_sum {P : List St} (nd : P.Nodup) : ∀ (xs : List RwP), (∀ x ∈ xs, x.Parent ∈ P) → (P.map fun p => (kidsR p xs).length).sum = xs.length
  | [], _ => by
    exact sum_zero fun q hq => rfl
  | x :: xs, h => by
    have ih := kids_sum nd xs fun y hy => h y (by simp [hy])
    have e : (fun p => (kidsR p (x :: xs)).length) = fun p => (if x.Parent = p then 1 else 0) + (kidsR p xs).length := funext fun p => by
      unfold kidsR
      rw [List.filter_cons]
      by_cases hp : x.Parent = p
      · simp [hp]; omega
      · simp [hp]
    rw [e, sum_add, count_one nd (h x (by simp)), ih, List.length_cons]
    omega
theorem GvT.places {xs : List RwP} (h : GvT xs) : (zSt :: trS :: xs.map (·.Node)).Nodup ∧ ∀ x ∈ xs, x.Parent ∈ zSt :: trS :: xs.map (·.Node) := by
  constructor
  · rw [List.nodup_cons, List.nodup_cons]
    refine ⟨fun hm => ?_, fun hm => ?_, h.nd⟩
    · rcases List.mem_cons.1 hm with hm | hm
      · exact absurd hm (by decide)
      · obtain ⟨x, hx, e⟩ := List.mem_map.1 hm
        exact rightS_T (h.rt x hx) (by rw [e]; rfl)
    · obtain ⟨x, hx, e⟩ := List.mem_map.1 hm
      exact rightS_T (h.rt x hx) (by rw [e]; rfl)
  · intro x hx
    obtain ⟨k, hk⟩ := h.up x hx
    rcases reach_inv hk with hf | ⟨j, r, hj, hf, hr⟩
    · exact absurd (fixedS_T hf) (rightS_T (h.rt x hx))
    · rw [findR_mem h.nd hx] at hf
      injection hf with hf
      subst hf
      rcases reach_inv hr with hf | ⟨_, r, _, hf, _⟩
      · rcases fixedS_or hf with e | e <;> simp [e]
      · obtain ⟨h1, h2⟩ := findR_some hf
        have : x.Parent ∈ xs.map (·.Node) := List.mem_map.2 ⟨r, h1, h2⟩
        simp [this]
theorem GvT.count {xs ys : List RwP} (h : GvT xs) (hp : ys.Perm xs) : (kidsR zSt xs).length + (kidsR trS xs).length + (ys.map fun y => (kidsR y.Node xs).length).sum = ys.length := by
  have := kids_sum h.places.1 xs h.places.2
  rw [List.map_cons, List.map_cons, List.sum_cons, List.sum_cons, List.map_map] at this
  have e : (ys.map fun y => (kidsR y.Node xs).length).sum = (xs.map ((fun p => (kidsR p xs).length) ∘ fun x => x.Node)).sum := (hp.map _).sum_nat
  rw [e, hp.length_eq]
  omega
end Go.Proofs.YtefcalkbfaefgaaGreat
namespace Go.Proofs.YtefcalkbfaefgaaGreat
set_option linter.unusedVariables false
set_option linter.unusedSimpArgs false

/-- whose heads come of edits of this node -/
def FromH (L : List Opn) (x : RwP) : Prop := ∀ h ∈ x.Heads, ∃ o ∈ L, o.Kind ≠ 1 ∧ o.At = h.At ∧ o.Node = x.Node ∧ o.Data = h.Data
theorem doX_fromH {xs : List RwP} {L : List Opn} (h : ∀ x ∈ xs, FromH L x) (o : Opn) : ∀ x ∈ doX xs o, FromH (L ++ [o]) x := by
  have hm : ∀ x ∈ xs, FromH (L ++ [o]) x := fun x hx a ha => by
    obtain ⟨p, hp, hq⟩ := h x hx a ha
    exact ⟨p, by simp [hp], hq⟩
  unfold doX
  cases hn : newR xs o with
  | none => exact hm
  | some r =>
    intro x hx
    rcases mem_put hx with rfl | ⟨hx, _⟩
    · unfold newR at hn
      split at hn
      · split at hn
        · cases hn
        · injection hn with hn
          rw [← hn]
          intro a ha
          have ha' : a ∈ hdsR xs o.Node := ha
          unfold hdsR at ha'
          cases hf : findR xs o.Node with
          | none => rw [hf] at ha'; cases ha'
          | some q =>
            rw [hf] at ha'
            obtain ⟨h1, h2⟩ := findR_some hf
            obtain ⟨p, hp, e1, e2, e3, e4⟩ := hm q h1 a ha'
            exact ⟨p, hp, e1, e2, e3.trans h2, e4⟩
      · rename_i hk
        cases hf : findR xs o.Node with
        | none => rw [hf] at hn; cases hn
        | some q =>
          rw [hf] at hn
          injection hn with hn
          rw [← hn]
          obtain ⟨h1, h2⟩ := findR_some hf
          intro a ha
          rcases List.mem_append.1 ha with ha | ha
          · exact hm q h1 a (List.mem_filter.1 ha).1
          · rw [List.mem_singleton] at ha
            subst ha
            exact ⟨o, by simp, hk, rfl, h2.symm, rfl⟩
    · exact hm x hx
theorem runX_fromH : ∀ {xs : List RwP} {M : List Opn} (L : List Opn), (∀ x ∈ xs, FromH M x) → ∀ x ∈ runX xs L, FromH (M ++ L) x
  | xs, M, [], h => by simpa [runX] using h
  | xs, M, o :: L, h => by
    have := runX_fromH (M := M ++ [o]) L (doX_fromH h o)
    simpa [runX] using this
theorem cmpS_lt {a b : St} (h : a.T < b.T) : cmpS a b < 0 := by
  unfold cmpS
  rw [if_pos h]
  decide
theorem cmpS_T {a b : St} (h : cmpS a b ≤ 0) : a.T ≤ b.T := by
  unfold cmpS at h
  repeat' split at h
  all_goals omega
theorem cmpS_T' {a b : St} (h : cmpS a b < 0) : a.T ≤ b.T := cmpS_T (Int.le_of_lt h)
/-- a row of right operations, none later than N -/
structure RwG (N : Int) (y : RwP) : Prop where
  nd : rightS y.Node = true
  at_ : rightS y.At = true
  an : cmpS y.Node y.At ≤ 0
  nt : y.At.T ≤ N
  pr : okP y.Parent = true
  nm : nameOk y.Name = true
  hd : ∀ h ∈ y.Heads, rightS h.At = true ∧ cmpS y.Node h.At < 0 ∧ h.At.T ≤ N ∧ h.Data ≠ zID
  hr : y.Heads.Pairwise fun a b => cmpS a.At b.At < 0
  hl : y.Heads.length ≤ 200
theorem RwG.nodeT {N : Int} {y : RwP} (h : RwG N y) : y.Node.T ≤ N := Int.le_trans (cmpS_T h.an) h.nt
theorem run_RwG {L : List Opn} {N : Int} (hok : ∀ o ∈ L, goodOp o = true) (hs : SrtL L) (hl : L.length ≤ 200) (hT : ∀ o ∈ L, o.At.T ≤ N) : ∀ y ∈ runX [] L, RwG N y := by
  intro y hy
  have h1 := runX_from (M := []) L (fun x hx => by cases hx) y hy
  have h2 := runX_hds (M := []) L (by simpa using hs) (fun x hx => by cases hx) y hy
  have h3 := runX_fromH (M := []) L (fun x hx => by cases hx) y hy
  have h4 := runX_heads L [] 0 (fun x hx => by cases hx) y hy
  simp only [List.nil_append] at h1 h2 h3
  obtain ⟨o, ho, hk, e1, e2, e3, e4⟩ := h1
  have hg := hok o ho
  obtain ⟨g1, g2, _⟩ := goodOp_at hg
  obtain ⟨m1, m2, m3, _⟩ := goodOp_move hg hk
  refine ⟨by rw [← e2]; exact g2, by rw [← e1]; exact g1, by rw [← e1, ← e2]; exact m3, by rw [← e1]; exact hT o ho, by rw [← e3]; exact m1, by rw [← e4]; exact m2, fun h hh => ?_, h2.1, by omega⟩
  obtain ⟨p, hp, k1, k2, k3, k4⟩ := h3 h hh
  have hg := hok p hp
  obtain ⟨g1, _, hk | hk⟩ := goodOp_at hg
  · exact absurd hk k1
  · have hg' := hg
    unfold goodOp at hg'
    rw [if_neg (by omega), if_pos hk] at hg'
    unfold editOk at hg'
    simp only [Bool.and_eq_true, decide_eq_true_eq] at hg'
    refine ⟨by rw [← k2]; exact g1, by rw [← k2, ← k3]; exact hg'.2.1.1.1.1.1.1, by rw [← k2]; exact hT p hp, by rw [← k4]; exact hg'.2.1.1.1.2⟩
theorem RwG.right {N : Int} {y : RwP} (h : RwG N y) (hN : N < 1099511627776) : rightR y = true := by
  have h1 : rightIt (itR y zID) = true := by
    unfold rightIt itR
    simp only [Bool.and_eq_true, decide_eq_true_eq]
    refine ⟨⟨⟨⟨⟨⟨h.nd, h.at_⟩, ?_⟩, h.nm⟩, by have := h.hl; omega⟩, ?_⟩, ?_⟩
    · have := h.an
      rw [cmpS_flip] at this
      omega
    · rw [List.all_eq_true]
      intro a ha
      obtain ⟨a1, a2, a3, a4⟩ := h.hd a ha
      simp only [Bool.and_eq_true, decide_eq_true_eq]
      refine ⟨⟨a1, ?_⟩, a4⟩
      rw [cmpS_flip] at a2
      omega
    · exact (riseB_pw (fun a b : Hd => cmpS a.At b.At) (fun _ _ _ => cmpS_trans) _).2 h.hr
  have h2 : y.Node ≠ lastS := fun e => by
    have := h.nodeT
    rw [e] at this
    have h3 : lastS.T = 1099511627776 := rfl
    omega
  unfold rightR rightDr
  simp [h1, h2, riseB]
structure RowsG (N : Int) (ys : List RwP) : Prop where
  len : ys.length ≤ 60
  row : ∀ y ∈ ys, RwG N y
  few : ∀ y ∈ ys, y.Heads.length ≤ 60
  rise : ys.Pairwise fun a b => cmpS a.Node b.Node < 0
  gv : GvT ys
theorem reach_perm {xs ys : List RwP} (hp : ys.Perm xs) (nd : (xs.map (·.Node)).Nodup) : ∀ (k : Nat) (s : St), reach ys k s = reach xs k s
  | 0, s => rfl
  | k + 1, s => by
    unfold reach
    rw [findR_perm hp nd]
    cases findR xs s with
    | none => rfl
    | some r => simp only [reach_perm hp nd k]
theorem GvT.perm {xs ys : List RwP} (h : GvT xs) (hp : ys.Perm xs) : GvT ys :=
  ⟨⟨(hp.map _).nodup_iff.2 h.nd, fun x hx => h.rt x (hp.mem_iff.1 hx), fun x hx => by
    obtain ⟨k, hk⟩ := h.up x (hp.mem_iff.1 hx)
    exact ⟨k, by rw [reach_perm hp h.nd]; exact hk⟩⟩, fun x hx => h.pr x (hp.mem_iff.1 hx)⟩
theorem rows_g {L : List Opn} {N : Int} (hok : ∀ o ∈ L, goodOp o = true) (hs : SrtL L) (hl : L.length ≤ 60) (hT : ∀ o ∈ L, o.At.T ≤ N) (hg : GvT (runX [] L)) {ys : List RwP} (hp : ys.Perm (runX [] L)) (hr : ys.Pairwise fun a b => cmpS a.Node b.Node < 0) : RowsG N ys :=
  ⟨by rw [hp.length_eq]; have := runX_len [] L; simp only [List.length_nil] at this; omega, fun y hy => run_RwG hok hs (by omega) hT y (hp.mem_iff.1 hy), fun y hy => by have := runX_heads L [] 0 (fun x hx => by cases hx) y (hp.mem_iff.1 hy); omega, hr, hg.perm hp⟩
theorem RowsG.tree {N : Int} {ys : List RwP} (h : RowsG N ys) (hN : N < 1099511627776) : TreeOk ys :=
  ⟨by have := h.len; omega, fun r hr => (h.row r hr).right hN, (riseB_pw (fun a b : RwP => cmpS a.Node b.Node) (fun _ _ _ => cmpS_trans) ys).2 h.rise, h.gv.up⟩
theorem tree_g {L : List Opn} {N : Int} (hok : ∀ o ∈ L, goodOp o = true) (hs : SrtL L) (hl : L.length ≤ 200) (hT : ∀ o ∈ L, o.At.T ≤ N) (hN : N < 1099511627776) (hg : GvT (runX [] L)) {ys : List RwP} (hp : ys.Perm (runX [] L)) (hr : ys.Pairwise fun a b => cmpS a.Node b.Node < 0) : TreeOk ys :=
  ⟨by rw [hp.length_eq]; have := runX_len [] L; simp only [List.length_nil] at this; omega, fun y hy => (run_RwG hok hs hl hT y (hp.mem_iff.1 hy)).right hN, (riseB_pw (fun a b : RwP => cmpS a.Node b.Node) (fun _ _ _ => cmpS_trans) ys).2 hr, (hg.perm hp).up⟩
theorem RowsG.nil (N : Int) : RowsG N [] := ⟨by simp, by simp, by simp, by simp, GvT.nil⟩
/-! the operations are right -/
theorem good_num : ∀ {s : St} {l : List Opn}, (∀ o ∈ l, ∀ i : Nat, i < l.length → goodOp { o with At := ⟨s.T + i, s.R⟩ } = true) → ∀ o ∈ numS s l, goodOp o = true := by
  intro s l h o ho
  obtain ⟨i, hi, rfl⟩ := List.getElem_of_mem ho
  have hi' : i < l.length := by rw [numS_len] at hi; exact hi
  rw [numS_get s l i hi']
  exact h _ (List.getElem_mem hi') i hi'
theorem right_at {s : St} {i : Nat} (h1 : rightS s = true) (h2 : s.T + i ≤ 1099511627776) : rightS ⟨s.T + i, s.R⟩ = true := by
  unfold rightS at h1 ⊢
  simp only [Bool.and_eq_true, decide_eq_true_eq] at h1 ⊢
  omega
theorem mv_good {N : Int} {y : RwP} (h : RwG N y) {s : St} (hs : rightS s = true) (hN : N < s.T) : goodOp { mvO y with At := s } = true := by
  unfold goodOp
  rw [if_pos (show ({ mvO y with At := s } : Opn).Kind = 1 from rfl)]
  unfold moveOk
  have h1 : cmpS y.Node s < 0 := cmpS_lt (by have := h.nodeT; omega)
  have h2 := h.pr
  unfold okP at h2
  simp only [mvO, Bool.and_eq_true, decide_eq_true_eq, List.length_nil]
  exact ⟨⟨hs, h.nd⟩, ⟨⟨⟨⟨decide_eq_true (Int.le_of_lt h1), h2⟩, h.nm⟩, trivial⟩, trivial⟩⟩
theorem tr_good {N : Int} {y : RwP} (h : RwG N y) {s : St} (hs : rightS s = true) (hN : N < s.T) : goodOp { trO y with At := s } = true := by
  unfold goodOp
  rw [if_pos (show ({ trO y with At := s } : Opn).Kind = 1 from rfl)]
  unfold moveOk
  have h1 : cmpS y.Node s < 0 := cmpS_lt (by have := h.nodeT; omega)
  simp only [trO, Bool.and_eq_true, decide_eq_true_eq, List.length_nil]
  exact ⟨⟨hs, h.nd⟩, ⟨⟨⟨⟨decide_eq_true (Int.le_of_lt h1), rfl⟩, h.nm⟩, trivial⟩, trivial⟩⟩
theorem ed_good {N : Int} {a : List RwP} (ha : ∀ y ∈ a, RwG N y) (hf60 : ∀ y ∈ a, y.Heads.length ≤ 60) {y : RwP} (h : RwG N y) {q : Hd} (hq : q ∈ y.Heads) {s : St} (hs : rightS s = true) (hN : N < s.T) : goodOp { edO a y q with At := s } = true := by
  have hh : ∀ x ∈ headsR a y.Node, rightS x.At = true ∧ x.At.T ≤ N := fun x hx => by
    unfold headsR at hx
    cases hf : findR a y.Node with
    | none => rw [hf] at hx; cases hx
    | some r =>
      rw [hf] at hx
      obtain ⟨a1, _, a3, _⟩ := (ha r (findR_some hf).1).hd x hx
      exact ⟨a1, a3⟩
  have hp : (headsR a y.Node).Pairwise (fun a b => cmpS a.At b.At < 0) ∧ (headsR a y.Node).length ≤ 60 := by
    unfold headsR
    cases hf : findR a y.Node with
    | none => exact ⟨.nil, by simp⟩
    | some r => exact ⟨(ha r (findR_some hf).1).hr, hf60 r (findR_some hf).1⟩
  unfold goodOp
  rw [if_neg (show ¬ ({ edO a y q with At := s } : Opn).Kind = 1 by show ¬ (2 : Int) = 1; decide), if_pos (show ({ edO a y q with At := s } : Opn).Kind = 2 from rfl)]
  unfold editOk
  have h1 : cmpS y.Node s < 0 := cmpS_lt (by have := h.nodeT; omega)
  simp only [edO, Bool.and_eq_true, decide_eq_true_eq, List.length_map]
  refine ⟨⟨hs, h.nd⟩, ⟨⟨⟨⟨⟨⟨decide_eq_true h1, trivial⟩, trivial⟩, decide_eq_true (h.hd q hq).2.2.2⟩, (show (headsR a y.Node).length ≤ 64 by have := hp.2; omega)⟩, ?_⟩, ?_⟩⟩
  · rw [List.all_eq_true]
    intro x hx
    obtain ⟨z, hz, rfl⟩ := List.mem_map.1 hx
    obtain ⟨z1, z2⟩ := hh z hz
    rw [z1, decide_eq_true (cmpS_lt (by omega))]
    rfl
  · rw [riseB_pw cmpS (fun _ _ _ => cmpS_trans), List.pairwise_map]
    exact hp.1
theorem flat_len' (xs : List RwP) : ∀ l : List RwP, (l.flatMap (edR xs)).length ≤ l.length
  | [] => by simp
  | r :: l => by
    have := flat_len' xs l
    have h1 : (edR xs r).length ≤ 1 := by
      unfold edR
      split
      · simp
      · split <;> simp
    simp only [List.flatMap_cons, List.length_append, List.length_cons]
    omega
theorem allO_good {N : Int} {a b l : List RwP} (ha : RowsG N a) (hb : RowsG N b) (hl : l.Perm (b.filter (movedR a))) {s : St} (hs : rightS s = true) (hN : N < s.T) (hM : s.T ≤ 549755813889) : ∀ o ∈ allO a b s l, goodOp o = true := by
  unfold allO
  refine good_num fun o ho i hi => ?_
  have hlen : (l.map mvO ++ (a.filter (goneR b)).map trO ++ b.flatMap (edR a)).length ≤ 200 := by
    have h1 := hl.length_eq
    have h2 := List.length_filter_le (movedR a) b
    have h3 := List.length_filter_le (goneR b) a
    have h4 := flat_len' a b
    have h5 := ha.len
    have h6 := hb.len
    simp only [List.length_append, List.length_map]
    omega
  have hs' : rightS ⟨s.T + i, s.R⟩ = true := right_at hs (by omega)
  have hN' : N < (⟨s.T + i, s.R⟩ : St).T := by show N < s.T + i; omega
  rcases List.mem_append.1 ho with ho | ho
  · rcases List.mem_append.1 ho with ho | ho
    · obtain ⟨y, hy, rfl⟩ := List.mem_map.1 ho
      exact mv_good (hb.row y (List.mem_filter.1 (hl.mem_iff.1 hy)).1) hs' hN'
    · obtain ⟨y, hy, rfl⟩ := List.mem_map.1 ho
      exact tr_good (ha.row y (List.mem_filter.1 hy).1) hs' hN'
  · obtain ⟨y, hy, hy2⟩ := List.mem_flatMap.1 ho
    unfold edR at hy2
    split at hy2
    · cases hy2
    · split at hy2
      · rename_i q hq
        rw [List.mem_singleton] at hy2
        subst hy2
        exact ed_good ha.row ha.few (hb.row y hy) (by rw [hq]; simp) hs' hN'
      · cases hy2
/-! of a tree and itself; of a tree and nothing; of nothing and a tree -/
theorem sameDt_self (l : List Hd) : sameDt l l = true := by simp [sameDt]
theorem headsR_self {a : List RwP} (nd : (a.map (·.Node)).Nodup) {y : RwP} (h : y ∈ a) : headsR a y.Node = y.Heads := by
  unfold headsR
  rw [findR_mem nd h]
theorem allO_self {a l : List RwP} (nd : (a.map (·.Node)).Nodup) (hl : l.Perm (a.filter (movedR a))) (s : St) : allO a a s l = [] := by
  have h1 : a.filter (movedR a) = [] := by
    rw [List.filter_eq_nil_iff]
    intro y hy
    unfold movedR
    rw [findR_mem nd hy]
    simp
  rw [h1, List.perm_nil] at hl
  have h2 : a.filter (goneR a) = [] := by
    rw [List.filter_eq_nil_iff]
    intro y hy
    unfold goneR
    rw [findR_mem nd hy]
    simp
  have h3 : a.flatMap (edR a) = [] := by
    rw [List.flatMap_eq_nil_iff]
    intro y hy
    unfold edR
    rw [headsR_self nd hy, sameDt_self, if_pos rfl]
  unfold allO
  rw [hl, h2, h3]
  rfl
theorem diff_self {a : List RwP} {s : St} {E : Int} {os : List Opn} (ht : TreeOk a) (hs : rightS s = true) (h : DiffTo a a s E os) : E = 0 ∧ os = [] := by
  have hE := h.yes ht ht hs (fun l hl => by rw [allO_self ht.nd hl]; simp) (fun r hr => by
    unfold oneR
    rw [headsR_self ht.nd hr, sameDt_self]
    rfl)
  obtain ⟨_, _, _, ⟨l, hl, ho⟩, _⟩ := h.ok hE
  exact ⟨hE, by rw [ho]; exact allO_self ht.nd hl s⟩
theorem diff_gone {N : Int} {a : List RwP} {s : St} {E : Int} {os : List Opn} (ha : RowsG N a) (hN : N < s.T) (hM : s.T ≤ 549755813889) (hs : rightS s = true) (h : DiffTo a [] s E os) : E = 0 ∧ os.length = (a.filter fun y => !decide (y.Parent = trS)).length := by
  have key : ∀ l : List RwP, l.Perm (([] : List RwP).filter (movedR a)) → (allO a [] s l).length = (a.filter fun y => !decide (y.Parent = trS)).length := fun l hl => by
    have hl' : l = [] := List.perm_nil.1 hl
    subst hl'
    unfold allO
    rw [numS_len]
    have : a.filter (goneR []) = a.filter fun y => !decide (y.Parent = trS) := List.filter_congr fun y _ => by
      unfold goneR findR
      simp
    simp [this]
  have hE := h.yes (ha.tree (by omega)) ((RowsG.nil N).tree (by omega)) hs (fun l hl => ⟨allO_good ha (RowsG.nil N) hl hs hN hM, by
    rw [key l hl]
    have h1 := List.length_filter_le (fun y : RwP => !decide (y.Parent = trS)) a
    have := ha.len
    omega⟩) (by simp)
  obtain ⟨_, _, _, ⟨l, hl, ho⟩, _⟩ := h.ok hE
  exact ⟨hE, by rw [ho]; exact key l hl⟩
theorem num_kind (s : St) (l : List Opn) (p : Opn → Bool) (hp : ∀ (o : Opn) (t : St), p { o with At := t } = p o) : ((numS s l).filter p).length = (l.filter p).length := by
  induction l generalizing s with
  | nil => rfl
  | cons o l ih =>
    unfold numS
    rw [List.filter_cons, List.filter_cons, hp]
    split
    · rw [List.length_cons, List.length_cons, ih]
    · exact ih _
theorem diff_all {N : Int} {b : List RwP} {s : St} {E : Int} {os : List Opn} (hb : RowsG N b) (hN : N < s.T) (hM : s.T ≤ 549755813889) (hs : rightS s = true) (h : DiffTo [] b s E os) : E = 3 ∨ E = 0 ∧ (os.filter fun o => decide (o.Kind = 1)).length = b.length := by
  rcases h.many ((RowsG.nil N).tree (by omega)) (hb.tree (by omega)) hs (fun l hl => allO_good (RowsG.nil N) hb hl hs hN hM) with hE | hE
  · right
    refine ⟨hE, ?_⟩
    obtain ⟨_, _, _, ⟨l, hl, ho⟩, _⟩ := h.ok hE
    rw [ho]
    unfold allO
    rw [num_kind _ _ _ (fun o t => rfl)]
    have e1 : b.filter (movedR []) = b := List.filter_eq_self.2 fun y _ => by unfold movedR findR; rfl
    rw [e1] at hl
    have e2 : ((b.flatMap (edR [])).filter fun o => decide (o.Kind = 1)) = [] := by
      rw [List.filter_eq_nil_iff]
      intro o ho
      obtain ⟨y, _, hy⟩ := List.mem_flatMap.1 ho
      unfold edR at hy
      split at hy
      · cases hy
      · split at hy
        · rw [List.mem_singleton] at hy
          subst hy
          show ¬ decide ((2 : Int) = 1) = true
          decide
        · cases hy
    have e3 : ((l.map mvO).filter fun o => decide (o.Kind = 1)) = l.map mvO := List.filter_eq_self.2 fun o ho => by
      obtain ⟨y, _, rfl⟩ := List.mem_map.1 ho
      rfl
    simp only [List.filter_nil, List.map_nil, List.append_nil, List.filter_append, e2, e3, List.length_map]
    exact hl.length_eq
  · exact .inl hE
end Go.Proofs.YtefcalkbfaefgaaGreat
namespace Go.Proofs.YtefcalkbfaefgaaGreat
set_option linter.unusedVariables false
set_option linter.unusedSimpArgs false

theorem depth_more {xs : List RwP} : ∀ (k : Nat) (s : St), reach xs k s = true → ∀ j, k ≤ j → depthN xs j s = depthN xs k s
  | 0, s, h, j, _ => by rw [depth_zero (fixedS_T h), depth_zero (fixedS_T h)]
  | k + 1, s, h, j, hj => by
    obtain ⟨j, rfl⟩ : ∃ i, j = i + 1 := ⟨j - 1, by omega⟩
    show (if s.T = 0 then 0 else match findR xs s with | none => 1 | some r => 1 + depthN xs j r.Parent) = (if s.T = 0 then 0 else match findR xs s with | none => 1 | some r => 1 + depthN xs k r.Parent)
    rcases reach_inv h with h | ⟨i, r, hi, hf, hr⟩
    · rw [if_pos (fixedS_T h), if_pos (fixedS_T h)]
    · obtain rfl : i = k := by omega
      rw [hf]
      simp only [depth_more i r.Parent hr j (by omega)]
theorem depth_at {ys : List RwP} (h : TreeOk ys) {r : RwP} (hr : r ∈ ys) : depthR ys r.Node = 1 + depthR ys r.Parent := by
  obtain ⟨j, r', hj, hf, hr', e⟩ := reach_next (h.reach hr) (h.T r hr)
  rw [findR_mem h.nd hr] at hf
  injection hf with hf
  subst hf
  unfold depthR
  rw [e, hj, depth_more j r.Parent hr' (j + 1) (by omega)]
theorem parent_in {ys : List RwP} (h : TreeOk ys) {r : RwP} (hr : r ∈ ys) : r.Parent.T = 0 ∨ ∃ y ∈ ys, y.Node = r.Parent := by
  obtain ⟨j, r', hj, hf, hr', e⟩ := reach_next (h.reach hr) (h.T r hr)
  rw [findR_mem h.nd hr] at hf
  injection hf with hf
  subst hf
  rcases reach_inv hr' with h | ⟨_, x, _, hf, _⟩
  · exact .inl (fixedS_T h)
  · obtain ⟨h1, h2⟩ := findR_some hf
    exact .inr ⟨x, h1, h2⟩
/-- where all that lies less deep has its place, none of it lies under the node -/
theorem above_settled {X ys : List RwP} (hy : TreeOk ys) {n : St} (hS : ∀ p ∈ ys, depthR ys p.Node < depthR ys n → ∃ q, findR X p.Node = some q ∧ q.Parent = p.Parent) :
    ∀ (k : Nat) (p : St), (p.T = 0 ∨ ∃ y ∈ ys, y.Node = p) → depthR ys p < depthR ys n → aboveN X k n p = false
  | 0, _, _, _ => rfl
  | k + 1, p, hp, hd => by
    show (if p.T = 0 then false else decide (p = n) || match findR X p with | none => false | some r => aboveN X k n r.Parent) = false
    by_cases h0 : p.T = 0
    · rw [if_pos h0]
    · rw [if_neg h0]
      obtain ⟨y, hy1, rfl⟩ := hp.resolve_left h0
      have hne : y.Node ≠ n := fun e => by rw [e] at hd; omega
      obtain ⟨q, hq, hqp⟩ := hS y hy1 hd
      rw [hq]
      simp only [hne, decide_false, Bool.false_or]
      rw [hqp]
      exact above_settled hy hS k _ (parent_in hy hy1) (by have := depth_at hy hy1; omega)
/-- each does something -/
def doesAll : List RwP → List Opn → Prop
  | _, [] => True
  | X, o :: os => (∃ r, newR X o = some r) ∧ doesAll (doX X o) os
theorem doesAll_app : ∀ (a b : List Opn) (X : List RwP), doesAll X a → doesAll (runX X a) b → doesAll X (a ++ b)
  | [], b, X, _, h => h
  | o :: a, b, X, h1, h2 => ⟨h1.1, doesAll_app a b _ h1.2 h2⟩
theorem numS_app2 (s : St) : ∀ (a b : List Opn), numS s (a ++ b) = numS s a ++ numS ⟨s.T + a.length, s.R⟩ b
  | [], b => by simp [numS]
  | o :: a, b => by
    show { o with At := s } :: numS ⟨s.T + 1, s.R⟩ (a ++ b) = { o with At := s } :: (numS ⟨s.T + 1, s.R⟩ a ++ numS ⟨s.T + (o :: a).length, s.R⟩ b)
    rw [numS_app2 ⟨s.T + 1, s.R⟩ a b]
    congr 4
    simp only [List.length_cons]
    omega
/-- behind moves -/
structure MidX (xs X M : List RwP) : Prop where
  mv : ∀ r ∈ M, ∃ a, findR X r.Node = some ⟨r.Node, r.Parent, a, r.Name, headsR xs r.Node⟩
  ot : ∀ s, (∀ r ∈ M, r.Node ≠ s) → findR X s = findR xs s
theorem doX_some {X : List RwP} {o : Opn} {r : RwP} (h : newR X o = some r) (s : St) : findR (doX X o) s = if r.Node = s then some r else findR X s := by
  unfold doX
  rw [h]
  exact findR_put X r s
theorem mid_step {xs X M : List RwP} {r : RwP} {a : St} (h : MidX xs X M) (hr : ∀ q ∈ M, q.Node ≠ r.Node) (hok : r.Parent.T = 0 ∨ ∃ q, findR X r.Parent = some q) (hab : aboveR X r.Node r.Parent = false) :
    (∃ r', newR X { mvO r with At := a } = some r') ∧ MidX xs (doX X { mvO r with At := a }) (M ++ [r]) := by
  have e : newR X { mvO r with At := a } = some ⟨r.Node, r.Parent, a, r.Name, hdsR X r.Node⟩ := by
    unfold newR
    rw [if_pos (show ({ mvO r with At := a } : Opn).Kind = 1 from rfl), if_neg]
    · rfl
    · show ¬ (((findR X r.Parent).isNone && !decide (r.Parent.T = 0)) || aboveR X r.Node r.Parent) = true
      rw [hab]
      rcases hok with h0 | ⟨q, hq⟩
      · simp [h0]
      · simp [hq]
  have eh : hdsR X r.Node = headsR xs r.Node := by
    unfold hdsR headsR
    rw [h.ot _ hr]
    cases findR xs r.Node <;> rfl
  refine ⟨⟨_, e⟩, ⟨fun q hq => ?_, fun s hs => ?_⟩⟩
  · rw [doX_some e]
    rcases List.mem_append.1 hq with hq | hq
    · simp only
      rw [if_neg (fun e => hr q hq e.symm)]
      exact h.mv q hq
    · rw [List.mem_singleton] at hq
      subst hq
      exact ⟨a, by rw [if_pos rfl, eh]⟩
  · rw [doX_some e]
    simp only
    rw [if_neg (hs r (by simp))]
    exact h.ot s fun q hq => hs q (by simp [hq])
theorem mid_all {xs ys l : List RwP} (hy : TreeOk ys) (hl : l.Perm (ys.filter (movedR xs))) (hd : l.Pairwise fun p q => ¬ depthN ys ys.length q.Node < depthN ys ys.length p.Node) :
    ∀ (l2 M X : List RwP) (s : St), l = M ++ l2 → MidX xs X M → doesAll X (numS s (l2.map mvO)) ∧ MidX xs (runX X (numS s (l2.map mvO))) l
  | [], M, X, s, e, h => ⟨trivial, by rw [e, List.append_nil]; exact h⟩
  | r :: l2, M, X, s, e, h => by
    have hrm : r ∈ ys.filter (movedR xs) := hl.mem_iff.1 (by rw [e]; simp)
    obtain ⟨hry, hrv⟩ := List.mem_filter.1 hrm
    have hnd : (l.map (·.Node)).Nodup := (hl.map (·.Node)).nodup_iff.2 ((List.filter_sublist.map _).nodup hy.nd)
    have hMr : ∀ q ∈ M, q.Node ≠ r.Node := fun q hq he => by
      rw [e, List.map_append, List.map_cons] at hnd
      have := (List.nodup_append.1 hnd).2.2 q.Node (List.mem_map.2 ⟨q, hq, rfl⟩) r.Node (by simp)
      exact this he
    have hS : ∀ p ∈ ys, depthR ys p.Node < depthR ys r.Node → ∃ q, findR X p.Node = some q ∧ q.Parent = p.Parent := fun p hp hlt => by
      by_cases hm : movedR xs p = true
      · have hpl : p ∈ l := hl.mem_iff.2 (List.mem_filter.2 ⟨hp, hm⟩)
        rw [e] at hpl hd
        rcases List.mem_append.1 hpl with h1 | h1
        · obtain ⟨a, ha⟩ := h.mv p h1
          exact ⟨_, ha, rfl⟩
        · rcases List.mem_cons.1 h1 with rfl | h1
          · omega
          · exact absurd hlt ((List.pairwise_cons.1 (List.pairwise_append.1 hd).2.1).1 p h1)
      · have hm' : movedR xs p = false := by simpa using hm
        rw [h.ot p.Node (fun q hq he => by
          have hql : q ∈ ys.filter (movedR xs) := hl.mem_iff.1 (by rw [e]; simp [hq])
          obtain ⟨q1, q2⟩ := List.mem_filter.1 hql
          have e1 := findR_mem hy.nd q1
          rw [he, findR_mem hy.nd hp] at e1
          injection e1 with e1
          rw [e1] at hm
          exact hm q2)]
        unfold movedR at hm'
        cases hf : findR xs p.Node with
        | none => rw [hf] at hm'; cases hm'
        | some x =>
          rw [hf] at hm'
          simp only [Bool.not_eq_false', Bool.and_eq_true, decide_eq_true_eq] at hm'
          exact ⟨x, rfl, hm'.1⟩
    have hdr := depth_at hy hry
    have hok : r.Parent.T = 0 ∨ ∃ q, findR X r.Parent = some q := by
      rcases parent_in hy hry with h0 | ⟨y, hy1, hy2⟩
      · exact .inl h0
      · obtain ⟨q, hq, _⟩ := hS y hy1 (by rw [hy2]; omega)
        rw [hy2] at hq
        exact .inr ⟨q, hq⟩
    obtain ⟨h1, h2⟩ := mid_step (a := s) h hMr hok (above_settled hy hS _ _ (parent_in hy hry) (by omega))
    obtain ⟨i1, i2⟩ := mid_all hy hl hd l2 (M ++ [r]) _ ⟨s.T + 1, s.R⟩ (by rw [e]; simp) h2
    exact ⟨⟨h1, i1⟩, i2⟩
/-- behind all moves, and what goes to the trash -/
structure TrX (xs ys X G : List RwP) : Prop where
  yy : ∀ r ∈ ys, ∃ a, findR X r.Node = some ⟨r.Node, r.Parent, a, r.Name, headsR xs r.Node⟩
  gn : ∀ r ∈ G, ∃ q, findR X r.Node = some q ∧ q.Parent = trS
  ot : ∀ s, (∀ r ∈ ys, r.Node ≠ s) → (∀ r ∈ G, r.Node ≠ s) → findR X s = findR xs s
theorem tr_zero {xs ys X l : List RwP} (hy : TreeOk ys) (hl : l.Perm (ys.filter (movedR xs))) (h : MidX xs X l) : TrX xs ys X [] := by
  refine ⟨fun r hr => ?_, fun r hr => (by cases hr), fun s hs _ => h.ot s fun r hr => hs r (List.mem_filter.1 (hl.mem_iff.1 hr)).1⟩
  by_cases hm : movedR xs r = true
  · exact h.mv r (hl.mem_iff.2 (List.mem_filter.2 ⟨hr, hm⟩))
  · have hm' : movedR xs r = false := by simpa using hm
    rw [h.ot r.Node (fun q hq he => by
      obtain ⟨q1, q2⟩ := List.mem_filter.1 (hl.mem_iff.1 hq)
      have e1 := findR_mem hy.nd q1
      rw [he, findR_mem hy.nd hr] at e1
      injection e1 with e1
      rw [e1] at hm
      exact hm q2)]
    unfold movedR at hm'
    unfold headsR
    cases hf : findR xs r.Node with
    | none => rw [hf] at hm'; cases hm'
    | some x =>
      rw [hf] at hm'
      simp only [Bool.not_eq_false', Bool.and_eq_true, decide_eq_true_eq] at hm'
      refine ⟨x.At, ?_⟩
      rw [← (findR_some hf).2, ← hm'.1, ← hm'.2]
theorem above_fixed (X : List RwP) (n : St) {p : St} (h : p.T = 0) : aboveR X n p = false := by
  unfold aboveR
  cases X.length with
  | zero => rfl
  | succ k =>
    show (if p.T = 0 then false else _) = false
    rw [if_pos h]
theorem tr_all {xs ys : List RwP} (hx : (xs.map (·.Node)).Nodup) : ∀ (G2 G X : List RwP) (s : St), (∀ r ∈ G2, ∀ y ∈ ys, y.Node ≠ r.Node) → TrX xs ys X G → doesAll X (numS s (G2.map trO)) ∧ TrX xs ys (runX X (numS s (G2.map trO))) (G ++ G2)
  | [], G, X, s, _, h => ⟨trivial, by rw [List.append_nil]; exact h⟩
  | r :: G2, G, X, s, hg, h => by
    have e : newR X { trO r with At := s } = some ⟨r.Node, trS, s, r.Name, hdsR X r.Node⟩ := by
      unfold newR
      rw [if_pos (show ({ trO r with At := s } : Opn).Kind = 1 from rfl), if_neg]
      · rfl
      · show ¬ (((findR X trS).isNone && !decide (trS.T = 0)) || aboveR X r.Node trS) = true
        rw [above_fixed X _ (show trS.T = 0 from rfl)]
        simp [show trS.T = 0 from rfl]
    have h2 : TrX xs ys (doX X { trO r with At := s }) (G ++ [r]) := by
      refine ⟨fun y hy => ?_, fun q hq => ?_, fun t ht1 ht2 => ?_⟩
      · rw [doX_some e]
        simp only
        rw [if_neg (fun e => hg r (by simp) y hy e.symm)]
        exact h.yy y hy
      · rw [doX_some e]
        simp only
        by_cases he : r.Node = q.Node
        · exact ⟨_, if_pos he, rfl⟩
        · rw [if_neg he]
          rcases List.mem_append.1 hq with hq | hq
          · exact h.gn q hq
          · rw [List.mem_singleton] at hq
            subst hq
            exact absurd rfl he
      · rw [doX_some e]
        simp only
        rw [if_neg (ht2 r (by simp))]
        exact h.ot t ht1 fun q hq => ht2 q (by simp [hq])
    obtain ⟨i1, i2⟩ := tr_all hx G2 (G ++ [r]) _ ⟨s.T + 1, s.R⟩ (fun q hq => hg q (by simp [hq])) h2
    rw [List.append_assoc, List.singleton_append] at i2
    exact ⟨⟨⟨_, e⟩, i1⟩, i2⟩
/-- behind the edits of D -/
structure EdX (xs ys X D : List RwP) : Prop where
  yy : ∀ r ∈ ys, ∃ q, findR X r.Node = some q ∧ q.Parent = r.Parent ∧ q.Name = r.Name ∧ (r ∈ D → sameDt q.Heads r.Heads = true) ∧ (r ∉ D → q.Heads = headsR xs r.Node)
  no : ∀ s, (∀ r ∈ ys, r.Node ≠ s) → ∀ q, findR X s = some q → q.Parent = trS
theorem ed_zero {xs ys X : List RwP} (hx : (xs.map (·.Node)).Nodup) (h : TrX xs ys X (xs.filter (goneR ys))) : EdX xs ys X [] := by
  refine ⟨fun r hr => ?_, fun s hs q hq => ?_⟩
  · obtain ⟨a, ha⟩ := h.yy r hr
    exact ⟨_, ha, rfl, rfl, fun h => (by cases h), fun _ => rfl⟩
  · by_cases hm : ∃ r ∈ xs.filter (goneR ys), r.Node = s
    · obtain ⟨r, hr, rfl⟩ := hm
      obtain ⟨q', h1, h2⟩ := h.gn r hr
      rw [hq] at h1
      injection h1 with h1
      rw [h1]; exact h2
    · have hot := h.ot s hs (fun r hr e => hm ⟨r, hr, e⟩)
      rw [hot] at hq
      obtain ⟨h1, h2⟩ := findR_some hq
      by_cases hp : q.Parent = trS
      · exact hp
      · refine absurd ⟨q, List.mem_filter.2 ⟨h1, ?_⟩, h2⟩ hm
        unfold goneR
        rw [Bool.and_eq_true]
        refine ⟨?_, by simpa using hp⟩
        rw [h2, findR_none.2 hs]
        rfl
theorem leftH_all (l : List Hd) : leftH (l.map (·.At)) l = [] := by
  unfold leftH
  rw [List.filter_eq_nil_iff]
  intro h hh
  have : h.At ∈ l.map (·.At) := List.mem_map.2 ⟨h, hh, rfl⟩
  simp [this]
theorem ed_all {xs ys : List RwP} (hy : TreeOk ys) (h1 : ∀ r ∈ ys, oneR xs r = true) : ∀ (D2 D X : List RwP) (s : St), ys = D ++ D2 → EdX xs ys X D → doesAll X (numS s (D2.flatMap (edR xs))) ∧ EdX xs ys (runX X (numS s (D2.flatMap (edR xs)))) ys
  | [], D, X, s, e, h => ⟨trivial, by
    rw [List.append_nil] at e
    rw [← e] at h
    exact h⟩
  | r :: D2, D, X, s, e, h => by
    have hry : r ∈ ys := by rw [e]; simp
    have hD : r ∉ D := fun hd => by
      have hnd := hy.nd
      rw [e, List.map_append, List.map_cons] at hnd
      exact (List.nodup_append.1 hnd).2.2 r.Node (List.mem_map.2 ⟨r, hd, rfl⟩) r.Node (by simp) rfl
    obtain ⟨q, hq, qp, qn, _, qh⟩ := h.yy r hry
    replace qh := qh hD
    rw [List.flatMap_cons, numS_app2]
    by_cases hs : sameDt (headsR xs r.Node) r.Heads = true
    · have e0 : edR xs r = [] := by unfold edR; rw [if_pos hs]
      rw [e0]
      have h2 : EdX xs ys X (D ++ [r]) := by
        refine ⟨fun y hy' => ?_, h.no⟩
        obtain ⟨z, z1, z2, z3, z4, z5⟩ := h.yy y hy'
        by_cases hyr : y = r
        · subst hyr
          rw [hq] at z1
          injection z1 with z1
          subst z1
          exact ⟨q, hq, z2, z3, fun _ => by rw [qh]; exact hs, fun hn => absurd (by simp) hn⟩
        · exact ⟨z, z1, z2, z3, fun hm => z4 (by simpa [hyr] using hm), fun hm => z5 (fun hm' => hm (by simp [hm']))⟩
      obtain ⟨i1, i2⟩ := ed_all hy h1 D2 (D ++ [r]) X ⟨s.T + ([] : List Opn).length, s.R⟩ (by rw [e]; simp) h2
      exact ⟨i1, i2⟩
    · have ho := h1 r hry
      unfold oneR at ho
      rw [Bool.or_eq_true, decide_eq_true_eq] at ho
      have hl1 := ho.resolve_left hs
      obtain ⟨hd, hhd⟩ := List.length_eq_one_iff.1 hl1
      have e0 : edR xs r = [edO xs r hd] := by unfold edR; rw [if_neg hs, hhd]
      rw [e0]
      have en : newR X { edO xs r hd with At := s } = some ⟨q.Node, q.Parent, q.At, q.Name, [⟨s, hd.Data⟩]⟩ := by
        unfold newR
        rw [if_neg (show ¬ ({ edO xs r hd with At := s } : Opn).Kind = 1 by show ¬ (2 : Int) = 1; decide)]
        show (match findR X r.Node with | none => none | some x => some (⟨x.Node, x.Parent, x.At, x.Name, leftH ((headsR xs r.Node).map fun h : Hd => h.At) x.Heads ++ [(⟨s, hd.Data⟩ : Hd)]⟩ : RwP)) = _
        rw [hq]
        simp only
        rw [qh, leftH_all]
        rfl
      have hqn := (findR_some hq).2
      have h2 : EdX xs ys (doX X { edO xs r hd with At := s }) (D ++ [r]) := by
        refine ⟨fun y hy' => ?_, fun t ht z hz => ?_⟩
        · rw [doX_some en]
          simp only
          by_cases hyr : y = r
          · subst hyr
            exact ⟨_, if_pos hqn, qp, qn, fun _ => by rw [hhd]; simp [sameDt], fun hn => absurd (by simp) hn⟩
          · have hne : q.Node ≠ y.Node := fun e1 => hyr (by
              have e2 := findR_mem hy.nd hy'
              rw [← e1, hqn, findR_mem hy.nd hry] at e2
              injection e2 with e2
              exact e2.symm)
            rw [if_neg hne]
            obtain ⟨z, z1, z2, z3, z4, z5⟩ := h.yy y hy'
            exact ⟨z, z1, z2, z3, fun hm => z4 (by simpa [hyr] using hm), fun hm => z5 (fun hm' => hm (by simp [hm']))⟩
        · rw [doX_some en] at hz
          simp only at hz
          rw [if_neg (by rw [hqn]; exact ht r hry)] at hz
          exact h.no t ht z hz
      obtain ⟨i1, i2⟩ := ed_all hy h1 D2 (D ++ [r]) (doX X { edO xs r hd with At := s }) ⟨s.T + ([edO xs r hd] : List Opn).length, s.R⟩ (by rw [e]; simp) h2
      exact ⟨⟨⟨_, en⟩, i1⟩, i2⟩
/-- all of it: from rows X with the finds of xs on -/
theorem turn_all {xs ys l X : List RwP} (hx : TreeOk xs) (hy : TreeOk ys) (hX : ∀ s, findR X s = findR xs s) (hl : l.Perm (ys.filter (movedR xs))) (hd : l.Pairwise fun p q => ¬ depthN ys ys.length q.Node < depthN ys ys.length p.Node) (h1 : ∀ r ∈ ys, oneR xs r = true) (s : St) :
    doesAll X (allO xs ys s l) ∧ EdX xs ys (runX X (allO xs ys s l)) ys := by
  unfold allO
  rw [numS_app2, numS_app2]
  obtain ⟨a1, a2⟩ := mid_all hy hl hd l [] X s rfl ⟨fun r hr => (by cases hr), fun s _ => hX s⟩
  have a3 := tr_zero hy hl a2
  obtain ⟨b1, b2⟩ := tr_all hx.nd (xs.filter (goneR ys)) [] _ ⟨s.T + (l.map mvO).length, s.R⟩ (fun r hr y hy' e => by
    have := (List.mem_filter.1 hr).2
    unfold goneR at this
    rw [← e, findR_mem hy.nd hy'] at this
    simp at this) a3
  rw [List.nil_append] at b2
  have b3 := ed_zero hx.nd b2
  obtain ⟨c1, c2⟩ := ed_all hy h1 ys [] _ ⟨s.T + (l.map mvO ++ (xs.filter (goneR ys)).map trO).length, s.R⟩ rfl b3
  have e : ∀ M : List Opn, runX X (numS s (l.map mvO) ++ M) = runX (runX X (numS s (l.map mvO))) M := fun M => runX_app _ _ _
  constructor
  · refine doesAll_app _ _ _ (doesAll_app _ _ _ a1 b1) ?_
    rw [runX_app]
    exact c1
  · rw [runX_app, runX_app]
    exact c2
/-! alike -/
theorem place_more {xs : List RwP} : ∀ (k : Nat) (s : St), reach xs k s = true → ∀ j, k ≤ j → placeN xs (j + 1) s = placeN xs (k + 1) s
  | 0, s, h, j, _ => by
    show (if s.T = 0 then some s else _) = (if s.T = 0 then some s else _)
    rw [if_pos (fixedS_T h), if_pos (fixedS_T h)]
  | k + 1, s, h, j, hj => by
    obtain ⟨j, rfl⟩ : ∃ i, j = i + 1 := ⟨j - 1, by omega⟩
    show (if s.T = 0 then some s else match findR xs s with | none => none | some r => placeN xs (j + 1) r.Parent) = (if s.T = 0 then some s else match findR xs s with | none => none | some r => placeN xs (k + 1) r.Parent)
    rcases reach_inv h with h | ⟨i, r, hi, hf, hr⟩
    · rw [if_pos (fixedS_T h), if_pos (fixedS_T h)]
    · obtain rfl : i = k := by omega
      rw [hf]
      simp only [place_more i r.Parent hr j (by omega)]
theorem place_like {ys zs : List RwP} (hz : ∀ r ∈ ys, ∃ q, findR zs r.Node = some q ∧ q.Parent = r.Parent) : ∀ (k : Nat) (s : St), reach ys k s = true → reach zs k s = true ∧ placeN zs (k + 1) s = placeN ys (k + 1) s
  | 0, s, h => ⟨h, by
    show (if s.T = 0 then some s else _) = (if s.T = 0 then some s else _)
    rw [if_pos (fixedS_T h), if_pos (fixedS_T h)]⟩
  | k + 1, s, h => by
    rcases reach_inv h with h | ⟨i, r, hi, hf, hr⟩
    · refine ⟨reach_fixed h _, ?_⟩
      show (if s.T = 0 then some s else _) = (if s.T = 0 then some s else _)
      rw [if_pos (fixedS_T h), if_pos (fixedS_T h)]
    · obtain rfl : i = k := by omega
      obtain ⟨f1, f2⟩ := findR_some hf
      obtain ⟨q, hq, hqp⟩ := hz r f1
      rw [f2] at hq
      obtain ⟨i1, i2⟩ := place_like hz i r.Parent hr
      refine ⟨reach_step hq (by rw [hqp]; exact i1), ?_⟩
      show (if s.T = 0 then some s else match findR zs s with | none => none | some r => placeN zs (i + 1) r.Parent) = (if s.T = 0 then some s else match findR ys s with | none => none | some r => placeN ys (i + 1) r.Parent)
      rw [hf, hq]
      simp only [hqp, i2]
theorem place_same {ys zs : List RwP} (hy : TreeOk ys) (hz : ∀ r ∈ ys, ∃ q, findR zs r.Node = some q ∧ q.Parent = r.Parent) {y : RwP} (h : y ∈ ys) : placeR zs y.Node = placeR ys y.Node := by
  obtain ⟨h1, h2⟩ := place_like hz _ _ (hy.reach h)
  unfold placeR
  rw [← h2, ← place_more _ _ h1 (max ys.length zs.length) (Nat.le_max_left _ _), ← place_more _ _ (reach_len h1) (max ys.length zs.length) (Nat.le_max_right _ _)]
theorem allTwo_rise : ∀ {A B : List RwP}, A.Pairwise (fun a b => cmpS a.Node b.Node < 0) → B.Pairwise (fun a b => cmpS a.Node b.Node < 0) → (∀ a ∈ A, ∃ b ∈ B, b.Node = a.Node) → (∀ b ∈ B, ∃ a ∈ A, a.Node = b.Node ∧ alikeRP a b = true) → allTwo alikeRP A B = true
  | [], [], _, _, _, _ => rfl
  | [], b :: B, _, _, _, h => by
    obtain ⟨a, ha, _⟩ := h b (by simp)
    cases ha
  | a :: A, [], _, _, h, _ => by
    obtain ⟨b, hb, _⟩ := h a (by simp)
    cases hb
  | a :: A, b :: B, hA, hB, h1, h2 => by
    obtain ⟨A1, A2⟩ := List.pairwise_cons.1 hA
    obtain ⟨B1, B2⟩ := List.pairwise_cons.1 hB
    have hn : a.Node = b.Node := by
      obtain ⟨b', hb', eb⟩ := h1 a (by simp)
      obtain ⟨a', ha', ea, _⟩ := h2 b (by simp)
      rcases List.mem_cons.1 hb' with rfl | hb'
      · exact eb.symm
      · rcases List.mem_cons.1 ha' with rfl | ha'
        · exact ea
        · have q1 := B1 b' hb'
          have q2 := A1 a' ha'
          rw [eb] at q1
          rw [ea] at q2
          have := cmpS_trans q1 q2
          rw [cmpS_self] at this
          omega
    have hne1 : ∀ x ∈ A, x.Node ≠ a.Node := fun x hx e => by
      have := A1 x hx
      rw [e, cmpS_self] at this
      omega
    have hne2 : ∀ x ∈ B, x.Node ≠ b.Node := fun x hx e => by
      have := B1 x hx
      rw [e, cmpS_self] at this
      omega
    have ha : alikeRP a b = true := by
      obtain ⟨a', ha', ea, hk⟩ := h2 b (by simp)
      rcases List.mem_cons.1 ha' with rfl | ha'
      · exact hk
      · exact absurd (ea.trans hn.symm) (hne1 a' ha')
    have ih : allTwo alikeRP A B = true := allTwo_rise A2 B2 (fun x hx => by
      obtain ⟨y, hy, e⟩ := h1 x (by simp [hx])
      rcases List.mem_cons.1 hy with rfl | hy
      · exact absurd (e.symm.trans hn.symm) (hne1 x hx)
      · exact ⟨y, hy, e⟩) (fun y hy => by
      obtain ⟨x, hx, e, hk⟩ := h2 y (by simp [hy])
      rcases List.mem_cons.1 hx with rfl | hx
      · exact absurd (e.symm.trans hn) (hne2 y hy)
      · exact ⟨x, hx, e, hk⟩)
    show (alikeRP a b && allTwo alikeRP A B) = true
    rw [ha, ih]
    rfl
theorem turn_alike {xs ys zs : List RwP} (hy : TreeOk ys) (hz : TreeOk zs) (h : EdX xs ys zs ys) : alikeR zs ys = true := by
  have hp : ∀ r ∈ ys, ∃ q, findR zs r.Node = some q ∧ q.Parent = r.Parent := fun r hr => by
    obtain ⟨q, q1, q2, _⟩ := h.yy r hr
    exact ⟨q, q1, q2⟩
  unfold alikeR
  refine allTwo_rise ((riseR_pw hz.rise).sublist List.filter_sublist) ((riseR_pw hy.rise).sublist List.filter_sublist) (fun a ha => ?_) (fun b hb => ?_)
  · obtain ⟨h1, h2⟩ := List.mem_filter.1 ha
    rw [decide_eq_true_eq] at h2
    by_cases hm : ∃ r ∈ ys, r.Node = a.Node
    · obtain ⟨r, hr, e⟩ := hm
      refine ⟨r, List.mem_filter.2 ⟨hr, ?_⟩, e⟩
      rw [decide_eq_true_eq, ← place_same hy hp hr, e]
      exact h2
    · have hq := h.no a.Node (fun r hr e => hm ⟨r, hr, e⟩) a (findR_mem hz.nd h1)
      refine absurd ?_ h2
      show (if a.Node.T = 0 then some a.Node else match findR zs a.Node with | none => none | some r => placeN zs zs.length r.Parent) = some trS
      rw [if_neg (hz.T a h1), findR_mem hz.nd h1]
      simp only
      rw [hq]
      cases hlen : zs.length with
      | zero =>
        rw [List.length_eq_zero_iff] at hlen
        rw [hlen] at h1
        cases h1
      | succ k =>
        exact if_pos rfl
  · obtain ⟨h1, h2⟩ := List.mem_filter.1 hb
    rw [decide_eq_true_eq] at h2
    obtain ⟨q, q1, q2, q3, q4, _⟩ := h.yy b h1
    obtain ⟨f1, f2⟩ := findR_some q1
    refine ⟨q, List.mem_filter.2 ⟨f1, ?_⟩, f2, ?_⟩
    · rw [decide_eq_true_eq, f2, place_same hy hp h1]
      exact h2
    · unfold alikeRP
      simp only [Bool.and_eq_true, decide_eq_true_eq]
      exact ⟨⟨⟨f2, q2⟩, q3⟩, q4 h1⟩
/-! what is done shows -/
theorem newR_shows {X : List RwP} {o : Opn} {r : RwP} (h : newR X o = some r) : r.At = o.At ∨ ∃ q ∈ r.Heads, q.At = o.At := by
  unfold newR at h
  split at h
  · split at h
    · cases h
    · injection h with h
      rw [← h]
      exact .inl rfl
  · cases hf : findR X o.Node with
    | none => rw [hf] at h; cases h
    | some q =>
      rw [hf] at h
      injection h with h
      rw [← h]
      exact .inr ⟨⟨o.At, o.Data⟩, by simp, rfl⟩
theorem does_turns {X as_ bs : List RwP} {o : Opn} {N : Int} (hX : ∀ y ∈ X, RwG N y) (hN : N < o.At.T) (h : ∃ r, newR X o = some r) (ha : as_.Perm X) (hb : bs.Perm (doX X o)) : as_ ≠ bs := by
  intro e
  obtain ⟨r, hr⟩ := h
  have h1 : findR (doX X o) r.Node = some r := by rw [doX_some hr, if_pos rfl]
  have h2 : r ∈ X := ha.mem_iff.1 (by rw [e]; exact hb.mem_iff.2 (findR_some h1).1)
  have g := hX r h2
  rcases newR_shows hr with h3 | ⟨q, hq, h3⟩
  · have := g.nt
    rw [h3] at this
    omega
  · have := (g.hd q hq).2.2.1
    rw [h3] at this
    omega
end Go.Proofs.YtefcalkbfaefgaaGreat
