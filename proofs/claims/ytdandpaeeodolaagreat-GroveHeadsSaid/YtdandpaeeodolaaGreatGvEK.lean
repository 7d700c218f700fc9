/- A tree (grove) in memory; contracts: fixed, above, undo. (ex_ldS_at, ex_ldR_at) -/
import Derived.Test.YtdandpaeeodolaaGreatGvDK
import Derived.Test.YtdandpaeeodolaaGreatGvMK
import Derived.Test.YtdandpaeeodolaaGreatTreeSK
import Derived.Test.YtdandpaeeodolaaGreatRdCK
namespace Go.Proofs.YtdandpaeeodolaaGreat
open Go.RowKit
set_option linter.unusedVariables false
set_option linter.unusedSimpArgs false

theorem stp_skip {P : Program} {w : World} {ops : Array Oper} {o : Oper} {a : Act} {K : Act → World → Prop} {Q : Exit → Act → World → Prop} {E : Prop} (hgd : o.guard = none) (w' : World)
    (hr : (execOp a.eval o).run P w = .ok .skip w') (h : K (a.put o.dst undef) w') : if Region.wanted o (yielded ops a.tmps) = true then Oper.wp P o a w K Q else E := by
  have hw : Region.wanted o (yielded ops a.tmps) = true := by simp [Region.wanted, hgd]
  rw [if_pos hw]
  unfold Oper.wp
  rw [hr]
  exact h
theorem ex_stV_at {α : Type} {C : Cod α} {ρ : Operand → Value} {o : Oper} {a x : Operand} {w w' : World} {pa : Value} {v : α} (ho : o.op = .store C.t a x) (ha : ρ a = pa) (hx : ρ x = .agg (C.A v)) (hs : C.stR w pa (.agg (C.A v)) = .ok .skip w') :
    (execOp ρ o).run Tryz.prog w = .ok .skip w' := by
  rw [Cod.stOp (C := C) ρ o a x ho w, ha, hx]
  exact hs
/-! rows, operations, what has been done: with rows of their own -/
structure RwO (w : World) (r : RwW) (x : RwP) : Prop where
  inn : RwIn w r x
  own : w.ownsRow 0 45 34 (.slice r.A r.n r.c) r.n (codH.row x.Heads)
structure OpO (w : World) (r : OpW) (o : Opn) : Prop where
  inn : OpIn w r o
  own : o.Over = [] ∨ w.ownsRow 0 28 2 (.slice r.A r.n r.c) r.n (codS.row o.Over)
structure DnO (w : World) (d : DnW) (x : DnP) : Prop where
  op : OpO w d.op x.op
  tn : d.tn = x.tn
  was : RwO w d.was x.was
  was0 : d.was0 = x.was0
/-- a step that turns no heads and no stamps of the old world -/
def NoHS (M : Nat → Prop) (w : World) : Prop := ∀ b, M b → ∀ cs z, w.heap[b]? ≠ some (.cells cs 45 z) ∧ w.heap[b]? ≠ some (.cells cs 28 z)
theorem NoHS.nob (w : World) : NoHS noB w := fun b h => absurd h (by simp [noB])
theorem NoHS.map {w : World} {m : Nat} {kv : List (St × Value)} (h : mpT w m = some kv) : NoHS (oneB m) w := fun b hb cs z => by
  obtain ⟨es, c, h1⟩ := mpT_blk h
  have e : b = m := hb
  subst e
  rw [h1]
  exact ⟨fun h => (by cases h), fun h => (by cases h)⟩
theorem NoHS.blk {w : World} {g : Nat} {t : TypeId} {cs : List Value} (h : Blk w g t cs) (h1 : t ≠ 45) (h2 : t ≠ 28) : NoHS (oneB g) w := fun b hb c z => by
  have e : b = g := hb
  subst e
  have hh : w.heap[b]? = some (.cells cs.toArray t (0, 0)) := h
  rw [hh]
  exact ⟨fun h => by injection h with h; injection h with _ h _; exact h1 h, fun h => by injection h with h; injection h with _ h _; exact h2 h⟩
theorem NoHS.own {w : World} {base size n : Nat} {e : TypeId} {v : Value} {xs : List Value} (h : w.ownsRow base e size v n xs) (h1 : e ≠ 45) (h2 : e ≠ 28) : NoHS (fun b => v.ownBlock = some b) w := fun b hb c z => by
  rcases h.2 with ⟨hv, _⟩ | ⟨blk, cap, cur, hv, _, hg, _⟩
  · rw [hv] at hb; cases hb
  · rw [hv] at hb
    have e : blk = b := by simpa [Value.ownBlock] using hb
    subst e
    rw [hg]
    exact ⟨fun h => by injection h with h; injection h with _ h _; exact h1 h, fun h => by injection h with h; injection h with _ h _; exact h2 h⟩
theorem NoHS.or {M N : Nat → Prop} {w : World} (h : NoHS M w) (k : NoHS N w) : NoHS (fun b => M b ∨ N b) w := fun b hb => by
  rcases hb with hb | hb
  · exact h b hb
  · exact k b hb
theorem own_hs {M : Nat → Prop} {w w' : World} {e : TypeId} {size n : Nat} {v : Value} {xs : List Value} (h : w.ownsRow 0 e size v n xs) (f : Fr M w w') (hM : ∀ b, M b → ∀ cs z, w.heap[b]? ≠ some (.cells cs e z)) : w'.ownsRow 0 e size v n xs :=
  own_fr h f (fun g hg hm => by
    rcases h.2 with ⟨hv, _⟩ | ⟨blk, cap, cur, hv, _, hgg, _⟩
    · rw [hv] at hg; cases hg
    · rw [hv] at hg
      have e : blk = g := by simpa [Value.ownBlock] using hg
      subst e
      exact hM blk hm _ _ hgg)
theorem RwIn.own_ {w w' : World} {r : RwW} {x : RwP} (h : RwIn w r x) {base : Nat} (ho : w'.ownsRow base 45 34 (.slice r.A r.n r.c) r.n (codH.row x.Heads)) : RwIn w' r x := ⟨h.eq, h.len, Sl.own ho, h.bd, h.nm, h.wn, h.wp⟩
theorem RwO.fr {M : Nat → Prop} {w w' : World} {r : RwW} {x : RwP} (h : RwO w r x) (f : Fr M w w') (hM : NoHS M w) : RwO w' r x := by
  have ho := own_hs h.own f (fun b hb cs z => (hM b hb cs z).1)
  exact ⟨h.inn.own_ ho, ho⟩
theorem OpO.fr {M : Nat → Prop} {w w' : World} {r : OpW} {x : Opn} (h : OpO w r x) (f : Fr M w w') (hM : NoHS M w) : OpO w' r x := by
  rcases h.own with h0 | h0
  · exact ⟨⟨h.inn.eq, h.inn.len, by rw [h0]; exact Sl.nil _ _, h.inn.bd, h.inn.nm⟩, .inl h0⟩
  · have ho := own_hs h0 f (fun b hb cs z => (hM b hb cs z).2)
    exact ⟨⟨h.inn.eq, h.inn.len, Sl.own ho, h.inn.bd, h.inn.nm⟩, .inr ho⟩
theorem DnO.fr {M : Nat → Prop} {w w' : World} {r : DnW} {x : DnP} (h : DnO w r x) (f : Fr M w w') (hM : NoHS M w) : DnO w' r x := ⟨h.op.fr f hM, h.tn, h.was.fr f hM, h.was0⟩
/-- lists of them -/
def AllO {α β : Type} (R : World → α → β → Prop) (w : World) (rs : List α) (xs : List β) : Prop := rs.length = xs.length ∧ ∀ i (h : i < rs.length) (h' : i < xs.length), R w rs[i] xs[i]
theorem AllO.map {α β : Type} {R : World → α → β → Prop} {w w' : World} {rs : List α} {xs : List β} (h : AllO R w rs xs) (k : ∀ r x, R w r x → R w' r x) : AllO R w' rs xs := ⟨h.1, fun i h1 h2 => k _ _ (h.2 i h1 h2)⟩
theorem AllO.nil {α β : Type} {R : World → α → β → Prop} {w : World} : AllO R w [] [] := ⟨rfl, fun i h => absurd h (by simp)⟩
theorem AllO.cons {α β : Type} {R : World → α → β → Prop} {w : World} {r : α} {x : β} {rs : List α} {xs : List β} (h1 : R w r x) (h2 : AllO R w rs xs) : AllO R w (r :: rs) (x :: xs) :=
  ⟨by simp [h2.1], fun i h3 h4 => by
    cases i with
    | zero => exact h1
    | succ i => exact h2.2 i (by simpa using h3) (by simpa using h4)⟩
theorem AllO.tail {α β : Type} {R : World → α → β → Prop} {w : World} {r : α} {x : β} {rs : List α} {xs : List β} (h : AllO R w (r :: rs) (x :: xs)) : R w r x ∧ AllO R w rs xs :=
  ⟨h.2 0 (by simp) (by simp), by have := h.1; simpa using this, fun i h1 h2 => h.2 (i + 1) (by simpa using h1) (by simpa using h2)⟩
theorem AllO.app {α β : Type} {R : World → α → β → Prop} {w : World} {rs ss : List α} {xs ys : List β} (h : AllO R w rs xs) (k : AllO R w ss ys) : AllO R w (rs ++ ss) (xs ++ ys) := by
  induction rs generalizing xs with
  | nil =>
    obtain rfl : xs = [] := List.length_eq_zero_iff.1 (by simpa using h.1.symm)
    exact k
  | cons r rs ih =>
    match xs, h with
    | [], h => have := h.1; simp at this
    | x :: xs, h => exact AllO.cons h.tail.1 (ih h.tail.2)
theorem AllO.snoc {α β : Type} {R : World → α → β → Prop} {w : World} {rs : List α} {xs : List β} {r : α} {x : β} (h : AllO R w rs xs) (k : R w r x) : AllO R w (rs ++ [r]) (xs ++ [x]) := h.app (AllO.cons k AllO.nil)
theorem AllO.take {α β : Type} {R : World → α → β → Prop} {w : World} {rs : List α} {xs : List β} (h : AllO R w rs xs) (k : Nat) : AllO R w (rs.take k) (xs.take k) :=
  ⟨by simp [h.1], fun i h1 h2 => by
    rw [List.getElem_take, List.getElem_take]
    exact h.2 i (by simp at h1; omega) (by simp at h2; omega)⟩
theorem AllO.drop {α β : Type} {R : World → α → β → Prop} {w : World} {rs : List α} {xs : List β} (h : AllO R w rs xs) (k : Nat) : AllO R w (rs.drop k) (xs.drop k) :=
  ⟨by simp [h.1], fun i h1 h2 => by
    rw [List.getElem_drop, List.getElem_drop]
    exact h.2 (k + i) (by simp at h1; omega) (by simp at h2; omega)⟩
abbrev RwsO_ := AllO RwO
theorem RwsO_.rws {w : World} {rs : List RwW} {xs : List RwP} (h : AllO RwO w rs xs) : RwsIn w rs xs := ⟨h.1, fun i h1 h2 => (h.2 i h1 h2).inn⟩
theorem RwsO_.find {w : World} {rs : List RwW} {xs : List RwP} (h : AllO RwO w rs xs) (s : St) : (findW rs s = none ∧ findR xs s = none) ∨ ∃ r x, findW rs s = some r ∧ findR xs s = some x ∧ RwO w r x := by
  induction rs generalizing xs with
  | nil =>
    obtain rfl : xs = [] := List.length_eq_zero_iff.1 (by simpa using h.1.symm)
    exact .inl ⟨rfl, rfl⟩
  | cons r rs ih =>
    match xs, h with
    | [], h => have := h.1; simp at this
    | x :: xs, h =>
      obtain ⟨h1, h2⟩ := h.tail
      unfold findW findR at ih ⊢
      rw [List.find?_cons, List.find?_cons]
      by_cases e : r.Node = s
      · have e' : x.Node = s := by rw [h1.inn.node]; exact e
        simp only [e, e', decide_true]
        exact .inr ⟨r, x, rfl, rfl, h1⟩
      · have e' : ¬ x.Node = s := by rw [h1.inn.node]; exact e
        simp only [e, e', decide_false]
        exact ih h2
/-- a row at its node, as it lies in memory -/
def putW (rs : List RwW) (r : RwW) : List RwW := if (findW rs r.Node).isSome then rs.map (fun x => if x.Node = r.Node then r else x) else rs ++ [r]
theorem tab_putW (rs : List RwW) (r : RwW) : putL (tab rs) r.Node (.agg (codR.A r)) = tab (putW rs r) := by
  unfold putL putW
  rw [look_tab]
  simp only [Option.isSome_map]
  split
  · unfold tab
    rw [List.map_map, List.map_map]
    refine List.map_congr_left fun x _ => ?_
    simp only [Function.comp_apply]
    by_cases e : x.Node = r.Node
    · simp [e]
    · simp [e]
  · simp [tab]
theorem tab_delW (rs : List RwW) (s : St) : delL (tab rs) s = tab (rs.filter fun x => !decide (x.Node = s)) := by
  unfold delL tab
  rw [List.filter_map]
  rfl
theorem RwsO_.put {w : World} {rs : List RwW} {xs : List RwP} (h : AllO RwO w rs xs) {r : RwW} {x : RwP} (hr : RwO w r x) : AllO RwO w (putW rs r) (putR xs x) := by
  have hn : x.Node = r.Node := hr.inn.node
  have hs : (findW rs r.Node).isSome = (findR xs x.Node).isSome := by
    rw [hn]
    rcases RwsO_.find h r.Node with ⟨h1, h2⟩ | ⟨q, y, h1, h2, _⟩
    · rw [h1, h2]; rfl
    · rw [h1, h2]; rfl
  unfold putW putR
  rw [hs]
  split
  · refine ⟨by simp [h.1], fun i h1 h2 => ?_⟩
    simp only [List.getElem_map]
    have hi := h.2 i (by simpa using h1) (by simpa using h2)
    by_cases e : (rs[i]'(by simpa using h1)).Node = r.Node
    · have e' : (xs[i]'(by simpa using h2)).Node = x.Node := by rw [hi.inn.node, hn]; exact e
      rw [if_pos e, if_pos e']
      exact hr
    · have e' : ¬ (xs[i]'(by simpa using h2)).Node = x.Node := by rw [hi.inn.node, hn]; exact e
      rw [if_neg e, if_neg e']
      exact hi
  · exact h.snoc hr
theorem RwsO_.del {w : World} {rs : List RwW} {xs : List RwP} (h : AllO RwO w rs xs) (s : St) : AllO RwO w (rs.filter fun x => !decide (x.Node = s)) (xs.filter fun x => !decide (x.Node = s)) := by
  induction rs generalizing xs with
  | nil =>
    obtain rfl : xs = [] := List.length_eq_zero_iff.1 (by simpa using h.1.symm)
    exact AllO.nil
  | cons r rs ih =>
    match xs, h with
    | [], h => have := h.1; simp at this
    | x :: xs, h =>
      obtain ⟨h1, h2⟩ := h.tail
      rw [List.filter_cons, List.filter_cons, h1.inn.node]
      split
      · exact AllO.cons h1 (ih h2)
      · exact ih h2
/-! contracts -/
set_option maxRecDepth 100000 in
theorem gvFixed_any (w : World) (s : St) : Calls Tryz.prog 55 #[.agg (codS.A s)] w (Gives w (.bool (s.T == 0))) := by
  have f0 : Fr noB w (w.alloc (.cells (codS.A s) 28)) := (Fr.refl noB w).alloc _
  obtain ⟨q1, q2⟩ := stCell (Cod.bxd_rd (bxS_box w s))
  go_enter Tryz.func55, Tryz.ntmps55
  go_wp2_with fail
  go_ret
  exact ⟨rfl, f0⟩
def AbvR (w : World) (P Q : Nat) (xs : List RwP) (n : St) (v : Bool) (gk : Nat) (wr : World) : Prop :=
  ∃ p : St, codS.bxd wr Q = some p ∧ codS.rd wr P 0 = some n ∧ wfS p = true ∧ reach xs gk p = true ∧ aboveN xs gk n p = v ∧ Fr noB w wr
end Go.Proofs.YtdandpaeeodolaaGreat
