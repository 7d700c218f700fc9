/- Contract: pollardlaw12.few. (ex_ldO_at) -/
import Derived.Test.YtefcalkbfaefgaaGreatDtQK
import Derived.Test.YtefcalkbfaefgaaGreatGlSK
namespace Go.Proofs.YtefcalkbfaefgaaGreat
open Go.RowKit Go.Sort
set_option linter.unusedVariables false
set_option linter.unusedSimpArgs false
attribute [local go_sem] Oper.semAt_some

def FewTo (W w : World) (e : Ending) (w' : World) : Prop :=
  ∃ (A : Option Addr) (c : Nat) (os : List OpW) (ys : List Opn), e = .returned (.slice A os.length c) ∧ OwnC codO w w' A c os ∧ AllO OpIn W os ys ∧ (∀ o ∈ ys, goodOp o = true) ∧ os.length ≤ 40 ∧ Fr noB w w'
def FewLoop (W w : World) (N : Nat) (gk : Nat) (iv ov : Value) (wr : World) : Prop :=
  ∃ (k : Nat) (A : Option Addr) (c : Nat) (os : List OpW) (ys : List Opn), iv = .int .i64 (k : Int) ∧ ov = .slice A os.length c ∧ gk = N - k ∧ k ≤ N ∧ OwnC codO w wr A c os ∧ AllO OpIn W os ys ∧ (∀ o ∈ ys, goodOp o = true) ∧ os.length ≤ 40 ∧ Fr noB w wr
/-- what lies in cells of other types is no part of a tree -/
theorem GvS.offC {base : Nat} {w : World} {b : Nat} {t : TrW} {L : List Opn} (h : GvS base w b t L) {g : Nat} {cur : Array Value} {e : TypeId} {z : Nat × Nat} (hg : w.heap[g]? = some (.cells cur e z)) (h1 : e ≠ 54) (h2 : e ≠ 70) : ¬ trM b t g := by
  rintro (rfl | rfl | h3)
  · have hh : w.heap[g]? = some (.cells (trL t).toArray 54 (0, 0)) := h.tr
    rw [hh] at hg
    injection hg with hg
    injection hg with _ hg _
    exact h1 hg.symm
  · obtain ⟨_, hm, _⟩ := h.rows
    obtain ⟨es, c, h4⟩ := mpT_blk hm
    rw [h4] at hg; cases hg
  · obtain ⟨ds, _, hd, _⟩ := h.log
    obtain ⟨_, cur', z', h4⟩ := own_blk hd h3
    rw [h4] at hg
    injection hg with hg
    injection hg with _ hg _
    exact h2 hg.symm
/-- a row of other cells stays where the tree is turned -/
theorem GvS.own {base base' : Nat} {w w' : World} {b : Nat} {t : TrW} {L : List Opn} (h : GvS base w b t L) (f : Fr (trM b t) w w') {e : TypeId} {size n c : Nat} {A : Option Addr} {xs : List Value} (ho : w.ownsRow base' e size (.slice A n c) n xs) (h1 : e ≠ 54) (h2 : e ≠ 70) : w'.ownsRow base' e size (.slice A n c) n xs :=
  own_fr ho f (fun g hg hm => by
    rw [ownBlock_sl'] at hg
    obtain ⟨_, cur, z, h4⟩ := own_blk ho hg
    exact h.offC h4 h1 h2 hm)
/-- where no operation takes the place of another one, stamps may be turned -/
theorem GvS.frH {base : Nat} {w w' : World} {b : Nat} {t : TrW} {L : List Opn} (h : GvS base w b t L) {M : Nat → Prop} (f : Fr M w w') (hs : ∀ g, M g → ∀ cs z, w.heap[g]? ≠ some (.cells cs 93 z)) (hv : ∀ o ∈ L, o.Over = []) (hM : ∀ g, M g → ¬ trM b t g) : GvS base w' b t L := by
  have k : ∀ (r : RwW) (x : RwP), RwO w r x → RwO w' r x := fun r x h => by
    have ho := own_hs h.own f (fun b hb cs z => hs b hb cs z)
    exact ⟨h.inn.own_ ho, ho⟩
  obtain ⟨rs, r1, r2⟩ := h.rows
  obtain ⟨ds, d1, d2, d3⟩ := h.log
  refine ⟨h.tr.fr f (fun e => hM _ e (.inl rfl)), h.bb, h.mm, ⟨rs, mpT_fr r1 f (fun e => hM _ e (.inr (.inl rfl))), r2.map k⟩, ⟨ds, d1, own_fr d2 f (fun g hg hm => hM _ hm (.inr (.inr (by rw [ownBlock_sl'] at hg; exact hg)))), d3.1, fun i h1 h2 => ?_⟩, h.ok⟩
  have hd := d3.2 i h1 h2
  have hL : i < L.length := by rw [logX_len] at h2; exact h2
  have hov : ((logX [] L)[i]).op.Over = [] := by rw [logX_op [] L i hL]; exact hv _ (List.getElem_mem hL)
  exact ⟨⟨⟨hd.op.inn.eq, hd.op.inn.len, by rw [hov]; exact Sl.nil _ _, hd.op.inn.bd, hd.op.inn.nm⟩, .inl hov⟩, hd.tn, k _ _ hd.was, hd.was0⟩
/-- operations of a list are inserted one by one -/
def InsLoop (W : World) (b : Nat) (w2 : World) (A : Option Addr) (c : Nat) (os : List OpW) (gk : Nat) (iv : Value) (wr : World) : Prop :=
  ∃ (k : Nat) (t : TrW) (L : List Opn), iv = .int .i64 (k : Int) ∧ gk = os.length - k ∧ k ≤ os.length ∧ GvS W.heap.size wr b t L ∧ SrtL L ∧ L.length ≤ k ∧ OwnC codO w2 wr A c os ∧ Fr noB W wr
end Go.Proofs.YtefcalkbfaefgaaGreat
