/- Regions that draw their order: a head of operations that read or make memory under a fact F that they keep, then a forced tail (a store) behind which F is not asked. -/
import Derived.OrdersHeld
import Derived.StillTail
import Derived.WalkKit
import Derived.Lib.Hide
namespace Go.Proofs.YtejkfekpgbmdiaaGreat
open Go.RowKit
set_option linter.unusedVariables false

section
variable {P : Program} {ops : Array Oper} {Q : Exit → Act → World → Prop} {md : Region.Mode} {F : World → Prop} {n : Nat}

def wpAnyN (P : Program) (md : Region.Mode) (ops : Array Oper) (Q : Exit → Act → World → Prop) (F : World → Prop) (n : Nat) : Nat → Array Bool → Act → World → Prop
  | 0, listed, a, w => Region.ready md ops listed = [] ∧ Q .normal a w
  | fuel + 1, listed, a, w =>
    (Region.ready md ops listed = [] → Q .normal a w) ∧
    ∀ i ∈ Region.ready md ops listed, wpOp P ops Q i (fun a' w' => (i < n → F w') ∧ wpAnyN P md ops Q F n fuel (listed.setIfInBounds i true) a' w') a w

theorem wpAny_of_N : ∀ (fuel : Nat) (listed : Array Bool) (a : Act) (w : World), wpAnyN P md ops Q F n fuel listed a w → wpAny P md ops Q fuel listed a w
  | 0, _, _, _, h => h
  | fuel + 1, _, _, _, h => ⟨h.1, fun i hi => wpOp_mono (fun a' w' h' => wpAny_of_N fuel _ a' w' h'.2) (h.2 i hi)⟩

theorem wpAnyN_first {i : Nat} {oi : Oper} {v : Value} (hs : Region.sinkB md ops n = true) (hc : Region.chainB md ops n = true) (hn : n < ops.size) (hin : i < n)
    (hi : ops[i]? = some oi) (hsel : ∀ (j : Nat) (o : Oper) cs b, ops[j]? = some o → o.op ≠ .select cs b)
    (hQ : ∀ c a w, Q (.panic c) (a.put oi.dst v) w → Q (.panic c) a w) :
    ∀ (fuel : Nat) (listed : Array Bool) (a : Act) (w : World), HeadInv md ops n listed →
      (∀ j oj, ops[j]? = some oj → j ≠ i → listed.getD j true = false → (∀ e ∈ oj.after, Region.binds md e = true → e.on ≠ i) → oi.apart ops oj = true) →
      i ∈ Region.ready md ops listed → YieldsIf P ops F oi v a → F w →
      wpAnyN P md ops Q F n fuel (listed.setIfInBounds i true) (a.put oi.dst v) w → wpAnyN P md ops Q F n (fuel + 1) listed a w := by
  intro fuel
  induction fuel with
  | zero =>
    intro listed a w hI _ hr hy hS H
    refine ⟨fun h => (by rw [h] at hr; cases hr), fun j hj => ?_⟩
    by_cases hji : j = i
    · subst hji; exact hy.wpOp hi hS ⟨fun _ => hS, H⟩
    · have := ready_mono hj hji
      rw [H.1] at this
      cases this
  | succ fuel ih =>
    intro listed a w hI hfree hr hy hS H
    refine ⟨fun h => (by rw [h] at hr; cases hr), fun j hj => ?_⟩
    by_cases hji : j = i
    · subst hji; exact hy.wpOp hi hS ⟨fun _ => hS, H⟩
    · have h1 := H.2 j (ready_mono hj hji)
      obtain ⟨hjun, oj, hoj, hall⟩ := mem_ready.1 hj
      have hnot : ∀ e ∈ oj.after, Region.binds md e = true → e.on ≠ i := fun e he hb heq => by
        have h1 := hall e he hb
        have h0 := (mem_ready.1 hr).1
        rw [heq] at h1
        rcases Nat.lt_or_ge i listed.size with h' | h'
        · simp [h'] at h0 h1; rw [h0] at h1; cases h1
        · simp [Array.getElem?_eq_none h'] at h1
      have hjn : j < n := by
        rcases Nat.lt_or_ge j n with h | h
        · exact h
        · exact absurd hj (tail_waits hs hc hn hI (n - i) i rfl hin (mem_ready.1 hr).1 j h)
      have h2 := wpOp_putIf hoj (hfree j oj hoj hji hjun hnot) (fun cs b => hsel i oi cs b hi) (fun cs b => hsel j oj cs b hoj) hQ hy h1
      have hfree' : ∀ k ok, ops[k]? = some ok → k ≠ i → (listed.setIfInBounds j true).getD k true = false →
          (∀ e ∈ ok.after, Region.binds md e = true → e.on ≠ i) → oi.apart ops ok = true := fun k ok hk hki hun hno => by
        refine hfree k ok hk hki ?_ hno
        by_cases hjk : j = k
        · subst hjk; exact hjun
        · rw [getD_set_ne true hjk] at hun; exact hun
      refine wpOp_mono (fun a' w' h3 => ⟨fun _ => h3.2.1 hjn, ih (listed.setIfInBounds j true) a' w' (hI.set hj hjn) hfree' (ready_mono hr (Ne.symm hji)) h3.1 (h3.2.1 hjn) ?_⟩) h2
      rw [Array.setIfInBounds_comm _ _ hji]
      exact h3.2.2

/-- the closed facts of a region -/
def regB (md : Region.Mode) (ops : Array Oper) (n : Nat) : Bool :=
  Region.noSelect ops && decide (n < ops.size) && Region.sinkB md ops n && Region.chainB md ops n

/-- where a walk stands: what is listed, and that it is of the head -/
structure RegAt (md : Region.Mode) (ops : Array Oper) (n : Nat) (listed : Array Bool) : Prop where
  inv : HeadInv md ops n listed
  b : regB md ops n = true

theorem RegAt.start (hB : regB md ops n = true) : RegAt md ops n (Array.replicate ops.size false) := by
  refine ⟨⟨by simp, fun j oj _ hl => (by rw [getD_replicate_false] at hl; cases hl), fun t _ ht => getD_in (by simpa using ht) (getD_replicate_false _ _)⟩, hB⟩

theorem wpAnyN_take {i : Nat} {oi : Oper} {v : Value} {fuel : Nat} {listed : Array Bool} {a : Act} {w : World} (hA : RegAt md ops n listed) (hi : ops[i]? = some oi) (hin : i < n)
    (hf : Region.free md ops listed i = true) (hr : (Region.ready md ops listed).contains i = true)
    (hQ : ∀ c a w, Q (.panic c) (a.put oi.dst v) w → Q (.panic c) a w) (hy : YieldsIf P ops F oi v a) (hS : F w)
    (h : RegAt md ops n (listed.setIfInBounds i true) → wpAnyN P md ops Q F n fuel (listed.setIfInBounds i true) (a.put oi.dst v) w) : wpAnyN P md ops Q F n (fuel + 1) listed a w := by
  have hB := hA.b
  simp only [regB, Bool.and_eq_true, decide_eq_true_eq] at hB
  have hr' : i ∈ Region.ready md ops listed := by simpa using hr
  exact wpAnyN_first hB.1.2 hB.2 hB.1.1.2 hin hi (Region.noSelect_spec hB.1.1.1) hQ fuel listed a w hA.inv (Region.free_spec hi hf) hr' hy hS (h ⟨hA.inv.set hr' hin, hA.b⟩)

/-- one operation of the head that is the only one which may come up -/
theorem wpAnyN_one {i : Nat} {o : Oper} {fuel : Nat} {listed : Array Bool} {a : Act} {w : World} (hA : RegAt md ops n listed) (hr : Region.ready md ops listed = [i]) (hin : i < n) (hi : ops[i]? = some o)
    (h : ∀ K : Act → World → Prop, Hid (∀ a' w', F w' → (RegAt md ops n (listed.setIfInBounds i true) → wpAnyN P md ops Q F n fuel (listed.setIfInBounds i true) a' w') → K a' w') →
      if Region.wanted o (yielded ops a.tmps) = true then Oper.wp P o a w K Q else K (a.put o.dst undef) w) : wpAnyN P md ops Q F n (fuel + 1) listed a w := by
  refine ⟨fun h0 => (by rw [hr] at h0; cases h0), fun j hj => ?_⟩
  have hji : j = i := by rw [hr] at hj; simpa using hj
  subst hji
  have hA' : RegAt md ops n (listed.setIfInBounds j true) := ⟨hA.inv.set hj hin, hA.b⟩
  have := h (fun a' w' => (j < n → F w') ∧ wpAnyN P md ops Q F n fuel (listed.setIfInBounds j true) a' w') (fun a' w' hF hW => ⟨fun _ => hF, hW hA'⟩)
  unfold wpOp
  simp only [hi]
  split
  · rename_i hw; rw [if_pos hw] at this; exact .inl this
  · rename_i hw; rw [if_neg hw] at this; exact this

/-- the tail, in its forced order -/
theorem wpAnyN_tail : ∀ (l : List Oper) (k : Nat) (listed : Array Bool) (a : Act) (w : World), n ≤ k → (∀ j, l[j]? = ops[k + j]?) →
    Region.seqB md ops l.length k listed = true → wpList P ops Q l a w → wpAnyN P md ops Q F n l.length listed a w
  | [], _, _, _, _, _, _, hB, h => ⟨by simpa [Region.seqB] using hB, h⟩
  | o :: l, k, listed, a, w, hk, hl, hB, h => by
    have h0 : ops[k]? = some o := by simpa using (hl 0).symm
    simp only [List.length_cons, Region.seqB, Bool.and_eq_true, decide_eq_true_eq] at hB
    refine ⟨fun h1 => (by rw [hB.1] at h1; cases h1), fun i hi => ?_⟩
    rw [hB.1] at hi
    have hik : i = k := by simpa using hi
    subst hik
    have hw : wpOp P ops Q i (wpList P ops Q l) a w := by unfold wpOp; simp only [h0]; exact h
    exact wpOp_mono (fun a' w' h' => ⟨fun hlt => absurd hlt (by omega), wpAnyN_tail l (i + 1) _ a' w' (by omega) (fun j => by have := hl (j + 1); simpa [Nat.add_assoc, Nat.add_comm 1 j] using this) hB.2 h'⟩) hw
end

section
variable {P : Program} {Q : Exit → Act → World → Prop} {F : World → Prop}
theorem wpAnyN_end {md : Region.Mode} {l : List Oper} {n g : Nat} {listed : Array Bool} {a : Act} {w : World} (hg : (l.drop n).length = g) (hB : Region.seqB md l.toArray g n listed = true)
    (h : wpList P l.toArray Q (l.drop n) a w) : wpAnyN P md l.toArray Q F n g listed a w := by
  subst hg
  exact wpAnyN_tail (l.drop n) n listed a w (Nat.le_refl _) (fun j => by simp [List.getElem?_drop]) hB h
/-- a region whose operations all read: S is what they read -/
theorem wp_region_H {id : Nat} {a : Act} {w : World} {l : List Oper} (S : World → Prop) (hm : P.follows .mixedOrders = true) (hS : S w.drew)
    (h : S w.drew → wpAnyH P .any l.toArray Q S l.toArray.size (Array.replicate l.toArray.size false) a w.drew) : (Code.region id l.toArray true).wp P Q a w :=
  wp_region_held hm (h hS)
theorem wp_region_N {id : Nat} {a : Act} {w : World} {l : List Oper} (n : Nat) (F : World → Prop) (hm : P.follows .mixedOrders = true) (hB : regB .any l.toArray n = true) (hF : F w.drew)
    (h : RegAt .any l.toArray n (Array.replicate l.toArray.size false) → F w.drew → wpAnyN P .any l.toArray Q F n l.toArray.size (Array.replicate l.toArray.size false) a w.drew) : (Code.region id l.toArray true).wp P Q a w :=
  wp_region_any hm (wpAny_of_N _ _ _ _ (h (RegAt.start hB) hF))
end

/-! a schedule that is checked once: (true, i): an operation that reads is taken; (false, i): the only one that is ready -/
section
variable {P : Program} {Q : Exit → Act → World → Prop} {F : World → Prop} {md : Region.Mode} {ops : Array Oper} {n : Nat}
def schedB (md : Region.Mode) (ops : Array Oper) (n : Nat) : List (Bool × Nat) → Array Bool → Bool
  | [], listed => Region.seqB md ops (ops.size - n) n listed
  | (true, i) :: s, listed => decide (i < n) && Region.free md ops listed i && (Region.ready md ops listed).contains i && schedB md ops n s (listed.setIfInBounds i true)
  | (false, i) :: s, listed => decide (i < n) && decide (Region.ready md ops listed = [i]) && schedB md ops n s (listed.setIfInBounds i true)
/-- where a walk stands, and what is to come -/
structure RegS (md : Region.Mode) (ops : Array Oper) (n : Nat) (listed : Array Bool) (s : List (Bool × Nat)) : Prop where
  at_ : RegAt md ops n listed
  b : schedB md ops n s listed = true
theorem wp_region_S {id : Nat} {a : Act} {w : World} {l : List Oper} (n k : Nat) (s : List (Bool × Nat)) (F : World → Prop) (hm : P.follows .mixedOrders = true) (hk : l.length = k)
    (hB : (regB .any l.toArray n && schedB .any l.toArray n s (Array.replicate k false)) = true) (hF : F w.drew)
    (h : RegS .any l.toArray n (Array.replicate k false) s → F w.drew → wpAnyN P .any l.toArray Q F n k (Array.replicate k false) a w.drew) : (Code.region id l.toArray true).wp P Q a w := by
  subst hk
  rw [Bool.and_eq_true] at hB
  exact wp_region_any hm (wpAny_of_N _ _ _ _ (h ⟨RegAt.start hB.1, hB.2⟩ hF))
theorem wpAnyS_take {i : Nat} {oi : Oper} {v : Value} {fuel : Nat} {listed : Array Bool} {s : List (Bool × Nat)} {a : Act} {w : World} (hA : RegS md ops n listed ((true, i) :: s)) (hi : ops[i]? = some oi)
    (hQ : ∀ c a w, Q (.panic c) (a.put oi.dst v) w → Q (.panic c) a w) (hy : YieldsIf P ops F oi v a) (hS : F w)
    (h : RegS md ops n (listed.setIfInBounds i true) s → wpAnyN P md ops Q F n fuel (listed.setIfInBounds i true) (a.put oi.dst v) w) : wpAnyN P md ops Q F n (fuel + 1) listed a w := by
  have hb := hA.b
  simp only [schedB, Bool.and_eq_true, decide_eq_true_eq] at hb
  exact wpAnyN_take hA.at_ hi hb.1.1.1 hb.1.1.2 hb.1.2 hQ hy hS (fun hA' => h ⟨hA', hb.2⟩)
theorem wpAnyS_one {i : Nat} {o : Oper} {fuel : Nat} {listed : Array Bool} {s : List (Bool × Nat)} {a : Act} {w : World} (hA : RegS md ops n listed ((false, i) :: s)) (hi : ops[i]? = some o)
    (h : ∀ K : Act → World → Prop, Hid (∀ a' w', F w' → (RegS md ops n (listed.setIfInBounds i true) s → wpAnyN P md ops Q F n fuel (listed.setIfInBounds i true) a' w') → K a' w') →
      if Region.wanted o (yielded ops a.tmps) = true then Oper.wp P o a w K Q else K (a.put o.dst undef) w) : wpAnyN P md ops Q F n (fuel + 1) listed a w := by
  have hb := hA.b
  simp only [schedB, Bool.and_eq_true, decide_eq_true_eq] at hb
  refine wpAnyN_one hA.at_ hb.1.2 hb.1.1 hi (fun K hK => h K ?_)
  exact Lib.hid (fun a' w' hF hW => hK.out a' w' hF (fun hA' => hW ⟨hA', hb.2⟩))
theorem wpAnyS_end {l : List Oper} {g : Nat} {listed : Array Bool} {a : Act} {w : World} (hA : RegS md l.toArray n listed []) (hg : (l.drop n).length = g)
    (h : wpList P l.toArray Q (l.drop n) a w) : wpAnyN P md l.toArray Q F n g listed a w := by
  have hb := hA.b
  simp only [schedB] at hb
  refine wpAnyN_end hg ?_ h
  rw [← hg, List.length_drop]
  simpa using hb
end
end Go.Proofs.YtejkfekpgbmdiaaGreat
