/- Contract: obj.Kind. Contract: slices.Compact of IDs, in place. -/
import Derived.Test.YtefcalkbfaefgaaGreatRdCK
import Derived.Test.YtefcalkbfaefgaaGreatRdQK
import Derived.Lib.SliceRun
namespace Go.Proofs.YtefcalkbfaefgaaGreat
open Go.RowKit
set_option linter.unusedVariables false
set_option linter.unusedSimpArgs false

/-- the kind, by the first byte -/
theorem kindO_eq (b : UInt8) (t : List UInt8) : kindO (b :: t) = if b = 1 then (if (rdBl (b :: t)).isSome then 1 else 0) else if b = 2 then (if (rdDr (b :: t)).isSome then 2 else 0) else if b = 3 then (if (rdCh (b :: t)).isSome then 3 else 0) else if b = 4 then (if (rdLb (b :: t)).isSome then 4 else 0) else 0 := by
  have hb : b ≠ 1 → rdBl (b :: t) = none := fun h => by simp [rdBl, h]
  have hw : ∀ {α : Type} {f : RS → α × RS} (hf : Ext f) (k : UInt8) (p : α → Bool), b ≠ k → whole f k p (b :: t) = none := fun hf k p h => by
    cases hx : whole _ k p (b :: t) with
    | none => rfl
    | some x =>
      obtain ⟨l, hl⟩ := whole_head hf hx
      injection hl with h1 _
      exact absurd h1 h
  have hd : b ≠ 2 → rdDr (b :: t) = none := fun h => by rw [rdDr_eq]; exact hw Ext.dr 2 rightDr h
  have hc : b ≠ 3 → rdCh (b :: t) = none := fun h => by rw [rdCh_eq]; exact hw Ext.ch 3 rightCh h
  have hl : b ≠ 4 → rdLb (b :: t) = none := fun h => by rw [rdLb_eq]; exact hw Ext.lb 4 rightLb h
  unfold kindO
  by_cases h1 : b = 1
  · subst h1
    rw [hd (by decide), hc (by decide), hl (by decide)]
    simp
  · rw [hb h1, if_neg h1]
    by_cases h2 : b = 2
    · subst h2
      rw [hc (by decide), hl (by decide)]
      simp
    · rw [hd h2, if_neg h2]
      by_cases h3 : b = 3
      · subst h3
        rw [hl (by decide)]
        simp
      · rw [hc h3, if_neg h3]
        by_cases h4 : b = 4
        · subst h4; simp
        · rw [hl h4, if_neg h4]; simp
end Go.Proofs.YtefcalkbfaefgaaGreat
namespace Go.Proofs.YtefcalkbfaefgaaGreat
open Go.RowKit
set_option linter.unusedVariables false
set_option linter.unusedSimpArgs false

/-- the first j, one of each run -/
def cptN (l : List ID) : Nat → List ID
  | 0 => []
  | j + 1 => match l[j]? with
    | none => cptN l j
    | some x => if 0 < j ∧ l[j - 1]? = some x then cptN l j else cptN l j ++ [x]
def cpt (l : List ID) : List ID := cptN l l.length
theorem cptN_same {l : List ID} {j : Nat} (h : j < l.length) (h0 : 0 < j) (he : l[j] = l[j - 1]'(by omega)) : cptN l (j + 1) = cptN l j := by
  simp only [cptN, List.getElem?_eq_getElem h]
  rw [if_pos ⟨h0, by rw [List.getElem?_eq_getElem (by omega), he]⟩]
theorem cptN_new {l : List ID} {j : Nat} (h : j < l.length) (he : j = 0 ∨ ∃ (h1 : 0 < j), l[j] ≠ l[j - 1]'(by omega)) : cptN l (j + 1) = cptN l j ++ [l[j]] := by
  simp only [cptN, List.getElem?_eq_getElem h]
  rw [if_neg]
  rintro ⟨h0, h1⟩
  rcases he with he | ⟨_, he⟩
  · omega
  · rw [List.getElem?_eq_getElem (by omega)] at h1
    injection h1 with h1
    exact he h1.symm
theorem cptN_len (l : List ID) : ∀ j, (cptN l j).length ≤ j
  | 0 => Nat.le_refl _
  | j + 1 => by
    have := cptN_len l j
    unfold cptN
    split
    · omega
    · split
      · omega
      · simp; omega
/-- a row of IDs at the beginning of a block -/
def RwI (w : World) (g : Nat) (l : List ID) : Prop := ∃ cur : List Value, w.heap[g]? = some (.cells cur.toArray 39 (0, 0)) ∧ cur.take (l.length * 32) = idc l
theorem RwI.own {w0 w : World} {A : Option Addr} {c : Nat} {l : List ID} (h : OwnC codI w0 w A c l) (h0 : l ≠ []) : ∃ g, A = some ⟨g, 0, none⟩ ∧ RwI w g l := by
  rcases h.2 with ⟨hv, hn⟩ | ⟨g, cap, cur, hv, hb, hg, hnc, hm, hs, ht⟩
  · exact absurd (List.length_eq_zero_iff.1 hn) h0
  · injection hv with h1 h2 h3
    exact ⟨g, h1, cur.toList, (by rw [Array.toArray_toList]; exact hg), ht⟩
theorem RwI.lt {w : World} {g : Nat} {l : List ID} (h : RwI w g l) : g < w.heap.size := by
  obtain ⟨cur, hg, _⟩ := h
  exact (Array.getElem?_eq_some_iff.1 hg).1
theorem RwI.cell {w : World} {g : Nat} {l : List ID} (h : RwI w g l) (j : Nat) (hj : j < l.length * 32) : w.cell? ⟨g, j, none⟩ = (idc l)[j]? ∧ w.frozen? ⟨g, j, none⟩ = false := by
  obtain ⟨cur, hg, ht⟩ := h
  have hb : Blk w g 39 cur := hg
  refine ⟨?_, hb.frozen j⟩
  rw [hb.cell, ← ht, List.getElem?_take_of_lt hj]
theorem RwI.sl {w : World} {g : Nat} {l : List ID} (h : RwI w g l) : Sl w (some ⟨g, 0, none⟩) (idc l) := by
  intro hne
  refine ⟨g, 0, rfl, h.lt, fun j v hv => ?_⟩
  have hj : j < l.length * 32 := by have := (List.getElem?_eq_some_iff.1 hv).1; rw [idc_length] at this; exact this
  rw [Nat.zero_add, (h.cell j hj).1]
  exact hv
theorem RwI.fr0 {w w' : World} {g : Nat} {l : List ID} (h : RwI w g l) (f : Fr noB w w') : RwI w' g l := by
  have hl := h.lt
  obtain ⟨cur, hg, ht⟩ := h
  exact ⟨cur, (f.block g hl (by simp [noB])).trans hg, ht⟩
theorem idc_app (l m : List ID) : idc (l ++ m) = idc l ++ idc m := by simp [idc]
theorem idc_take (l : List ID) (k : Nat) (h : k ≤ l.length) : (idc l).take (k * 32) = idc (l.take k) := by
  have : idc l = idc (l.take k) ++ idc (l.drop k) := by rw [← idc_app, List.take_append_drop]
  rw [this, List.take_left' (by rw [idc_length, List.length_take]; omega)]
theorem idc_drop (l : List ID) (k : Nat) (h : k ≤ l.length) : (idc l).drop (k * 32) = idc (l.drop k) := by
  have : idc l = idc (l.take k) ++ idc (l.drop k) := by rw [← idc_app, List.take_append_drop]
  rw [this, List.drop_left' (by rw [idc_length, List.length_take]; omega)]
/-- IDs stored into such a row -/
theorem RwI.set {w : World} {g : Nat} {l : List ID} (h : RwI w g l) (k : Nat) (news : List ID) (hk : k + news.length ≤ l.length) :
    RwI (w.setCells g (k * 32) (idc news)) g (l.take k ++ news ++ l.drop (k + news.length)) ∧ Fr (oneB g) w (w.setCells g (k * 32) (idc news)) := by
  have hlt := h.lt
  obtain ⟨cur, hg, ht⟩ := h
  have hcl : l.length * 32 ≤ cur.length := by
    have := congrArg List.length ht
    rw [List.length_take, idc_length] at this
    omega
  have hnl := idc_length news
  have e := setCells_row g 39 (idc news) w cur (k * 32) hg (by rw [hnl]; omega)
  obtain ⟨f1, f2, f3⟩ := frameMap hlt (Obj.cells (cur.take (k * 32) ++ idc news ++ cur.drop (k * 32 + (idc news).length)).toArray 39 (0, 0))
  rw [e]
  refine ⟨⟨_, f3, ?_⟩, f1⟩
  have hlen : (l.take k ++ news ++ l.drop (k + news.length)).length = l.length := by simp; omega
  rw [hlen, idc_app, idc_app, hnl]
  have e1 : cur.take (k * 32) = idc (l.take k) := by
    rw [← idc_take l k (by omega), ← ht, List.take_take]
    congr 1
    omega
  have e2 : (cur.drop (k * 32 + news.length * 32)).take ((l.length - k - news.length) * 32) = idc (l.drop (k + news.length)) := by
    rw [← idc_drop l _ (by omega), ← ht, List.drop_take]
    rw [Nat.add_mul]
    congr 1
    omega
  rw [e1, ← e2]
  have hl3 : (idc (l.take k) ++ idc news).length = (k + news.length) * 32 := by rw [List.length_append, idc_length, idc_length, List.length_take, Nat.add_mul]; congr 2; omega
  rw [List.take_append, List.take_of_length_le (by rw [hl3]; omega), hl3]
  congr 2
  omega
theorem idc_one1 (x : ID) : idc [x] = bv x.1 := by simp [idc]
theorem RwI.st {w : World} {g : Nat} {l : List ID} (h : RwI w g l) (k : Nat) (hk : k < l.length) (x : ID) : stI w (.pointer (some ⟨g, k * 32, none⟩)) (encI x) = .ok .skip (w.setCells g (k * 32) (idc [x])) := by
  have hl : (bv x.1).length = 32 := by rw [bv_length, x.2]
  have hrun := run_storeAt_mid (P := Tryz.prog) w g (k * 32) 39 (bv x.1).toArray (fun j hj => by
    rw [List.size_toArray, hl] at hj
    obtain ⟨a, b⟩ := h.cell (k * 32 + j) (by omega)
    refine ⟨?_, b⟩
    rw [a]
    have : k * 32 + j < (idc l).length := by rw [idc_length]; omega
    simp [this]) (by rw [List.size_toArray, hl]; exact infoID) (all_oneCell_toArray (bv_one _))
  unfold stI
  simp only [encI, idA_eq]
  rw [hrun, idc_one1]
  rfl
theorem zero_rep (m : Nat) : idc (List.replicate m zID) = List.replicate (m * 32) (.int .u8 0) := by
  induction m with
  | zero => rfl
  | succ m ih =>
    rw [List.replicate_succ, show zID :: List.replicate m zID = [zID] ++ List.replicate m zID from rfl, idc_app, ih, idc_one1, show bv zID.1 = List.replicate 32 (.int .u8 0) from rfl, List.replicate_append_replicate]
    congr 1
    omega
theorem zero_cells (m : Nat) : (Builtin.zeroCells (Value.agg (bv zID.1).toArray).cells m).toList = idc (List.replicate m zID) := by
  rw [zero_rep]
  apply List.ext_getElem
  · simp [Builtin.zeroCells, Value.cells, zID]
  · intro i h1 h2
    simp only [Builtin.zeroCells, Value.cells, List.getElem_replicate, Array.getElem_toList, Array.getElem_map, Array.getElem_range]
    have hs : (bv zID.1).toArray.size = 32 := rfl
    rw [hs]
    have h32 : i % 32 < 32 := Nat.mod_lt _ (by decide)
    rw [getElem!_pos _ _ (by rw [hs]; exact h32)]
    have : (bv zID.1) = List.replicate 32 (.int .u8 0) := rfl
    rw [List.getElem_toArray]
    exact (List.getElem_of_eq this _).trans (List.getElem_replicate _)
def CpTo (w : World) (A : Option Addr) (c : Nat) (l : List ID) (e : Ending) (w' : World) : Prop :=
  e = .returned (.slice A (cpt l).length c) ∧ Sl w' A (idc (cpt l)) ∧ Fr (fun b => A.map (·.block) = some b) w w'
def Cp1 (W : World) (l : List ID) (gk : Nat) (iv : Value) (wr : World) : Prop := ∃ k : Nat, iv = .int .i64 (k : Int) ∧ gk = l.length + 1 - k ∧ 1 ≤ k ∧ k ≤ l.length ∧ cptN l k = l.take k ∧ Fr noB W wr
def Cp2 (W : World) (g : Nat) (l : List ID) (k0 : Nat) (gk : Nat) (v iv : Value) (wr : World) : Prop :=
  ∃ (kk m : Nat) (L : List ID), v = .int .i64 (kk : Int) ∧ iv = .int .i64 (m : Int) ∧ gk = l.length + 1 - (k0 + m) ∧ 1 ≤ m ∧ k0 + m ≤ l.length ∧ kk + 1 ≤ k0 + m ∧ RwI wr g L ∧ L.length = l.length ∧ L.drop (k0 + m - 1) = l.drop (k0 + m - 1) ∧ L.take kk = cptN l (k0 + m) ∧ Fr (oneB g) W wr
theorem Sl.pre {w : World} {A : Option Addr} {xs ys : List Value} (h : Sl w A (xs ++ ys)) : Sl w A xs := by
  intro hne
  obtain ⟨g, off, e, hg, hc⟩ := h (by intro h0; exact hne (List.append_eq_nil_iff.1 h0).1)
  refine ⟨g, off, e, hg, fun j v hv => hc j v ?_⟩
  rw [List.getElem?_append_left (List.getElem?_eq_some_iff.1 hv).1]
  exact hv
theorem get_drop {l L : List ID} {d i : Nat} (hl : L.length = l.length) (h : L.drop d = l.drop d) (hd : d ≤ i) (hi : i < l.length) : L[i]'(by omega) = l[i] := by
  have h1 : (L.drop d)[i - d]? = (l.drop d)[i - d]? := by rw [h]
  rw [List.getElem?_drop, List.getElem?_drop, show d + (i - d) = i by omega, List.getElem?_eq_getElem (by omega), List.getElem?_eq_getElem hi] at h1
  injection h1
end Go.Proofs.YtefcalkbfaefgaaGreat
namespace Go.Proofs.YtefcalkbfaefgaaGreat
open Go.RowKit Go.Maps
set_option linter.unusedVariables false
set_option linter.unusedSimpArgs false

theorem cb_range (a b : List UInt8) : Lib.compareBytes a b = -1 ∨ Lib.compareBytes a b = 0 ∨ Lib.compareBytes a b = 1 := by
  induction a generalizing b with
  | nil => cases b <;> simp [Lib.compareBytes]
  | cons x a ih => cases b with
    | nil => simp [Lib.compareBytes]
    | cons y b =>
      simp only [Lib.compareBytes]
      split
      · simp
      · split
        · simp
        · exact ih b
theorem cb_anti (a b : List UInt8) : Lib.compareBytes a b = - Lib.compareBytes b a := by
  induction a generalizing b with
  | nil => cases b <;> simp [Lib.compareBytes]
  | cons x a ih => cases b with
    | nil => simp [Lib.compareBytes]
    | cons y b =>
      simp only [Lib.compareBytes]
      rcases Nat.lt_trichotomy x.toNat y.toNat with h | h | h
      · have h1 : x < y := UInt8.lt_iff_toNat_lt.2 h
        have h2 : ¬ y < x := fun h' => by have := UInt8.lt_iff_toNat_lt.1 h'; omega
        simp [h1, h2]
      · have h1 : ¬ x < y := fun h' => by have := UInt8.lt_iff_toNat_lt.1 h'; omega
        have h2 : ¬ y < x := fun h' => by have := UInt8.lt_iff_toNat_lt.1 h'; omega
        simp [h1, h2, ih b]
      · have h1 : ¬ x < y := fun h' => by have := UInt8.lt_iff_toNat_lt.1 h'; omega
        have h2 : y < x := UInt8.lt_iff_toNat_lt.2 h
        simp [h1, h2]
theorem cb_eq (a b : List UInt8) : Lib.compareBytes a b = 0 ↔ a = b := by
  induction a generalizing b with
  | nil => cases b <;> simp [Lib.compareBytes]
  | cons x a ih => cases b with
    | nil => simp [Lib.compareBytes]
    | cons y b =>
      simp only [Lib.compareBytes]
      rcases Nat.lt_trichotomy x.toNat y.toNat with h | h | h
      · have h1 : x < y := UInt8.lt_iff_toNat_lt.2 h
        have h2 : x ≠ y := by rintro rfl; omega
        simp [h1, h2]
      · have h1 : ¬ x < y := fun h' => by have := UInt8.lt_iff_toNat_lt.1 h'; omega
        have h2 : ¬ y < x := fun h' => by have := UInt8.lt_iff_toNat_lt.1 h'; omega
        have h3 : x = y := UInt8.toNat_inj.1 h
        simp [h1, h2, h3, ih b]
      · have h1 : ¬ x < y := fun h' => by have := UInt8.lt_iff_toNat_lt.1 h'; omega
        have h2 : y < x := UInt8.lt_iff_toNat_lt.2 h
        have h3 : x ≠ y := by rintro rfl; omega
        simp [h1, h2, h3]
theorem cb_trans (a b c : List UInt8) (h : Lib.compareBytes a b < 0) (h' : Lib.compareBytes b c < 0) : Lib.compareBytes a c < 0 := by
  induction a generalizing b c with
  | nil => cases c with
    | nil => cases b <;> simp [Lib.compareBytes] at h'
    | cons z c => simp [Lib.compareBytes]
  | cons x a ih => cases b with
    | nil => simp [Lib.compareBytes] at h
    | cons y b => cases c with
      | nil => simp [Lib.compareBytes] at h'
      | cons z c =>
        simp only [Lib.compareBytes] at h h' ⊢
        have lt_n : ∀ u v : UInt8, u < v ↔ u.toNat < v.toNat := fun u v => UInt8.lt_iff_toNat_lt
        simp only [lt_n] at h h' ⊢
        by_cases h1 : x.toNat < y.toNat
        · by_cases h2 : y.toNat < z.toNat
          · rw [if_pos (by omega)]; decide
          · rw [if_neg h2] at h'
            by_cases h3 : z.toNat < y.toNat
            · rw [if_pos h3] at h'; exact absurd h' (by decide)
            · rw [if_pos (by omega)]; decide
        · rw [if_neg h1] at h
          by_cases h2 : y.toNat < x.toNat
          · rw [if_pos h2] at h; exact absurd h (by decide)
          · rw [if_neg h2] at h
            by_cases h3 : y.toNat < z.toNat
            · rw [if_pos (by omega)]; decide
            · rw [if_neg h3] at h'
              by_cases h4 : z.toNat < y.toNat
              · rw [if_pos h4] at h'; exact absurd h' (by decide)
              · rw [if_neg h4] at h'
                rw [if_neg (by omega), if_neg (by omega)]
                exact ih b c h h'
theorem cmpI_eq (x y : ID) : cmpI x y = 0 ↔ x = y := by
  unfold cmpI
  rw [cb_eq]
  exact ⟨fun h => Subtype.ext h, fun h => congrArg Subtype.val h⟩
theorem cmpI_anti (x y : ID) : cmpI x y = - cmpI y x := cb_anti _ _
theorem cmpI_trans {x y z : ID} (h : cmpI x y < 0) (h' : cmpI y z < 0) : cmpI x z < 0 := cb_trans _ _ _ h h'
theorem cmpI_self (x : ID) : cmpI x x = 0 := (cmpI_eq x x).2 rfl
end Go.Proofs.YtefcalkbfaefgaaGreat
