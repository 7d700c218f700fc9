/- Plain: rows that rise, and how many they are; the document's example. -/
import Derived.Test.YtchiclnnoealdaaLNode
namespace Go.Proofs.Ytchiclnnoealdaa
open Go.RowKit Go.Maps Go.Sort Go.Shelf
set_option linter.unusedVariables false
set_option linter.unusedSimpArgs false

theorem rise_nd {cf : ID → ID → Int} (hO : SWO (ltOf cf)) {l : List ID} (h : Rise cf l) : l.Nodup := by
  refine List.Pairwise.imp ?_ h
  rintro a b hab rfl
  have := hO.irrefl a
  simp [ltOf, hab] at this
theorem rise_eq {cf : ID → ID → Int} (hO : SWO (ltOf cf)) : ∀ {l m : List ID}, Rise cf l → Rise cf m → (∀ y, y ∈ l ↔ y ∈ m) → l = m
  | [], [], _, _, _ => rfl
  | [], b :: m, _, _, h => by have := (h b).2 (by simp); cases this
  | a :: l, [], _, _, h => by have := (h a).1 (by simp); cases this
  | a :: l, b :: m, hl, hm, h => by
    have nl := rise_nd hO hl
    have nm := rise_nd hO hm
    unfold Rise at hl hm
    rw [List.pairwise_cons] at hl hm
    rw [List.nodup_cons] at nl nm
    have hab : a = b := by
      by_cases e : a = b
      · exact e
      · exfalso
        have h1 : a ∈ m := by have := (h a).1 (by simp); simpa [e] using this
        have h2 : b ∈ l := by have := (h b).2 (by simp); simpa [Ne.symm e] using this
        have c1 := hm.1 a h1
        have c2 := hl.1 b h2
        have := hO.trans a b a (by simpa [ltOf] using c2) (by simpa [ltOf] using c1)
        rw [hO.irrefl] at this; cases this
    subst hab
    congr 1
    refine rise_eq hO hl.2 hm.2 (fun y => ?_)
    have := h y
    simp only [List.mem_cons] at this
    constructor
    · intro hy
      rcases this.1 (.inr hy) with e | e
      · subst e; exact absurd hy nl.1
      · exact e
    · intro hy
      rcases this.2 (.inr hy) with e | e
      · subst e; exact absurd hy nm.1
      · exact e
theorem len_of {l keys : List ID} {P : ID → Bool} (hl : l.Nodup) (hk : keys.Nodup) (hm : ∀ y, y ∈ l ↔ P y = true) (hP : ∀ y, P y = true → y ∈ keys) : l.length = (keys.filter P).length := by
  have h1 := nd_le l (keys.filter P) hl (fun y hy => List.mem_filter.2 ⟨hP y ((hm y).1 hy), (hm y).1 hy⟩)
  have h2 := nd_le (keys.filter P) l (hk.filter _) (fun y hy => (hm y).2 (List.mem_filter.1 hy).2)
  omega
def keysG (G : Dg) : List ID := G.map (·.1)
theorem par_mem {G : Dg} (hk : okG G) (d : ID) (ps : List ID) : parents G d = some ps ↔ (d, ps) ∈ G := by
  induction G with
  | nil => simp [parents]
  | cons q G ih =>
    obtain ⟨z, qs⟩ := q
    obtain ⟨h1, h2, h3, h4⟩ := hk
    unfold parents
    by_cases e : d = z
    · rw [if_pos e]
      constructor
      · intro h; injection h with h; simp [e, h]
      · intro h
        rcases List.mem_cons.1 h with h | h
        · injection h with _ h; rw [h]
        · have : hasG G z = true := (hasG_mem G z).2 (by rw [← e]; exact List.mem_map.2 ⟨_, h, rfl⟩)
          rw [this] at h2; cases h2
    · rw [if_neg e, ih h4]
      simp [e]
def comB (G : Dg) (x y z : ID) : Bool := ancG G x z && ancG G y z
def basB (G : Dg) (x y z : ID) : Bool := comB G x y z && !(G.any fun q => comB G x y q.1 && decide (z ∈ q.2))
theorem basB_iff {G : Dg} (hk : okG G) (x y z : ID) : ((ancG G x z = true ∧ ancG G y z = true) ∧ ¬ ∃ d ps, (ancG G x d = true ∧ ancG G y d = true) ∧ parents G d = some ps ∧ z ∈ ps) ↔ basB G x y z = true := by
  unfold basB comB
  rw [Bool.and_eq_true, Bool.and_eq_true, Bool.not_eq_true', ← Bool.not_eq_true]
  refine and_congr_right (fun _ => not_congr ?_)
  rw [List.any_eq_true]
  constructor
  · rintro ⟨d, ps, h1, h2, h3⟩
    exact ⟨(d, ps), (par_mem hk d ps).1 h2, by simp [h1.1, h1.2, h3]⟩
  · rintro ⟨⟨d, ps⟩, h1, h2⟩
    simp only [Bool.and_eq_true, decide_eq_true_eq] at h2
    exact ⟨d, ps, h2.1, (par_mem hk d ps).2 h1, h2.2⟩
theorem basB_key {G : Dg} (hk : okG G) {x y z : ID} (h : basB G x y z = true) : z ∈ keysG G := by
  unfold basB comB at h
  simp only [Bool.and_eq_true] at h
  exact (hasG_mem G z).1 (anc_has hk h.1.1).2
def reB (G : Dg) (ids : List ID) (z : ID) : Bool := ids.any fun i => ancG G i z
theorem reB_iff (G : Dg) (ids : List ID) (z : ID) : Reached G ids z ↔ reB G ids z = true := by simp [Reached, reB]
theorem reB_key {G : Dg} (hk : okG G) {ids : List ID} {z : ID} (h : reB G ids z = true) : z ∈ keysG G := by
  simp only [reB, List.any_eq_true] at h
  obtain ⟨i, _, h⟩ := h
  exact (hasG_mem G z).1 (anc_has hk h).2
def heB (G : Dg) (z : ID) : Bool := hasG G z && !isKid G z
theorem heB_iff (G : Dg) (z : ID) : (hasG G z = true ∧ isKid G z = false) ↔ heB G z = true := by simp [heB]
theorem heB_key {G : Dg} {z : ID} (h : heB G z = true) : z ∈ keysG G := by
  simp only [heB, Bool.and_eq_true] at h
  exact (hasG_mem G z).1 h.1
/-- what is rising and gathered: how many -/
theorem rise_len {G : Dg} (hk : okG G) {cf : ID → ID → Int} (hO : SWO (ltOf cf)) {l : List ID} (hl : Rise cf l) {P : ID → Bool} (hm : ∀ y, y ∈ l ↔ P y = true) (hP : ∀ y, P y = true → y ∈ keysG G) : l.length = ((keysG G).filter P).length :=
  len_of (rise_nd hO hl) (okG_nd hk) hm hP
/-- .. and which -/
theorem rise_is {cf : ID → ID → Int} (hO : SWO (ltOf cf)) {l m keys : List ID} (hl : Rise cf l) {P : ID → Bool} (hm : ∀ y, y ∈ l ↔ P y = true) (hP : ∀ y, P y = true → y ∈ keys) (hr : Rise cf m) (h1 : ∀ y ∈ m, P y = true) (h2 : ∀ y ∈ keys, P y = true → y ∈ m) : l = m :=
  rise_eq hO hl hr (fun y => (hm y).trans ⟨fun h => h2 y (hP y h) h, fun h => h1 y h⟩)

/-! the document's example -/
def ia : ID := id2 1 0
def ib : ID := id2 2 0
def ic : ID := id2 3 0
def i4 : ID := id2 4 0
def i5 : ID := id2 5 0
def exN : List (ID × List ID) := [(ia, []), (ib, [ia]), (ic, [ia]), (i4, [ib, ic]), (i5, [ib, ic])]
def exG (k : Nat) : Dg := (exN.take k).reverse
theorem ex_add : ∀ k, k < 5 → addG (exG k) (exN.getD k (zID, [])).1 (exN.getD k (zID, [])).2 = (0, exG (k + 1)) := by decide +kernel
theorem ex_bas : ((keysG (exG 5)).all fun z => decide (basB (exG 5) i4 i5 z = true ↔ z ∈ [ib, ic])) = true := by decide +kernel
theorem ex_rise : cmpI ib ic < 0 := by decide +kernel
theorem ex_depth : depthG (exG 5) i4 = 3 := by decide +kernel
theorem ex_anc : ((keysG (exG 5)).filter (reB (exG 5) [i4])).length = 4 := by decide +kernel
theorem ex_heads : ((keysG (exG 5)).filter (heB (exG 5))).length = 2 := by decide +kernel
theorem ex_reach : ancG (exG 5) i4 ia = true := by decide +kernel
theorem ex_has : hasG (exG 5) ia = true := by decide +kernel
theorem ex_par : (parents (exG 5) ib).getD [] = [ia] := by decide +kernel
theorem ex_len : (exG 5).length = 5 := by decide +kernel
theorem ex_bases {l : List ID} (hk : okG (exG 5)) (hl : Rise cmpI l) (hm : ∀ y, y ∈ l ↔ basB (exG 5) i4 i5 y = true) : l = [ib, ic] := by
  have ha := List.all_eq_true.1 ex_bas
  refine rise_is (keys := keysG (exG 5)) swoI hl hm (fun y => basB_key hk) (by unfold Rise; simp [ex_rise]) ?_ (fun y hy hb => by have := ha y hy; simp only [decide_eq_true_eq] at this; exact this.1 hb)
  intro y hy
  have hk2 : y ∈ keysG (exG 5) := by
    have : ∀ y ∈ [ib, ic], y ∈ keysG (exG 5) := by decide +kernel
    exact this y hy
  have := ha y hk2
  simp only [decide_eq_true_eq] at this
  exact this.2 hy
end Go.Proofs.Ytchiclnnoealdaa
