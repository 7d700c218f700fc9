/- Plain: bases and heads stand above all; how ancestors stand in their row. -/
import Derived.Test.YtchiclnnoealdaaLinesP
namespace Go.Proofs.Ytchiclnnoealdaa
open Go.RowKit Go.Maps Go.Sort Go.Shelf
set_option linter.unusedVariables false
set_option linter.unusedSimpArgs false

/-- an ancestor that is another one is a parent of an ancestor -/
theorem anc_last {g : Dg} (hk : okG g) {x y : ID} (h : ancG g x y = true) (hne : x ≠ y) : ∃ d ps, ancG g x d = true ∧ parents g d = some ps ∧ y ∈ ps := by
  have hx := (anc_has hk h).1
  have := anc_closed hk (fun u => ancG g x u = true ∧ (u = x ∨ ∃ d ps, ancG g x d = true ∧ parents g d = some ps ∧ u ∈ ps)) ?_ ⟨anc_refl hx, .inl rfl⟩ h
  · exact this.2.elim (fun e => absurd e.symm hne) id
  · intro u qs hu hq p hm
    exact ⟨anc_step hk hu.1 hq hm, .inr ⟨u, qs, hu.1, hq, hm⟩⟩
/-- what is a base of two -/
def BaseOf (G : Dg) (x y z : ID) : Prop := (ancG G x z = true ∧ ancG G y z = true) ∧ ¬ ∃ d ps, (ancG G x d = true ∧ ancG G y d = true) ∧ parents G d = some ps ∧ z ∈ ps
theorem base_swap {G : Dg} {x y z : ID} : BaseOf G x y z ↔ BaseOf G y x z := by
  have e : ∀ d, (ancG G x d = true ∧ ancG G y d = true) ↔ (ancG G y d = true ∧ ancG G x d = true) := fun d => And.comm
  unfold BaseOf
  rw [e]
  refine and_congr_right (fun _ => not_congr ⟨?_, ?_⟩)
  · rintro ⟨d, ps, h1, h2⟩; exact ⟨d, ps, (e d).1 h1, h2⟩
  · rintro ⟨d, ps, h1, h2⟩; exact ⟨d, ps, (e d).2 h1, h2⟩
theorem base_apart {G : Dg} (hk : okG G) {x y p q : ID} (hp : BaseOf G x y p) (hq : BaseOf G x y q) (hne : p ≠ q) : ancG G p q = false := by
  rw [← Bool.not_eq_true]
  intro h
  obtain ⟨d, ps, h1, h2, h3⟩ := anc_last hk h hne
  exact hq.2 ⟨d, ps, ⟨anc_trans hk hp.1.1 h1, anc_trans hk hp.1.2 h1⟩, h2, h3⟩
theorem base_top {G : Dg} (hk : okG G) {x y : ID} : ∀ (k : Nat) (c : ID), G.length - depthG G c = k → ancG G x c = true → ancG G y c = true → ∃ p, BaseOf G x y p ∧ ancG G p c = true := by
  intro k
  induction k using Nat.strongRecOn with
  | ind k ih =>
    intro c hc h1 h2
    by_cases h : ∃ d ps, (ancG G x d = true ∧ ancG G y d = true) ∧ parents G d = some ps ∧ c ∈ ps
    · obtain ⟨d, ps, hd, hp, hm⟩ := h
      have hl := depth_lt hk hp hm
      have hle := depth_le G d
      obtain ⟨p, hp1, hp2⟩ := ih (G.length - depthG G d) (by omega) d rfl hd.1 hd.2
      exact ⟨p, hp1, anc_step hk hp2 hp hm⟩
    · exact ⟨c, ⟨⟨h1, h2⟩, h⟩, anc_refl (anc_has hk h1).2⟩
theorem head_top {G : Dg} (hk : okG G) : ∀ (k : Nat) (c : ID), G.length - depthG G c = k → hasG G c = true → ∃ p, (hasG G p = true ∧ isKid G p = false) ∧ ancG G p c = true := by
  intro k
  induction k using Nat.strongRecOn with
  | ind k ih =>
    intro c hc h1
    by_cases h : isKid G c = true
    · simp only [isKid, List.any_eq_true, decide_eq_true_eq] at h
      obtain ⟨⟨d, ps⟩, hm, hc2⟩ := h
      have hp := (par_mem hk d ps).2 hm
      have hl := depth_lt hk hp hc2
      have hle := depth_le G d
      have hd : hasG G d = true := by simp [hasG, hp]
      obtain ⟨p, hp1, hp2⟩ := ih (G.length - depthG G d) (by omega) d rfl hd
      exact ⟨p, hp1, anc_step hk hp2 hp hc2⟩
    · exact ⟨c, ⟨h1, by simpa using h⟩, anc_refl h1⟩
theorem head_apart {G : Dg} (hk : okG G) {x h : ID} (hh : isKid G h = false) (hne : x ≠ h) : ancG G x h = false := by
  rw [← Bool.not_eq_true]
  intro ha
  obtain ⟨d, ps, h1, h2, h3⟩ := anc_last hk ha hne
  have : isKid G h = true := by
    simp only [isKid, List.any_eq_true, decide_eq_true_eq]
    exact ⟨(d, ps), (par_mem hk d ps).1 h2, h3⟩
  rw [this] at hh; cases hh
theorem heads_all {G : Dg} (hk : okG G) {cf : ID → ID → Int} (hO : SWO (ltOf cf)) {hs l : List ID} (hh : ∀ y, y ∈ hs ↔ (hasG G y = true ∧ isKid G y = false)) (hl : Rise cf l) (hm : ∀ y, y ∈ l ↔ Reached G hs y) : l.length = G.length := by
  rw [rise_len hk hO hl (P := hasG G) (fun y => (hm y).trans ?_) (fun y hy => (hasG_mem G y).1 hy)]
  · have : (keysG G).filter (hasG G) = keysG G := List.filter_eq_self.2 (fun y hy => (hasG_mem G y).2 hy)
    rw [this]
    simp [keysG]
  · constructor
    · rintro ⟨i, _, hi⟩; exact (anc_has hk hi).2
    · intro hy
      obtain ⟨p, hp, ha⟩ := head_top hk _ y rfl hy
      exact ⟨p, (hh p).2 hp, ha⟩
theorem rise_get {cf : ID → ID → Int} {l : List ID} (h : Rise cf l) {i j : Nat} (hi : i < j) (hj : j < l.length) : cf (l[i]'(by omega)) l[j] < 0 := by
  unfold Rise at h
  rw [List.pairwise_iff_getElem] at h
  exact h i j (by omega) hj hi
/-- in the row of ancestors a parent stands ahead -/
theorem par_ahead {G : Dg} (hk : okG G) {ids l : List ID} (hl : Rise (cfD G) l) (hm : ∀ y, y ∈ l ↔ Reached G ids y) {n : Nat} (hn : n < l.length) {ps : List ID} (hp : parents G l[n] = some ps) {p : ID} (hpm : p ∈ ps) : p ∈ l.take n ∧ depthG G p < depthG G l[n] := by
  have hd := depth_lt hk hp hpm
  refine ⟨?_, hd⟩
  have hpl : p ∈ l := by
    obtain ⟨i, hi, ha⟩ := (hm _).1 (List.getElem_mem hn)
    exact (hm p).2 ⟨i, hi, anc_step hk ha hp hpm⟩
  obtain ⟨j, hj, rfl⟩ := List.getElem_of_mem hpl
  rcases Nat.lt_trichotomy j n with h | h | h
  · rw [List.mem_take_iff_getElem]
    exact ⟨j, by omega, rfl⟩
  · subst h; omega
  · have := (cfD_lt G _ _).1 (rise_get hl h hj)
    omega
theorem not_ahead {G : Dg} {l : List ID} (hl : Rise (cfD G) l) {n : Nat} (hn : n < l.length) : l[n] ∉ l.take n := by
  intro h
  rw [List.mem_take_iff_getElem] at h
  obtain ⟨j, hj, e⟩ := h
  have := rise_nd (swoD G) hl
  rw [List.nodup_iff_pairwise_ne, List.pairwise_iff_getElem] at this
  exact this j n (by omega) hn (by omega) e
theorem dep_ahead {G : Dg} {l : List ID} (hl : Rise (cfD G) l) {n : Nat} (h0 : 0 < n) (hn : n < l.length) : depthG G (l[n - 1]'(by omega)) ≤ depthG G l[n] := by
  have := (cfD_lt G _ _).1 (rise_get hl (show n - 1 < n by omega) hn)
  omega
theorem rowL_len (n : Nat) : (rowL n).length = n := by simp [rowL]
theorem rowL_succ (n : Nat) : rowL (n + 1) = rowL n ++ [LL n] := by simp [rowL, List.range_succ]
theorem rowL_get {n i : Nat} (h : i < (rowL n).length) : (rowL n)[i] = LL i := by simp [rowL]
/-! the commits that numbers say -/
theorem LL_lt : ∀ j, j < 60 → ∀ i, i < j → cmpI (LL i) (LL j) < 0 := by decide +kernel
/-- keys are 1 to m -/
structure NumG (G : Dg) (m : Nat) : Prop where
  ok : okG G
  le : m ≤ 60
  len : G.length = m
  has : ∀ y, hasG G y = true ↔ ∃ j, j < m ∧ y = LL j
theorem NumG.nil : NumG [] 0 := ⟨trivial, by omega, rfl, fun y => by simp [hasG, parents]⟩
theorem NumG.new {G : Dg} {m : Nat} (h : NumG G m) : hasG G (LL m) = false := by
  rw [← Bool.not_eq_true, h.has]
  rintro ⟨j, hj, e⟩
  have := h.le
  have := LL_inj (by omega) (by omega) e
  omega
/-- the parents of the next one -/
def ParOk (m : Nat) (ps : List ID) : Prop := ps = [] ∨ (∃ i, i < m ∧ ps = [LL i]) ∨ (∃ i j, i < j ∧ j < m ∧ ps = [LL i, LL j])
theorem ParOk.len {m : Nat} {ps : List ID} (h : ParOk m ps) : ps.length ≤ 2 := by
  rcases h with rfl | ⟨i, _, rfl⟩ | ⟨i, j, _, _, rfl⟩ <;> simp
theorem NumG.add {G : Dg} {m : Nat} (h : NumG G m) (hm : m < 60) {ps : List ID} (hp : ParOk m ps) : addG G (LL m) ps = (0, (LL m, ps) :: G) ∧ NumG ((LL m, ps) :: G) (m + 1) := by
  have hn := h.new
  have hz : LL m ≠ zID := LL_z (by omega)
  have hr : rightL (LL m) ps = true := by
    rcases hp with rfl | ⟨i, hi, rfl⟩ | ⟨i, j, hij, hj, rfl⟩
    · simp [rightL, asc, hz]
    · simp [rightL, asc, hz]
    · simp [rightL, asc, hz, LL_lt j (by omega) i hij]
  have ha : ∀ p ∈ ps, hasG G p = true := by
    rcases hp with rfl | ⟨i, hi, rfl⟩ | ⟨i, j, hij, hj, rfl⟩
    · simp
    · intro p hpm
      have : p = LL i := by simpa using hpm
      exact (h.has p).2 ⟨i, hi, this⟩
    · intro p hpm
      simp only [List.mem_cons, List.not_mem_nil, or_false] at hpm
      rcases hpm with e | e
      · exact (h.has p).2 ⟨i, by omega, e⟩
      · exact (h.has p).2 ⟨j, hj, e⟩
  have hpn : parents G (LL m) = none := by
    unfold hasG at hn
    cases hq : parents G (LL m) with
    | none => rfl
    | some q => rw [hq] at hn; cases hn
  refine ⟨by simp [addG, hr, hpn, List.all_eq_true.2 ha], ⟨⟨hr, hn, ha, h.ok⟩, by omega, by simp [h.len], fun y => ?_⟩⟩
  rw [hasG_cons, Bool.or_eq_true, decide_eq_true_eq, h.has]
  constructor
  · rintro (e | ⟨j, hj, e⟩)
    · exact ⟨m, by omega, e⟩
    · exact ⟨j, by omega, e⟩
  · rintro ⟨j, hj, e⟩
    rcases Nat.lt_or_ge j m with hl | hl
    · exact .inr ⟨j, hl, e⟩
    · have : j = m := by omega
      subst this; exact .inl e
end Go.Proofs.Ytchiclnnoealdaa
