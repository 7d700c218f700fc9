/- Plain: commits in a line. -/
import Derived.Test.YtchiclnnoealdaaKnotsP
namespace Go.Proofs.Ytchiclnnoealdaa
open Go.RowKit Go.Maps Go.Sort Go.Shelf
set_option linter.unusedVariables false
set_option linter.unusedSimpArgs false

theorem id2_inj {a b c d : Nat} (ha : a < 256) (hb : b < 256) (hc : c < 256) (hd : d < 256) (h : id2 a b = id2 c d) : a = c ∧ b = d := by
  have h1 := congrArg Subtype.val h
  simp only [id2, List.cons.injEq, and_true] at h1
  have e1 := congrArg UInt8.toNat h1.1
  have e2 := congrArg UInt8.toNat h1.2
  rw [UInt8.toNat_ofNat', UInt8.toNat_ofNat'] at e1 e2
  omega
def LL (i : Nat) : ID := id2 (i + 1) 0
def lastL : Nat → List ID
  | 0 => []
  | n + 1 => [LL n]
def LG : Nat → Dg
  | 0 => []
  | n + 1 => (LL n, lastL n) :: LG n
theorem LL_inj {i j : Nat} (hi : i < 255) (hj : j < 255) (h : LL i = LL j) : i = j := by
  have := id2_inj (by omega) (by omega) (by omega) (by omega) h
  omega
theorem LL_z {i : Nat} (hi : i < 255) : LL i ≠ zID := by
  intro h
  have h1 := congrArg Subtype.val h
  have e : (zID.1 : List UInt8) = 0 :: 0 :: List.replicate 30 0 := rfl
  rw [e] at h1
  simp only [LL, id2, List.cons.injEq, and_true] at h1
  have e1 := congrArg UInt8.toNat h1.1
  rw [UInt8.toNat_ofNat'] at e1
  have : (0 : UInt8).toNat = 0 := rfl
  omega
theorem LG_len (n : Nat) : (LG n).length = n := by
  induction n with
  | zero => rfl
  | succ n ih => simp [LG, ih]
theorem LG_has (n : Nat) (y : ID) : hasG (LG n) y = true ↔ ∃ j, j < n ∧ y = LL j := by
  induction n with
  | zero => simp [LG, hasG, parents]
  | succ n ih =>
    rw [LG, hasG_cons, Bool.or_eq_true, decide_eq_true_eq, ih]
    constructor
    · rintro (h | ⟨j, hj, h⟩)
      · exact ⟨n, by omega, h⟩
      · exact ⟨j, by omega, h⟩
    · rintro ⟨j, hj, h⟩
      rcases Nat.lt_or_ge j n with hl | hl
      · exact .inr ⟨j, hl, h⟩
      · have : j = n := by omega
        subst this; exact .inl h
theorem LG_new {n : Nat} (hn : n < 255) : hasG (LG n) (LL n) = false := by
  rw [← Bool.not_eq_true, LG_has]
  rintro ⟨j, hj, h⟩
  have := LL_inj hn (by omega) h
  omega
theorem LG_par {n : Nat} (h : hasG (LG n) (LL n) = false) : parents (LG n) (LL n) = none := by
  unfold hasG at h
  cases hp : parents (LG n) (LL n) with
  | none => rfl
  | some q => rw [hp] at h; cases h
theorem lastL_right {n : Nat} (hn : n < 255) : rightL (LL n) (lastL n) = true := by
  cases n <;> simp [rightL, lastL, asc, LL_z hn]
theorem lastL_has (n : Nat) : ∀ p ∈ lastL n, hasG (LG n) p = true := by
  cases n with
  | zero => simp [lastL]
  | succ n =>
    intro p hp
    have : p = LL n := by simpa [lastL] using hp
    rw [LG_has]; exact ⟨n, by omega, this⟩
theorem LG_ok : ∀ {n : Nat}, n ≤ 255 → okG (LG n)
  | 0, _ => trivial
  | n + 1, h => ⟨lastL_right (by omega), LG_new (by omega), lastL_has n, LG_ok (by omega)⟩
theorem LG_add {n : Nat} (hn : n < 255) : addG (LG n) (LL n) (lastL n) = (0, LG (n + 1)) := by
  have h2 : (lastL n).all (hasG (LG n)) = true := List.all_eq_true.2 (lastL_has n)
  simp [addG, lastL_right hn, LG_par (LG_new hn), h2, LG]
theorem LG_again {n : Nat} (hn : n < 255) : addG (LG (n + 1)) (LL n) (lastL n) = (0, LG (n + 1)) := by
  simp [addG, lastL_right hn, LG, parents]
theorem LG_twice {n : Nat} (hn : n < 76) : addG (LG (n + 1)) (LL n) [id2 77 0] = (5, LG (n + 1)) := by
  have h1 : rightL (LL n) [id2 77 0] = true := by simp [rightL, asc, LL_z (show n < 255 by omega)]
  have h2 : lastL n ≠ [id2 77 0] := by
    cases n with
    | zero => simp [lastL]
    | succ n =>
      intro h
      have h : LL n = id2 77 0 := by simpa [lastL] using h
      have := id2_inj (by omega) (by omega) (by omega) (by omega) h
      omega
  simp [addG, h1, LG, parents, h2]
theorem LG_99 {n : Nat} (hn : n < 90) : addG (LG n) (id2 99 0) [id2 98 0] = (110, LG n) := by
  have h1 : rightL (id2 99 0) [id2 98 0] = true := by decide +kernel
  have nh : ∀ m, 90 < m → m < 256 → hasG (LG n) (id2 m 0) = false := by
    intro m h1 h2
    rw [← Bool.not_eq_true, LG_has]
    rintro ⟨j, hj, h⟩
    have := id2_inj h2 (by omega) (by omega) (by omega) h
    omega
  have hp : parents (LG n) (id2 99 0) = none := by
    have := nh 99 (by omega) (by omega)
    unfold hasG at this
    cases hp : parents (LG n) (id2 99 0) with
    | none => rfl
    | some q => rw [hp] at this; cases this
  simp [addG, h1, hp, nh 98 (by omega) (by omega)]
theorem addG_zero (G : Dg) : addG G zID [] = (1, G) := by simp [addG, rightL]
theorem LG_anc {n : Nat} (hn : n ≤ 255) {i : Nat} (hi : i < n) (y : ID) : ancG (LG n) (LL i) y = true ↔ ∃ j, j ≤ i ∧ y = LL j := by
  induction n generalizing i with
  | zero => omega
  | succ n ih =>
    rw [LG, ancG]
    by_cases e : i = n
    · subst e
      rw [if_pos rfl, Bool.or_eq_true, decide_eq_true_eq]
      cases i with
      | zero =>
        simp only [lastL, List.any_nil]
        constructor
        · rintro (h | h)
          · exact ⟨0, by omega, h⟩
          · cases h
        · rintro ⟨j, hj, h⟩
          have : j = 0 := by omega
          subst this; exact .inl h
      | succ i =>
        simp only [lastL, List.any_cons, List.any_nil, Bool.or_false]
        rw [ih (by omega) (by omega)]
        constructor
        · rintro (h | ⟨j, hj, h⟩)
          · exact ⟨_, Nat.le_refl _, h⟩
          · exact ⟨j, by omega, h⟩
        · rintro ⟨j, hj, h⟩
          rcases Nat.lt_or_ge i j with hl | hl
          · have : j = i + 1 := by omega
            subst this; exact .inl h
          · exact .inr ⟨j, hl, h⟩
    · have hne : LL i ≠ LL n := fun h => e (LL_inj (by omega) (by omega) h)
      rw [if_neg hne]
      exact ih (by omega) (by omega)
theorem LG_dep {n : Nat} (hn : n ≤ 255) {i : Nat} (hi : i < n) : depthG (LG n) (LL i) = i + 1 := by
  induction n generalizing i with
  | zero => omega
  | succ n ih =>
    rw [LG, depthG]
    by_cases e : i = n
    · subst e
      rw [if_pos rfl]
      cases i with
      | zero => rfl
      | succ i =>
        simp only [lastL, upD, List.foldl_cons, List.foldl_nil]
        rw [ih (by omega) (by omega)]
        omega
    · have hne : LL i ≠ LL n := fun h => e (LL_inj (by omega) (by omega) h)
      rw [if_neg hne]
      exact ih (by omega) (by omega)
theorem LG_reach {n : Nat} (hn : n ≤ 255) {i k : Nat} (hi : i < n) (hk : k < n) : ancG (LG n) (LL i) (LL k) = decide (k ≤ i) := by
  rw [Bool.eq_iff_iff, LG_anc hn hi, decide_eq_true_eq]
  constructor
  · rintro ⟨j, hj, h⟩
    have := LL_inj (by omega) (by omega) h
    omega
  · intro h; exact ⟨k, h, rfl⟩
def rowL (n : Nat) : List ID := (List.range n).map LL
theorem rowL_nd {n : Nat} (hn : n ≤ 255) : (rowL n).Nodup := by
  unfold rowL List.Nodup
  rw [List.pairwise_map]
  refine List.Pairwise.imp_of_mem ?_ List.nodup_range
  intro a b ha hb hab h
  rw [List.mem_range] at ha hb
  exact hab (LL_inj (by omega) (by omega) h)
theorem LG_ancs {n : Nat} (hn : n ≤ 255) {i : Nat} (hi : i < n) {cf : ID → ID → Int} (hO : SWO (ltOf cf)) {l : List ID} (hl : Rise cf l) (hm : ∀ y, y ∈ l ↔ Reached (LG n) [LL i] y) : l.length = i + 1 := by
  have hm' : ∀ y, y ∈ l ↔ ∃ j, j ≤ i ∧ y = LL j := by
    intro y
    rw [hm, ← LG_anc hn hi]
    simp [Reached]
  have e : l.length = ((rowL (i + 1)).filter (fun y => decide (y ∈ l))).length :=
    len_of (rise_nd hO hl) (rowL_nd (by omega)) (fun y => by simp) (fun y hy => by
      have hy : y ∈ l := by simpa using hy
      obtain ⟨j, hj, h⟩ := (hm' y).1 hy
      exact List.mem_map.2 ⟨j, List.mem_range.2 (by omega), h.symm⟩)
  rw [List.filter_eq_self.2] at e
  · simpa [rowL] using e
  · intro y hy
    obtain ⟨j, hj, h⟩ := List.mem_map.1 hy
    rw [List.mem_range] at hj
    simpa using (hm' y).2 ⟨j, by omega, h.symm⟩
theorem LG_kid {n : Nat} (y : ID) : isKid (LG n) y = true ↔ ∃ j, j + 1 < n ∧ y = LL j := by
  induction n with
  | zero => simp [LG, isKid]
  | succ n ih =>
    rw [LG, isKid_cons, Bool.or_eq_true, decide_eq_true_eq, ih]
    cases n with
    | zero => simp [lastL]
    | succ n =>
      simp only [lastL, List.mem_singleton]
      constructor
      · rintro (h | ⟨j, hj, h⟩)
        · exact ⟨n, by omega, h⟩
        · exact ⟨j, by omega, h⟩
      · rintro ⟨j, hj, h⟩
        rcases Nat.lt_or_ge j n with hl | hl
        · exact .inr ⟨j, by omega, h⟩
        · have : j = n := by omega
          subst this; exact .inl h
theorem LG_heads {n : Nat} (hn : n < 255) {l : List ID} (hl : Rise cmpI l) (hm : ∀ y, y ∈ l ↔ (hasG (LG (n + 1)) y = true ∧ isKid (LG (n + 1)) y = false)) : l = [LL n] := by
  refine rise_eq swoI hl (by unfold Rise; simp) (fun y => ?_)
  rw [hm, LG_has, ← Bool.not_eq_true, LG_kid, List.mem_singleton]
  constructor
  · rintro ⟨⟨j, hj, h⟩, hn'⟩
    by_cases e : j = n
    · subst e; exact h
    · exact absurd ⟨j, by omega, h⟩ hn'
  · rintro rfl
    refine ⟨⟨n, by omega, rfl⟩, ?_⟩
    rintro ⟨j, hj, h⟩
    have := LL_inj hn (by omega) h
    omega
/-- the bases of a commit and its ancestor, the other way round -/
theorem bases_anc2 {G : Dg} (hk : okG G) {x y : ID} (h : ancG G y x = true) {l : List ID} (hl : Rise cmpI l) (hm : ∀ z, z ∈ l ↔ ((ancG G x z = true ∧ ancG G y z = true) ∧ ¬ ∃ d ps, (ancG G x d = true ∧ ancG G y d = true) ∧ parents G d = some ps ∧ z ∈ ps)) : l = [x] := by
  refine bases_anc hk h hl (fun z => ?_)
  rw [hm z]
  have e : ∀ d, (ancG G x d = true ∧ ancG G y d = true) ↔ (ancG G y d = true ∧ ancG G x d = true) := fun d => And.comm
  rw [e]
  refine and_congr_right (fun _ => not_congr ⟨?_, ?_⟩)
  · rintro ⟨d, ps, h1, h2⟩; exact ⟨d, ps, (e d).1 h1, h2⟩
  · rintro ⟨d, ps, h1, h2⟩; exact ⟨d, ps, (e d).2 h1, h2⟩
theorem LG_bases {n : Nat} (hn : n ≤ 255) {i k : Nat} (hi : i < n) (hk : k < n) {l : List ID} (hl : Rise cmpI l) (hm : ∀ z, z ∈ l ↔ ((ancG (LG n) (LL i) z = true ∧ ancG (LG n) (LL k) z = true) ∧ ¬ ∃ d ps, (ancG (LG n) (LL i) d = true ∧ ancG (LG n) (LL k) d = true) ∧ parents (LG n) d = some ps ∧ z ∈ ps)) : l = [LL (min i k)] := by
  rcases Nat.le_total k i with h | h
  · rw [Nat.min_eq_right h]
    exact bases_anc (LG_ok hn) (by rw [LG_reach hn hi hk]; simpa using h) hl hm
  · rw [Nat.min_eq_left h]
    exact bases_anc2 (LG_ok hn) (by rw [LG_reach hn hk hi]; simpa using h) hl hm
end Go.Proofs.Ytchiclnnoealdaa
