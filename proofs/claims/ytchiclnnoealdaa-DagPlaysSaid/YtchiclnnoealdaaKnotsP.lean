/- Plain: two commits on the same two, again and again; the bases of a commit and its ancestor. -/
import Derived.Test.YtchiclnnoealdaaDagR
namespace Go.Proofs.Ytchiclnnoealdaa
open Go.RowKit Go.Maps Go.Sort Go.Shelf
set_option linter.unusedVariables false
set_option linter.unusedSimpArgs false

structure KInv (G : Dg) (a b : ID) (dep : Nat) : Prop where
  ok : okG G
  ha : hasG G a = true
  hb : hasG G b = true
  lt : cmpI a b < 0
  na : a ≠ zID
  nb : b ≠ zID
  aa : ∀ y, ancG G a y = true ↔ hasG G y = true ∧ y ≠ b
  ab : ∀ y, ancG G b y = true ↔ hasG G y = true ∧ y ≠ a
  kid : ∀ y, isKid G y = true ↔ hasG G y = true ∧ y ≠ a ∧ y ≠ b
  da : depthG G a = dep
  db : depthG G b = dep
theorem ne_of_lt {a b : ID} (h : cmpI a b < 0) : a ≠ b := by rintro rfl; rw [cmpI_self] at h; omega
theorem isKid_cons (z : ID) (ps : List ID) (G : Dg) (y : ID) : isKid ((z, ps) :: G) y = (decide (y ∈ ps) || isKid G y) := rfl
theorem has_ne {G : Dg} {x y : ID} (hx : hasG G x = true) (hy : hasG G y = false) : x ≠ y := by rintro rfl; rw [hx] at hy; cases hy
section
variable {G : Dg} {a b c d : ID} {dep : Nat}
theorem right2 (h : cmpI a b < 0) (x : ID) (hx : x ≠ zID) : rightL x [a, b] = true := by simp [rightL, asc, h, hx]
theorem KInv.add1 (h : KInv G a b dep) (hc : hasG G c = false) (nc : c ≠ zID) : addG G c [a, b] = (0, (c, [a, b]) :: G) := by
  have hp : parents G c = none := by unfold hasG at hc; cases hp : parents G c with | none => rfl | some q => rw [hp] at hc; cases hc
  simp [addG, right2 h.lt c nc, hp, h.ha, h.hb]
theorem KInv.add2 (h : KInv G a b dep) (hc : hasG G c = false) (hd : hasG G d = false) (hcd : c ≠ d) (nd : d ≠ zID) : addG ((c, [a, b]) :: G) d [a, b] = (0, (d, [a, b]) :: (c, [a, b]) :: G) := by
  have hd' : hasG ((c, [a, b]) :: G) d = false := by rw [hasG_cons]; simp [Ne.symm hcd, hd]
  have hp : parents ((c, [a, b]) :: G) d = none := by unfold hasG at hd'; cases hp : parents ((c, [a, b]) :: G) d with | none => rfl | some q => rw [hp] at hd'; cases hd'
  have h1 : hasG ((c, [a, b]) :: G) a = true := by rw [hasG_cons]; simp [h.ha]
  have h2 : hasG ((c, [a, b]) :: G) b = true := by rw [hasG_cons]; simp [h.hb]
  simp [addG, right2 h.lt d nd, hp, h1, h2]
theorem KInv.add3 (h : KInv G a b dep) (x : ID) (G' : Dg) : addG G' x [b, a] = (1, G') := by
  have : ¬ cmpI b a < 0 := by have := cmpI_anti a b; have := h.lt; omega
  simp [addG, rightL, asc, this]
theorem KInv.step (h : KInv G a b dep) (hc : hasG G c = false) (hd : hasG G d = false) (hcd : cmpI c d < 0) (nc : c ≠ zID) (nd : d ≠ zID) : KInv ((d, [a, b]) :: (c, [a, b]) :: G) c d (dep + 1) := by
  have ecd := ne_of_lt hcd
  have eab := ne_of_lt h.lt
  have eac := has_ne h.ha hc
  have ebc := has_ne h.hb hc
  have ead := has_ne h.ha hd
  have ebd := has_ne h.hb hd
  have hany : ∀ y, (ancG G a y = true ∨ ancG G b y = true) ↔ hasG G y = true := by
    intro y
    rw [h.aa, h.ab]
    constructor
    · rintro (h | h) <;> exact h.1
    · intro hy
      by_cases e : y = b
      · exact .inr ⟨hy, by rw [e]; exact Ne.symm eab⟩
      · exact .inl ⟨hy, e⟩
  have hh : ∀ y, hasG ((d, [a, b]) :: (c, [a, b]) :: G) y = true ↔ y = d ∨ y = c ∨ hasG G y = true := by
    intro y; rw [hasG_cons, hasG_cons]; simp
  have ok1 : okG ((c, [a, b]) :: G) := ⟨right2 h.lt c nc, hc, by simp [h.ha, h.hb], h.ok⟩
  have hd1 : hasG ((c, [a, b]) :: G) d = false := by rw [hasG_cons]; simp [Ne.symm ecd, hd]
  have ok2 : okG ((d, [a, b]) :: (c, [a, b]) :: G) := ⟨right2 h.lt d nd, hd1, by simp [hasG_cons, h.ha, h.hb], ok1⟩
  refine ⟨ok2, (hh c).2 (by simp), (hh d).2 (by simp), hcd, nc, nd, ?_, ?_, ?_, ?_, ?_⟩
  · intro y
    have e : ancG ((d, [a, b]) :: (c, [a, b]) :: G) c y = (decide (y = c) || [a, b].any (fun p => ancG G p y)) := by
      rw [ancG, if_neg ecd, ancG, if_pos rfl]
    rw [e, hh]
    simp only [List.any_cons, List.any_nil, Bool.or_false, Bool.or_eq_true, decide_eq_true_eq, hany]
    constructor
    · rintro (rfl | hy)
      · exact ⟨.inr (.inl rfl), ecd⟩
      · exact ⟨.inr (.inr hy), has_ne hy hd⟩
    · rintro ⟨rfl | rfl | hy, hn⟩
      · exact absurd rfl hn
      · exact .inl rfl
      · exact .inr hy
  · intro y
    have e : ancG ((d, [a, b]) :: (c, [a, b]) :: G) d y = (decide (y = d) || [a, b].any (fun p => ancG G p y)) := by
      rw [ancG, if_pos rfl]
      simp only [List.any_cons, List.any_nil, Bool.or_false]
      rw [ancG, if_neg eac, ancG, if_neg ebc]
    rw [e, hh]
    simp only [List.any_cons, List.any_nil, Bool.or_false, Bool.or_eq_true, decide_eq_true_eq, hany]
    constructor
    · rintro (rfl | hy)
      · exact ⟨.inl rfl, Ne.symm ecd⟩
      · exact ⟨.inr (.inr hy), has_ne hy hc⟩
    · rintro ⟨rfl | rfl | hy, hn⟩
      · exact .inl rfl
      · exact absurd rfl hn
      · exact .inr hy
  · intro y
    rw [isKid_cons, isKid_cons, hh]
    simp only [List.mem_cons, List.not_mem_nil, or_false, Bool.or_eq_true, decide_eq_true_eq, h.kid]
    constructor
    · intro hy
      have hy' : hasG G y = true := by
        rcases hy with (rfl | rfl) | (rfl | rfl) | hy
        · exact h.ha
        · exact h.hb
        · exact h.ha
        · exact h.hb
        · exact hy.1
      exact ⟨.inr (.inr hy'), has_ne hy' hc, has_ne hy' hd⟩
    · rintro ⟨rfl | rfl | hy, h1, h2⟩
      · exact absurd rfl h2
      · exact absurd rfl h1
      · by_cases e : y = a
        · exact .inl (.inl e)
        · by_cases e2 : y = b
          · exact .inl (.inr e2)
          · exact .inr (.inr ⟨hy, e, e2⟩)
  · rw [depthG, if_neg ecd, depthG, if_pos rfl]
    simp [upD, h.da, h.db]
  · rw [depthG, if_pos rfl]
    have e1 : depthG ((c, [a, b]) :: G) a = dep := by rw [depthG, if_neg eac]; exact h.da
    have e2 : depthG ((c, [a, b]) :: G) b = dep := by rw [depthG, if_neg ebc]; exact h.db
    simp [upD, e1, e2]
theorem KInv.bases (h : KInv G a b dep) (hc : hasG G c = false) (hd : hasG G d = false) (h' : KInv ((d, [a, b]) :: (c, [a, b]) :: G) c d (dep + 1)) {l : List ID} (hl : Rise cmpI l)
    (hm : ∀ y, y ∈ l ↔ basB ((d, [a, b]) :: (c, [a, b]) :: G) c d y = true) : l = [a, b] := by
  have ecd := ne_of_lt h'.lt
  have hcom : ∀ y, comB ((d, [a, b]) :: (c, [a, b]) :: G) c d y = true ↔ hasG G y = true := by
    intro y
    unfold comB
    rw [Bool.and_eq_true, h'.aa, h'.ab, hasG_cons, hasG_cons]
    simp only [Bool.or_eq_true, decide_eq_true_eq]
    constructor
    · rintro ⟨⟨h1 | h1 | h1, h2⟩, _, h3⟩
      · exact absurd h1 h2
      · exact absurd h1 h3
      · exact h1
    · intro hy
      exact ⟨⟨.inr (.inr hy), has_ne hy hd⟩, .inr (.inr hy), has_ne hy hc⟩
  refine rise_eq swoI hl (by unfold Rise; simp [h.lt]) (fun y => ?_)
  rw [hm]
  unfold basB
  rw [Bool.and_eq_true, hcom, Bool.not_eq_true']
  have hk : (((d, [a, b]) :: (c, [a, b]) :: G).any fun q => comB ((d, [a, b]) :: (c, [a, b]) :: G) c d q.1 && decide (y ∈ q.2)) = isKid G y := by
    have n1 : comB ((d, [a, b]) :: (c, [a, b]) :: G) c d d = false := by
      rw [← Bool.not_eq_true, hcom, hd]; decide
    have n2 : comB ((d, [a, b]) :: (c, [a, b]) :: G) c d c = false := by
      rw [← Bool.not_eq_true, hcom, hc]; decide
    rw [List.any_cons, List.any_cons]
    simp only [n1, n2, Bool.false_and, Bool.false_or]
    unfold isKid
    rw [Bool.eq_iff_iff, List.any_eq_true, List.any_eq_true]
    constructor
    · rintro ⟨q, hq, h2⟩
      exact ⟨q, hq, by simp only [Bool.and_eq_true] at h2; exact h2.2⟩
    · rintro ⟨q, hq, h2⟩
      exact ⟨q, hq, by rw [Bool.and_eq_true]; exact ⟨(hcom q.1).2 ((hasG_mem G q.1).2 (List.mem_map.2 ⟨q, hq, rfl⟩)), h2⟩⟩
  rw [hk, ← Bool.not_eq_true, h.kid]
  simp only [List.mem_cons, List.not_mem_nil, or_false]
  constructor
  · rintro ⟨hy, hn⟩
    by_cases e : y = a
    · exact .inl e
    · by_cases e2 : y = b
      · exact .inr e2
      · exact absurd ⟨hy, e, e2⟩ hn
  · rintro (rfl | rfl)
    · exact ⟨h.ha, fun h => h.2.1 rfl⟩
    · exact ⟨h.hb, fun h => h.2.2 rfl⟩
theorem KInv.all (h : KInv G a b dep) {l : List ID} {cf : ID → ID → Int} (hO : SWO (ltOf cf)) (hl : Rise cf l) (hm : ∀ y, y ∈ l ↔ Reached G [a, b] y) : l.length = G.length := by
  rw [rise_len h.ok hO hl (P := hasG G) (fun y => (hm y).trans ?_) (fun y hy => (hasG_mem G y).1 hy)]
  · have : (keysG G).filter (hasG G) = keysG G := List.filter_eq_self.2 (fun y hy => (hasG_mem G y).2 hy)
    rw [this]
    simp [keysG]
  · simp only [Reached, List.mem_cons, List.not_mem_nil, or_false, exists_eq_or_imp, exists_eq_left, h.aa, h.ab]
    constructor
    · rintro (h | h) <;> exact h.1
    · intro hy
      by_cases e : y = b
      · exact .inr ⟨hy, by rw [e]; exact Ne.symm (ne_of_lt h.lt)⟩
      · exact .inl ⟨hy, e⟩
theorem KInv.heads (h : KInv G a b dep) {l : List ID} (hl : Rise cmpI l) (hm : ∀ y, y ∈ l ↔ (hasG G y = true ∧ isKid G y = false)) : l.length = 2 := by
  have : l = [a, b] := by
    refine rise_eq swoI hl (by unfold Rise; simp [h.lt]) (fun y => ?_)
    rw [hm, ← Bool.not_eq_true, h.kid]
    simp only [List.mem_cons, List.not_mem_nil, or_false]
    constructor
    · rintro ⟨hy, hn⟩
      by_cases e : y = a
      · exact .inl e
      · by_cases e2 : y = b
        · exact .inr e2
        · exact absurd ⟨hy, e, e2⟩ hn
    · rintro (rfl | rfl)
      · exact ⟨h.ha, fun h => h.2.1 rfl⟩
      · exact ⟨h.hb, fun h => h.2.2 rfl⟩
  rw [this]; rfl
end
/-- the bases of a commit and its ancestor: the ancestor alone -/
theorem bases_anc {G : Dg} (hk : okG G) {x y : ID} (h : ancG G x y = true) {l : List ID} (hl : Rise cmpI l) (hm : ∀ z, z ∈ l ↔ ((ancG G x z = true ∧ ancG G y z = true) ∧ ¬ ∃ d ps, (ancG G x d = true ∧ ancG G y d = true) ∧ parents G d = some ps ∧ z ∈ ps)) : l = [y] := by
  have hy := (anc_has hk h).2
  refine rise_eq swoI hl (by unfold Rise; simp) (fun z => ?_)
  rw [hm, List.mem_singleton]
  constructor
  · rintro ⟨⟨h1, h2⟩, h3⟩
    have := anc_closed hk (fun u => u = y ∨ ∃ d ps, (ancG G x d = true ∧ ancG G y d = true) ∧ parents G d = some ps ∧ u ∈ ps) ?_ (.inl rfl) h2
    · exact this.elim id (fun e => absurd e h3)
    · intro u ps hu hp p hm
      have hyu : ancG G y u = true := by
        rcases hu with rfl | ⟨d, qs, hd, hq, hu⟩
        · exact anc_refl hy
        · exact anc_step hk hd.2 hq hu
      exact .inr ⟨u, ps, ⟨anc_trans hk h hyu, hyu⟩, hp, hm⟩
  · rintro rfl
    refine ⟨⟨h, anc_refl hy⟩, ?_⟩
    rintro ⟨d, ps, ⟨_, hd⟩, hp, hm⟩
    have h1 := depth_lt hk hp hm
    rcases anc_depth hk hd with e | e
    · subst e; omega
    · omega
/-! the knots -/
def kA (i : Nat) : ID := id2 (2 + i) 0
def kB (i : Nat) : ID := id2 (2 + i) 1
def kR : ID := id2 1 0
def KG : Nat → Dg
  | 0 => [(kB 0, [kR]), (kA 0, [kR]), (kR, [])]
  | i + 1 => (kB (i + 1), [kA i, kB i]) :: (kA (i + 1), [kA i, kB i]) :: KG i
theorem KG_len (i : Nat) : (KG i).length = 3 + 2 * i := by
  induction i with
  | zero => rfl
  | succ i ih => simp only [KG, List.length_cons, ih]; omega
theorem kn_lt : ∀ i, i < 10 → cmpI (kA i) (kB i) < 0 := by decide +kernel
theorem kn_za : ∀ i, i < 10 → kA i ≠ zID := by decide +kernel
theorem kn_zb : ∀ i, i < 10 → kB i ≠ zID := by decide +kernel
theorem kn_fa : ∀ i, i < 9 → hasG (KG i) (kA (i + 1)) = false := by decide +kernel
theorem kn_fb : ∀ i, i < 9 → hasG (KG i) (kB (i + 1)) = false := by decide +kernel
theorem kn_99 : ∀ i, i < 10 → hasG (KG i) (id2 99 0) = false := by decide +kernel
theorem kn_0 : addG [] kR [] = (0, [(kR, [])]) := by decide +kernel
theorem kn_1 : addG [(kR, [])] (kA 0) [kR] = (0, [(kA 0, [kR]), (kR, [])]) := by decide +kernel
theorem kn_2 : addG [(kA 0, [kR]), (kR, [])] (kB 0) [kR] = (0, KG 0) := by decide +kernel
theorem KG_inv0 : KInv (KG 0) (kA 0) (kB 0) 2 := by
  have n1 : kA 0 ≠ kB 0 := by decide +kernel
  have n2 : kA 0 ≠ kR := by decide +kernel
  have n3 : kB 0 ≠ kR := by decide +kernel
  have m1 := Ne.symm n1
  have m2 := Ne.symm n2
  have m3 := Ne.symm n3
  refine ⟨?_, by decide +kernel, by decide +kernel, by decide +kernel, by decide +kernel, by decide +kernel, ?_, ?_, ?_, by decide +kernel, by decide +kernel⟩
  · refine ⟨by decide +kernel, by decide +kernel, ?_, by decide +kernel, by decide +kernel, ?_, by decide +kernel, by decide +kernel, by simp, trivial⟩
    · intro p hp; have : p = kR := by simpa using hp
      subst this; decide +kernel
    · intro p hp; have : p = kR := by simpa using hp
      subst this; decide +kernel
  · intro y
    simp only [KG, ancG, hasG_cons, if_neg n1, if_pos, List.any_cons, List.any_nil, if_neg m2, Bool.or_false, Bool.or_eq_true, decide_eq_true_eq]
    have : hasG [] y = false := rfl
    rw [this]
    constructor
    · rintro (rfl | rfl)
      · exact ⟨by simp, n1⟩
      · exact ⟨by simp, m3⟩
    · rintro ⟨h | h | h | h, hn⟩
      · exact absurd h hn
      · exact .inl h
      · exact .inr h
      · cases h
  · intro y
    simp only [KG, ancG, hasG_cons, if_neg m1, if_pos, List.any_cons, List.any_nil, if_neg m2, if_neg m3, Bool.or_false, Bool.or_eq_true, decide_eq_true_eq]
    have : hasG [] y = false := rfl
    rw [this]
    constructor
    · rintro (rfl | rfl)
      · exact ⟨by simp, m1⟩
      · exact ⟨by simp, m2⟩
    · rintro ⟨h | h | h | h, hn⟩
      · exact .inl h
      · exact absurd h hn
      · exact .inr h
      · cases h
  · intro y
    simp only [KG, isKid, List.any_cons, List.any_nil, hasG_cons, Bool.or_false, Bool.or_eq_true, decide_eq_true_eq, List.mem_singleton, List.not_mem_nil, decide_false]
    have : hasG [] y = false := rfl
    rw [this]
    constructor
    · intro h
      have h : y = kR := by simpa using h
      subst h
      exact ⟨by simp, m2, m3⟩
    · rintro ⟨h | h | h | h, h1, h2⟩
      · exact absurd h h2
      · exact absurd h h1
      · simp [h]
      · cases h
theorem KG_inv : ∀ i, i < 10 → KInv (KG i) (kA i) (kB i) (2 + i)
  | 0, _ => KG_inv0
  | i + 1, h => (KG_inv i (by omega)).step (kn_fa i (by omega)) (kn_fb i (by omega)) (kn_lt (i + 1) h) (kn_za (i + 1) h) (kn_zb (i + 1) h)
end Go.Proofs.Ytchiclnnoealdaa
