/- Plain: what a commit names, once each, rising, none zero. Links, with the length as a variable. The reference's SameBytes of equal bytes. -/
import Derived.Test.YtejkfekpgbmdiaaGreatLawOne
import Derived.Test.YtejkfekpgbmdiaaGreatAlvO
import Derived.Test.YtejkfekpgbmdiaaGreatRefC
import Derived.Test.YtejkfekpgbmdiaaGreatRef1
namespace Go.Proofs.YtejkfekpgbmdiaaGreat
set_option linter.unusedVariables false
set_option linter.unusedSimpArgs false

theorem nd_le' {α : Type} [DecidableEq α] : ∀ (l m : List α), l.Nodup → (∀ x ∈ l, x ∈ m) → l.length ≤ m.length
  | [], m, _, _ => by simp
  | x :: l, m, hn, hm => by
    rw [List.nodup_cons] at hn
    have hx := hm x (by simp)
    have := nd_le' l (m.erase x) hn.2 (fun y hy => (List.mem_erase_of_ne (fun e => hn.1 (by rw [← e]; exact hy))).2 (hm y (by simp [hy])))
    rw [List.length_erase_of_mem hx] at this
    have := List.length_pos_of_mem hx
    simp only [List.length_cons]
    omega
theorem nd_eq {α : Type} [DecidableEq α] {l m : List α} (hl : l.Nodup) (hm : m.Nodup) (h : ∀ x, x ∈ l ↔ x ∈ m) : l.length = m.length :=
  Nat.le_antisymm (nd_le' l m hl fun x hx => (h x).1 hx) (nd_le' m l hm fun x hx => (h x).2 hx)
theorem cmpI_lt_ne {x y : ID} (h : cmpI x y < 0) : x ≠ y := by
  rintro rfl
  rw [cmpI_self] at h
  omega
theorem cpt_spec (l : List ID) (hs : ∀ i j (hi : i < l.length) (hj : j < l.length), i < j → ¬ cmpI l[j] l[i] < 0) : ∀ j, j ≤ l.length →
    (∀ x, x ∈ cptN l j ↔ x ∈ l.take j) ∧ (cptN l j).Pairwise (fun a b => cmpI a b < 0) ∧ (∀ (h : 0 < j) (h' : j - 1 < l.length), ∀ y ∈ cptN l j, y = l[j - 1] ∨ cmpI y l[j - 1] < 0)
  | 0, _ => ⟨by simp [cptN], by simp [cptN], fun h => absurd h (by omega)⟩
  | j + 1, hj => by
    obtain ⟨h1, h2, h3⟩ := cpt_spec l hs j (by omega)
    have hjl : j < l.length := by omega
    have hmem : ∀ x, x ∈ l.take (j + 1) ↔ x ∈ l.take j ∨ x = l[j] := fun x => by
      rw [List.take_succ_eq_append_getElem hjl, List.mem_append, List.mem_singleton]
    by_cases he : ∃ h0 : 0 < j, l[j] = l[j - 1]'(by omega)
    · obtain ⟨h0, he⟩ := he
      rw [cptN_same hjl h0 he]
      refine ⟨fun x => ?_, h2, fun _ _ y hy => ?_⟩
      · rw [hmem, h1]
        constructor
        · exact .inl
        · rintro (h | rfl)
          · exact h
          · rw [he]
            exact List.mem_take_iff_getElem.2 ⟨j - 1, by omega, rfl⟩
      · have := h3 h0 (by omega) y hy
        simp only [Nat.add_sub_cancel]
        rw [he]; exact this
    · have hne : j = 0 ∨ ∃ (h1 : 0 < j), l[j] ≠ l[j - 1]'(by omega) := by
        rcases Nat.eq_zero_or_pos j with h | h
        · exact .inl h
        · exact .inr ⟨h, fun e => he ⟨h, e⟩⟩
      rw [cptN_new hjl hne]
      have hlt : ∀ y ∈ cptN l j, cmpI y l[j] < 0 := fun y hy => by
        rcases hne with rfl | ⟨h0, hn⟩
        · simp [cptN] at hy
        · have hlj : cmpI (l[j - 1]'(by omega)) l[j] < 0 := by
            have a1 := hs (j - 1) j (by omega) hjl (by omega)
            have a2 := cmpI_anti (l[j - 1]'(by omega)) l[j]
            have a3 : cmpI (l[j - 1]'(by omega)) l[j] ≠ 0 := fun e => hn ((cmpI_eq _ _).1 e).symm
            omega
          rcases h3 h0 (by omega) y hy with rfl | h
          · exact hlj
          · exact cmpI_trans h hlj
      refine ⟨fun x => ?_, ?_, fun _ _ y hy => ?_⟩
      · rw [List.mem_append, List.mem_singleton, hmem, h1]
      · rw [List.pairwise_append]
        exact ⟨h2, by simp, fun a ha b hb => by rw [List.mem_singleton.1 hb]; exact hlt a ha⟩
      · simp only [Nat.add_sub_cancel]
        rcases List.mem_append.1 hy with h | h
        · exact .inr (hlt y h)
        · exact .inl (List.mem_singleton.1 h)
theorem sortI_le (l : List ID) : ∀ i j (hi : i < (sortI l).length) (hj : j < (sortI l).length), i < j → ¬ cmpI (sortI l)[j] (sortI l)[i] < 0 := by
  have hp : (sortI l).Pairwise fun a b => (!decide (cmpI b a < 0)) = true := by
    refine List.pairwise_mergeSort (fun a b c h1 h2 => ?_) (fun a b => ?_) l
    · simp only [Bool.not_eq_true', decide_eq_false_iff_not] at h1 h2 ⊢
      intro h3
      have a1 := cmpI_anti a b
      have a2 := cmpI_anti b c
      rcases Int.lt_or_eq_of_le (show cmpI a b ≤ 0 by omega) with h | h
      · rcases Int.lt_or_eq_of_le (show cmpI b c ≤ 0 by omega) with h' | h'
        · have := cmpI_trans h h'
          have := cmpI_anti a c
          omega
        · have := (cmpI_eq _ _).1 h'
          subst this
          exact h1 h3
      · have := (cmpI_eq _ _).1 h
        subst this
        exact h2 h3
    · have := cmpI_anti a b
      simp only [Bool.or_eq_true, Bool.not_eq_true', decide_eq_false_iff_not]
      omega
  intro i j hi hj hij
  have := List.pairwise_iff_getElem.1 hp i j hi hj hij
  simpa using this
/-- the names of a commit: rising, each once, none zero -/
structure LkQ (L raw : List ID) : Prop where
  mem : ∀ x, x ∈ L ↔ x ∈ raw ∧ x ≠ zID
  up : L.Pairwise (fun a b => cmpI a b < 0)
theorem zID_le (x : ID) : ¬ cmpI x zID < 0 := by
  have h : ∀ (a : List UInt8) (n : Nat), a.length = n → ¬ Lib.compareBytes a (List.replicate n 0) < 0 := by
    intro a
    induction a with
    | nil => intro n hn; subst hn; simp [Lib.compareBytes]
    | cons b a ih =>
      intro n hn
      subst hn
      have := ih a.length rfl
      simp only [List.length_cons, List.replicate_succ, Lib.compareBytes]
      have hb : ¬ b < 0 := by
        rw [UInt8.lt_iff_toNat_lt]; simp
      split
      · rename_i h; exact absurd h hb
      · split
        · omega
        · exact this
  exact h x.1 32 x.2
theorem linksQ {b : List UInt8} : LkQ (linksO b) (linkL b) := by
  unfold linksO
  obtain ⟨h1, h2, _⟩ := cpt_spec (sortI (linkL b)) (sortI_le _) _ (Nat.le_refl _)
  have hm : ∀ x, x ∈ cpt (sortI (linkL b)) ↔ x ∈ linkL b := fun x => by
    unfold cpt
    rw [h1, List.take_length]
    exact (List.mergeSort_perm (linkL b) _).mem_iff
  have hu : (cpt (sortI (linkL b))).Pairwise (fun a b => cmpI a b < 0) := h2
  generalize cpt (sortI (linkL b)) = l at hm hu
  cases l with
  | nil => exact ⟨fun x => by rw [dropZ_nil]; have := hm x; simp at this ⊢; intro h; exact absurd h this, hu⟩
  | cons y l =>
    rw [List.pairwise_cons] at hu
    rw [dropZ_cons]
    by_cases hy : y = zID
    · rw [if_pos hy]
      subst hy
      refine ⟨fun x => ?_, hu.2⟩
      rw [← hm x, List.mem_cons]
      constructor
      · intro h
        exact ⟨.inr h, fun e => cmpI_lt_ne (hu.1 x h) e.symm⟩
      · rintro ⟨h | h, hz⟩
        · exact absurd h hz
        · exact h
    · rw [if_neg hy]
      refine ⟨fun x => ?_, List.pairwise_cons.2 hu⟩
      rw [← hm x]
      refine ⟨fun h => ⟨h, ?_⟩, fun h => h.1⟩
      rintro rfl
      rcases List.mem_cons.1 h with h | h
      · exact hy h.symm
      · exact zID_le _ (hu.1 _ h)
/-- a list's new ones behind a set -/
theorem links_len (w : World) (A : Option Addr) (c n : Nat) (l : List UInt8) (hn : l.length = n) (hs : Sl w A (bv l)) (hcap : l.length ≤ c) (hb : l.length ≤ 140737488355328) (L : List ID) (hL : linksO l = L) :
    Calls Tryz.prog 21 #[.slice A n c] w fun e w' => ∃ B d, e = .returned (.slice B L.length d) ∧ Sl w' B (idc L) ∧ Fr noB w w' := by
  subst hL
  refine (links_all w A c n l hn hs hcap hb).mono ?_
  rintro e w' ⟨B, d, rfl, h1, h2, _⟩
  exact ⟨B, d, rfl, h1, h2⟩
theorem same_y (w : World) (A B : Option Addr) (c d n n' : Nat) (l m : List UInt8) (hn : l.length = n) (hn' : m.length = n') (hA : Sl w A (bv l)) (hB : Sl w B (bv m)) (hl : l.length ≤ 140737488355328) (h : l = m) :
    Calls Tryz.prog 12 #[.slice A n c, .slice B n' d] w (Gives w (.bool true)) := by
  subst hn hn' h
  refine (same_any w A B c d l l hA hB hl hl).mono ?_
  rintro e w' ⟨rfl, f⟩
  exact ⟨by simp, f⟩
end Go.Proofs.YtejkfekpgbmdiaaGreat
