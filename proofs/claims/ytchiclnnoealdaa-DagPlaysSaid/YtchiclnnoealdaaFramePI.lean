/- The frame of a law's proof: an argument [][2]int opened. -/
import Derived.Test.YtchiclnnoealdaaFrameI
import Derived.Test.YtchiclnnoealdaaPc
import Derived.Deep.Slices
namespace Go.Proofs.Ytchiclnnoealdaa
open Go.ChangeShapes Go.WideShapes Go.ChangeAt Go.RowKit Go.Deep
set_option linter.unusedVariables false

theorem bytesPair : Try.prog.bytesOf 80 = 16 := by kernel_rfl

theorem list_of_all {α : Type} [Inhabited α] {Q : Nat → α → Prop} (n : Nat) (h : ∀ i, i < n → ∃ p, Q i p) : ∃ ps : List α, ps.length = n ∧ ∀ i (hi : i < ps.length), Q i ps[i] := by
  induction n with
  | zero => exact ⟨[], rfl, fun i hi => by simp at hi⟩
  | succ n ih =>
    obtain ⟨ps, hl, hq⟩ := ih (fun i hi => h i (by omega))
    obtain ⟨p, hp⟩ := h n (by omega)
    refine ⟨ps ++ [p], by simp [hl], fun i hi => ?_⟩
    by_cases hi' : i < ps.length
    · rw [List.getElem_append_left hi']; exact hq i hi'
    · have : i = ps.length := by simp at hi; omega
      subst this
      simp only [List.getElem_append_right (Nat.le_refl _), Nat.sub_self, List.getElem_cons_zero]
      rw [hl]; exact hp

theorem prc_get {ps : List (Int × Int)} {j : Nat} {u : Value} (h : (prc ps)[j]? = some u) : ∃ i, ∃ hi : i < ps.length, (j = i * 2 ∧ u = .int .i64 (ps[i]).1) ∨ (j = i * 2 + 1 ∧ u = .int .i64 (ps[i]).2) := by
  have hj : j < 2 * ps.length := by
    have := (List.getElem?_eq_some_iff.1 h).1
    rwa [prc_len] at this
  have hi : j / 2 < ps.length := by omega
  refine ⟨j / 2, hi, ?_⟩
  have hat := prc_at ps (j / 2) hi
  rcases (show j = j / 2 * 2 ∨ j = j / 2 * 2 + 1 by omega) with e | e
  · left
    refine ⟨e, ?_⟩
    rw [← e] at hat
    exact Option.some.inj (h.symm.trans hat.1)
  · right
    refine ⟨e, ?_⟩
    rw [← e] at hat
    exact Option.some.inj (h.symm.trans hat.2)

set_option maxRecDepth 100000 in
theorem open_pairs {H : Type} {enc : TypeId × Value → H} {W : World} {base : Nat} {v : Value} {d : DataW H} {p : List MemPlace}
    (hv : Value.okWide Try.prog W .any base 55 v) (h : DataW.Trod enc Try.prog W 0 (fun _ => true) true 55 v d p) :
    ∃ A n c ps, v = .slice A n c ∧ ps.length = n ∧ n ≤ c ∧ Sl W A (prc ps) ∧ ((d = .nil ∧ c = 0) ∨ ∃ elems spare, d = .slice elems spare ∧ elems.length + spare.length = c) := by
  obtain ⟨a0, len, cap, rfl⟩ := okWide_slice Try.underlying55 hv
  obtain ⟨fuel, hf⟩ := h
  have hcells : Try.prog.cellsOf 80 = 2 := by kernel_rfl
  have hcell1 : Try.prog.cellsOf 3 = 1 := by kernel_rfl
  rcases open_slice Try.underlying55 hf with ⟨hcs, hx⟩ | ⟨x, l, c, m, n, D, Pl, hcs, _, hl, hm, hmm, hx, hall⟩
  · simp [Value.cells] at hcs
    obtain ⟨rfl, rfl, rfl⟩ := hcs
    simp only [Prod.mk.injEq] at hx
    exact ⟨none, 0, 0, [], rfl, rfl, Nat.le_refl _, Sl.nil _ _, .inl ⟨hx.1, rfl⟩⟩
  · simp [Value.cells] at hcs
    obtain ⟨rfl, rfl, rfl⟩ := hcs
    simp only [Prod.mk.injEq] at hx
    simp only [if_true] at hmm
    subst hmm
    rw [hcells] at hall
    have hp : ∀ i, i < len → ∃ q : Int × Int, W.cell? (x.add (i * 2)) = some (.int .i64 q.1) ∧ W.cell? ((x.add (i * 2)).add 1) = some (.int .i64 q.2) := by
      intro i hi
      obtain ⟨cs', hc, ht⟩ := hall i (by omega)
      obtain ⟨_, hcl, hat⟩ := World.cells?_some hc
      obtain ⟨xs, k, _, _, _, hxl, he⟩ := DataW.trod_array Try.underlying80 ht
      rw [hcell1] at he
      have e0 := he 0 (by omega)
      have e1 := he 1 (by omega)
      match cs', hcl with
      | [u, v], _ =>
        simp only [Nat.zero_mul, List.drop_zero, List.take_succ_cons, List.take_zero, Nat.one_mul, List.drop_succ_cons] at e0 e1
        have h0 := hat 0 (by omega)
        have h1 := hat 1 (by omega)
        have x0 : xs[0]? = some (xs[0]'(by omega)) := List.getElem?_eq_getElem (by omega)
        have x1 : xs[1]? = some (xs[1]'(by omega)) := List.getElem?_eq_getElem (by omega)
        rw [x0] at e0
        rw [x1] at e1
        obtain ⟨a, ea, _, _⟩ := DataW.trod_int Try.underlying3 e0
        obtain ⟨b, eb, _, _⟩ := DataW.trod_int Try.underlying3 e1
        simp only [List.cons.injEq, and_true] at ea eb
        subst ea; subst eb
        refine ⟨(a, b), ?_, ?_⟩
        · simpa [Addr.add] using h0
        · simpa using h1
    obtain ⟨ps, hpl, hq⟩ := list_of_all len hp
    refine ⟨some x, len, _, ps, rfl, hpl, hl, ?_, .inr ⟨_, _, hx.1, by simp; omega⟩⟩
    intro hne
    obtain ⟨g, off, spot⟩ := x
    have hpos : 0 < ps.length := by
      rcases Nat.eq_zero_or_pos ps.length with h0 | h0
      · have : ps = [] := List.eq_nil_of_length_eq_zero h0
        subst this; simp [prc] at hne
      · exact h0
    have h00 := (hq 0 hpos).1
    have hspot : spot = none := by simpa [Addr.add] using World.cell?_spot h00
    subst hspot
    have hadd : ∀ (o j : Nat), (⟨g, o, none⟩ : Addr).add j = ⟨g, o + j, none⟩ := by intro o j; unfold Addr.add; split <;> simp_all
    refine ⟨g, off, rfl, World.block_lt_of_cell? _ _ (by rw [hadd] at h00; exact h00), fun j u hu => ?_⟩
    obtain ⟨i, hi, ⟨rfl, rfl⟩ | ⟨rfl, rfl⟩⟩ := prc_get hu
    · have := (hq i hi).1; rwa [hadd] at this
    · have := (hq i hi).2; rw [hadd, hadd] at this; rw [← Nat.add_assoc]; exact this
end Go.Proofs.Ytchiclnnoealdaa
