/- Plain: the reference's Ancestors, a row that grows by the least. -/
import Derived.Test.YtchiclnnoealdaaRefR
namespace Go.Proofs.Ytchiclnnoealdaa
open Go.RowKit Go.Maps Go.Sort Go.Shelf
set_option linter.unusedVariables false
set_option linter.unusedSimpArgs false

theorem cb_zero (n : Nat) : ∀ l : List UInt8, l.length = n → Lib.compareBytes (List.replicate n 0) l ≠ 1 := by
  induction n with
  | zero => intro l hl; rw [List.eq_nil_of_length_eq_zero hl]; decide
  | succ n ih =>
    intro l hl
    cases l with
    | nil => simp at hl
    | cons y l =>
      rw [List.replicate_succ]
      simp only [Lib.compareBytes]
      split
      · decide
      · split
        · rename_i h1 h2
          exact absurd (UInt8.lt_iff_toNat_lt.1 h2) (by simp)
        · exact ih l (by simpa using hl)
theorem cmp_zero (y : ID) (h : y ≠ zID) : cmpI y zID = 1 := by
  have h1 := cb_zero 32 y.1 y.2
  have h2 : cmpI zID y ≠ 1 := h1
  have h3 := cmpI_anti y zID
  have h4 : cmpI y zID ≠ 0 := fun e => h ((cmpI_eq _ _).1 e)
  rcases cb_range y.1 zID.1 with e | e | e
  · have : cmpI y zID = -1 := e; omega
  · have : cmpI y zID = 0 := e; omega
  · exact e
theorem cmp_cases (x y : ID) : cmpI x y = -1 ∨ cmpI x y = 0 ∨ cmpI x y = 1 := cb_range _ _
/-- those of lesser depth, or of this depth up to last -/
structure AncI (G : Dg) (ids : List ID) (d : Nat) (last : ID) (o : List ID) : Prop where
  rise : Rise (cfD G) o
  mem : ∀ y, y ∈ o ↔ (reB G ids y = true ∧ (depthG G y < d ∨ (depthG G y = d ∧ cmpI y last ≤ 0)))
/-- what may come next -/
def Qual (G : Dg) (ids : List ID) (d : Nat) (last y : ID) : Prop := reB G ids y = true ∧ depthG G y = d ∧ cmpI y last = 1
theorem AncI.start {G : Dg} (hk : okG G) {ids : List ID} {d : Nat} {o : List ID} (hr : Rise (cfD G) o) (hm : ∀ y, y ∈ o ↔ (reB G ids y = true ∧ depthG G y < d)) : AncI G ids d zID o := by
  refine ⟨hr, fun y => (hm y).trans (and_congr_right fun hy => ⟨.inl, ?_⟩)⟩
  rintro (h | ⟨h1, h2⟩)
  · exact h
  · exfalso
    have hh : y ∈ keysG G := reB_key hk hy
    by_cases e : y = zID
    · subst e
      rw [keysG, List.mem_map] at hh
      obtain ⟨⟨a, ps⟩, hq, e2⟩ := hh
      simp only at e2
      subst e2
      clear hm hr hy h1 h2
      induction G with
      | nil => simp at hq
      | cons q G ih =>
        obtain ⟨g1, _, _, g4⟩ := hk
        rcases List.mem_cons.1 hq with e | e
        · subst e
          simp only [rightL, Bool.and_eq_true, decide_eq_true_eq] at g1
          exact g1.1.2 rfl
        · exact ih g4 e
    · have := cmp_zero y e; omega
theorem AncI.stop {G : Dg} {ids : List ID} {d : Nat} {last : ID} {o : List ID} (h : AncI G ids d last o) (hn : ∀ y, ¬ Qual G ids d last y) (y : ID) : y ∈ o ↔ (reB G ids y = true ∧ depthG G y < d + 1) := by
  rw [h.mem]
  refine and_congr_right fun hy => ⟨?_, fun hd => ?_⟩
  · rintro (h | ⟨h, _⟩) <;> omega
  · rcases Nat.lt_or_ge (depthG G y) d with h1 | h1
    · exact .inl h1
    · refine .inr ⟨by omega, ?_⟩
      rcases cmp_cases y last with e | e | e
      · omega
      · omega
      · exact absurd ⟨hy, by omega, e⟩ (hn y)
theorem AncI.next {G : Dg} {ids : List ID} {d : Nat} {last z : ID} {o : List ID} (h : AncI G ids d last o) (hz : Qual G ids d last z) (hmin : ∀ y, Qual G ids d last y → y = z ∨ cmpI z y < 0) : AncI G ids d z (o ++ [z]) := by
  have tr : ∀ y, cmpI y last ≤ 0 → cmpI y z < 0 := fun y hy => by
    have h1 := hz.2.2
    have h2 := cmpI_anti z last
    have h3 : cmpI last z < 0 := by omega
    rcases Int.lt_or_eq_of_le hy with e | e
    · exact cmpI_trans e h3
    · rw [(cmpI_eq y last).1 e]; exact h3
  refine ⟨?_, fun y => ?_⟩
  · have hr := h.rise
    unfold Rise at hr ⊢
    rw [List.pairwise_append]
    refine ⟨hr, by simp, fun y hy x hx => ?_⟩
    rw [List.mem_singleton] at hx
    subst hx
    rw [cfD_lt]
    rcases ((h.mem y).1 hy).2 with e | ⟨e1, e2⟩
    · exact .inl (by rw [hz.2.1]; exact e)
    · exact .inr ⟨by rw [hz.2.1]; exact e1, tr y e2⟩
  · rw [List.mem_append, List.mem_singleton, h.mem]
    constructor
    · rintro (⟨h1, h2 | ⟨h2, h3⟩⟩ | e)
      · exact ⟨h1, .inl h2⟩
      · exact ⟨h1, .inr ⟨h2, by have := tr y h3; omega⟩⟩
      · subst e; exact ⟨hz.1, .inr ⟨hz.2.1, by rw [cmpI_self]; omega⟩⟩
    · rintro ⟨h1, h2 | ⟨h2, h3⟩⟩
      · exact .inl ⟨h1, .inl h2⟩
      · rcases cmp_cases y last with e | e | e
        · exact .inl ⟨h1, .inr ⟨h2, by omega⟩⟩
        · exact .inl ⟨h1, .inr ⟨h2, by omega⟩⟩
        · rcases hmin y ⟨h1, h2, e⟩ with e2 | e2
          · exact .inr e2
          · have := cmpI_anti y z
            omega
theorem AncI.len {G : Dg} (hk : okG G) {ids : List ID} {d : Nat} {last : ID} {o : List ID} (h : AncI G ids d last o) : o.length ≤ G.length :=
  nd_len (rise_nd (swoD G) h.rise) (fun y hy => (hasG_mem G y).2 (reB_key hk ((h.mem y).1 hy).1))
/-- the best so far -/
def BesI (m : Md) (ids : List ID) (d : Nat) (last : ID) (i : Nat) (b : Option Nat) : Prop :=
  (∀ k, b = some k → ∃ h : k < m.length, Qual m.reverse ids d last (m[k]).1) ∧
  (∀ j (hj : j < m.length), j < i → Qual m.reverse ids d last (m[j]).1 → ∃ k, ∃ h : k < m.length, b = some k ∧ ((m[j]).1 = (m[k]).1 ∨ cmpI (m[k]).1 (m[j]).1 < 0))
theorem BesI.start (m : Md) (ids : List ID) (d : Nat) (last : ID) : BesI m ids d last 0 none := ⟨(fun k h => by cases h), fun j hj h => by omega⟩
theorem BesI.skip {m : Md} {ids : List ID} {d : Nat} {last : ID} {i : Nat} {b : Option Nat} (h : BesI m ids d last i b) (hi : i < m.length) (hn : ¬ Qual m.reverse ids d last (m[i]).1) : BesI m ids d last (i + 1) b :=
  ⟨h.1, fun j hj hl hq => by
    rcases Nat.lt_or_ge j i with h' | h'
    · exact h.2 j hj h' hq
    · have : j = i := by omega
      subst this; exact absurd hq hn⟩
theorem BesI.keep {m : Md} {ids : List ID} {d : Nat} {last : ID} {i k : Nat} (h : BesI m ids d last i (some k)) (hi : i < m.length) (hk : k < m.length) (hn : cmpI (m[i]).1 (m[k]).1 ≠ -1) : BesI m ids d last (i + 1) (some k) :=
  ⟨h.1, fun j hj hl hq => by
    rcases Nat.lt_or_ge j i with h' | h'
    · exact h.2 j hj h' hq
    · have : j = i := by omega
      subst this
      refine ⟨k, hk, rfl, ?_⟩
      have ha := cmpI_anti (m[k]).1 (m[j]).1
      rcases cmp_cases (m[j]).1 (m[k]).1 with e | e | e
      · exact absurd e hn
      · exact .inl ((cmpI_eq _ _).1 e)
      · exact .inr (by omega)⟩
theorem BesI.turn {m : Md} {ids : List ID} {d : Nat} {last : ID} {i : Nat} {b : Option Nat} (h : BesI m ids d last i b) (hi : i < m.length) (hq : Qual m.reverse ids d last (m[i]).1) (hb : ∀ k (hk : k < m.length), b = some k → cmpI (m[i]).1 (m[k]).1 = -1) : BesI m ids d last (i + 1) (some i) :=
  ⟨(fun k e => by injection e with e; subst e; exact ⟨hi, hq⟩), fun j hj hl hq2 => by
    rcases Nat.lt_or_ge j i with h' | h'
    · obtain ⟨k, hk, e, h2⟩ := h.2 j hj h' hq2
      have h3 := hb k hk e
      refine ⟨i, hi, rfl, .inr ?_⟩
      rcases h2 with h2 | h2
      · rw [h2]; omega
      · exact cmpI_trans (by omega) h2
    · have : j = i := by omega
      subst this; exact ⟨j, hi, rfl, .inl rfl⟩⟩
theorem Qual.at {m : Md} (hk : okG m.reverse) {ids : List ID} {d : Nat} {last y : ID} (h : Qual m.reverse ids d last y) : ∃ j, ∃ hj : j < m.length, (m[j]).1 = y := by
  have := reB_key hk h.1
  rw [keysG, List.map_reverse, List.mem_reverse, List.mem_map] at this
  obtain ⟨q, hq, e⟩ := this
  obtain ⟨j, hj, rfl⟩ := List.getElem_of_mem hq
  exact ⟨j, hj, e⟩
theorem BesI.none_ {m : Md} (hk : okG m.reverse) {ids : List ID} {d : Nat} {last : ID} (h : BesI m ids d last m.length none) (y : ID) : ¬ Qual m.reverse ids d last y := fun hq => by
  obtain ⟨j, hj, rfl⟩ := hq.at hk
  obtain ⟨k, _, e, _⟩ := h.2 j hj hj hq
  cases e
theorem BesI.min {m : Md} (hk : okG m.reverse) {ids : List ID} {d : Nat} {last : ID} {k : Nat} (h : BesI m ids d last m.length (some k)) (hk2 : k < m.length) : Qual m.reverse ids d last (m[k]).1 ∧ ∀ y, Qual m.reverse ids d last y → y = (m[k]).1 ∨ cmpI (m[k]).1 y < 0 := by
  refine ⟨(h.1 k rfl).2, fun y hq => ?_⟩
  obtain ⟨j, hj, rfl⟩ := hq.at hk
  obtain ⟨k2, _, e, h2⟩ := h.2 j hj hj hq
  injection e with e
  subst e; exact h2
end Go.Proofs.Ytchiclnnoealdaa
