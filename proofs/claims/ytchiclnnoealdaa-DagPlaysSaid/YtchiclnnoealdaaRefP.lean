/- Plain: the reference's list of commits (oldest first), places in it. -/
import Derived.Test.YtchiclnnoealdaaRNode
import Derived.Test.YtchiclnnoealdaaOrdP
namespace Go.Proofs.Ytchiclnnoealdaa
open Go.RowKit Go.Maps Go.Sort Go.Shelf
set_option linter.unusedVariables false
set_option linter.unusedSimpArgs false

def findN : Md → ID → Nat
  | [], _ => 0
  | q :: m, x => if q.1 = x then 0 else findN m x + 1
def findI (m : Md) (x : ID) : Int := if findN m x < m.length then (findN m x : Int) else -1
theorem findN_le (m : Md) (x : ID) : findN m x ≤ m.length := by
  induction m with
  | nil => simp [findN]
  | cons q m ih => unfold findN; split <;> simp <;> omega
theorem findN_at {m : Md} {x : ID} (h : findN m x < m.length) : (m[findN m x]).1 = x := by
  induction m with
  | nil => simp at h
  | cons q m ih =>
    by_cases e : q.1 = x
    · have : findN (q :: m) x = 0 := by unfold findN; rw [if_pos e]
      simp only [this]; exact e
    · have hs : findN (q :: m) x = findN m x + 1 := by rw [findN, if_neg e]
      simp only [hs, List.getElem_cons_succ]
      exact ih (by rw [hs] at h; simpa using h)
theorem findN_not {m : Md} {x : ID} {k : Nat} (h : k < findN m x) (hk : k < m.length) : (m[k]).1 ≠ x := by
  induction m generalizing k with
  | nil => simp at hk
  | cons q m ih =>
    by_cases e : q.1 = x
    · have : findN (q :: m) x = 0 := by unfold findN; rw [if_pos e]
      omega
    · have hs : findN (q :: m) x = findN m x + 1 := by rw [findN, if_neg e]
      cases k with
      | zero => exact e
      | succ k => exact ih (by omega) (by simpa using hk)
theorem findN_min {m : Md} {x : ID} {k : Nat} (hk : k < m.length) (h : (m[k]).1 = x) : findN m x ≤ k := by
  rcases Nat.lt_or_ge k (findN m x) with hl | hl
  · exact absurd h (findN_not hl hk)
  · exact hl
theorem findN_has (m : Md) (x : ID) : findN m x < m.length ↔ hasG m.reverse x = true := by
  rw [hasG_mem, List.map_reverse, List.mem_reverse, List.mem_map]
  constructor
  · intro h; exact ⟨_, List.getElem_mem h, findN_at h⟩
  · rintro ⟨q, hq, e⟩
    obtain ⟨k, hk, rfl⟩ := List.getElem_of_mem hq
    have := findN_min hk e
    omega
theorem okG_app {a b : Dg} (h : okG (a ++ b)) : okG b := by
  induction a with
  | nil => exact h
  | cons q a ih => exact ih h.2.2.2
theorem rev_cut (m : Md) (i : Nat) (hi : i < m.length) : m.reverse = (m.drop (i + 1)).reverse ++ m[i] :: (m.take i).reverse := by
  conv => lhs; rw [← List.take_append_drop i m, List.drop_eq_getElem_cons hi]
  simp
theorem okG_at {m : Md} (h : okG m.reverse) (i : Nat) (hi : i < m.length) : okG (m[i] :: (m.take i).reverse) := okG_app (by rw [← rev_cut m i hi]; exact h)
theorem findN_key {m : Md} (h : okG m.reverse) (i : Nat) (hi : i < m.length) : findN m (m[i]).1 = i := by
  have h1 := findN_min hi rfl
  rcases Nat.lt_or_ge (findN m (m[i]).1) i with hl | hl
  · exfalso
    have h2 : hasG (m.take i).reverse (m[i]).1 = false := (okG_at h i hi).2.1
    have e := findN_at (m := m) (x := (m[i]).1) (by omega)
    have : hasG (m.take i).reverse (m[i]).1 = true := by
      rw [hasG_mem, List.map_reverse, List.mem_reverse, List.mem_map]
      exact ⟨m[findN m (m[i]).1], by rw [List.mem_take_iff_getElem]; exact ⟨_, by omega, rfl⟩, e⟩
    rw [this] at h2; cases h2
  · omega
theorem par_at {m : Md} (h : okG m.reverse) (i : Nat) (hi : i < m.length) : parents m.reverse (m[i]).1 = some (m[i]).2 :=
  (par_mem h _ _).2 (by rw [List.mem_reverse]; exact List.getElem_mem hi)
theorem par_lt {m : Md} (h : okG m.reverse) (i : Nat) (hi : i < m.length) (p : ID) (hp : p ∈ (m[i]).2) : findN m p < i := by
  have h2 := (okG_at h i hi).2.2.1 p hp
  rw [hasG_mem, List.map_reverse, List.mem_reverse, List.mem_map] at h2
  obtain ⟨q, hq, e⟩ := h2
  rw [List.mem_take_iff_getElem] at hq
  obtain ⟨j, hj, e2⟩ := hq
  have := findN_min (m := m) (x := p) (k := j) (by omega) (by rw [e2]; exact e)
  omega
theorem has_at {m : Md} (i : Nat) (hi : i < m.length) : hasG m.reverse (m[i]).1 = true := by
  rw [hasG_mem, List.map_reverse, List.mem_reverse]
  exact List.mem_map.2 ⟨_, List.getElem_mem hi, rfl⟩
theorem key_inj {m : Md} (h : okG m.reverse) {i j : Nat} (hi : i < m.length) (hj : j < m.length) (e : (m[i]).1 = (m[j]).1) : i = j := by
  have h1 := findN_key h i hi
  have h2 := findN_key h j hj
  rw [e] at h1; omega
theorem ids_ne {m : Md} (h : okG m.reverse) (i : Nat) (hi : i < m.length) : (m[i]).1 ≠ zID := by
  have := (okG_at h i hi).1
  simp only [rightL, Bool.and_eq_true, decide_eq_true_eq] at this
  exact this.1.2
theorem ps_len {m : Md} (h : okG m.reverse) (i : Nat) (hi : i < m.length) : (m[i]).2.length ≤ 2 := by
  have := (okG_at h i hi).1
  simp only [rightL, Bool.and_eq_true, decide_eq_true_eq] at this
  exact this.2
end Go.Proofs.Ytchiclnnoealdaa
