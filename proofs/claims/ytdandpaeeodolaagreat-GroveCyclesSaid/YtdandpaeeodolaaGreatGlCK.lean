/- Plain laws for GroveCycles: nodes in a line, and a move of one of them. -/
import Derived.Test.YtdandpaeeodolaaGreatGlPK
import Derived.Test.YtdandpaeeodolaaGreatGlSK
namespace Go.Proofs.YtdandpaeeodolaaGreat
set_option linter.unusedVariables false
set_option linter.unusedSimpArgs false

def ndC (x : Nat) : St := ⟨(x : Int) + 1, 1⟩
def parC : Nat → St
  | 0 => zSt
  | x + 1 => ndC x
def opC (x : Nat) : Opn := mvP (ndC x) (ndC x) (parC x) [110]
def rowC (x : Nat) : RwP := ⟨ndC x, parC x, ndC x, [110], []⟩
def lineL (n : Nat) : List Opn := (List.range n).map opC
def lineR (n : Nat) : List RwP := (List.range n).map rowC
theorem ndC_inj {x y : Nat} (h : ndC x = ndC y) : x = y := by
  unfold ndC at h
  simp only [St.mk.injEq] at h
  omega
theorem lineR_nodes (n : Nat) : (lineR n).map (·.Node) = (List.range n).map ndC := by
  unfold lineR
  rw [List.map_map]
  rfl
theorem lineR_nd (n : Nat) : ((lineR n).map (·.Node)).Nodup := by
  rw [lineR_nodes, List.Nodup, List.pairwise_map]
  exact List.nodup_range.imp fun {a b} h e => h (ndC_inj e)
theorem lineR_mem {n x : Nat} (h : x < n) : rowC x ∈ lineR n := List.mem_map.2 ⟨x, List.mem_range.2 h, rfl⟩
theorem lineR_len (n : Nat) : (lineR n).length = n := by simp [lineR]
theorem lineR_find {n x : Nat} (h : x < n) : findR (lineR n) (ndC x) = some (rowC x) := findR_mem (lineR_nd n) (lineR_mem h)
theorem lineR_none {n x : Nat} (h : n ≤ x) : findR (lineR n) (ndC x) = none := by
  rw [findR_none]
  intro r hr e
  obtain ⟨y, hy, rfl⟩ := List.mem_map.1 hr
  have := ndC_inj e
  rw [List.mem_range] at hy
  omega
theorem ndC_T (x : Nat) : (ndC x).T ≠ 0 := by
  show (x : Int) + 1 ≠ 0
  omega
theorem line_above {n : Nat} (i : Nat) : ∀ (k j : Nat), k < n → k < j → aboveN (lineR n) j (ndC i) (ndC k) = decide (i ≤ k)
  | 0, j + 1, hk, _ => by
    rw [aboveN_step (ndC_T 0) (lineR_find hk)]
    show (decide (ndC 0 = ndC i) || aboveN (lineR n) j (ndC i) zSt) = _
    rw [aboveN_zero rfl, Bool.or_false]
    by_cases e : i = 0
    · subst e; simp
    · have : ndC 0 ≠ ndC i := fun h => e (ndC_inj h).symm
      simp [this, e]
  | k + 1, j + 1, hk, hj => by
    rw [aboveN_step (ndC_T (k + 1)) (lineR_find hk)]
    show (decide (ndC (k + 1) = ndC i) || aboveN (lineR n) j (ndC i) (ndC k)) = _
    rw [line_above i k j (by omega) (by omega)]
    by_cases e : i = k + 1
    · subst e; simp
    · have : ndC (k + 1) ≠ ndC i := fun h => e (ndC_inj h).symm
      simp only [this, decide_false, Bool.false_or]
      by_cases h : i ≤ k
      · simp [h]; omega
      · simp [h]; omega
theorem line_step (n : Nat) : doX (lineR n) (opC n) = lineR (n + 1) := by
  have hf : findR (lineR n) (ndC n) = none := lineR_none (Nat.le_refl n)
  have hh : hdsR (lineR n) (ndC n) = [] := by unfold hdsR; rw [hf]
  have hc : (((findR (lineR n) (parC n)).isNone && !decide ((parC n).T = 0)) || aboveR (lineR n) (ndC n) (parC n)) = false := by
    cases n with
    | zero => rfl
    | succ n =>
      show (((findR (lineR (n + 1)) (ndC n)).isNone && !decide ((ndC n).T = 0)) || aboveN (lineR (n + 1)) (lineR (n + 1)).length (ndC (n + 1)) (ndC n)) = false
      rw [lineR_find (Nat.lt_succ_self n), lineR_len, line_above (n + 1) n (n + 1) (Nat.lt_succ_self n) (Nat.lt_succ_self n)]
      simp
  have hn : newR (lineR n) (opC n) = some (rowC n) := by
    unfold newR
    rw [if_pos (show (opC n).Kind = 1 from rfl)]
    show (if (((findR (lineR n) (parC n)).isNone && !decide ((parC n).T = 0)) || aboveR (lineR n) (ndC n) (parC n)) = true then none else some (⟨ndC n, parC n, ndC n, [110], hdsR (lineR n) (ndC n)⟩ : RwP)) = _
    rw [hc, hh]
    rfl
  unfold doX
  rw [hn]
  simp only
  unfold putR
  rw [show (rowC n).Node = ndC n from rfl, hf]
  simp only [Option.isSome_none, Bool.false_eq_true, if_false]
  unfold lineR
  rw [List.range_succ, List.map_append]
  rfl
theorem lineL_succ (n : Nat) : lineL (n + 1) = lineL n ++ [opC n] := by
  unfold lineL
  rw [List.range_succ, List.map_append]
  rfl
theorem run_line : ∀ n : Nat, runX [] (lineL n) = lineR n
  | 0 => rfl
  | n + 1 => by
    rw [lineL_succ, runX_app, run_line n]
    exact line_step n
def mvC (i k : Nat) : Opn := mvP ⟨100, 1⟩ (ndC i) (ndC k) [109]
theorem mv_no {n i k : Nat} (hk : k < n) (h : i ≤ k) : doX (lineR n) (mvC i k) = lineR n := by
  have hn : newR (lineR n) (mvC i k) = none := by
    unfold newR
    rw [if_pos (show (mvC i k).Kind = 1 from rfl)]
    show (if (((findR (lineR n) (ndC k)).isNone && !decide ((ndC k).T = 0)) || aboveN (lineR n) (lineR n).length (ndC i) (ndC k)) = true then none else _) = _
    rw [lineR_len, line_above i k n hk hk]
    simp [h]
  unfold doX
  rw [hn]
def rowM (i k : Nat) : RwP := ⟨ndC i, ndC k, ⟨100, 1⟩, [109], []⟩
theorem mv_yes {n i k : Nat} (hi : i < n) (h : k < i) : doX (lineR n) (mvC i k) = putR (lineR n) (rowM i k) := by
  have hh : hdsR (lineR n) (ndC i) = [] := by unfold hdsR; rw [lineR_find hi]; rfl
  have hn : newR (lineR n) (mvC i k) = some (rowM i k) := by
    unfold newR
    rw [if_pos (show (mvC i k).Kind = 1 from rfl)]
    show (if (((findR (lineR n) (ndC k)).isNone && !decide ((ndC k).T = 0)) || aboveN (lineR n) (lineR n).length (ndC i) (ndC k)) = true then none else some (⟨ndC i, ndC k, ⟨100, 1⟩, [109], hdsR (lineR n) (ndC i)⟩ : RwP)) = _
    rw [lineR_len, line_above i k n (by omega) (by omega), lineR_find (show k < n by omega), hh]
    rw [if_neg (by simp; omega)]
    rfl
  unfold doX
  rw [hn]
theorem lineR_rise (n : Nat) : (lineR n).Pairwise fun a b => cmpS a.Node b.Node < 0 := by
  unfold lineR
  rw [List.pairwise_map]
  refine List.pairwise_lt_range.imp fun {a b} h => ?_
  show cmpS (ndC a) (ndC b) < 0
  unfold cmpS ndC
  simp only
  split
  · omega
  · omega
theorem line_lt {n x : Nat} (h : n ≤ x) : ∀ p ∈ lineL n, cmpS p.At (ndC x) < 0 := by
  intro p hp
  obtain ⟨y, hy, rfl⟩ := List.mem_map.1 hp
  rw [List.mem_range] at hy
  show cmpS (ndC y) (ndC x) < 0
  unfold cmpS ndC
  simp only
  split
  · omega
  · omega
theorem line_lt100 {n : Nat} (h : n ≤ 50) : ∀ p ∈ lineL n, cmpS p.At ⟨100, 1⟩ < 0 := by
  intro p hp
  obtain ⟨y, hy, rfl⟩ := List.mem_map.1 hp
  rw [List.mem_range] at hy
  show cmpS (ndC y) ⟨100, 1⟩ < 0
  unfold cmpS ndC
  simp only
  split
  · omega
  · omega
theorem line_srt (n : Nat) : SrtL (lineL n) := by
  unfold SrtL lineL
  rw [List.pairwise_map]
  refine List.pairwise_lt_range.imp fun {a b} h => ?_
  show cmpS (ndC a) (ndC b) < 0
  unfold cmpS ndC
  simp only
  split
  · omega
  · omega
theorem line_good : ∀ x, x < 18 → goodOp (opC x) = true := by decide
theorem mvC_good : ∀ i, i < 18 → ∀ k, k < 18 → goodOp (mvC i k) = true := by decide
theorem put_heads {n i k : Nat} : ∀ x ∈ putR (lineR n) (rowM i k), x.Heads = [] := by
  intro x hx
  rcases mem_put hx with rfl | ⟨hx, _⟩
  · rfl
  · obtain ⟨y, _, rfl⟩ := List.mem_map.1 hx
    rfl
theorem line_heads {n : Nat} : ∀ x ∈ lineR n, x.Heads = [] := by
  intro x hx
  obtain ⟨y, _, rfl⟩ := List.mem_map.1 hx
  rfl
theorem mv_mem {n i k : Nat} (hi : i < n) : rowM i k ∈ putR (lineR n) (rowM i k) := by
  have := findR_put (lineR n) (rowM i k) (ndC i)
  rw [if_pos (show (rowM i k).Node = ndC i from rfl)] at this
  exact (findR_some this).1
theorem mv_unlike {n i k : Nat} (hi : i < n) (hn : n ≤ 50) {ys : List RwP} (hp : ys.Perm (putR (lineR n) (rowM i k))) : sameX ys (lineR n) = false := by
  cases h : sameX ys (lineR n) with
  | false => rfl
  | true =>
    exfalso
    have hm : rowM i k ∈ ys := hp.mem_iff.2 (mv_mem hi)
    obtain ⟨j, hj, e⟩ := List.getElem_of_mem hm
    have hl := sameX_len h
    have hj' : j < (lineR n).length := by omega
    have h1 := sameX_get h j hj hj'
    rw [e] at h1
    have e2 : (lineR n)[j] = rowC j := by simp [lineR]
    rw [e2] at h1
    unfold shR at h1
    simp only [Bool.and_eq_true, decide_eq_true_eq] at h1
    have h3 : (⟨100, 1⟩ : St) = ndC j := h1.2.2.1
    unfold ndC at h3
    simp only [St.mk.injEq] at h3
    rw [lineR_len] at hj'
    omega
end Go.Proofs.YtdandpaeeodolaaGreat
