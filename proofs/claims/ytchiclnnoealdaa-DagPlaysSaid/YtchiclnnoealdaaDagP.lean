/- Plain: commits and their parents. -/
import Derived.Test.YtchiclnnoealdaaIds
import Derived.Test.YtchiclnnoealdaaShaCmp
namespace Go.Proofs.Ytchiclnnoealdaa

/-- commits, the newest first -/
abbrev Dg := List (ID × List ID)
def parents : Dg → ID → Option (List ID)
  | [], _ => none
  | (y, ps) :: g, x => if x = y then some ps else parents g x
def hasG (g : Dg) (x : ID) : Bool := (parents g x).isSome
def upD (g : ID → Nat) (ps : List ID) : Nat := ps.foldl (fun d p => max d (g p + 1)) 1
def depthG : Dg → ID → Nat
  | [], _ => 0
  | (y, ps) :: g, x => if x = y then upD (depthG g) ps else depthG g x
/-- is y an ancestor of x? -/
def ancG : Dg → ID → ID → Bool
  | [], _, _ => false
  | (z, ps) :: g, x, y => if x = z then decide (y = z) || ps.any (fun p => ancG g p y) else ancG g x y
/-- do IDs rise? -/
def asc : List ID → Bool
  | x :: y :: l => decide (cmpI x y < 0) && asc (y :: l)
  | _ => true
def rightL (x : ID) (ps : List ID) : Bool := asc ps && decide (x ≠ zID) && decide (ps.length ≤ 2)
def okG : Dg → Prop
  | [] => True
  | (y, ps) :: g => rightL y ps = true ∧ hasG g y = false ∧ (∀ p ∈ ps, hasG g p = true) ∧ okG g
/-- what Add answers, and what is there behind it -/
def addG (g : Dg) (x : ID) (ps : List ID) : Nat × Dg :=
  if rightL x ps then
    match parents g x with
    | some q => if q = ps then (0, g) else (5, g)
    | none => if ps.all (hasG g) then (0, (x, ps) :: g) else (110, g)
  else (1, g)

theorem hasG_mem (g : Dg) (x : ID) : hasG g x = true ↔ x ∈ g.map (·.1) := by
  induction g with
  | nil => simp [hasG, parents]
  | cons p g ih =>
    unfold hasG at ih ⊢
    by_cases h : x = p.1
    · simp [parents, h]
    · simp [parents, h, ih]
theorem okG_nd {g : Dg} (h : okG g) : (g.map (·.1)).Nodup := by
  induction g with
  | nil => simp
  | cons p g ih =>
    obtain ⟨_, h2, _, h4⟩ := h
    rw [List.map_cons, List.nodup_cons]
    refine ⟨fun hm => ?_, ih h4⟩
    rw [← hasG_mem] at hm
    rw [hm] at h2; cases h2
theorem okG_par {g : Dg} (h : okG g) {x : ID} {ps : List ID} (hp : parents g x = some ps) : (∀ p ∈ ps, hasG g p = true) ∧ ps.length ≤ 2 ∧ asc ps = true := by
  induction g with
  | nil => cases hp
  | cons q g ih =>
    obtain ⟨h1, h2, h3, h4⟩ := h
    have up : ∀ p, hasG g p = true → hasG (q :: g) p = true := fun p hq => by
      rw [hasG_mem] at hq ⊢; exact List.mem_cons_of_mem _ hq
    unfold parents at hp
    split at hp
    · injection hp with hp
      subst hp
      simp only [rightL, Bool.and_eq_true, decide_eq_true_eq] at h1
      exact ⟨fun p hq => up p (h3 p hq), h1.2, h1.1.1⟩
    · obtain ⟨a, b⟩ := ih h4 hp
      exact ⟨fun p hq => up p (a p hq), b⟩
theorem upD_le (f : ID → Nat) (n : Nat) (hf : ∀ p, f p ≤ n) (ps : List ID) : upD f ps ≤ n + 1 := by
  unfold upD
  have : ∀ (l : List ID) (d : Nat), d ≤ n + 1 → l.foldl (fun d p => max d (f p + 1)) d ≤ n + 1 := by
    intro l
    induction l with
    | nil => intro d h; exact h
    | cons p l ih => intro d h; exact ih (max d (f p + 1)) (Nat.max_le.2 ⟨h, by have := hf p; omega⟩)
  exact this ps 1 (by omega)
theorem depth_le (g : Dg) (x : ID) : depthG g x ≤ g.length := by
  induction g generalizing x with
  | nil => simp [depthG]
  | cons q g ih =>
    unfold depthG
    split
    · exact upD_le _ _ ih _
    · exact Nat.le_trans (ih x) (by simp)
theorem depth_none {g : Dg} {x : ID} (h : parents g x = none) : depthG g x = 0 := by
  induction g with
  | nil => rfl
  | cons q g ih =>
    unfold parents at h
    unfold depthG
    split at h
    · cases h
    · rename_i hx; rw [if_neg hx]; exact ih h
theorem okG_add {g : Dg} (h : okG g) (x : ID) (ps : List ID) : okG (addG g x ps).2 := by
  unfold addG
  split
  · rename_i hr
    split
    · split <;> exact h
    · rename_i hn
      split
      · rename_i ha
        refine ⟨hr, by simp [hasG, hn], fun p hp => ?_, h⟩
        exact List.all_eq_true.1 ha p hp
      · exact h
  · exact h
end Go.Proofs.Ytchiclnnoealdaa
