/- Plain: what delta.Make makes, and that the target comes out of it. -/
import Derived.Test.YtifgaejmhaepoaaLongest
import Derived.Test.YtifgaejmhaepoaaDeltaQ
namespace Go.Proofs.Ytifgaejmhaepoaa

/-- the places of each piece of the base, after n rounds -/
def plcN (base : List UInt8) : Nat → SKey → List Nat
  | 0 => fun _ => []
  | n + 1 => if (plcN base n (keyAt base (4 * n))).length < 4 then pushG (plcN base n) (keyAt base (4 * n)) (4 * n) else plcN base n

theorem plcN_ok (base : List UInt8) : ∀ (n : Nat), 4 * n ≤ base.length + 0 → (n = 0 ∨ 4 * (n - 1) + 8 ≤ base.length) → ∀ k, (plcN base n k).length ≤ 4 ∧ ∀ x ∈ plcN base n k, x + 8 ≤ base.length ∧ (base.drop x).take 8 = k.1 := by
  intro n
  induction n with
  | zero => intro _ _ k; simp [plcN]
  | succ n ih =>
    intro hn hlast k
    have hl : 4 * n + 8 ≤ base.length := by rcases hlast with h | h <;> omega
    have ih' := ih (by omega) (by omega)
    unfold plcN
    split
    · rename_i hlt
      unfold pushG
      split
      · rename_i hk
        subst hk
        refine ⟨by simp; omega, fun x hx => ?_⟩
        simp only [List.mem_append, List.mem_singleton] at hx
        rcases hx with hx | rfl
        · exact (ih' _).2 x hx
        · exact ⟨hl, rfl⟩
      · exact ih' k
    · exact ih' k

theorem cpl_take (l m : List UInt8) : l.take (cpl l m) = m.take (cpl l m) := by
  induction l generalizing m with
  | nil => simp [cpl]
  | cons a l ih =>
    cases m with
    | nil => simp [cpl]
    | cons b m =>
      unfold cpl
      split
      · rename_i h; subst h; simp [ih m]
      · simp

/-- a piece of the base that stands in the target -/
def Piece (base target : List UInt8) (at_ : Nat) (s : Nat × Nat) : Prop :=
  s = (0, 0) ∨ (8 ≤ s.2 ∧ s.1 + s.2 ≤ base.length ∧ at_ + s.2 ≤ target.length ∧ (base.drop s.1).take s.2 = (target.drop at_).take s.2)

theorem piece_F (base target : List UInt8) (at_ : Nat) (s : Nat × Nat) (p : Nat) (hs : Piece base target at_ s) (hp : p + 8 ≤ base.length) (ha : at_ + 8 ≤ target.length) (hw : (base.drop p).take 8 = (target.drop at_).take 8) :
    Piece base target at_ (lgF base target at_ s p) := by
  unfold lgF
  split
  · right
    have hc := cpl_le (base.drop (p + 8)) (target.drop (at_ + 8))
    simp only [List.length_drop] at hc
    refine ⟨by simp only; omega, by simp only; omega, by simp only; omega, ?_⟩
    simp only
    rw [List.take_add, List.take_add, hw, List.drop_drop, List.drop_drop, cpl_take]
  · exact hs
theorem piece_L (base target : List UInt8) (at_ : Nat) (ha : at_ + 8 ≤ target.length) : ∀ (ps : List Nat) (s : Nat × Nat), Piece base target at_ s → (∀ x ∈ ps, x + 8 ≤ base.length ∧ (base.drop x).take 8 = (target.drop at_).take 8) →
    Piece base target at_ (ps.foldl (lgF base target at_) s) := by
  intro ps
  induction ps with
  | nil => intro s hs _; exact hs
  | cons p ps ih =>
    intro s hs hall
    exact ih _ (piece_F base target at_ s p hs (hall p (by simp)).1 ha (hall p (by simp)).2) (fun x hx => hall x (by simp [hx]))

/-- the longest piece at a place -/
def lg (base target : List UInt8) (g : SKey → List Nat) (at_ : Nat) : Nat × Nat := if target.length < at_ + 8 then (0, 0) else lgL base target at_ (g (keyAt target at_))
theorem lg_piece (base target : List UInt8) (g : SKey → List Nat) (at_ : Nat) (hg : ∀ k, ∀ x ∈ g k, x + 8 ≤ base.length ∧ (base.drop x).take 8 = k.1) : Piece base target at_ (lg base target g at_) := by
  unfold lg
  split
  · exact .inl rfl
  · exact piece_L base target at_ (by omega) _ _ (.inl rfl) (fun x hx => hg _ x hx)

/-- the target's own bytes told up to a place -/
def flushF (target out : List UInt8) (own at_ : Nat) : List UInt8 := if own < at_ then out ++ numB (2 * (at_ - own)) ++ (target.drop own).take (at_ - own) else out
/-- the loop of Make: what is out and from where on is own -/
def mkL (base target : List UInt8) (g : SKey → List Nat) : Nat → Nat → Nat → List UInt8 → List UInt8 × Nat
  | 0, _, own, out => (out, own)
  | f + 1, at_, own, out =>
    if at_ < target.length then
      if (lg base target g at_).2 = 0 then mkL base target g f (at_ + 1) own out
      else mkL base target g f (at_ + (lg base target g at_).2) (at_ + (lg base target g at_).2) (flushF target out own at_ ++ numB (2 * (lg base target g at_).2 + 1) ++ numB (lg base target g at_).1)
    else (out, own)

/-- out of these steps comes the target up to a place -/
def Tells (base target told out : List UInt8) (own : Nat) : Prop := own ≤ target.length ∧ ∃ steps, out = told ++ steps ∧ ∀ rest, apS base (steps ++ rest, false) [] = apS base (rest, false) (target.take own)

theorem tells_flush (base target told out : List UInt8) (own at_ : Nat) (ht : target.length ≤ 1048576) (h : Tells base target told out own) (ha : own ≤ at_) (hat : at_ ≤ target.length) : Tells base target told (flushF target out own at_) at_ := by
  unfold flushF
  obtain ⟨h0, steps, rfl, hs⟩ := h
  split
  · rename_i hlt
    refine ⟨hat, steps ++ (numB (2 * (at_ - own)) ++ (target.drop own).take (at_ - own)), by simp, fun rest => ?_⟩
    have hl : ((target.drop own).take (at_ - own)).length = at_ - own := by simp; omega
    rw [List.append_assoc, hs]
    have := apS_own base ((target.drop own).take (at_ - own)) rest (target.take own) (by omega) (by rw [hl]; simp; omega)
    rw [hl] at this
    rw [List.append_assoc, this]
    congr 1
    rw [← List.take_add, show own + (at_ - own) = at_ by omega]
  · have : own = at_ := by omega
    subst this
    exact ⟨h0, steps, rfl, hs⟩
theorem tells_copy (base target told out : List UInt8) (at_ : Nat) (s : Nat × Nat) (ht : target.length ≤ 1048576) (hb : base.length ≤ 4611686018427387904) (h : Tells base target told out at_) (hp : Piece base target at_ s) (hn : s.2 ≠ 0) :
    Tells base target told (out ++ numB (2 * s.2 + 1) ++ numB s.1) (at_ + s.2) := by
  rcases hp with rfl | ⟨h1, h2, h3, h4⟩
  · simp at hn
  · obtain ⟨h0, steps, rfl, hs⟩ := h
    refine ⟨h3, steps ++ (numB (2 * s.2 + 1) ++ numB s.1), by simp, fun rest => ?_⟩
    rw [List.append_assoc, hs, List.append_assoc, apS_copy base rest (target.take at_) s.2 s.1 (by omega) (by simp; omega) (by omega), if_neg (by omega), h4, ← List.take_add]
theorem mkL_tells (base target told : List UInt8) (g : SKey → List Nat) (ht : target.length ≤ 1048576) (hb : base.length ≤ 4611686018427387904) (hg : ∀ k, ∀ x ∈ g k, x + 8 ≤ base.length ∧ (base.drop x).take 8 = k.1) :
    ∀ (f at_ own : Nat) (out : List UInt8), own ≤ at_ → at_ ≤ target.length → Tells base target told out own → Tells base target told (mkL base target g f at_ own out).1 (mkL base target g f at_ own out).2 := by
  intro f
  induction f with
  | zero => intro at_ own out _ _ h; exact h
  | succ f ih =>
    intro at_ own out ha hat h
    unfold mkL
    split
    · rename_i hlt
      split
      · exact ih _ _ _ (by omega) (by omega) h
      · rename_i hn
        have hp := lg_piece base target g at_ hg
        have hle : at_ + (lg base target g at_).2 ≤ target.length := by
          rcases hp with e | ⟨_, _, h3, _⟩
          · rw [e] at hn; simp at hn
          · exact h3
        exact ih _ _ _ (Nat.le_refl _) hle (tells_copy base target told _ at_ _ ht hb (tells_flush base target told out own at_ ht h ha hat) hp hn)
    · exact h
end Go.Proofs.Ytifgaejmhaepoaa
