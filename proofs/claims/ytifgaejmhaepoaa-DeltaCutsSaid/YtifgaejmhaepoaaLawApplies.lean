/- Contracts: applying, and the law DeltaApplies. -/
import Derived.Test.YtifgaejmhaepoaaDelta
import Derived.Test.YtifgaejmhaepoaaRefDelta
import Derived.Test.YtifgaejmhaepoaaStrs
namespace Go.Proofs.Ytifgaejmhaepoaa
open Go.RowKit
set_option linter.unusedVariables false
set_option linter.unusedSimpArgs false

theorem apply_n (w : World) (A D : Option Addr) (c cd : Nat) (base d : List UInt8) (n k : Nat) (hn : base.length = n) (hk : d.length = k) (hA : Sl w A (bv base)) (hD : Sl w D (bv d)) (hc : base.length ≤ c) (hcd : d.length ≤ cd)
    (hb : base.length ≤ 140737488351232) (hd : d.length ≤ 140737488351232) (r : Except Nat (List UInt8)) (hr : applyD base d = r) :
    Calls Try.prog 10 #[.slice A n c, .slice D k cd] w (ApplyTo w r) := by
  subst hn; subst hk; subst hr
  exact apply_any w A D c cd base d hA hD hc hcd hb hd

theorem refapply_n (w : World) (A D : Option Addr) (c cd : Nat) (base d : List UInt8) (hA : Sl w A (bv base)) (hD : Sl w D (bv d)) (hc : base.length ≤ c) (hcd : d.length ≤ cd)
    (hb : base.length ≤ 140737488351232) (hd : d.length ≤ 140737488351232) (r : Except Nat (List UInt8)) (hr : applyD base d = r) :
    Calls Try.prog 11 #[.slice A base.length c, .slice D d.length cd] w (RefApplyTo w r) := by
  subst hr
  exact refapply_any w A D c cd base d hA hD hc hcd hb hd
theorem applyD_out (base d : List UInt8) : (resB (applyD base d)).length ≤ 1048576 := by
  unfold applyD
  split
  · simp [resB]
  · split
    · simp [resB]
    · rename_i h
      split
      · exact applyL_out base _ _ _ _ h (by simp)
      · simp [resB]

theorem applying_any (w : World) : Calls Try.prog 9 #[] w (BoolTo w true) := by
  have hs1 : Sl (w.alloc (.cells #[.int .u8 97, .int .u8 98, .int .u8 99] 5 (3, 4))) (some ⟨w.heap.size, 0, none⟩) (bv [97, 98, 99]) := Sl.newF w 5 [.int .u8 97, .int .u8 98, .int .u8 99] (3, 4)
  have hs2 : Sl ((w.alloc (.cells #[.int .u8 97, .int .u8 98, .int .u8 99] 5 (3, 4))).alloc (.cells #[.int .u8 4, .int .u8 4, .int .u8 120, .int .u8 121, .int .u8 5, .int .u8 1] 5)) (some ⟨w.heap.size + 1, 0, none⟩) (bv [4, 4, 120, 121, 5, 1]) := by
    have := Sl.new (w.alloc (.cells #[.int .u8 97, .int .u8 98, .int .u8 99] 5 (3, 4))) 5 [.int .u8 4, .int .u8 4, .int .u8 120, .int .u8 121, .int .u8 5, .int .u8 1]
    simp only [World.size_alloc] at this
    exact this
  have hs1' := hs1.fr0 ((Fr.refl noB _).alloc (.cells #[.int .u8 4, .int .u8 4, .int .u8 120, .int .u8 121, .int .u8 5, .int .u8 1] 5))
  go_enter Try.func9, Try.ntmps9
  go_wp2_with (go_at_call 10; refine (apply_n _ _ _ _ _ [97, 98, 99] [4, 4, 120, 121, 5, 1] _ _ rfl rfl (by exact hs1') (by exact hs2) (by decide) (by decide) (by decide) (by decide) (.ok [120, 121, 98, 99]) rfl).mono ?_; rintro e w1 ⟨A1, c1, rfl, ho, hf⟩; have hcv := conv_str w1 A1 _ c1 _ rfl (Sl.own ho))
  go_ret
  refine ⟨?_, (((Fr.refl noB w).alloc _).alloc _).step0 hf⟩
  have : ((str (resB (Except.ok [120, 121, 98, 99]))).toList == [120, 121, 98, 99]) = true := by rw [str_toList]; rfl
  simp [this]

def lawPost (w : World) (e : Ending) (w' : World) : Prop := e = .returned (.bool true) ∧ Below w.heap.size w w'

set_option maxHeartbeats 400000 in
theorem applies_any (w : World) (A D : Option Addr) (c cd : Nat) (base d : List UInt8) (hA : Sl w A (bv base)) (hD : Sl w D (bv d)) (hc : base.length ≤ c) (hcd : d.length ≤ cd)
    (hb : base.length ≤ 140737488351232) (hd : d.length ≤ 140737488351232) :
    Calls Try.prog 3 #[.slice A base.length c, .slice D d.length cd] w (lawPost w) := by
  by_cases hlen : 20000 < d.length
  · go_enter Try.func3, Try.ntmps3
    go_wp2_with (go_at_call 9; refine (applying_any _).mono ?_; rintro e w1 ⟨rfl, hf1⟩)
    go_ret
    exact ⟨rfl, hf1.below⟩
  · generalize hr : applyD base d = r
    have hrl : (resB r).length ≤ 140737488355328 := by
      subst hr
      exact Nat.le_trans (applyD_out base d) (by decide)
    have HR := Lib.hid hr
    clear hr
    go_enter Try.func3, Try.ntmps3
    go_wp2_with (first | (go_at_call 9; refine (applying_any _).mono ?_; rintro e w1 ⟨rfl, hf1⟩) | (go_at_call 10; refine (apply_n _ _ _ _ _ base d _ _ rfl rfl (hA.fr0 hf1) (hD.fr0 hf1) hc hcd hb hd r HR.out).mono ?_; rintro e w2 ⟨A2, c2, rfl, ho2, hf2⟩) | (go_at_call 11; refine (refapply_n _ _ _ _ _ base d (hA.fr0 (hf1.step0 hf2)) (hD.fr0 (hf1.step0 hf2)) hc hcd hb hd r HR.out).mono ?_; rintro e w3 ⟨A3, c3, rfl, hs3, hf3⟩) | (go_at_call 12; refine (same_any _ _ _ _ _ (resB r) (resB r) ((Sl.own ho2).fr0 hf3) hs3 hrl hrl).mono ?_; rintro e w4 ⟨rfl, hf4⟩))
    go_ret
    exact ⟨by simp, (((hf1.step0 hf2).step0 hf3).step0 hf4).below⟩

theorem appliesL (w : World) (A : Option Addr) (c : Nat) (base : List UInt8) (hA : Sl w A (bv base)) (hc : base.length ≤ c) (hb : base.length ≤ 140737488351232)
    (D : Option Addr) (cd : Nat) (d : List UInt8) (hD : Sl w D (bv d)) (hcd : d.length ≤ cd) (hd : d.length ≤ 140737488351232) :
    Calls Try.prog 3 #[.slice A base.length c, .slice D d.length cd] w (lawPost w) := applies_any w A D c cd base d hA hD hc hcd hb hd
end Go.Proofs.Ytifgaejmhaepoaa
