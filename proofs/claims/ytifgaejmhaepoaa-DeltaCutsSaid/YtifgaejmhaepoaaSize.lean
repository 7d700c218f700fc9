/- Contracts: delta.Size. -/
import Derived.Test.YtifgaejmhaepoaaDeltaQ
namespace Go.Proofs.Ytifgaejmhaepoaa
open Go.RowKit
set_option linter.unusedVariables false
set_option linter.unusedSimpArgs false

def SizeTo (w : World) (n e : Nat) (x : Ending) (w' : World) : Prop := x = .returned (.tuple #[.int .i64 n, .int .i64 e]) ∧ Fr noB w w'

set_option maxRecDepth 100000 in
theorem size_any (w : World) (D : Option Addr) (cd : Nat) (d : List UInt8) (k : Nat) (hk : d.length = k) (hD : Sl w D (bv d)) (hd : d.length ≤ 140737488351232) (n : Nat) (s : RS) (hr : rdNum 1048576 (d, false) = (n, s)) :
    Calls Try.prog 14 #[.slice D k cd] w (SizeTo w n (if s.2 then 20 else 0)) := by
  subst hk
  have HR := Lib.hid hr
  rcases rdNum_or hr with ⟨rfl, rfl, _⟩ | ⟨_, hs, _⟩
  · clear hr
    go_enter Try.func14, Try.ntmps14
    go_wp2_with (first | (go_at_call 17; refine (read_any w D cd d hD (by omega)).mono ?_; rintro e w1 ⟨p, rfl, hp, hr, hf⟩) | (go_at_call 18; refine (num_eq _ _ _ _ 1048576 (by decide) hr (by simp only; omega) 0 ([], true) HR.out).mono ?_; rintro e w2 ⟨rfl, hr2, hf2⟩) | (go_at_call 19; refine (good_any _ _ _ _ hr2).mono ?_; rintro e w' ⟨rfl, rfl⟩))
    go_ret2
    exact ⟨rfl, hf.step1 hf2 hp⟩
  · obtain ⟨t, bad⟩ := s
    simp only at hs
    subst hs
    clear hr
    go_enter Try.func14, Try.ntmps14
    go_wp2_with (first | (go_at_call 17; refine (read_any w D cd d hD (by omega)).mono ?_; rintro e w1 ⟨p, rfl, hp, hr, hf⟩) | (go_at_call 18; refine (num_eq _ _ _ _ 1048576 (by decide) hr (by simp only; omega) n (t, false) HR.out).mono ?_; rintro e w2 ⟨rfl, hr2, hf2⟩) | (go_at_call 19; refine (good_any _ _ _ _ hr2).mono ?_; rintro e w' ⟨rfl, rfl⟩))
    go_ret2
    exact ⟨rfl, hf.step1 hf2 hp⟩
end Go.Proofs.Ytifgaejmhaepoaa
