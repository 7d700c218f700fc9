/- IDs as keys of maps. -/
import Derived.Test.YtejkfekpgbmdiaaGreatShaCmp
import Derived.Test.YtejkfekpgbmdiaaGreatMapR
import Derived.DeepKeys4
namespace Go.Proofs.YtejkfekpgbmdiaaGreat
open Go.RowKit Go.Maps Go.Sort
set_option linter.unusedVariables false
set_option linter.unusedSimpArgs false

theorem laidOutP : laidOutB Tryz.prog = true := by kernel_rfl
theorem keyLitU8 (d : Nat) (b : UInt8) : Tryz.prog.keyLits (d + 1) 5 [u8v b] = some [.int .u8 (b.toNat : Int)] := by
  have hw : (Lit.int .u8 (b.toNat : Int)).wf = true := by
    have h : ∀ n, n < 256 → (Lit.int .u8 ((n : Nat) : Int)).wf = true := by decide +kernel
    exact h _ b.toNat_lt
  simp only [Program.keyLits, Tryz.underlying5, u8v, hw]
  simp
theorem mapM_some {α β : Type} (f : α → Option β) : ∀ (l : List α), (∀ x ∈ l, ∃ y, f x = some y) → ∃ ys, l.mapM f = some ys := by
  intro l
  induction l with
  | nil => intro _; exact ⟨[], rfl⟩
  | cons x l ih =>
    intro h
    obtain ⟨y, hy⟩ := h x (by simp)
    obtain ⟨ys, hys⟩ := ih (fun z hz => h z (by simp [hz]))
    exact ⟨y :: ys, by simp [List.mapM_cons, hy, hys]⟩
theorem keyI_good (x : ID) : ∃ l, keyOf Tryz.prog 45 (encI x) = some l := by
  have h1 : Tryz.prog.keyType 45 = true := by kernel_rfl
  have h2 : Tryz.prog.cellsOf 45 = 32 := by kernel_rfl
  have h3 : Tryz.prog.cellsOf 5 = 1 := by kernel_rfl
  have h4 : (encI x).formed Tryz.prog 45 = true := by
    simp [Value.formed, Tryz.underlying45, h2, idA_eq, x.2]
  unfold keyOf
  rw [Tryz.underlying45]
  simp only [h1, h4, Bool.and_self, if_true]
  have hk : ∃ ls, Tryz.prog.keyLits (Tryz.prog.types.size + 1) 45 (encI x).cells.toList = some ls := by
    have hc : (encI x).cells.toList = bv x.1 := by simp [Value.cells, idA_eq]
    have hs : ∃ d, Tryz.prog.types.size = d + 1 := ⟨Tryz.prog.types.size - 1, by
      have : 0 < Tryz.prog.types.size := of_decide_eq_true (by kernel_rfl)
      omega⟩
    obtain ⟨d, hd⟩ := hs
    rw [hc, hd]
    unfold Program.keyLits
    rw [Tryz.underlying45]
    simp only [bv_length, x.2, h2, if_true, h3]
    obtain ⟨ys, hys⟩ := mapM_some (fun i => Tryz.prog.keyLits (d + 1) 5 (((bv x.1).drop (i * 1)).take 1)) (List.range 32) (fun i hi => by
      have hi' : i < x.1.length := by rw [x.2]; simpa using hi
      have : ((bv x.1).drop (i * 1)).take 1 = [u8v x.1[i]] := by
        rw [Nat.mul_one, ← bv_drop, List.drop_eq_getElem_cons hi', bv_cons]
        simp
      rw [this]
      exact ⟨_, keyLitU8 d _⟩)
    rw [hys]
    exact ⟨_, rfl⟩
  obtain ⟨ls, hls⟩ := hk
  rw [hls]
  exact ⟨_, rfl⟩
theorem keyI : KeyE Tryz.prog 45 encI where
  K := Keyed.of_law (deep_law_laid laidOutP (m := 8) (by decide) (of_decide_eq_true (by kernel_rfl)) (by kernel_rfl) (by kernel_rfl))
  good := keyI_good
  inj := fun _ _ h => encI_inj h
end Go.Proofs.YtejkfekpgbmdiaaGreat
