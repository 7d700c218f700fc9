/- Contract: the reference's Find. (ex_ld_arr: loads of arrays are met by that rule.) -/
import Derived.Test.YtchiclnnoealdaaRefP
namespace Go.Proofs.Ytchiclnnoealdaa
open Go.RowKit Go.Maps Go.Sort Go.Shelf
set_option linter.unusedVariables false
set_option linter.unusedSimpArgs false

theorem rd_arr (w : World) (x : ID) : rdI (w.alloc (aro x)) w.heap.size 0 = some x := Rd.rdI fun j v hv => by rw [Nat.zero_add]; exact ((blk_arr w x).cell j).trans hv
def FinR (W : World) (m : Md) (x : ID) (gk : Nat) (kv : Value) (wr : World) : Prop := ∃ k : Nat, kv = .int .i64 (k : Int) ∧ gk = m.length - k ∧ k ≤ m.length ∧ k ≤ findN m x ∧ Fr noB W wr
set_option maxRecDepth 100000 in
set_option maxHeartbeats 1000000 in
theorem find_any (w : World) (A : Option Addr) (c n : Nat) (m : Md) (hn : m.length = n) (h : RfA w A m) (hb : m.length ≤ 1000000) (x : ID) : Calls Try.prog 15 #[.slice A n c, encI x] w (Gives w (.int .i64 (findI m x))) := by
  subst hn
  have b1 : rdI (w.alloc (aro x)) w.heap.size 0 = some x := rd_arr w x
  have f0 : Fr noB w (w.alloc (aro x)) := (Fr.refl noB w).alloc _
  have h1 := h.fr0 f0
  go_enter Try.func15, Try.ntmps15
  go_wp2_with fail
  generalize hW : w.alloc (aro x) = W at b1 f0 h1 ⊢
  generalize hP : w.heap.size = P at b1 ⊢
  clear hW
  go_loopg [5] m.length (fun gk kv wr => FinR W m x gk kv wr)
  case atStart => exact ⟨0, rfl, rfl, by omega, by omega, Fr.refl _ _⟩
  case round =>
    obtain ⟨k, rfl, rfl, hk, hk2, hf⟩ := hrel
    by_cases hlt : k < m.length
    · have i0 : (0 : Int) ≤ (k : Int) := by omega
      have i1 : (k : Int) < (m.length : Int) := by omega
      obtain ⟨g, off, rfl⟩ := h1.ad (by omega)
      obtain ⟨B, c2, hr, hs⟩ := (h1.fr0 hf.drew).at k hlt
      have r0 := hr.id
      have r1 := rdI_fr b1 (rdI_lt b1) hf.drew (by simp [noB])
      have hne : (m[k]).1 ≠ x → k + 1 ≤ findN m x := fun hn => by
        rcases Nat.lt_or_ge k (findN m x) with h | h
        · exact h
        · have e : findN m x = k := by omega
          exact absurd (by have := findN_at (m := m) (x := x) (by omega); simpa only [e] using this) hn
      have heq : (m[k]).1 = x → findI m x = (k : Int) := fun e => by
        have h := findN_min hlt e
        have e2 : findN m x = k := by omega
        unfold findI; rw [if_pos (by omega), e2]
      have HNE := Lib.hid hne
      have HEQ := Lib.hid heq
      simp only at r0
      generalize (m[k]).1 = z at r0 HNE HEQ
      clear hne heq hr hs
      go_wp2_with fail
      refine wp_region_H (fun w' => rdI w' g (off + k * 33) = some z ∧ rdI w' P 0 = some x) (by kernel_rfl) ⟨r0, r1⟩ (fun hF => ?_)
      refine wpAnyH_take (i := 0) (v := ?_) rfl (by kernel_rfl) (by kernel_rfl) (by kernel_rfl) (fun _ _ _ h => h) (Or.inl ⟨by rfl, ?_⟩) hF ?_
      rotate_left
      · intro wS hSw; (try dsimp only at hSw); obtain ⟨s1, s2⟩ := hSw; first | (apply Eq.trans; apply ex_ld_id; exact rfl; exact rfl; assumption; with_reducible rfl) | (apply Eq.trans; apply ex_ld_arr; exact rfl; exact rfl; assumption; with_reducible rfl) | (go_simp; try with_reducible rfl)
      try simp only [List.getElem_toArray, List.getElem_cons_zero, List.getElem_cons_succ, Act.put, List.setIfInBounds_toArray, List.set_cons_zero, List.set_cons_succ]
      refine wpAnyH_take (i := 1) (v := ?_) rfl (by kernel_rfl) (by kernel_rfl) (by kernel_rfl) (fun _ _ _ h => h) (Or.inl ⟨by rfl, ?_⟩) hF ?_
      rotate_left
      · intro wS hSw; (try dsimp only at hSw); obtain ⟨s1, s2⟩ := hSw; first | (apply Eq.trans; apply ex_ld_id; exact rfl; exact rfl; assumption; with_reducible rfl) | (apply Eq.trans; apply ex_ld_arr; exact rfl; exact rfl; assumption; with_reducible rfl) | (go_simp; try with_reducible rfl)
      try simp only [List.getElem_toArray, List.getElem_cons_zero, List.getElem_cons_succ, Act.put, List.setIfInBounds_toArray, List.set_cons_zero, List.set_cons_succ]
      refine wpAnyH_take (i := 2) (v := ?_) rfl (by kernel_rfl) (by kernel_rfl) (by kernel_rfl) (fun _ _ _ h => h) (Or.inl ⟨by rfl, ?_⟩) hF ?_
      rotate_left
      · intro wS hSw; (try dsimp only at hSw); obtain ⟨s1, s2⟩ := hSw; first | (apply Eq.trans; apply ex_ld_id; exact rfl; exact rfl; assumption; with_reducible rfl) | (apply Eq.trans; apply ex_ld_arr; exact rfl; exact rfl; assumption; with_reducible rfl) | (go_simp; try with_reducible rfl)
      try simp only [List.getElem_toArray, List.getElem_cons_zero, List.getElem_cons_succ, Act.put, List.setIfInBounds_toArray, List.set_cons_zero, List.set_cons_succ]
      refine wpAnyH_take (i := 3) (v := ?_) rfl (by kernel_rfl) (by kernel_rfl) (by kernel_rfl) (fun _ _ _ h => h) (Or.inl ⟨by rfl, ?_⟩) hF ?_
      rotate_left
      · intro wS hSw; (try dsimp only at hSw); obtain ⟨s1, s2⟩ := hSw; first | (apply Eq.trans; apply ex_ld_id; exact rfl; exact rfl; assumption; with_reducible rfl) | (apply Eq.trans; apply ex_ld_arr; exact rfl; exact rfl; assumption; with_reducible rfl) | (go_simp; try with_reducible rfl)
      try simp only [List.getElem_toArray, List.getElem_cons_zero, List.getElem_cons_succ, Act.put, List.setIfInBounds_toArray, List.set_cons_zero, List.set_cons_succ]
      refine wpAnyH_take (i := 4) (v := ?_) rfl (by kernel_rfl) (by kernel_rfl) (by kernel_rfl) (fun _ _ _ h => h) (Or.inl ⟨by rfl, ?_⟩) hF ?_
      rotate_left
      · intro wS hSw; (try dsimp only at hSw); obtain ⟨s1, s2⟩ := hSw; first | (apply Eq.trans; apply ex_ld_id; exact rfl; exact rfl; assumption; with_reducible rfl) | (apply Eq.trans; apply ex_ld_arr; exact rfl; exact rfl; assumption; with_reducible rfl) | (go_simp; try with_reducible rfl)
      try simp only [List.getElem_toArray, List.getElem_cons_zero, List.getElem_cons_succ, Act.put, List.setIfInBounds_toArray, List.set_cons_zero, List.set_cons_succ]
      refine wpAnyH_take (i := 5) (v := ?_) rfl (by kernel_rfl) (by kernel_rfl) (by kernel_rfl) (fun _ _ _ h => h) (Or.inl ⟨by rfl, ?_⟩) hF ?_
      rotate_left
      · intro wS hSw; (try dsimp only at hSw); obtain ⟨s1, s2⟩ := hSw; first | (apply Eq.trans; apply ex_ld_id; exact rfl; exact rfl; assumption; with_reducible rfl) | (apply Eq.trans; apply ex_ld_arr; exact rfl; exact rfl; assumption; with_reducible rfl) | (go_simp; try with_reducible rfl)
      try simp only [List.getElem_toArray, List.getElem_cons_zero, List.getElem_cons_succ, Act.put, List.setIfInBounds_toArray, List.set_cons_zero, List.set_cons_succ]
      refine wpAnyH_take (i := 6) (v := ?_) rfl (by kernel_rfl) (by kernel_rfl) (by kernel_rfl) (fun _ _ _ h => h) (Or.inl ⟨by rfl, ?_⟩) hF ?_
      rotate_left
      · intro wS hSw; (try dsimp only at hSw); obtain ⟨s1, s2⟩ := hSw; first | (apply Eq.trans; apply ex_ld_id; exact rfl; exact rfl; assumption; with_reducible rfl) | (apply Eq.trans; apply ex_ld_arr; exact rfl; exact rfl; assumption; with_reducible rfl) | (go_simp; try with_reducible rfl)
      try simp only [List.getElem_toArray, List.getElem_cons_zero, List.getElem_cons_succ, Act.put, List.setIfInBounds_toArray, List.set_cons_zero, List.set_cons_succ]
      refine wpAnyH_done (by kernel_rfl) ?_ _
      clear hF
      by_cases hzx : z = x
      · have e1 : decide (z = x) = true := by simpa using hzx
        have HZ := Lib.hid hzx
        clear hzx
        rw [e1]
        go_wp2_with fail
        go_ret
        exact ⟨by rw [HEQ.out HZ.out]; rfl, f0.step0 hf.drew⟩
      · have e1 : decide (z = x) = false := by simpa using hzx
        have HZ := Lib.hid hzx
        clear hzx
        rw [e1]
        go_wp2_with fail
        go_roundg (m.length - (k + 1))
        case measure => omega
        case rel => exact ⟨k + 1, by simp, rfl, by omega, HNE.out HZ.out, hf.drew⟩
    · have ek : k = m.length := by omega
      have hf2 := findN_le m x
      have e : findI m x = -1 := by unfold findI; rw [if_neg (by omega)]
      have HE := Lib.hid e
      clear e
      go_wp2_with fail
      go_ret
      exact ⟨by rw [HE.out]; rfl, f0.step0 hf⟩
end Go.Proofs.Ytchiclnnoealdaa
