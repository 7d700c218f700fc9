/- Contract: the reference's Cmp. (ex_ld_arr: loads of arrays are met by that rule.) -/
import Derived.Test.YtejkfekpgbmdiaaGreatLawOne
import Derived.Test.YtejkfekpgbmdiaaGreatRegM
namespace Go.Proofs.YtejkfekpgbmdiaaGreat
open Go.RowKit Go.Maps Go.Sort Go.Shelf
set_option linter.unusedVariables false
set_option linter.unusedSimpArgs false

abbrev aro (x : ID) : Obj := .cells (idA x) 44
@[simp] theorem bx_arr (w : World) (x : ID) : (Instr.box 44 (encI x)).run Tryz.prog w = .ok (.pointer (some ⟨w.heap.size, 0, none⟩)) (w.alloc (aro x)) := by
  simp [Instr.box, newVar, newRow, newObj, Value.cells, Sem.run, Result.andThen]
theorem ex_ld_arr {ρ : Operand → Value} {o : Oper} {a : Operand} {w : World} {b off : Nat} {x : ID} (ho : o.op = .load 44 a) (ha : ρ a = .pointer (some ⟨b, off, none⟩)) (hr : rdI w b off = some x) :
    (execOp ρ o).run Tryz.prog w = .ok (.value (encI x)) w := by
  have h := ld_arr w b off
  rw [hr] at h
  unfold execOp
  simp only [ho, ha, Sem.run_bind, h, Result.andThen_ok, Sem.run_pure]
theorem blk_arr (w : World) (x : ID) : Blk (w.alloc (aro x)) w.heap.size 44 (bv x.1) := by
  have := Blk.new w 44 (bv x.1)
  rw [← idA_eq] at this
  exact this
theorem bv_at (x : ID) (k : Nat) (hk : k < 32) : (bv x.1)[k]? = some (.int .u8 ((x.1[k]'(by rw [x.2]; exact hk)).toNat : Int)) := bv_get _ _ _
theorem cb_take : ∀ (k : Nat) (a b : List UInt8), a.take k = b.take k → Lib.compareBytes a b = Lib.compareBytes (a.drop k) (b.drop k)
  | 0, a, b, _ => by simp
  | k + 1, [], [], _ => by simp
  | k + 1, [], y :: b, h => by simp at h
  | k + 1, x :: a, [], h => by simp at h
  | k + 1, x :: a, y :: b, h => by
    simp only [List.take_succ_cons, List.cons.injEq] at h
    obtain ⟨rfl, h⟩ := h
    simp only [Lib.compareBytes, List.drop_succ_cons]
    rw [if_neg (by simp), if_neg (by simp)]
    exact cb_take k a b h
theorem cmpI_at (x y : ID) (k : Nat) (hk : k < 32) (h : x.1.take k = y.1.take k) : cmpI x y = (if (x.1[k]'(by rw [x.2]; exact hk)).toNat < (y.1[k]'(by rw [y.2]; exact hk)).toNat then -1 else if (y.1[k]'(by rw [y.2]; exact hk)).toNat < (x.1[k]'(by rw [x.2]; exact hk)).toNat then 1 else Lib.compareBytes (x.1.drop (k + 1)) (y.1.drop (k + 1))) := by
  have hx : k < x.1.length := by rw [x.2]; exact hk
  have hy : k < y.1.length := by rw [y.2]; exact hk
  unfold cmpI
  rw [cb_take k _ _ h, List.drop_eq_getElem_cons hx, List.drop_eq_getElem_cons hy]
  simp only [Lib.compareBytes, UInt8.lt_iff_toNat_lt]
def RcR (x y : ID) (W : World) (gk : Nat) (iv : Value) (wr : World) : Prop := ∃ k : Nat, iv = .int .i64 (k : Int) ∧ gk = 32 - k ∧ k ≤ 32 ∧ x.1.take k = y.1.take k ∧ Fr noB W wr

set_option maxRecDepth 100000 in
set_option maxHeartbeats 1000000 in
theorem rcmp_any (w : World) (x y : ID) : Calls Tryz.prog 36 #[encI x, encI y] w (Gives w (.int .i64 (cmpI x y))) := by
  have b1 := (blk_arr w x).fr ((Fr.refl noB _).alloc (aro y)) (by simp [noB])
  have b2 := blk_arr (w.alloc (aro x)) y
  have f0 : Fr noB w ((w.alloc (aro x)).alloc (aro y)) := ((Fr.refl noB w).alloc _).alloc _
  rw [World.size_alloc] at b2
  go_enter Tryz.func36, Tryz.ntmps36
  go_wp2_with fail
  generalize hW : (w.alloc (aro x)).alloc (aro y) = W at b1 b2 f0 ⊢
  clear hW
  go_loopg [5] 32 (fun gk iv wr => RcR x y W gk iv wr)
  case atStart => exact ⟨0, rfl, rfl, by omega, by simp, Fr.refl _ _⟩
  case round =>
    obtain ⟨k, rfl, rfl, hk, htk, hf⟩ := hrel
    by_cases hlt : k < 32
    · have i0 : (0 : Int) ≤ (k : Int) := by omega
      have i1 : (k : Int) < 32 := by omega
      have hc := cmpI_at x y k hlt htk
      have hx : k < x.1.length := by rw [x.2]; exact hlt
      have hy : k < y.1.length := by rw [y.2]; exact hlt
      have c1 := ((b1.fr hf.drew (by simp [noB])).cell k).trans (bv_at x k hlt)
      have c2 := ((b2.fr hf.drew (by simp [noB])).cell k).trans (bv_at y k hlt)
      have d1 := ((b1.fr hf.drew.drew (by simp [noB])).cell k).trans (bv_at x k hlt)
      have d2 := ((b2.fr hf.drew.drew (by simp [noB])).cell k).trans (bv_at y k hlt)
      have hts : x.1[k] = y.1[k] → x.1.take (k + 1) = y.1.take (k + 1) := fun e => by
        rw [List.take_succ_eq_append_getElem hx, List.take_succ_eq_append_getElem hy, htk, e]
      have hin : ∀ a b : UInt8, a.toNat = b.toNat → a = b := fun a b => UInt8.toNat_inj.1
      generalize x.1[k] = p at hc c1 c2 d1 d2 hts
      generalize y.1[k] = q at hc c1 c2 d1 d2 hts
      have HC := Lib.hid hc
      have HT := Lib.hid hts
      have HI := Lib.hid hin
      clear hc hts htk hin
      go_wp2_with fail
      refine wp_region_H (fun w' => w'.cell? ⟨w.heap.size, k, none⟩ = some (.int .u8 (p.toNat : Int)) ∧ w'.cell? ⟨w.heap.size + 1, k, none⟩ = some (.int .u8 (q.toNat : Int))) (by kernel_rfl) ⟨c1, c2⟩ (fun hF => ?_)
      refine wpAnyH_take (i := 0) (v := ?_) rfl (by kernel_rfl) (by kernel_rfl) (by kernel_rfl) (fun _ _ _ h => h) (Or.inl ⟨by rfl, ?_⟩) hF ?_
      rotate_left
      · intro wS hSw; (try dsimp only at hSw); obtain ⟨s1, s2⟩ := hSw; first | (apply Eq.trans; apply ex_ld_id; exact rfl; exact rfl; assumption; with_reducible rfl) | (apply Eq.trans; apply ex_ld_arr; exact rfl; exact rfl; assumption; with_reducible rfl) | (go_simp; try with_reducible rfl)
      try simp only [List.getElem_toArray, List.getElem_cons_zero, List.getElem_cons_succ, Act.put, List.setIfInBounds_toArray, List.set_cons_zero, List.set_cons_succ]
      refine wpAnyH_take (i := 1) (v := ?_) rfl (by kernel_rfl) (by kernel_rfl) (by kernel_rfl) (fun _ _ _ h => h) (Or.inl ⟨by rfl, ?_⟩) hF ?_
      rotate_left
      · intro wS hSw; (try dsimp only at hSw); obtain ⟨s1, s2⟩ := hSw; first | (apply Eq.trans; apply ex_ld_id; exact rfl; exact rfl; assumption; with_reducible rfl) | (apply Eq.trans; apply ex_ld_arr; exact rfl; exact rfl; assumption; with_reducible rfl) | (go_simp; try with_reducible rfl)
      try simp only [List.getElem_toArray, List.getElem_cons_zero, List.getElem_cons_succ, Act.put, List.setIfInBounds_toArray, List.set_cons_zero, List.set_cons_succ]
      refine wpAnyH_take (i := 2) (v := ?_) rfl (by kernel_rfl) (by kernel_rfl) (by kernel_rfl) (fun _ _ _ h => h) (Or.inl ⟨by rfl, ?_⟩) hF ?_
      rotate_left
      · intro wS hSw; (try dsimp only at hSw); obtain ⟨s1, s2⟩ := hSw; first | (apply Eq.trans; apply ex_ld_id; exact rfl; exact rfl; assumption; with_reducible rfl) | (apply Eq.trans; apply ex_ld_arr; exact rfl; exact rfl; assumption; with_reducible rfl) | (go_simp; try with_reducible rfl)
      try simp only [List.getElem_toArray, List.getElem_cons_zero, List.getElem_cons_succ, Act.put, List.setIfInBounds_toArray, List.set_cons_zero, List.set_cons_succ]
      refine wpAnyH_take (i := 3) (v := ?_) rfl (by kernel_rfl) (by kernel_rfl) (by kernel_rfl) (fun _ _ _ h => h) (Or.inl ⟨by rfl, ?_⟩) hF ?_
      rotate_left
      · intro wS hSw; (try dsimp only at hSw); obtain ⟨s1, s2⟩ := hSw; first | (apply Eq.trans; apply ex_ld_id; exact rfl; exact rfl; assumption; with_reducible rfl) | (apply Eq.trans; apply ex_ld_arr; exact rfl; exact rfl; assumption; with_reducible rfl) | (go_simp; try with_reducible rfl)
      try simp only [List.getElem_toArray, List.getElem_cons_zero, List.getElem_cons_succ, Act.put, List.setIfInBounds_toArray, List.set_cons_zero, List.set_cons_succ]
      refine wpAnyH_take (i := 4) (v := ?_) rfl (by kernel_rfl) (by kernel_rfl) (by kernel_rfl) (fun _ _ _ h => h) (Or.inl ⟨by rfl, ?_⟩) hF ?_
      rotate_left
      · intro wS hSw; (try dsimp only at hSw); obtain ⟨s1, s2⟩ := hSw; first | (apply Eq.trans; apply ex_ld_id; exact rfl; exact rfl; assumption; with_reducible rfl) | (apply Eq.trans; apply ex_ld_arr; exact rfl; exact rfl; assumption; with_reducible rfl) | (go_simp; try with_reducible rfl)
      try simp only [List.getElem_toArray, List.getElem_cons_zero, List.getElem_cons_succ, Act.put, List.setIfInBounds_toArray, List.set_cons_zero, List.set_cons_succ]
      refine wpAnyH_take (i := 5) (v := ?_) rfl (by kernel_rfl) (by kernel_rfl) (by kernel_rfl) (fun _ _ _ h => h) (Or.inl ⟨by rfl, ?_⟩) hF ?_
      rotate_left
      · intro wS hSw; (try dsimp only at hSw); obtain ⟨s1, s2⟩ := hSw; first | (apply Eq.trans; apply ex_ld_id; exact rfl; exact rfl; assumption; with_reducible rfl) | (apply Eq.trans; apply ex_ld_arr; exact rfl; exact rfl; assumption; with_reducible rfl) | (go_simp; try with_reducible rfl)
      try simp only [List.getElem_toArray, List.getElem_cons_zero, List.getElem_cons_succ, Act.put, List.setIfInBounds_toArray, List.set_cons_zero, List.set_cons_succ]
      refine wpAnyH_take (i := 6) (v := ?_) rfl (by kernel_rfl) (by kernel_rfl) (by kernel_rfl) (fun _ _ _ h => h) (Or.inl ⟨by rfl, ?_⟩) hF ?_
      rotate_left
      · intro wS hSw; (try dsimp only at hSw); obtain ⟨s1, s2⟩ := hSw; first | (apply Eq.trans; apply ex_ld_id; exact rfl; exact rfl; assumption; with_reducible rfl) | (apply Eq.trans; apply ex_ld_arr; exact rfl; exact rfl; assumption; with_reducible rfl) | (go_simp; try with_reducible rfl)
      try simp only [List.getElem_toArray, List.getElem_cons_zero, List.getElem_cons_succ, Act.put, List.setIfInBounds_toArray, List.set_cons_zero, List.set_cons_succ]
      refine wpAnyH_done (by kernel_rfl) ?_ _
      clear hF
      by_cases h1 : p.toNat < q.toNat
      · have h1' : decide ((p.toNat : Int) < (q.toNat : Int)) = true := by simpa using h1
        go_wp2_with fail
        go_ret
        refine ⟨?_, (f0.step0 hf).drew⟩
        rw [HC.out, if_pos h1]; rfl
      · have h1' : decide ((p.toNat : Int) < (q.toNat : Int)) = false := by simpa using h1
        go_wp2_with fail
        refine wp_region_H (fun w' => w'.cell? ⟨w.heap.size, k, none⟩ = some (.int .u8 (p.toNat : Int)) ∧ w'.cell? ⟨w.heap.size + 1, k, none⟩ = some (.int .u8 (q.toNat : Int))) (by kernel_rfl) ⟨d1, d2⟩ (fun hF => ?_)
        refine wpAnyH_take (i := 0) (v := ?_) rfl (by kernel_rfl) (by kernel_rfl) (by kernel_rfl) (fun _ _ _ h => h) (Or.inl ⟨by rfl, ?_⟩) hF ?_
        rotate_left
        · intro wS hSw; (try dsimp only at hSw); obtain ⟨s1, s2⟩ := hSw; first | (apply Eq.trans; apply ex_ld_id; exact rfl; exact rfl; assumption; with_reducible rfl) | (apply Eq.trans; apply ex_ld_arr; exact rfl; exact rfl; assumption; with_reducible rfl) | (go_simp; try with_reducible rfl)
        try simp only [List.getElem_toArray, List.getElem_cons_zero, List.getElem_cons_succ, Act.put, List.setIfInBounds_toArray, List.set_cons_zero, List.set_cons_succ]
        refine wpAnyH_take (i := 1) (v := ?_) rfl (by kernel_rfl) (by kernel_rfl) (by kernel_rfl) (fun _ _ _ h => h) (Or.inl ⟨by rfl, ?_⟩) hF ?_
        rotate_left
        · intro wS hSw; (try dsimp only at hSw); obtain ⟨s1, s2⟩ := hSw; first | (apply Eq.trans; apply ex_ld_id; exact rfl; exact rfl; assumption; with_reducible rfl) | (apply Eq.trans; apply ex_ld_arr; exact rfl; exact rfl; assumption; with_reducible rfl) | (go_simp; try with_reducible rfl)
        try simp only [List.getElem_toArray, List.getElem_cons_zero, List.getElem_cons_succ, Act.put, List.setIfInBounds_toArray, List.set_cons_zero, List.set_cons_succ]
        refine wpAnyH_take (i := 2) (v := ?_) rfl (by kernel_rfl) (by kernel_rfl) (by kernel_rfl) (fun _ _ _ h => h) (Or.inl ⟨by rfl, ?_⟩) hF ?_
        rotate_left
        · intro wS hSw; (try dsimp only at hSw); obtain ⟨s1, s2⟩ := hSw; first | (apply Eq.trans; apply ex_ld_id; exact rfl; exact rfl; assumption; with_reducible rfl) | (apply Eq.trans; apply ex_ld_arr; exact rfl; exact rfl; assumption; with_reducible rfl) | (go_simp; try with_reducible rfl)
        try simp only [List.getElem_toArray, List.getElem_cons_zero, List.getElem_cons_succ, Act.put, List.setIfInBounds_toArray, List.set_cons_zero, List.set_cons_succ]
        refine wpAnyH_take (i := 3) (v := ?_) rfl (by kernel_rfl) (by kernel_rfl) (by kernel_rfl) (fun _ _ _ h => h) (Or.inl ⟨by rfl, ?_⟩) hF ?_
        rotate_left
        · intro wS hSw; (try dsimp only at hSw); obtain ⟨s1, s2⟩ := hSw; first | (apply Eq.trans; apply ex_ld_id; exact rfl; exact rfl; assumption; with_reducible rfl) | (apply Eq.trans; apply ex_ld_arr; exact rfl; exact rfl; assumption; with_reducible rfl) | (go_simp; try with_reducible rfl)
        try simp only [List.getElem_toArray, List.getElem_cons_zero, List.getElem_cons_succ, Act.put, List.setIfInBounds_toArray, List.set_cons_zero, List.set_cons_succ]
        refine wpAnyH_take (i := 4) (v := ?_) rfl (by kernel_rfl) (by kernel_rfl) (by kernel_rfl) (fun _ _ _ h => h) (Or.inl ⟨by rfl, ?_⟩) hF ?_
        rotate_left
        · intro wS hSw; (try dsimp only at hSw); obtain ⟨s1, s2⟩ := hSw; first | (apply Eq.trans; apply ex_ld_id; exact rfl; exact rfl; assumption; with_reducible rfl) | (apply Eq.trans; apply ex_ld_arr; exact rfl; exact rfl; assumption; with_reducible rfl) | (go_simp; try with_reducible rfl)
        try simp only [List.getElem_toArray, List.getElem_cons_zero, List.getElem_cons_succ, Act.put, List.setIfInBounds_toArray, List.set_cons_zero, List.set_cons_succ]
        refine wpAnyH_take (i := 5) (v := ?_) rfl (by kernel_rfl) (by kernel_rfl) (by kernel_rfl) (fun _ _ _ h => h) (Or.inl ⟨by rfl, ?_⟩) hF ?_
        rotate_left
        · intro wS hSw; (try dsimp only at hSw); obtain ⟨s1, s2⟩ := hSw; first | (apply Eq.trans; apply ex_ld_id; exact rfl; exact rfl; assumption; with_reducible rfl) | (apply Eq.trans; apply ex_ld_arr; exact rfl; exact rfl; assumption; with_reducible rfl) | (go_simp; try with_reducible rfl)
        try simp only [List.getElem_toArray, List.getElem_cons_zero, List.getElem_cons_succ, Act.put, List.setIfInBounds_toArray, List.set_cons_zero, List.set_cons_succ]
        refine wpAnyH_take (i := 6) (v := ?_) rfl (by kernel_rfl) (by kernel_rfl) (by kernel_rfl) (fun _ _ _ h => h) (Or.inl ⟨by rfl, ?_⟩) hF ?_
        rotate_left
        · intro wS hSw; (try dsimp only at hSw); obtain ⟨s1, s2⟩ := hSw; first | (apply Eq.trans; apply ex_ld_id; exact rfl; exact rfl; assumption; with_reducible rfl) | (apply Eq.trans; apply ex_ld_arr; exact rfl; exact rfl; assumption; with_reducible rfl) | (go_simp; try with_reducible rfl)
        try simp only [List.getElem_toArray, List.getElem_cons_zero, List.getElem_cons_succ, Act.put, List.setIfInBounds_toArray, List.set_cons_zero, List.set_cons_succ]
        refine wpAnyH_done (by kernel_rfl) ?_ _
        clear hF
        by_cases h2 : q.toNat < p.toNat
        · have h2' : decide ((q.toNat : Int) < (p.toNat : Int)) = true := by simpa using h2
          go_wp2_with fail
          go_ret
          refine ⟨?_, (f0.step0 hf).drew.drew⟩
          rw [HC.out, if_neg h1, if_pos h2]; rfl
        · have h2' : decide ((q.toNat : Int) < (p.toNat : Int)) = false := by simpa using h2
          go_wp2_with fail
          go_roundg (32 - (k + 1))
          case measure => omega
          case rel => exact ⟨k + 1, by simp, rfl, by omega, HT.out (HI.out _ _ (by omega)), hf.drew.drew⟩
    · have ek : k = 32 := by omega
      subst ek
      have e : x = y := by
        have h1 : x.1.take 32 = x.1 := List.take_of_length_le (by rw [x.2]; omega)
        have h2 : y.1.take 32 = y.1 := List.take_of_length_le (by rw [y.2]; omega)
        exact Subtype.ext (by rw [← h1, htk, h2])
      subst e
      clear htk
      go_wp2_with fail
      go_ret
      exact ⟨by rw [cmpI_self]; rfl, f0.step0 hf⟩

end Go.Proofs.YtejkfekpgbmdiaaGreat
