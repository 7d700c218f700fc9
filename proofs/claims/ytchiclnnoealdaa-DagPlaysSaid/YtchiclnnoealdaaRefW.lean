/- Contracts: the reference's Cmp and SameIDs, the law's list. (ex_ld_arr: loads of arrays are met by that rule.) -/
import Derived.Test.YtchiclnnoealdaaLawB
import Derived.Test.YtchiclnnoealdaaRegM
namespace Go.Proofs.Ytchiclnnoealdaa
open Go.RowKit Go.Maps Go.Sort Go.Shelf
set_option linter.unusedVariables false
set_option linter.unusedSimpArgs false

abbrev aro (x : ID) : Obj := .cells (idA x) 23
@[simp] theorem bx_arr (w : World) (x : ID) : (Instr.box 23 (encI x)).run Try.prog w = .ok (.pointer (some ⟨w.heap.size, 0, none⟩)) (w.alloc (aro x)) := by
  simp [Instr.box, newVar, newRow, newObj, Value.cells, Sem.run, Result.andThen]
theorem ex_ld_arr {ρ : Operand → Value} {o : Oper} {a : Operand} {w : World} {b off : Nat} {x : ID} (ho : o.op = .load 23 a) (ha : ρ a = .pointer (some ⟨b, off, none⟩)) (hr : rdI w b off = some x) :
    (execOp ρ o).run Try.prog w = .ok (.value (encI x)) w := by
  have h := ld_arr w b off
  rw [hr] at h
  unfold execOp
  simp only [ho, ha, Sem.run_bind, h, Result.andThen_ok, Sem.run_pure]
theorem blk_arr (w : World) (x : ID) : Blk (w.alloc (aro x)) w.heap.size 23 (bv x.1) := by
  have := Blk.new w 23 (bv x.1)
  rw [← idA_eq] at this
  exact this
theorem bv_at (x : ID) (k : Nat) (hk : k < 32) : (bv x.1)[k]? = some (.int .u8 ((x.1[k]'(by rw [x.2]; exact hk)).toNat : Int)) := bv_get _ _ _
theorem cb_take : ∀ (k : Nat) (a b : List UInt8), a.take k = b.take k → Lib.compareBytes a b = Lib.compareBytes (a.drop k) (b.drop k)
  | 0, a, b, _ => by simp
  | k + 1, [], [], _ => by simp
  | k + 1, [], y :: b, h => by simp at h
  | k + 1, x :: a, [], h => by simp at h
  | k + 1, x :: a, y :: b, h => by
    simp only [List.take_succ_cons, List.cons.injEq] at h
    obtain ⟨rfl, h⟩ := h
    simp only [Lib.compareBytes, List.drop_succ_cons]
    rw [if_neg (by simp), if_neg (by simp)]
    exact cb_take k a b h
theorem cmpI_at (x y : ID) (k : Nat) (hk : k < 32) (h : x.1.take k = y.1.take k) : cmpI x y = (if (x.1[k]'(by rw [x.2]; exact hk)).toNat < (y.1[k]'(by rw [y.2]; exact hk)).toNat then -1 else if (y.1[k]'(by rw [y.2]; exact hk)).toNat < (x.1[k]'(by rw [x.2]; exact hk)).toNat then 1 else Lib.compareBytes (x.1.drop (k + 1)) (y.1.drop (k + 1))) := by
  have hx : k < x.1.length := by rw [x.2]; exact hk
  have hy : k < y.1.length := by rw [y.2]; exact hk
  unfold cmpI
  rw [cb_take k _ _ h, List.drop_eq_getElem_cons hx, List.drop_eq_getElem_cons hy]
  simp only [Lib.compareBytes, UInt8.lt_iff_toNat_lt]
def RcR (x y : ID) (W : World) (gk : Nat) (iv : Value) (wr : World) : Prop := ∃ k : Nat, iv = .int .i64 (k : Int) ∧ gk = 32 - k ∧ k ≤ 32 ∧ x.1.take k = y.1.take k ∧ Fr noB W wr

set_option maxRecDepth 100000 in
set_option maxHeartbeats 1000000 in
theorem rcmp_any (w : World) (x y : ID) : Calls Try.prog 29 #[encI x, encI y] w (Gives w (.int .i64 (cmpI x y))) := by
  have b1 := (blk_arr w x).fr ((Fr.refl noB _).alloc (aro y)) (by simp [noB])
  have b2 := blk_arr (w.alloc (aro x)) y
  have f0 : Fr noB w ((w.alloc (aro x)).alloc (aro y)) := ((Fr.refl noB w).alloc _).alloc _
  rw [World.size_alloc] at b2
  go_enter Try.func29, Try.ntmps29
  go_wp2_with fail
  generalize hW : (w.alloc (aro x)).alloc (aro y) = W at b1 b2 f0 ⊢
  clear hW
  go_loopg [5] 32 (fun gk iv wr => RcR x y W gk iv wr)
  case atStart => exact ⟨0, rfl, rfl, by omega, by simp, Fr.refl _ _⟩
  case round =>
    obtain ⟨k, rfl, rfl, hk, htk, hf⟩ := hrel
    by_cases hlt : k < 32
    · have i0 : (0 : Int) ≤ (k : Int) := by omega
      have i1 : (k : Int) < 32 := by omega
      have hc := cmpI_at x y k hlt htk
      have hx : k < x.1.length := by rw [x.2]; exact hlt
      have hy : k < y.1.length := by rw [y.2]; exact hlt
      have c1 := ((b1.fr hf.drew (by simp [noB])).cell k).trans (bv_at x k hlt)
      have c2 := ((b2.fr hf.drew (by simp [noB])).cell k).trans (bv_at y k hlt)
      have d1 := ((b1.fr hf.drew.drew (by simp [noB])).cell k).trans (bv_at x k hlt)
      have d2 := ((b2.fr hf.drew.drew (by simp [noB])).cell k).trans (bv_at y k hlt)
      have hts : x.1[k] = y.1[k] → x.1.take (k + 1) = y.1.take (k + 1) := fun e => by
        rw [List.take_succ_eq_append_getElem hx, List.take_succ_eq_append_getElem hy, htk, e]
      have hin : ∀ a b : UInt8, a.toNat = b.toNat → a = b := fun a b => UInt8.toNat_inj.1
      generalize x.1[k] = p at hc c1 c2 d1 d2 hts
      generalize y.1[k] = q at hc c1 c2 d1 d2 hts
      have HC := Lib.hid hc
      have HT := Lib.hid hts
      have HI := Lib.hid hin
      clear hc hts htk hin
      go_wp2_with fail
      refine wp_region_H (fun w' => w'.cell? ⟨w.heap.size, k, none⟩ = some (.int .u8 (p.toNat : Int)) ∧ w'.cell? ⟨w.heap.size + 1, k, none⟩ = some (.int .u8 (q.toNat : Int))) (by kernel_rfl) ⟨c1, c2⟩ (fun hF => ?_)
      refine wpAnyH_take (i := 0) (v := ?_) rfl (by kernel_rfl) (by kernel_rfl) (by kernel_rfl) (fun _ _ _ h => h) (Or.inl ⟨by rfl, ?_⟩) hF ?_
      rotate_left
      · intro wS hSw; (try dsimp only at hSw); obtain ⟨s1, s2⟩ := hSw; first | (apply Eq.trans; apply ex_ld_id; exact rfl; exact rfl; assumption; with_reducible rfl) | (apply Eq.trans; apply ex_ld_arr; exact rfl; exact rfl; assumption; with_reducible rfl) | (go_simp; try with_reducible rfl)
      try simp only [List.getElem_toArray, List.getElem_cons_zero, List.getElem_cons_succ, Act.put, List.setIfInBounds_toArray, List.set_cons_zero, List.set_cons_succ]
      refine wpAnyH_take (i := 1) (v := ?_) rfl (by kernel_rfl) (by kernel_rfl) (by kernel_rfl) (fun _ _ _ h => h) (Or.inl ⟨by rfl, ?_⟩) hF ?_
      rotate_left
      · intro wS hSw; (try dsimp only at hSw); obtain ⟨s1, s2⟩ := hSw; first | (apply Eq.trans; apply ex_ld_id; exact rfl; exact rfl; assumption; with_reducible rfl) | (apply Eq.trans; apply ex_ld_arr; exact rfl; exact rfl; assumption; with_reducible rfl) | (go_simp; try with_reducible rfl)
      try simp only [List.getElem_toArray, List.getElem_cons_zero, List.getElem_cons_succ, Act.put, List.setIfInBounds_toArray, List.set_cons_zero, List.set_cons_succ]
      refine wpAnyH_take (i := 2) (v := ?_) rfl (by kernel_rfl) (by kernel_rfl) (by kernel_rfl) (fun _ _ _ h => h) (Or.inl ⟨by rfl, ?_⟩) hF ?_
      rotate_left
      · intro wS hSw; (try dsimp only at hSw); obtain ⟨s1, s2⟩ := hSw; first | (apply Eq.trans; apply ex_ld_id; exact rfl; exact rfl; assumption; with_reducible rfl) | (apply Eq.trans; apply ex_ld_arr; exact rfl; exact rfl; assumption; with_reducible rfl) | (go_simp; try with_reducible rfl)
      try simp only [List.getElem_toArray, List.getElem_cons_zero, List.getElem_cons_succ, Act.put, List.setIfInBounds_toArray, List.set_cons_zero, List.set_cons_succ]
      refine wpAnyH_take (i := 3) (v := ?_) rfl (by kernel_rfl) (by kernel_rfl) (by kernel_rfl) (fun _ _ _ h => h) (Or.inl ⟨by rfl, ?_⟩) hF ?_
      rotate_left
      · intro wS hSw; (try dsimp only at hSw); obtain ⟨s1, s2⟩ := hSw; first | (apply Eq.trans; apply ex_ld_id; exact rfl; exact rfl; assumption; with_reducible rfl) | (apply Eq.trans; apply ex_ld_arr; exact rfl; exact rfl; assumption; with_reducible rfl) | (go_simp; try with_reducible rfl)
      try simp only [List.getElem_toArray, List.getElem_cons_zero, List.getElem_cons_succ, Act.put, List.setIfInBounds_toArray, List.set_cons_zero, List.set_cons_succ]
      refine wpAnyH_take (i := 4) (v := ?_) rfl (by kernel_rfl) (by kernel_rfl) (by kernel_rfl) (fun _ _ _ h => h) (Or.inl ⟨by rfl, ?_⟩) hF ?_
      rotate_left
      · intro wS hSw; (try dsimp only at hSw); obtain ⟨s1, s2⟩ := hSw; first | (apply Eq.trans; apply ex_ld_id; exact rfl; exact rfl; assumption; with_reducible rfl) | (apply Eq.trans; apply ex_ld_arr; exact rfl; exact rfl; assumption; with_reducible rfl) | (go_simp; try with_reducible rfl)
      try simp only [List.getElem_toArray, List.getElem_cons_zero, List.getElem_cons_succ, Act.put, List.setIfInBounds_toArray, List.set_cons_zero, List.set_cons_succ]
      refine wpAnyH_take (i := 5) (v := ?_) rfl (by kernel_rfl) (by kernel_rfl) (by kernel_rfl) (fun _ _ _ h => h) (Or.inl ⟨by rfl, ?_⟩) hF ?_
      rotate_left
      · intro wS hSw; (try dsimp only at hSw); obtain ⟨s1, s2⟩ := hSw; first | (apply Eq.trans; apply ex_ld_id; exact rfl; exact rfl; assumption; with_reducible rfl) | (apply Eq.trans; apply ex_ld_arr; exact rfl; exact rfl; assumption; with_reducible rfl) | (go_simp; try with_reducible rfl)
      try simp only [List.getElem_toArray, List.getElem_cons_zero, List.getElem_cons_succ, Act.put, List.setIfInBounds_toArray, List.set_cons_zero, List.set_cons_succ]
      refine wpAnyH_take (i := 6) (v := ?_) rfl (by kernel_rfl) (by kernel_rfl) (by kernel_rfl) (fun _ _ _ h => h) (Or.inl ⟨by rfl, ?_⟩) hF ?_
      rotate_left
      · intro wS hSw; (try dsimp only at hSw); obtain ⟨s1, s2⟩ := hSw; first | (apply Eq.trans; apply ex_ld_id; exact rfl; exact rfl; assumption; with_reducible rfl) | (apply Eq.trans; apply ex_ld_arr; exact rfl; exact rfl; assumption; with_reducible rfl) | (go_simp; try with_reducible rfl)
      try simp only [List.getElem_toArray, List.getElem_cons_zero, List.getElem_cons_succ, Act.put, List.setIfInBounds_toArray, List.set_cons_zero, List.set_cons_succ]
      refine wpAnyH_done (by kernel_rfl) ?_ _
      clear hF
      by_cases h1 : p.toNat < q.toNat
      · have h1' : decide ((p.toNat : Int) < (q.toNat : Int)) = true := by simpa using h1
        go_wp2_with fail
        go_ret
        refine ⟨?_, (f0.step0 hf).drew⟩
        rw [HC.out, if_pos h1]; rfl
      · have h1' : decide ((p.toNat : Int) < (q.toNat : Int)) = false := by simpa using h1
        go_wp2_with fail
        refine wp_region_H (fun w' => w'.cell? ⟨w.heap.size, k, none⟩ = some (.int .u8 (p.toNat : Int)) ∧ w'.cell? ⟨w.heap.size + 1, k, none⟩ = some (.int .u8 (q.toNat : Int))) (by kernel_rfl) ⟨d1, d2⟩ (fun hF => ?_)
        refine wpAnyH_take (i := 0) (v := ?_) rfl (by kernel_rfl) (by kernel_rfl) (by kernel_rfl) (fun _ _ _ h => h) (Or.inl ⟨by rfl, ?_⟩) hF ?_
        rotate_left
        · intro wS hSw; (try dsimp only at hSw); obtain ⟨s1, s2⟩ := hSw; first | (apply Eq.trans; apply ex_ld_id; exact rfl; exact rfl; assumption; with_reducible rfl) | (apply Eq.trans; apply ex_ld_arr; exact rfl; exact rfl; assumption; with_reducible rfl) | (go_simp; try with_reducible rfl)
        try simp only [List.getElem_toArray, List.getElem_cons_zero, List.getElem_cons_succ, Act.put, List.setIfInBounds_toArray, List.set_cons_zero, List.set_cons_succ]
        refine wpAnyH_take (i := 1) (v := ?_) rfl (by kernel_rfl) (by kernel_rfl) (by kernel_rfl) (fun _ _ _ h => h) (Or.inl ⟨by rfl, ?_⟩) hF ?_
        rotate_left
        · intro wS hSw; (try dsimp only at hSw); obtain ⟨s1, s2⟩ := hSw; first | (apply Eq.trans; apply ex_ld_id; exact rfl; exact rfl; assumption; with_reducible rfl) | (apply Eq.trans; apply ex_ld_arr; exact rfl; exact rfl; assumption; with_reducible rfl) | (go_simp; try with_reducible rfl)
        try simp only [List.getElem_toArray, List.getElem_cons_zero, List.getElem_cons_succ, Act.put, List.setIfInBounds_toArray, List.set_cons_zero, List.set_cons_succ]
        refine wpAnyH_take (i := 2) (v := ?_) rfl (by kernel_rfl) (by kernel_rfl) (by kernel_rfl) (fun _ _ _ h => h) (Or.inl ⟨by rfl, ?_⟩) hF ?_
        rotate_left
        · intro wS hSw; (try dsimp only at hSw); obtain ⟨s1, s2⟩ := hSw; first | (apply Eq.trans; apply ex_ld_id; exact rfl; exact rfl; assumption; with_reducible rfl) | (apply Eq.trans; apply ex_ld_arr; exact rfl; exact rfl; assumption; with_reducible rfl) | (go_simp; try with_reducible rfl)
        try simp only [List.getElem_toArray, List.getElem_cons_zero, List.getElem_cons_succ, Act.put, List.setIfInBounds_toArray, List.set_cons_zero, List.set_cons_succ]
        refine wpAnyH_take (i := 3) (v := ?_) rfl (by kernel_rfl) (by kernel_rfl) (by kernel_rfl) (fun _ _ _ h => h) (Or.inl ⟨by rfl, ?_⟩) hF ?_
        rotate_left
        · intro wS hSw; (try dsimp only at hSw); obtain ⟨s1, s2⟩ := hSw; first | (apply Eq.trans; apply ex_ld_id; exact rfl; exact rfl; assumption; with_reducible rfl) | (apply Eq.trans; apply ex_ld_arr; exact rfl; exact rfl; assumption; with_reducible rfl) | (go_simp; try with_reducible rfl)
        try simp only [List.getElem_toArray, List.getElem_cons_zero, List.getElem_cons_succ, Act.put, List.setIfInBounds_toArray, List.set_cons_zero, List.set_cons_succ]
        refine wpAnyH_take (i := 4) (v := ?_) rfl (by kernel_rfl) (by kernel_rfl) (by kernel_rfl) (fun _ _ _ h => h) (Or.inl ⟨by rfl, ?_⟩) hF ?_
        rotate_left
        · intro wS hSw; (try dsimp only at hSw); obtain ⟨s1, s2⟩ := hSw; first | (apply Eq.trans; apply ex_ld_id; exact rfl; exact rfl; assumption; with_reducible rfl) | (apply Eq.trans; apply ex_ld_arr; exact rfl; exact rfl; assumption; with_reducible rfl) | (go_simp; try with_reducible rfl)
        try simp only [List.getElem_toArray, List.getElem_cons_zero, List.getElem_cons_succ, Act.put, List.setIfInBounds_toArray, List.set_cons_zero, List.set_cons_succ]
        refine wpAnyH_take (i := 5) (v := ?_) rfl (by kernel_rfl) (by kernel_rfl) (by kernel_rfl) (fun _ _ _ h => h) (Or.inl ⟨by rfl, ?_⟩) hF ?_
        rotate_left
        · intro wS hSw; (try dsimp only at hSw); obtain ⟨s1, s2⟩ := hSw; first | (apply Eq.trans; apply ex_ld_id; exact rfl; exact rfl; assumption; with_reducible rfl) | (apply Eq.trans; apply ex_ld_arr; exact rfl; exact rfl; assumption; with_reducible rfl) | (go_simp; try with_reducible rfl)
        try simp only [List.getElem_toArray, List.getElem_cons_zero, List.getElem_cons_succ, Act.put, List.setIfInBounds_toArray, List.set_cons_zero, List.set_cons_succ]
        refine wpAnyH_take (i := 6) (v := ?_) rfl (by kernel_rfl) (by kernel_rfl) (by kernel_rfl) (fun _ _ _ h => h) (Or.inl ⟨by rfl, ?_⟩) hF ?_
        rotate_left
        · intro wS hSw; (try dsimp only at hSw); obtain ⟨s1, s2⟩ := hSw; first | (apply Eq.trans; apply ex_ld_id; exact rfl; exact rfl; assumption; with_reducible rfl) | (apply Eq.trans; apply ex_ld_arr; exact rfl; exact rfl; assumption; with_reducible rfl) | (go_simp; try with_reducible rfl)
        try simp only [List.getElem_toArray, List.getElem_cons_zero, List.getElem_cons_succ, Act.put, List.setIfInBounds_toArray, List.set_cons_zero, List.set_cons_succ]
        refine wpAnyH_done (by kernel_rfl) ?_ _
        clear hF
        by_cases h2 : q.toNat < p.toNat
        · have h2' : decide ((q.toNat : Int) < (p.toNat : Int)) = true := by simpa using h2
          go_wp2_with fail
          go_ret
          refine ⟨?_, (f0.step0 hf).drew.drew⟩
          rw [HC.out, if_neg h1, if_pos h2]; rfl
        · have h2' : decide ((q.toNat : Int) < (p.toNat : Int)) = false := by simpa using h2
          go_wp2_with fail
          go_roundg (32 - (k + 1))
          case measure => omega
          case rel => exact ⟨k + 1, by simp, rfl, by omega, HT.out (HI.out _ _ (by omega)), hf.drew.drew⟩
    · have ek : k = 32 := by omega
      subst ek
      have e : x = y := by
        have h1 : x.1.take 32 = x.1 := List.take_of_length_le (by rw [x.2]; omega)
        have h2 : y.1.take 32 = y.1 := List.take_of_length_le (by rw [y.2]; omega)
        exact Subtype.ext (by rw [← h1, htk, h2])
      subst e
      clear htk
      go_wp2_with fail
      go_ret
      exact ⟨by rw [cmpI_self]; rfl, f0.step0 hf⟩

/-! rows of arrays -/
theorem sizeArr (w : World) : (sizeOf 23).run Try.prog w = .ok 32 w := Try.sizeOf23 w
theorem zeroArr (w : World) : (zeroValue 23).run Try.prog w = .ok (encI zID) w := by
  simp only [encI, idA_eq]
  exact (zero_of_info (P := Try.prog) (t := 23) (v := .agg (bv zID.1).toArray) (n := 32) (by kernel_rfl)).1 w
abbrev rowr (l : List ID) : Obj := .cells (idR l) 23
theorem sl_newR (w : World) (l : List ID) : Sl (w.alloc (rowr l)) (some ⟨w.heap.size, 0, none⟩) (idc l) := by
  simp only [rowr, idR_eq]; exact Sl.new w 23 (idc l)
theorem bsR_1 (w : World) (x : ID) : (Instr.buildSlice 36 1 #[(0, encI x)]).run Try.prog w = .ok (.slice (some ⟨w.heap.size, 0, none⟩) 1 1) (w.alloc (rowr [x])) := by
  have h1 : Instr.fill (fun i => some (i * 32, 32)) ([] ++ z32 ++ []).toArray [(0, encI x)] = some (idc [x]).toArray :=
    (fill_one (fun i => some (i * 32, 32)) [] z32 [] (bv x.1) 0 (encI x) [] (cellsI x) (by simp [x.2]) (by simp [x.2, z32_len])).trans (by simp [Instr.fill, idc])
  simp only [Instr.buildSlice, Sem.run_bind, run_underlying Try.underlying36, Result.andThen_ok, sizeArr, zeroArr]
  simp only [show (1 * 32 > 2 ^ 24) = False from by simp, show (1 * 32 = 0) = False from by simp, if_false, Sem.run_bind, zeroArr, Result.andThen_ok, Sem.run_pure, zs1, h1]
  simp [newRow, newObj, rowr, idR_eq, Sem.run, Result.andThen]
@[irreducible] noncomputable def bsR1 (w : World) (v : Value) : Result Next := ((Instr.buildSlice 36 1 #[(0, v)]).run Try.prog w).andThen (fun v w => .ok (.value v) w)
@[simp ↓] theorem ex_bsR1 (ρ : Operand → Value) (a : Operand) (d : Option Nat) (t : TypeId) (p : String) (f : Array Edge) (g : Option (Nat × Bool)) (w : World) :
    (execOp ρ { dst := d, op := .buildSlice 36 1 #[(0, a)], type := t, pos := p, after := f, guard := g }).run Try.prog w = bsR1 w (ρ a) := by
  unfold execOp bsR1
  simp only [List.map_toArray, List.map_cons, List.map_nil, Sem.run_bind, Sem.run_pure]
@[simp] theorem bsR1_at (w : World) (x : ID) : bsR1 w (encI x) = .ok (.value (.slice (some ⟨w.heap.size, 0, none⟩) 1 1)) (w.alloc (rowr [x])) := by
  unfold bsR1; rw [bsR_1]; rfl
theorem etArrs : ET Try.prog 36 23 32 32 := ET.mk' (z := .agg (bv zID.1).toArray) Try.underlying36 (by kernel_rfl) (by simp [Value.cells, zID]) (by decide) (by decide)
abbrev OwnR (w0 w : World) (A : Option Addr) (c : Nat) (l : List ID) : Prop := w.ownsRow w0.heap.size 23 32 (.slice A l.length c) l.length (idc l)
theorem own_idr {w : World} {base : Nat} {n : Nat} {v : Value} {l : List ID} (h : w.ownsRow base 23 32 v n (idc l)) : w.ownsRow base 23 32 v l.length (idc l) := by
  have hn : n = l.length := by have := h.1; rw [idc_length] at this; omega
  subst hn; exact h
theorem wpList_appR (w0 w : World) {ops : Array Oper} {rest : List Oper} {o : Oper} {a : Act} {Q : Exit → Act → World → Prop} (hgd : o.guard = none) (s x : Operand)
    (ho : o.op = .call { callee := .builtin .append, args := #[s, x], argTypes := #[36, 36] })
    (As : Option Addr) (ns cs : Nat) (lo : List ID) (hs : a.eval s = .slice As ns cs) (hns : lo.length = ns) (hown : OwnR w0 w As cs lo)
    (A : Option Addr) (m c : Nat) (news : List ID) (hx : a.eval x = .slice A m c) (hr : Sl w A (idc news)) (hl : news.length = m)
    (hbytes : lo.length + news.length ≤ 1000000000000) (hbase : w0.heap.size ≤ w.heap.size)
    (h : ∀ A' c' w', (lo ++ news).length ≤ c' → c' ≤ maxLen → OwnR w0 w' A' c' (lo ++ news) → w.grownBy w' (As.map (·.block)) →
      (A'.map (·.block) = As.map (·.block) ∨ A'.map (·.block) = some w.heap.size) → wpList Try.prog ops Q rest (a.put o.dst (.slice A' (lo ++ news).length c')) w') :
    wpList Try.prog ops Q (o :: rest) a w := by
  subst hns
  refine wpList_app w etArrs hgd s x ho w0.heap.size _ lo.length (idc lo) hs hown A m c (idc news) hx hr (by rw [idc_length, hl]) (idc_one _) (by rw [← hl]; omega) hbase ?_
  intro v' w' h1 h2 h3
  rw [← idc_append] at h1
  have h1' := own_idr h1
  obtain ⟨A', c', rfl, hc1, hc2⟩ := own_form h1'
  rw [ownBlock_sl, ownBlock_sl] at h3
  rw [ownBlock_sl] at h2
  exact h A' c' w' hc1 hc2 h1' h2 h3
def NewArrs (w : World) (l : List ID) (e : Ending) (w' : World) : Prop := ∃ A c, e = .returned (.slice A l.length c) ∧ OwnR w w' A c l ∧ Fr noB w w'
def LisR (w : World) (l : List ID) (gk : Nat) (ov iv : Value) (wr : World) : Prop := ∃ (k : Nat) (A : Option Addr) (c : Nat), iv = .int .i64 (k : Int) ∧ gk = l.length - k ∧ k ≤ l.length ∧ ov = .slice A k c ∧ OwnR w wr A c (l.take k) ∧ Fr noB w wr

set_option maxRecDepth 100000 in
set_option maxHeartbeats 1000000 in
theorem list_any (w : World) (A0 : Option Addr) (c0 n : Nat) (l : List ID) (hn : l.length = n) (hs : Sl w A0 (idc l)) (hb : l.length ≤ 100000000000) : Calls Try.prog 12 #[.slice A0 n c0] w (NewArrs w l) := by
  subst hn
  go_enter Try.func12, Try.ntmps12
  go_wp2_with fail
  go_loopg [3, 9] l.length (fun gk ov iv wr => LisR w l gk ov iv wr)
  case atStart =>
    refine ⟨0, _, 0, rfl, rfl, by omega, rfl, ?_, (Fr.refl _ _).alloc _⟩
    exact World.ownsRow_lit (base := w.heap.size) (e := 23) (size := 32) w #[] 0 (Nat.le_refl _) (by simp [maxLen]) rfl
  case round =>
    obtain ⟨k, A, c, rfl, rfl, hk, rfl, ho, hf⟩ := hrel
    by_cases hlt : k < l.length
    · have i1 : (k : Int) < (l.length : Int) := by omega
      have i0 : (0 : Int) ≤ (k : Int) := by omega
      obtain ⟨g, off, rfl⟩ := hs.ad (by omega)
      have r0 := (hs.fr0 hf).id k hlt
      have hts : l.take (k + 1) = l.take k ++ [l[k]] := List.take_succ_eq_append_getElem hlt
      have hlen : (l.take k).length = k := by rw [List.length_take]; omega
      generalize l[k] = x at r0 hts
      have s1 : bxI (wr.alloc (ido zID)) wr.heap.size = some zID := bxI_new _ _
      obtain ⟨a1, a2, q0⟩ := putB_fr s1 x
      have fb : Fr noB wr (putB (wr.alloc (ido zID)) wr.heap.size x) := ((Fr.refl noB wr).alloc _).step1 a1 (Nat.le_refl _)
      have r1 := rdI_fr r0 (rdI_lt r0) ((Fr.refl noB wr).alloc (ido zID)) (by simp [noB])
      have r2 := bxI_rd q0
      have fc := fb.alloc (rowr [x])
      have sl := sl_newR (putB (wr.alloc (ido zID)) wr.heap.size x) [x]
      have ho2 : OwnR w ((putB (wr.alloc (ido zID)) wr.heap.size x).alloc (rowr [x])) A c (l.take k) := own_fr ho fc (fun _ _ => by simp [noB])
      have hby : (l.take k).length + [x].length ≤ 1000000000000 := by rw [hlen]; simp only [List.length_cons, List.length_nil]; omega
      have hsz := (hf.step0 fc).size
      have HL := Lib.hid hlen
      have HT := Lib.hid hts
      clear hlen hts a1 a2
      go_wp2_with (at_builtin; refine wpList_appR w _ rfl _ _ rfl A _ c (l.take k) rfl HL.out ho2 (some ⟨_, 0, none⟩) 1 1 [x] rfl sl rfl hby hsz ?_; intro A6 c6 w6 hc6 hm6 ho6 hg6 hA6)
      go_roundg (l.length - (k + 1))
      case measure => omega
      case rel =>
        have f6 := Fr.ofGrown (M := fun b => A.map (·.block) = some b) hg6 (fun g hg => hg)
        refine ⟨k + 1, A6, c6, by simp, rfl, by omega, rfl, by rw [HT.out]; exact ho6, (hf.step0 fc).step f6 (fun b hb => .inl ?_)⟩
        cases A with
        | none => cases hb
        | some a => simp only [Option.map_some, Option.some.injEq] at hb; rw [← hb]; exact (ho.lt _ (by simp [Value.ownBlock])).1
    · have ek : k = l.length := by omega
      subst ek
      rw [List.take_length] at ho
      go_wp2_with fail
      go_ret
      exact ⟨A, c, rfl, ho, hf⟩
def SamR (W : World) (l m : List ID) (gk : Nat) (iv : Value) (wr : World) : Prop := ∃ k : Nat, iv = .int .i64 (k : Int) ∧ gk = l.length - k ∧ k ≤ l.length ∧ l.take k = m.take k ∧ Fr noB W wr

set_option maxRecDepth 100000 in
set_option maxHeartbeats 1000000 in
theorem sameids_any (w : World) (A B : Option Addr) (c d n n' : Nat) (l m : List ID) (hn : l.length = n) (hn' : m.length = n') (hl : Sl w A (idc l)) (hm : Sl w B (idc m)) (hb : l.length ≤ 1000000000000) :
    Calls Try.prog 16 #[.slice A n c, .slice B n' d] w (Gives w (.bool (decide (l = m)))) := by
  subst hn
  subst hn'
  by_cases hlen : l.length = m.length
  · have e0 : ((l.length : Int) == (m.length : Int)) = true := by rw [beq_iff_eq]; omega
    have e1 : ((l.length : Int) != (m.length : Int)) = false := by simp [hlen]
    go_enter Try.func16, Try.ntmps16
    go_wp2_with fail
    go_loopg [5] l.length (fun gk iv wr => SamR w l m gk iv wr)
    case atStart => exact ⟨0, rfl, rfl, by omega, by simp, Fr.refl _ _⟩
    case round =>
      obtain ⟨k, rfl, rfl, hk, ht, hf⟩ := hrel
      by_cases hlt : k < l.length
      · have hlt2 : k < m.length := by omega
        have i1 : (k : Int) < (l.length : Int) := by omega
        have i2 : (k : Int) < (m.length : Int) := by omega
        have i0 : (0 : Int) ≤ (k : Int) := by omega
        obtain ⟨g, off, rfl⟩ := hl.ad (by omega)
        obtain ⟨g', off', rfl⟩ := hm.ad (by omega)
        have r0 := (hl.fr0 hf.drew).id k hlt
        have r1 := (hm.fr0 hf.drew).id k hlt2
        have hx : l.take (k + 1) = l.take k ++ [l[k]] := List.take_succ_eq_append_getElem hlt
        have hy : m.take (k + 1) = m.take k ++ [m[k]] := List.take_succ_eq_append_getElem hlt2
        have hne : l[k] ≠ m[k] → l ≠ m := fun h e => h (by subst e; rfl)
        generalize l[k] = x at r0 hx hne
        generalize m[k] = y at r1 hy hne
        have HX := Lib.hid hx
        have HY := Lib.hid hy
        have HN := Lib.hid hne
        have HT := Lib.hid ht
        have HL := Lib.hid hlen
        clear hx hy hne ht hlen
        go_wp2_with fail
        refine wp_region_H (fun w' => rdI w' g (off + k * 32) = some x ∧ rdI w' g' (off' + k * 32) = some y) (by kernel_rfl) ⟨r0, r1⟩ (fun hF => ?_)
        refine wpAnyH_take (i := 0) (v := ?_) rfl (by kernel_rfl) (by kernel_rfl) (by kernel_rfl) (fun _ _ _ h => h) (Or.inl ⟨by rfl, ?_⟩) hF ?_
        rotate_left
        · intro wS hSw; (try dsimp only at hSw); obtain ⟨s1, s2⟩ := hSw; first | (apply Eq.trans; apply ex_ld_id; exact rfl; exact rfl; assumption; with_reducible rfl) | (apply Eq.trans; apply ex_ld_arr; exact rfl; exact rfl; assumption; with_reducible rfl) | (go_simp; try with_reducible rfl)
        try simp only [List.getElem_toArray, List.getElem_cons_zero, List.getElem_cons_succ, Act.put, List.setIfInBounds_toArray, List.set_cons_zero, List.set_cons_succ]
        refine wpAnyH_take (i := 1) (v := ?_) rfl (by kernel_rfl) (by kernel_rfl) (by kernel_rfl) (fun _ _ _ h => h) (Or.inl ⟨by rfl, ?_⟩) hF ?_
        rotate_left
        · intro wS hSw; (try dsimp only at hSw); obtain ⟨s1, s2⟩ := hSw; first | (apply Eq.trans; apply ex_ld_id; exact rfl; exact rfl; assumption; with_reducible rfl) | (apply Eq.trans; apply ex_ld_arr; exact rfl; exact rfl; assumption; with_reducible rfl) | (go_simp; try with_reducible rfl)
        try simp only [List.getElem_toArray, List.getElem_cons_zero, List.getElem_cons_succ, Act.put, List.setIfInBounds_toArray, List.set_cons_zero, List.set_cons_succ]
        refine wpAnyH_take (i := 2) (v := ?_) rfl (by kernel_rfl) (by kernel_rfl) (by kernel_rfl) (fun _ _ _ h => h) (Or.inl ⟨by rfl, ?_⟩) hF ?_
        rotate_left
        · intro wS hSw; (try dsimp only at hSw); obtain ⟨s1, s2⟩ := hSw; first | (apply Eq.trans; apply ex_ld_id; exact rfl; exact rfl; assumption; with_reducible rfl) | (apply Eq.trans; apply ex_ld_arr; exact rfl; exact rfl; assumption; with_reducible rfl) | (go_simp; try with_reducible rfl)
        try simp only [List.getElem_toArray, List.getElem_cons_zero, List.getElem_cons_succ, Act.put, List.setIfInBounds_toArray, List.set_cons_zero, List.set_cons_succ]
        refine wpAnyH_take (i := 3) (v := ?_) rfl (by kernel_rfl) (by kernel_rfl) (by kernel_rfl) (fun _ _ _ h => h) (Or.inl ⟨by rfl, ?_⟩) hF ?_
        rotate_left
        · intro wS hSw; (try dsimp only at hSw); obtain ⟨s1, s2⟩ := hSw; first | (apply Eq.trans; apply ex_ld_id; exact rfl; exact rfl; assumption; with_reducible rfl) | (apply Eq.trans; apply ex_ld_arr; exact rfl; exact rfl; assumption; with_reducible rfl) | (go_simp; try with_reducible rfl)
        try simp only [List.getElem_toArray, List.getElem_cons_zero, List.getElem_cons_succ, Act.put, List.setIfInBounds_toArray, List.set_cons_zero, List.set_cons_succ]
        refine wpAnyH_take (i := 4) (v := ?_) rfl (by kernel_rfl) (by kernel_rfl) (by kernel_rfl) (fun _ _ _ h => h) (Or.inl ⟨by rfl, ?_⟩) hF ?_
        rotate_left
        · intro wS hSw; (try dsimp only at hSw); obtain ⟨s1, s2⟩ := hSw; first | (apply Eq.trans; apply ex_ld_id; exact rfl; exact rfl; assumption; with_reducible rfl) | (apply Eq.trans; apply ex_ld_arr; exact rfl; exact rfl; assumption; with_reducible rfl) | (go_simp; try with_reducible rfl)
        try simp only [List.getElem_toArray, List.getElem_cons_zero, List.getElem_cons_succ, Act.put, List.setIfInBounds_toArray, List.set_cons_zero, List.set_cons_succ]
        refine wpAnyH_take (i := 5) (v := ?_) rfl (by kernel_rfl) (by kernel_rfl) (by kernel_rfl) (fun _ _ _ h => h) (Or.inl ⟨by rfl, ?_⟩) hF ?_
        rotate_left
        · intro wS hSw; (try dsimp only at hSw); obtain ⟨s1, s2⟩ := hSw; first | (apply Eq.trans; apply ex_ld_id; exact rfl; exact rfl; assumption; with_reducible rfl) | (apply Eq.trans; apply ex_ld_arr; exact rfl; exact rfl; assumption; with_reducible rfl) | (go_simp; try with_reducible rfl)
        try simp only [List.getElem_toArray, List.getElem_cons_zero, List.getElem_cons_succ, Act.put, List.setIfInBounds_toArray, List.set_cons_zero, List.set_cons_succ]
        refine wpAnyH_take (i := 6) (v := ?_) rfl (by kernel_rfl) (by kernel_rfl) (by kernel_rfl) (fun _ _ _ h => h) (Or.inl ⟨by rfl, ?_⟩) hF ?_
        rotate_left
        · intro wS hSw; (try dsimp only at hSw); obtain ⟨s1, s2⟩ := hSw; first | (apply Eq.trans; apply ex_ld_id; exact rfl; exact rfl; assumption; with_reducible rfl) | (apply Eq.trans; apply ex_ld_arr; exact rfl; exact rfl; assumption; with_reducible rfl) | (go_simp; try with_reducible rfl)
        try simp only [List.getElem_toArray, List.getElem_cons_zero, List.getElem_cons_succ, Act.put, List.setIfInBounds_toArray, List.set_cons_zero, List.set_cons_succ]
        refine wpAnyH_take (i := 7) (v := ?_) rfl (by kernel_rfl) (by kernel_rfl) (by kernel_rfl) (fun _ _ _ h => h) (Or.inl ⟨by rfl, ?_⟩) hF ?_
        rotate_left
        · intro wS hSw; (try dsimp only at hSw); obtain ⟨s1, s2⟩ := hSw; first | (apply Eq.trans; apply ex_ld_id; exact rfl; exact rfl; assumption; with_reducible rfl) | (apply Eq.trans; apply ex_ld_arr; exact rfl; exact rfl; assumption; with_reducible rfl) | (go_simp; try with_reducible rfl)
        try simp only [List.getElem_toArray, List.getElem_cons_zero, List.getElem_cons_succ, Act.put, List.setIfInBounds_toArray, List.set_cons_zero, List.set_cons_succ]
        refine wpAnyH_take (i := 8) (v := ?_) rfl (by kernel_rfl) (by kernel_rfl) (by kernel_rfl) (fun _ _ _ h => h) (Or.inl ⟨by rfl, ?_⟩) hF ?_
        rotate_left
        · intro wS hSw; (try dsimp only at hSw); obtain ⟨s1, s2⟩ := hSw; first | (apply Eq.trans; apply ex_ld_id; exact rfl; exact rfl; assumption; with_reducible rfl) | (apply Eq.trans; apply ex_ld_arr; exact rfl; exact rfl; assumption; with_reducible rfl) | (go_simp; try with_reducible rfl)
        try simp only [List.getElem_toArray, List.getElem_cons_zero, List.getElem_cons_succ, Act.put, List.setIfInBounds_toArray, List.set_cons_zero, List.set_cons_succ]
        refine wpAnyH_done (by kernel_rfl) ?_ _
        clear hF
        by_cases hxy : x = y
        · subst hxy
          clear HN
          go_wp2_with fail
          go_roundg (l.length - (k + 1))
          case measure => omega
          case rel => exact ⟨k + 1, by simp, rfl, by omega, by rw [HX.out, HY.out, HT.out], hf.drew⟩
        · have HE := Lib.hid hxy
          have e3 : (!decide (x = y)) = true := by simp [hxy]
          rw [e3]
          go_wp2_with fail
          go_ret
          refine ⟨?_, hf.drew⟩
          have : decide (l = m) = false := by simp [HN.out HE.out]
          rw [this]; rfl
      · have ek : k = l.length := by omega
        subst ek
        have e : l = m := by rw [List.take_length] at ht; rw [ht, hlen, List.take_length]
        have E := Lib.hid e
        clear e ht hlen
        go_wp2_with fail
        go_ret
        exact ⟨by rw [decide_eq_true E.out]; rfl, hf⟩
  · have e0 : ((l.length : Int) == (m.length : Int)) = false := by rw [beq_eq_false_iff_ne]; omega
    have e1 : ((l.length : Int) != (m.length : Int)) = true := by simp [e0, bne]
    have hne : l ≠ m := fun e => hlen (by rw [e])
    have HN := Lib.hid hne
    clear hne hlen
    go_enter Try.func16, Try.ntmps16
    go_wp2_with fail
    go_ret
    exact ⟨by rw [decide_eq_false HN.out]; rfl, Fr.refl _ _⟩
end Go.Proofs.Ytchiclnnoealdaa
