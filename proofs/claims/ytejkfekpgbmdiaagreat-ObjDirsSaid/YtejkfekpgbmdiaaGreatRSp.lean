/- Contracts: the reference's Kind. Contracts: the references' SameIDs, SameHeads, Same, SameAll of equal things. (ex_ld_arr, rdI, ex_ldH_at, ex_ldO_at, ex_ldS_at) Contracts: the references' Same, SameAll, SameDir, SameChange of equal things. (ex_ld_arr, rdI, ex_ldH_at, ex_ldO_at, ex_ldS_at) Contracts: the references' SameAll, SameDir of equal things. Contracts: the references' SameChange of equal things. (ex_ld_arr, rdI) -/
import Derived.Test.YtejkfekpgbmdiaaGreatRGh
namespace Go.Proofs.YtejkfekpgbmdiaaGreat
open Go.RowKit
set_option linter.unusedVariables false
set_option linter.unusedSimpArgs false

set_option maxRecDepth 100000 in
set_option maxHeartbeats 2000000 in
theorem r4kind_any (w : World) (A : Option Addr) (c n : Nat) (l : List UInt8) (hn : l.length = n) (hs : Sl w A (bv l)) (hcap : l.length ≤ c) (hlb : l.length ≤ 140737488355328) : Calls Tryz.prog 35 #[.slice A n c] w (Gives w (.int .i64 (kindO l : Int))) := by
  have HN := Lib.hid hn
  obtain ⟨b0, h0⟩ : ∃ b0, b0 = (rdBl l).isSome := ⟨_, rfl⟩
  obtain ⟨b1, h1⟩ : ∃ b1, b1 = (rdDr l).isSome := ⟨_, rfl⟩
  obtain ⟨b2, h2⟩ : ∃ b2, b2 = (rdCh l).isSome := ⟨_, rfl⟩
  obtain ⟨b3, h3⟩ : ∃ b3, b3 = (rdLb l).isSome := ⟨_, rfl⟩
  have HK := Lib.hid (show kindO l = if b0 then 1 else if b1 then 2 else if b2 then 3 else if b3 then 4 else 0 by
    unfold kindO
    rw [h0, h1, h2, h3])
  have H0 := Lib.hid h0
  have H1 := Lib.hid h1
  have H2 := Lib.hid h2
  have H3 := Lib.hid h3
  clear hn h0 h1 h2 h3
  go_enter Tryz.func35, Tryz.ntmps35
  go_upto_region 4 with (first
    | (go_at_call 32; refine (r4dr_any w A c n l HN.out hs hcap hlb).mono ?_; rintro e w1 ⟨A1, c1, rs1, rfl, f1, _, _⟩; rw [← H1.out])
    | (go_at_call 33; refine (r4ch_any _ A c n l HN.out (hs.fr0 f1) hcap hlb).mono ?_; rintro e w2 ⟨r2, rs2, rfl, f2, _, _⟩; rw [← H2.out])
    | (go_at_call 34; refine (r4lb_any _ A c n l HN.out (((hs.fr0 f1).fr0 f2).fr0 ((Fr.refl noB w2).alloc _)) hcap hlb).mono ?_; rintro e w3 ⟨rfl, f3⟩; rw [← H3.out]))
  have fo : Fr noB w (w3.alloc (codL.o ((rdLb l).getD zLbl))) := (((f1.step0 f2).alloc _).step0 f3).alloc _
  generalize w3.alloc (codL.o ((rdLb l).getD zLbl)) = W at fo ⊢
  generalize codL.v ((rdLb l).getD zLbl) = zz
  replace hs := hs.fr0 fo
  have hn := HN.out
  cases l with
  | nil =>
    have hn0 : n = 0 := by rw [← hn]; rfl
    subst hn0
    clear hn HN
    have hb0 : b0 = false := by rw [H0.out]; exact rfl
    clear H0
    subst hb0
    clear H1 H2 H3
    cases b1 <;> cases b2 <;> cases b3
    all_goals
      go_wp2_with fail
      go_ret
      exact ⟨by rw [HK.out]; rfl, fo⟩
  | cons b t =>
    obtain ⟨g, off, rfl, hg, hcell⟩ := hs (by simp [bv_cons])
    have hc0 : W.cell? ⟨g, off, none⟩ = some (.int .u8 (b.toNat : Int)) := hcell 0 _ (bv_get (b :: t) 0 (by simp))
    simp only [List.length_cons] at hn
    have i0 : (0 : Int) < (n : Int) := by omega
    clear hcell hs
    by_cases hb1 : b = 1
    · have e1 : ((b.toNat : Int) == 1) = true := by rw [hb1]; rfl
      by_cases hl : t.length ≤ 4096
      · have i1 : (n : Int) ≤ 4097 := by omega
        have hb0 : b0 = true := by rw [H0.out]; simp [rdBl, hb1, hl]
        clear H0
        subst hb0
        clear H1 H2 H3 hb1 hl
        go_wp2_with fail
        go_ret
        exact ⟨by rw [HK.out]; rfl, fo⟩
      · have i1 : ¬ (n : Int) ≤ 4097 := by omega
        have h0 : (rdBl (b :: t)).isSome = false := by simp [rdBl, hl]
        have HH := Lib.hid h0
        clear h0 hb1 hl hn HN
        have hb0 : b0 = false := by rw [H0.out]; exact HH.out
        clear H0
        subst hb0
        clear H1 H2 H3
        cases b1 <;> cases b2 <;> cases b3
        all_goals
          go_wp2_with fail
          go_ret
          exact ⟨by rw [HK.out]; rfl, fo⟩
    · have e1 : ((b.toNat : Int) == 1) = false := by
        rw [beq_eq_false_iff_ne]
        intro h
        exact hb1 (UInt8.toNat_inj.1 (by show b.toNat = 1; omega))
      have h0 : (rdBl (b :: t)).isSome = false := by simp [rdBl, hb1]
      have HH := Lib.hid h0
      clear h0 hb1 hn HN
      have hb0 : b0 = false := by rw [H0.out]; exact HH.out
      clear H0
      subst hb0
      clear H1 H2 H3
      cases b1 <;> cases b2 <;> cases b3
      all_goals
        go_wp2_with fail
        go_ret
        exact ⟨by rw [HK.out]; rfl, fo⟩
end Go.Proofs.YtejkfekpgbmdiaaGreat
namespace Go.Proofs.YtejkfekpgbmdiaaGreat
open Go.RowKit
set_option linter.unusedVariables false
set_option linter.unusedSimpArgs false

theorem A_H (x : Hd) : codH.A x = (.int .i64 x.At.T :: .int .i64 x.At.R :: bv x.Data.1).toArray := Cod.A_eq codH x
theorem eqIn_S (w : World) (d : Nat) (a b : Int) : (Op.equalIn (d + 2) 69 (.agg #[.int .i64 a, .int .i64 b]) (.agg #[.int .i64 a, .int .i64 b])).run Tryz.prog w = .ok true w := by
  rw [run_equalIn_struct w (d + 1) 69 _ _ (by kernel_rfl) (by kernel_rfl)]
  go_simp
theorem eqIn_I (w : World) (d : Nat) (x : ID) : (Op.equalIn (d + 2) 45 (encI x) (encI x)).run Tryz.prog w = .ok true w := by
  simp only [encI, idA_eq]
  have := run_equalIn_bytes (P := Tryz.prog) w d 45 5 32 Tryz.underlying45 Tryz.underlying5 (by intro w; kernel_rfl) x.1 x.1 x.2 x.2
  rw [beq_self_eq_true] at this
  exact this
theorem eqIn_T (w : World) (d : Nat) (l : List UInt8) : (Op.equalIn (d + 1) 9 (.string (str l)) (.string (str l))).run Tryz.prog w = .ok true w := by
  rw [run_equalIn_string w d 9 _ _ Tryz.underlying9, beq_self_eq_true]
theorem sizeI' (w : World) : (sizeOf 45).run Tryz.prog w = .ok 32 w := Tryz.sizeOf45 w
theorem eq_Hr (w : World) (x : Hd) : (binOp .eql 84 (.agg (codH.A x)) (.agg (codH.A x))).run Tryz.prog w = .ok (.bool true) w := by
  have p1 : ∀ w, (part 69 (codH.A x) 0).run Tryz.prog w = .ok (.agg #[.int .i64 x.At.T, .int .i64 x.At.R]) w := fun w => by
    rw [A_H]
    simp [part, isAgg, run_underlying Tryz.underlying69, Tryz.sizeOf69]
  have p2 : ∀ w, (part 45 (codH.A x) 2).run Tryz.prog w = .ok (encI x.Data) w := fun w => by
    rw [A_H]
    simp only [part, isAgg, Sem.run_bind, run_underlying Tryz.underlying45, Result.andThen_ok, sizeI', Sem.run_pure, if_true, encI, idA_eq]
    congr 2
    have : (Value.int IntKind.i64 x.At.T :: Value.int IntKind.i64 x.At.R :: bv x.Data.1).length = 34 := by simp [x.Data.2]
    apply Array.ext'
    simp only [Array.toList_extract, List.extract_eq_take_drop, List.drop_succ_cons, List.drop_zero]
    rw [List.take_of_length_le (by simp [x.Data.2])]
  rw [run_eql_struct, run_equalIn_struct w 9999 84 _ _ (by kernel_rfl) (by kernel_rfl)]
  have hf : (Tryz.prog.fieldsOf 84).toList.map (fun f => (f.name, f.type, f.offset)) = [("At", 69, 0), ("Data", 45, 2)] := by kernel_rfl
  generalize (Tryz.prog.fieldsOf 84).toList = fs at hf ⊢
  rcases fs with _ | ⟨a, _ | ⟨b, _ | ⟨c, r⟩⟩⟩
  · simp at hf
  · simp at hf
  · simp only [List.map_cons, List.map_nil, List.cons.injEq, Prod.mk.injEq, and_true] at hf
    obtain ⟨⟨n1, t1, o1⟩, n2, t2, o2⟩ := hf
    simp only [Op.eqFields, n1, n2, t1, t2, o1, o2, Sem.run_ite, Sem.run_bind, p1, p2, Result.andThen_ok, eqIn_S w 9997, eqIn_I w 9997]
    simp
  · simp at hf
@[simp] theorem neq_Hr (w : World) (x : Hd) : (binOp .neq 84 (.agg (codH.A x)) (.agg (codH.A x))).run Tryz.prog w = .ok (.bool false) w := neq_of_eql (eq_Hr w x)
theorem A_L (x : Lbl) : codL.A x = (bv x.Target.1 ++ [Value.string (str x.Name), Value.string (str x.Msg)]).toArray := Cod.A_eq codL x
theorem eq_Lr (w : World) (x : Lbl) : (binOp .eql 55 (.agg (codL.A x)) (.agg (codL.A x))).run Tryz.prog w = .ok (.bool true) w := by
  have hl : (bv x.Target.1).length = 32 := by simp [x.Target.2]
  have p1 : ∀ w, (part 45 (codL.A x) 0).run Tryz.prog w = .ok (encI x.Target) w := fun w => by
    rw [A_L]
    simp only [part, isAgg, Sem.run_bind, run_underlying Tryz.underlying45, Result.andThen_ok, sizeI', Sem.run_pure, if_true, encI, idA_eq]
    congr 2
    apply Array.ext'
    simp only [Array.toList_extract, List.extract_eq_take_drop, List.drop_zero]
    rw [List.take_left' (by simp [x.Target.2])]
  have p2 : ∀ w, (part 9 (codL.A x) 32).run Tryz.prog w = .ok (.string (str x.Name)) w := fun w => by
    rw [A_L]
    simp only [part, isAgg, Sem.run_bind, run_underlying Tryz.underlying9, Result.andThen_ok, Sem.run_pure, Bool.false_eq_true, if_false, List.getElem?_toArray]
    rw [List.getElem?_append_right (by omega), hl]
    rfl
  have p3 : ∀ w, (part 9 (codL.A x) 33).run Tryz.prog w = .ok (.string (str x.Msg)) w := fun w => by
    rw [A_L]
    simp only [part, isAgg, Sem.run_bind, run_underlying Tryz.underlying9, Result.andThen_ok, Sem.run_pure, Bool.false_eq_true, if_false, List.getElem?_toArray]
    rw [List.getElem?_append_right (by omega), hl]
    rfl
  rw [run_eql_struct, run_equalIn_struct w 9999 55 _ _ (by kernel_rfl) (by kernel_rfl)]
  have hf : (Tryz.prog.fieldsOf 55).toList.map (fun f => (f.name, f.type, f.offset)) = [("Target", 45, 0), ("Name", 9, 32), ("Msg", 9, 33)] := by kernel_rfl
  generalize (Tryz.prog.fieldsOf 55).toList = fs at hf ⊢
  rcases fs with _ | ⟨a, _ | ⟨b, _ | ⟨c, _ | ⟨d, r⟩⟩⟩⟩
  · simp at hf
  · simp at hf
  · simp at hf
  · simp only [List.map_cons, List.map_nil, List.cons.injEq, Prod.mk.injEq, and_true] at hf
    obtain ⟨⟨n1, t1, o1⟩, ⟨n2, t2, o2⟩, n3, t3, o3⟩ := hf
    simp only [Op.eqFields, n1, n2, n3, t1, t2, t3, o1, o2, o3, Sem.run_ite, Sem.run_bind, p1, p2, p3, Result.andThen_ok, eqIn_T w 9998, eqIn_I w 9997]
    simp
  · simp at hf
@[simp] theorem eq_Lr' (w : World) (x : Lbl) : (binOp .eql 55 (.agg (codL.A x)) (.agg (codL.A x))).run Tryz.prog w = .ok (.bool true) w := eq_Lr w x
def SmR (W : World) (n : Nat) (gk : Nat) (iv : Value) (wr : World) : Prop := ∃ k : Nat, iv = .int .i64 (k : Int) ∧ gk = n - k ∧ k ≤ n ∧ Fr noB W wr
set_option maxRecDepth 100000 in
set_option maxHeartbeats 1000000 in
theorem same_ids (w : World) (A B : Option Addr) (c d n n' : Nat) (l : List ID) (hn : l.length = n) (hn' : l.length = n') (hl : Sl w A (idc l)) (hm : Sl w B (idc l)) (hb : l.length ≤ 140737488355328) :
    Calls Tryz.prog 20 #[.slice A n c, .slice B n' d] w (Gives w (.bool true)) := by
  subst hn
  subst hn'
  have e1 : ((l.length : Int) != (l.length : Int)) = false := by simp
  go_enter Tryz.func20, Tryz.ntmps20
  go_upto_region 4 with fail
  go_loopg [5] l.length (fun gk iv wr => SmR w l.length gk iv wr)
  case atStart => exact ⟨0, rfl, rfl, by omega, Fr.refl _ _⟩
  case round =>
    obtain ⟨k, rfl, rfl, hk, hf⟩ := hrel
    by_cases hlt : k < l.length
    · have i1 : (k : Int) < (l.length : Int) := by omega
      have i0 : (0 : Int) ≤ (k : Int) := by omega
      obtain ⟨g, off, rfl⟩ : ∃ g off, A = some ⟨g, off, none⟩ := by
        obtain ⟨g, off, h, _⟩ := hl (by intro h0; have := idc_length l; rw [h0] at this; simp at this; omega)
        exact ⟨g, off, h⟩
      obtain ⟨g', off', rfl⟩ : ∃ g off, B = some ⟨g, off, none⟩ := by
        obtain ⟨g, off, h, _⟩ := hm (by intro h0; have := idc_length l; rw [h0] at this; simp at this; omega)
        exact ⟨g, off, h⟩
      have r0 := (hl.fr0 hf.drew).id k hlt
      have r1 := (hm.fr0 hf.drew).id k hlt
      generalize l[k] = x at r0 r1
      go_upto_region 6 with fail
      refine wp_region_H (fun w' => rdI w' g (off + k * 32) = some x ∧ rdI w' g' (off' + k * 32) = some x) (by kernel_rfl) ⟨r0, r1⟩ (fun hF => ?_)
      refine wpAnyH_take (i := 0) (v := ?_) rfl (by kernel_rfl) (by kernel_rfl) (by kernel_rfl) (fun _ _ _ h => h) (Or.inl ⟨by rfl, ?_⟩) hF ?_
      rotate_left
      · intro wS hSw; (try dsimp only at hSw); obtain ⟨s1, s2⟩ := hSw; first | (apply Eq.trans; apply ex_ld_id; exact rfl; exact rfl; assumption; with_reducible rfl) | (apply Eq.trans; apply ex_ld_arr; exact rfl; exact rfl; assumption; with_reducible rfl) | (apply Eq.trans; apply ex_ldH_at; exact rfl; exact rfl; assumption; with_reducible rfl) | (apply Eq.trans; apply ex_ldO_at; exact rfl; exact rfl; assumption; with_reducible rfl) | (apply Eq.trans; apply ex_ldS_at; exact rfl; exact rfl; assumption; with_reducible rfl) | (go_simp; try with_reducible rfl)
      try simp only [List.getElem_toArray, List.getElem_cons_zero, List.getElem_cons_succ, Act.put, List.setIfInBounds_toArray, List.set_cons_zero, List.set_cons_succ]
      refine wpAnyH_take (i := 1) (v := ?_) rfl (by kernel_rfl) (by kernel_rfl) (by kernel_rfl) (fun _ _ _ h => h) (Or.inl ⟨by rfl, ?_⟩) hF ?_
      rotate_left
      · intro wS hSw; (try dsimp only at hSw); obtain ⟨s1, s2⟩ := hSw; first | (apply Eq.trans; apply ex_ld_id; exact rfl; exact rfl; assumption; with_reducible rfl) | (apply Eq.trans; apply ex_ld_arr; exact rfl; exact rfl; assumption; with_reducible rfl) | (apply Eq.trans; apply ex_ldH_at; exact rfl; exact rfl; assumption; with_reducible rfl) | (apply Eq.trans; apply ex_ldO_at; exact rfl; exact rfl; assumption; with_reducible rfl) | (apply Eq.trans; apply ex_ldS_at; exact rfl; exact rfl; assumption; with_reducible rfl) | (go_simp; try with_reducible rfl)
      try simp only [List.getElem_toArray, List.getElem_cons_zero, List.getElem_cons_succ, Act.put, List.setIfInBounds_toArray, List.set_cons_zero, List.set_cons_succ]
      refine wpAnyH_take (i := 2) (v := ?_) rfl (by kernel_rfl) (by kernel_rfl) (by kernel_rfl) (fun _ _ _ h => h) (Or.inl ⟨by rfl, ?_⟩) hF ?_
      rotate_left
      · intro wS hSw; (try dsimp only at hSw); obtain ⟨s1, s2⟩ := hSw; first | (apply Eq.trans; apply ex_ld_id; exact rfl; exact rfl; assumption; with_reducible rfl) | (apply Eq.trans; apply ex_ld_arr; exact rfl; exact rfl; assumption; with_reducible rfl) | (apply Eq.trans; apply ex_ldH_at; exact rfl; exact rfl; assumption; with_reducible rfl) | (apply Eq.trans; apply ex_ldO_at; exact rfl; exact rfl; assumption; with_reducible rfl) | (apply Eq.trans; apply ex_ldS_at; exact rfl; exact rfl; assumption; with_reducible rfl) | (go_simp; try with_reducible rfl)
      try simp only [List.getElem_toArray, List.getElem_cons_zero, List.getElem_cons_succ, Act.put, List.setIfInBounds_toArray, List.set_cons_zero, List.set_cons_succ]
      refine wpAnyH_take (i := 3) (v := ?_) rfl (by kernel_rfl) (by kernel_rfl) (by kernel_rfl) (fun _ _ _ h => h) (Or.inl ⟨by rfl, ?_⟩) hF ?_
      rotate_left
      · intro wS hSw; (try dsimp only at hSw); obtain ⟨s1, s2⟩ := hSw; first | (apply Eq.trans; apply ex_ld_id; exact rfl; exact rfl; assumption; with_reducible rfl) | (apply Eq.trans; apply ex_ld_arr; exact rfl; exact rfl; assumption; with_reducible rfl) | (apply Eq.trans; apply ex_ldH_at; exact rfl; exact rfl; assumption; with_reducible rfl) | (apply Eq.trans; apply ex_ldO_at; exact rfl; exact rfl; assumption; with_reducible rfl) | (apply Eq.trans; apply ex_ldS_at; exact rfl; exact rfl; assumption; with_reducible rfl) | (go_simp; try with_reducible rfl)
      try simp only [List.getElem_toArray, List.getElem_cons_zero, List.getElem_cons_succ, Act.put, List.setIfInBounds_toArray, List.set_cons_zero, List.set_cons_succ]
      refine wpAnyH_take (i := 4) (v := ?_) rfl (by kernel_rfl) (by kernel_rfl) (by kernel_rfl) (fun _ _ _ h => h) (Or.inl ⟨by rfl, ?_⟩) hF ?_
      rotate_left
      · intro wS hSw; (try dsimp only at hSw); obtain ⟨s1, s2⟩ := hSw; first | (apply Eq.trans; apply ex_ld_id; exact rfl; exact rfl; assumption; with_reducible rfl) | (apply Eq.trans; apply ex_ld_arr; exact rfl; exact rfl; assumption; with_reducible rfl) | (apply Eq.trans; apply ex_ldH_at; exact rfl; exact rfl; assumption; with_reducible rfl) | (apply Eq.trans; apply ex_ldO_at; exact rfl; exact rfl; assumption; with_reducible rfl) | (apply Eq.trans; apply ex_ldS_at; exact rfl; exact rfl; assumption; with_reducible rfl) | (go_simp; try with_reducible rfl)
      try simp only [List.getElem_toArray, List.getElem_cons_zero, List.getElem_cons_succ, Act.put, List.setIfInBounds_toArray, List.set_cons_zero, List.set_cons_succ]
      refine wpAnyH_take (i := 5) (v := ?_) rfl (by kernel_rfl) (by kernel_rfl) (by kernel_rfl) (fun _ _ _ h => h) (Or.inl ⟨by rfl, ?_⟩) hF ?_
      rotate_left
      · intro wS hSw; (try dsimp only at hSw); obtain ⟨s1, s2⟩ := hSw; first | (apply Eq.trans; apply ex_ld_id; exact rfl; exact rfl; assumption; with_reducible rfl) | (apply Eq.trans; apply ex_ld_arr; exact rfl; exact rfl; assumption; with_reducible rfl) | (apply Eq.trans; apply ex_ldH_at; exact rfl; exact rfl; assumption; with_reducible rfl) | (apply Eq.trans; apply ex_ldO_at; exact rfl; exact rfl; assumption; with_reducible rfl) | (apply Eq.trans; apply ex_ldS_at; exact rfl; exact rfl; assumption; with_reducible rfl) | (go_simp; try with_reducible rfl)
      try simp only [List.getElem_toArray, List.getElem_cons_zero, List.getElem_cons_succ, Act.put, List.setIfInBounds_toArray, List.set_cons_zero, List.set_cons_succ]
      refine wpAnyH_take (i := 6) (v := ?_) rfl (by kernel_rfl) (by kernel_rfl) (by kernel_rfl) (fun _ _ _ h => h) (Or.inl ⟨by rfl, ?_⟩) hF ?_
      rotate_left
      · intro wS hSw; (try dsimp only at hSw); obtain ⟨s1, s2⟩ := hSw; first | (apply Eq.trans; apply ex_ld_id; exact rfl; exact rfl; assumption; with_reducible rfl) | (apply Eq.trans; apply ex_ld_arr; exact rfl; exact rfl; assumption; with_reducible rfl) | (apply Eq.trans; apply ex_ldH_at; exact rfl; exact rfl; assumption; with_reducible rfl) | (apply Eq.trans; apply ex_ldO_at; exact rfl; exact rfl; assumption; with_reducible rfl) | (apply Eq.trans; apply ex_ldS_at; exact rfl; exact rfl; assumption; with_reducible rfl) | (go_simp; try with_reducible rfl)
      try simp only [List.getElem_toArray, List.getElem_cons_zero, List.getElem_cons_succ, Act.put, List.setIfInBounds_toArray, List.set_cons_zero, List.set_cons_succ]
      refine wpAnyH_take (i := 7) (v := ?_) rfl (by kernel_rfl) (by kernel_rfl) (by kernel_rfl) (fun _ _ _ h => h) (Or.inl ⟨by rfl, ?_⟩) hF ?_
      rotate_left
      · intro wS hSw; (try dsimp only at hSw); obtain ⟨s1, s2⟩ := hSw; first | (apply Eq.trans; apply ex_ld_id; exact rfl; exact rfl; assumption; with_reducible rfl) | (apply Eq.trans; apply ex_ld_arr; exact rfl; exact rfl; assumption; with_reducible rfl) | (apply Eq.trans; apply ex_ldH_at; exact rfl; exact rfl; assumption; with_reducible rfl) | (apply Eq.trans; apply ex_ldO_at; exact rfl; exact rfl; assumption; with_reducible rfl) | (apply Eq.trans; apply ex_ldS_at; exact rfl; exact rfl; assumption; with_reducible rfl) | (go_simp; try with_reducible rfl)
      try simp only [List.getElem_toArray, List.getElem_cons_zero, List.getElem_cons_succ, Act.put, List.setIfInBounds_toArray, List.set_cons_zero, List.set_cons_succ]
      refine wpAnyH_take (i := 8) (v := ?_) rfl (by kernel_rfl) (by kernel_rfl) (by kernel_rfl) (fun _ _ _ h => h) (Or.inl ⟨by rfl, ?_⟩) hF ?_
      rotate_left
      · intro wS hSw; (try dsimp only at hSw); obtain ⟨s1, s2⟩ := hSw; first | (apply Eq.trans; apply ex_ld_id; exact rfl; exact rfl; assumption; with_reducible rfl) | (apply Eq.trans; apply ex_ld_arr; exact rfl; exact rfl; assumption; with_reducible rfl) | (apply Eq.trans; apply ex_ldH_at; exact rfl; exact rfl; assumption; with_reducible rfl) | (apply Eq.trans; apply ex_ldO_at; exact rfl; exact rfl; assumption; with_reducible rfl) | (apply Eq.trans; apply ex_ldS_at; exact rfl; exact rfl; assumption; with_reducible rfl) | (go_simp; try with_reducible rfl)
      try simp only [List.getElem_toArray, List.getElem_cons_zero, List.getElem_cons_succ, Act.put, List.setIfInBounds_toArray, List.set_cons_zero, List.set_cons_succ]
      refine wpAnyH_done (by kernel_rfl) ?_ _
      clear hF
      go_wp2_with fail
      go_roundg (l.length - (k + 1))
      case measure => omega
      case rel => exact ⟨k + 1, by simp, rfl, by omega, hf.drew⟩
    · have hkn : k = l.length := by omega
      subst hkn
      have i1 : ¬ (l.length : Int) < (l.length : Int) := by omega
      go_wp2_with fail
      go_ret
      exact ⟨rfl, hf⟩
set_option maxRecDepth 100000 in
set_option maxHeartbeats 1000000 in
theorem same_heads (w : World) (A B : Option Addr) (c d n n' : Nat) (l : List Hd) (hn : l.length = n) (hn' : l.length = n') (hl : Sl w A (codH.row l)) (hm : Sl w B (codH.row l)) (hb : l.length ≤ 140737488355328) :
    Calls Tryz.prog 52 #[.slice A n c, .slice B n' d] w (Gives w (.bool true)) := by
  subst hn
  subst hn'
  have e1 : ((l.length : Int) != (l.length : Int)) = false := by simp
  go_enter Tryz.func52, Tryz.ntmps52
  go_upto_region 4 with fail
  go_loopg [5] l.length (fun gk iv wr => SmR w l.length gk iv wr)
  case atStart => exact ⟨0, rfl, rfl, by omega, Fr.refl _ _⟩
  case round =>
    obtain ⟨k, rfl, rfl, hk, hf⟩ := hrel
    by_cases hlt : k < l.length
    · have i1 : (k : Int) < (l.length : Int) := by omega
      have i0 : (0 : Int) ≤ (k : Int) := by omega
      obtain ⟨g, off, rfl⟩ : ∃ g off, A = some ⟨g, off, none⟩ := by
        obtain ⟨g, off, h, _⟩ := hl (Cod.row_ne (by intro h0; subst h0; simp at hlt))
        exact ⟨g, off, h⟩
      obtain ⟨g', off', rfl⟩ : ∃ g off, B = some ⟨g, off, none⟩ := by
        obtain ⟨g, off, h, _⟩ := hm (Cod.row_ne (by intro h0; subst h0; simp at hlt))
        exact ⟨g, off, h⟩
      have r0 := (hl.fr0 hf.drew).rd k hlt
      have r1 := (hm.fr0 hf.drew).rd k hlt
      generalize l[k] = x at r0 r1
      go_upto_region 6 with fail
      refine wp_region_H (fun w' => codH.rd w' g (off + k * 34) = some x ∧ codH.rd w' g' (off' + k * 34) = some x) (by kernel_rfl) ⟨r0, r1⟩ (fun hF => ?_)
      refine wpAnyH_take (i := 0) (v := ?_) rfl (by kernel_rfl) (by kernel_rfl) (by kernel_rfl) (fun _ _ _ h => h) (Or.inl ⟨by rfl, ?_⟩) hF ?_
      rotate_left
      · intro wS hSw; (try dsimp only at hSw); obtain ⟨s1, s2⟩ := hSw; first | (apply Eq.trans; apply ex_ld_id; exact rfl; exact rfl; assumption; with_reducible rfl) | (apply Eq.trans; apply ex_ld_arr; exact rfl; exact rfl; assumption; with_reducible rfl) | (apply Eq.trans; apply ex_ldH_at; exact rfl; exact rfl; assumption; with_reducible rfl) | (apply Eq.trans; apply ex_ldO_at; exact rfl; exact rfl; assumption; with_reducible rfl) | (apply Eq.trans; apply ex_ldS_at; exact rfl; exact rfl; assumption; with_reducible rfl) | (go_simp; try with_reducible rfl)
      try simp only [List.getElem_toArray, List.getElem_cons_zero, List.getElem_cons_succ, Act.put, List.setIfInBounds_toArray, List.set_cons_zero, List.set_cons_succ]
      refine wpAnyH_take (i := 1) (v := ?_) rfl (by kernel_rfl) (by kernel_rfl) (by kernel_rfl) (fun _ _ _ h => h) (Or.inl ⟨by rfl, ?_⟩) hF ?_
      rotate_left
      · intro wS hSw; (try dsimp only at hSw); obtain ⟨s1, s2⟩ := hSw; first | (apply Eq.trans; apply ex_ld_id; exact rfl; exact rfl; assumption; with_reducible rfl) | (apply Eq.trans; apply ex_ld_arr; exact rfl; exact rfl; assumption; with_reducible rfl) | (apply Eq.trans; apply ex_ldH_at; exact rfl; exact rfl; assumption; with_reducible rfl) | (apply Eq.trans; apply ex_ldO_at; exact rfl; exact rfl; assumption; with_reducible rfl) | (apply Eq.trans; apply ex_ldS_at; exact rfl; exact rfl; assumption; with_reducible rfl) | (go_simp; try with_reducible rfl)
      try simp only [List.getElem_toArray, List.getElem_cons_zero, List.getElem_cons_succ, Act.put, List.setIfInBounds_toArray, List.set_cons_zero, List.set_cons_succ]
      refine wpAnyH_take (i := 2) (v := ?_) rfl (by kernel_rfl) (by kernel_rfl) (by kernel_rfl) (fun _ _ _ h => h) (Or.inl ⟨by rfl, ?_⟩) hF ?_
      rotate_left
      · intro wS hSw; (try dsimp only at hSw); obtain ⟨s1, s2⟩ := hSw; first | (apply Eq.trans; apply ex_ld_id; exact rfl; exact rfl; assumption; with_reducible rfl) | (apply Eq.trans; apply ex_ld_arr; exact rfl; exact rfl; assumption; with_reducible rfl) | (apply Eq.trans; apply ex_ldH_at; exact rfl; exact rfl; assumption; with_reducible rfl) | (apply Eq.trans; apply ex_ldO_at; exact rfl; exact rfl; assumption; with_reducible rfl) | (apply Eq.trans; apply ex_ldS_at; exact rfl; exact rfl; assumption; with_reducible rfl) | (go_simp; try with_reducible rfl)
      try simp only [List.getElem_toArray, List.getElem_cons_zero, List.getElem_cons_succ, Act.put, List.setIfInBounds_toArray, List.set_cons_zero, List.set_cons_succ]
      refine wpAnyH_take (i := 3) (v := ?_) rfl (by kernel_rfl) (by kernel_rfl) (by kernel_rfl) (fun _ _ _ h => h) (Or.inl ⟨by rfl, ?_⟩) hF ?_
      rotate_left
      · intro wS hSw; (try dsimp only at hSw); obtain ⟨s1, s2⟩ := hSw; first | (apply Eq.trans; apply ex_ld_id; exact rfl; exact rfl; assumption; with_reducible rfl) | (apply Eq.trans; apply ex_ld_arr; exact rfl; exact rfl; assumption; with_reducible rfl) | (apply Eq.trans; apply ex_ldH_at; exact rfl; exact rfl; assumption; with_reducible rfl) | (apply Eq.trans; apply ex_ldO_at; exact rfl; exact rfl; assumption; with_reducible rfl) | (apply Eq.trans; apply ex_ldS_at; exact rfl; exact rfl; assumption; with_reducible rfl) | (go_simp; try with_reducible rfl)
      try simp only [List.getElem_toArray, List.getElem_cons_zero, List.getElem_cons_succ, Act.put, List.setIfInBounds_toArray, List.set_cons_zero, List.set_cons_succ]
      refine wpAnyH_take (i := 4) (v := ?_) rfl (by kernel_rfl) (by kernel_rfl) (by kernel_rfl) (fun _ _ _ h => h) (Or.inl ⟨by rfl, ?_⟩) hF ?_
      rotate_left
      · intro wS hSw; (try dsimp only at hSw); obtain ⟨s1, s2⟩ := hSw; first | (apply Eq.trans; apply ex_ld_id; exact rfl; exact rfl; assumption; with_reducible rfl) | (apply Eq.trans; apply ex_ld_arr; exact rfl; exact rfl; assumption; with_reducible rfl) | (apply Eq.trans; apply ex_ldH_at; exact rfl; exact rfl; assumption; with_reducible rfl) | (apply Eq.trans; apply ex_ldO_at; exact rfl; exact rfl; assumption; with_reducible rfl) | (apply Eq.trans; apply ex_ldS_at; exact rfl; exact rfl; assumption; with_reducible rfl) | (go_simp; try with_reducible rfl)
      try simp only [List.getElem_toArray, List.getElem_cons_zero, List.getElem_cons_succ, Act.put, List.setIfInBounds_toArray, List.set_cons_zero, List.set_cons_succ]
      refine wpAnyH_take (i := 5) (v := ?_) rfl (by kernel_rfl) (by kernel_rfl) (by kernel_rfl) (fun _ _ _ h => h) (Or.inl ⟨by rfl, ?_⟩) hF ?_
      rotate_left
      · intro wS hSw; (try dsimp only at hSw); obtain ⟨s1, s2⟩ := hSw; first | (apply Eq.trans; apply ex_ld_id; exact rfl; exact rfl; assumption; with_reducible rfl) | (apply Eq.trans; apply ex_ld_arr; exact rfl; exact rfl; assumption; with_reducible rfl) | (apply Eq.trans; apply ex_ldH_at; exact rfl; exact rfl; assumption; with_reducible rfl) | (apply Eq.trans; apply ex_ldO_at; exact rfl; exact rfl; assumption; with_reducible rfl) | (apply Eq.trans; apply ex_ldS_at; exact rfl; exact rfl; assumption; with_reducible rfl) | (go_simp; try with_reducible rfl)
      try simp only [List.getElem_toArray, List.getElem_cons_zero, List.getElem_cons_succ, Act.put, List.setIfInBounds_toArray, List.set_cons_zero, List.set_cons_succ]
      refine wpAnyH_take (i := 6) (v := ?_) rfl (by kernel_rfl) (by kernel_rfl) (by kernel_rfl) (fun _ _ _ h => h) (Or.inl ⟨by rfl, ?_⟩) hF ?_
      rotate_left
      · intro wS hSw; (try dsimp only at hSw); obtain ⟨s1, s2⟩ := hSw; first | (apply Eq.trans; apply ex_ld_id; exact rfl; exact rfl; assumption; with_reducible rfl) | (apply Eq.trans; apply ex_ld_arr; exact rfl; exact rfl; assumption; with_reducible rfl) | (apply Eq.trans; apply ex_ldH_at; exact rfl; exact rfl; assumption; with_reducible rfl) | (apply Eq.trans; apply ex_ldO_at; exact rfl; exact rfl; assumption; with_reducible rfl) | (apply Eq.trans; apply ex_ldS_at; exact rfl; exact rfl; assumption; with_reducible rfl) | (go_simp; try with_reducible rfl)
      try simp only [List.getElem_toArray, List.getElem_cons_zero, List.getElem_cons_succ, Act.put, List.setIfInBounds_toArray, List.set_cons_zero, List.set_cons_succ]
      refine wpAnyH_take (i := 7) (v := ?_) rfl (by kernel_rfl) (by kernel_rfl) (by kernel_rfl) (fun _ _ _ h => h) (Or.inl ⟨by rfl, ?_⟩) hF ?_
      rotate_left
      · intro wS hSw; (try dsimp only at hSw); obtain ⟨s1, s2⟩ := hSw; first | (apply Eq.trans; apply ex_ld_id; exact rfl; exact rfl; assumption; with_reducible rfl) | (apply Eq.trans; apply ex_ld_arr; exact rfl; exact rfl; assumption; with_reducible rfl) | (apply Eq.trans; apply ex_ldH_at; exact rfl; exact rfl; assumption; with_reducible rfl) | (apply Eq.trans; apply ex_ldO_at; exact rfl; exact rfl; assumption; with_reducible rfl) | (apply Eq.trans; apply ex_ldS_at; exact rfl; exact rfl; assumption; with_reducible rfl) | (go_simp; try with_reducible rfl)
      try simp only [List.getElem_toArray, List.getElem_cons_zero, List.getElem_cons_succ, Act.put, List.setIfInBounds_toArray, List.set_cons_zero, List.set_cons_succ]
      refine wpAnyH_take (i := 8) (v := ?_) rfl (by kernel_rfl) (by kernel_rfl) (by kernel_rfl) (fun _ _ _ h => h) (Or.inl ⟨by rfl, ?_⟩) hF ?_
      rotate_left
      · intro wS hSw; (try dsimp only at hSw); obtain ⟨s1, s2⟩ := hSw; first | (apply Eq.trans; apply ex_ld_id; exact rfl; exact rfl; assumption; with_reducible rfl) | (apply Eq.trans; apply ex_ld_arr; exact rfl; exact rfl; assumption; with_reducible rfl) | (apply Eq.trans; apply ex_ldH_at; exact rfl; exact rfl; assumption; with_reducible rfl) | (apply Eq.trans; apply ex_ldO_at; exact rfl; exact rfl; assumption; with_reducible rfl) | (apply Eq.trans; apply ex_ldS_at; exact rfl; exact rfl; assumption; with_reducible rfl) | (go_simp; try with_reducible rfl)
      try simp only [List.getElem_toArray, List.getElem_cons_zero, List.getElem_cons_succ, Act.put, List.setIfInBounds_toArray, List.set_cons_zero, List.set_cons_succ]
      refine wpAnyH_done (by kernel_rfl) ?_ _
      clear hF
      go_wp2_with fail
      go_roundg (l.length - (k + 1))
      case measure => omega
      case rel => exact ⟨k + 1, by simp, rfl, by omega, hf.drew⟩
    · have hkn : k = l.length := by omega
      subst hkn
      have i1 : ¬ (l.length : Int) < (l.length : Int) := by omega
      go_wp2_with fail
      go_ret
      exact ⟨rfl, hf⟩
end Go.Proofs.YtejkfekpgbmdiaaGreat
namespace Go.Proofs.YtejkfekpgbmdiaaGreat
open Go.RowKit
set_option linter.unusedVariables false
set_option linter.unusedSimpArgs false

set_option maxRecDepth 100000 in
set_option maxHeartbeats 2000000 in
theorem r3same_any (w : World) (r q : OpW) (o : Opn) (h : OpIn w r o) (h' : OpIn w q o) : Calls Tryz.prog 106 #[.agg (codO.A r), .agg (codO.A q)] w (Gives w (.bool true)) := by
  obtain ⟨he, hlen, hs, hbd, hnm⟩ := h
  obtain ⟨he', hlen', hs', hbd', hnm'⟩ := h'
  generalize o.Over = ov at he hlen hs hbd he' hlen' hs' hbd'
  rw [he] at he'
  clear he
  obtain ⟨K, a, nd, pa, nm, d, A, n, c⟩ := r
  obtain ⟨K', a', nd', pa', nm', d', A', n', c'⟩ := q
  unfold opOf at he'
  simp only [Opn.mk.injEq, and_true] at he'
  obtain ⟨rfl, rfl, rfl, rfl, rfl, rfl⟩ := he'
  simp only at hlen hlen' hs hs' hnm hnm'
  subst hlen hlen'
  have f0 : Fr noB w ((w.alloc (.cells (codO.A ⟨K, a, nd, pa, nm, d, A, ov.length, c⟩) 72)).alloc (.cells (codO.A ⟨K, a, nd, pa, nm, d, A', ov.length, c'⟩) 72)) := ((Fr.refl noB w).alloc _).alloc _
  have q0 := opAt (Cod.rd_fr0 (Cod.rd_new (C := codO) w 72 ⟨K, a, nd, pa, nm, d, A, ov.length, c⟩) ((Fr.refl noB _).alloc (.cells (codO.A ⟨K, a, nd, pa, nm, d, A', ov.length, c'⟩) 72)))
  have q1 := opAt (Cod.rd_new (C := codO) (w.alloc (.cells (codO.A ⟨K, a, nd, pa, nm, d, A, ov.length, c⟩) 72)) 72 ⟨K, a, nd, pa, nm, d, A', ov.length, c'⟩)
  have hP : (w.alloc (.cells (codO.A ⟨K, a, nd, pa, nm, d, A, ov.length, c⟩) 72)).heap.size = w.heap.size + 1 := by simp
  rw [hP] at q1
  clear hP
  replace hs := hs.fr0 f0
  replace hs' := hs'.fr0 f0
  go_enter Tryz.func106, Tryz.ntmps106
  go_upto_region 1 with fail
  generalize (w.alloc (.cells (codO.A ⟨K, a, nd, pa, nm, d, A, ov.length, c⟩) 72)).alloc (.cells (codO.A ⟨K, a, nd, pa, nm, d, A', ov.length, c'⟩) 72) = W0 at f0 q0 q1 hs hs' ⊢
  generalize w.heap.size = P at q0 q1 ⊢
  have q2 := q0.over
  have q3 := q1.over
  simp only at q2 q3
  have e1 : ((ov.length : Int) != (ov.length : Int)) = false := by simp
  go_upto_region 4 with fail
  go_loopg [5] ov.length (fun gk iv wr => SmR W0 ov.length gk iv wr)
  case atStart => exact ⟨0, rfl, rfl, by omega, Fr.refl _ _⟩
  case round =>
    obtain ⟨k, rfl, rfl, hk, hf⟩ := hrel
    have q2 := cell_fr0 q2 hf
    have q3 := cell_fr0 q3 hf
    by_cases hlt : k < ov.length
    · have i1 : (k : Int) < (ov.length : Int) := by omega
      have i0 : (0 : Int) ≤ (k : Int) := by omega
      obtain ⟨g, off, rfl⟩ : ∃ g off, A = some ⟨g, off, none⟩ := by
        obtain ⟨g, off, h, _⟩ := hs (Cod.row_ne (by intro h0; subst h0; simp at hlt))
        exact ⟨g, off, h⟩
      obtain ⟨g', off', rfl⟩ : ∃ g off, A' = some ⟨g, off, none⟩ := by
        obtain ⟨g, off, h, _⟩ := hs' (Cod.row_ne (by intro h0; subst h0; simp at hlt))
        exact ⟨g, off, h⟩
      have r0 := (hs.fr0 hf.drew).rd k hlt
      have r1 := (hs'.fr0 hf.drew).rd k hlt
      generalize ov[k] = x at r0 r1
      go_upto_region 6 with fail
      refine wp_region_H (fun w' => (codS.rd w' g (off + k * 2) = some x ∧ codS.rd w' g' (off' + k * 2) = some x) ∧ w'.cell? ⟨P, 40, none⟩ = some (.slice (some ⟨g, off, none⟩) ov.length c) ∧ w'.cell? ⟨P + 1, 40, none⟩ = some (.slice (some ⟨g', off', none⟩) ov.length c')) (by kernel_rfl) ⟨⟨r0, r1⟩, cell_fr0 q2 (Fr.refl noB _).drew, cell_fr0 q3 (Fr.refl noB _).drew⟩ (fun hF => ?_)
      refine wpAnyH_take (i := 0) (v := ?_) rfl (by kernel_rfl) (by kernel_rfl) (by kernel_rfl) (fun _ _ _ h => h) (Or.inl ⟨by rfl, ?_⟩) hF ?_
      rotate_left
      · intro wS hSw; (try dsimp only at hSw); obtain ⟨⟨s1, s4⟩, s2, s3⟩ := hSw; first | (apply Eq.trans; apply ex_ld_id; exact rfl; exact rfl; assumption; with_reducible rfl) | (apply Eq.trans; apply ex_ld_arr; exact rfl; exact rfl; assumption; with_reducible rfl) | (apply Eq.trans; apply ex_ldH_at; exact rfl; exact rfl; assumption; with_reducible rfl) | (apply Eq.trans; apply ex_ldO_at; exact rfl; exact rfl; assumption; with_reducible rfl) | (apply Eq.trans; apply ex_ldS_at; exact rfl; exact rfl; assumption; with_reducible rfl) | (go_simp; try with_reducible rfl)
      try simp only [List.getElem_toArray, List.getElem_cons_zero, List.getElem_cons_succ, Act.put, List.setIfInBounds_toArray, List.set_cons_zero, List.set_cons_succ]
      refine wpAnyH_take (i := 1) (v := ?_) rfl (by kernel_rfl) (by kernel_rfl) (by kernel_rfl) (fun _ _ _ h => h) (Or.inl ⟨by rfl, ?_⟩) hF ?_
      rotate_left
      · intro wS hSw; (try dsimp only at hSw); obtain ⟨⟨s1, s4⟩, s2, s3⟩ := hSw; first | (apply Eq.trans; apply ex_ld_id; exact rfl; exact rfl; assumption; with_reducible rfl) | (apply Eq.trans; apply ex_ld_arr; exact rfl; exact rfl; assumption; with_reducible rfl) | (apply Eq.trans; apply ex_ldH_at; exact rfl; exact rfl; assumption; with_reducible rfl) | (apply Eq.trans; apply ex_ldO_at; exact rfl; exact rfl; assumption; with_reducible rfl) | (apply Eq.trans; apply ex_ldS_at; exact rfl; exact rfl; assumption; with_reducible rfl) | (go_simp; try with_reducible rfl)
      try simp only [List.getElem_toArray, List.getElem_cons_zero, List.getElem_cons_succ, Act.put, List.setIfInBounds_toArray, List.set_cons_zero, List.set_cons_succ]
      refine wpAnyH_take (i := 2) (v := ?_) rfl (by kernel_rfl) (by kernel_rfl) (by kernel_rfl) (fun _ _ _ h => h) (Or.inl ⟨by rfl, ?_⟩) hF ?_
      rotate_left
      · intro wS hSw; (try dsimp only at hSw); obtain ⟨⟨s1, s4⟩, s2, s3⟩ := hSw; first | (apply Eq.trans; apply ex_ld_id; exact rfl; exact rfl; assumption; with_reducible rfl) | (apply Eq.trans; apply ex_ld_arr; exact rfl; exact rfl; assumption; with_reducible rfl) | (apply Eq.trans; apply ex_ldH_at; exact rfl; exact rfl; assumption; with_reducible rfl) | (apply Eq.trans; apply ex_ldO_at; exact rfl; exact rfl; assumption; with_reducible rfl) | (apply Eq.trans; apply ex_ldS_at; exact rfl; exact rfl; assumption; with_reducible rfl) | (go_simp; try with_reducible rfl)
      try simp only [List.getElem_toArray, List.getElem_cons_zero, List.getElem_cons_succ, Act.put, List.setIfInBounds_toArray, List.set_cons_zero, List.set_cons_succ]
      refine wpAnyH_take (i := 3) (v := ?_) rfl (by kernel_rfl) (by kernel_rfl) (by kernel_rfl) (fun _ _ _ h => h) (Or.inl ⟨by rfl, ?_⟩) hF ?_
      rotate_left
      · intro wS hSw; (try dsimp only at hSw); obtain ⟨⟨s1, s4⟩, s2, s3⟩ := hSw; first | (apply Eq.trans; apply ex_ld_id; exact rfl; exact rfl; assumption; with_reducible rfl) | (apply Eq.trans; apply ex_ld_arr; exact rfl; exact rfl; assumption; with_reducible rfl) | (apply Eq.trans; apply ex_ldH_at; exact rfl; exact rfl; assumption; with_reducible rfl) | (apply Eq.trans; apply ex_ldO_at; exact rfl; exact rfl; assumption; with_reducible rfl) | (apply Eq.trans; apply ex_ldS_at; exact rfl; exact rfl; assumption; with_reducible rfl) | (go_simp; try with_reducible rfl)
      try simp only [List.getElem_toArray, List.getElem_cons_zero, List.getElem_cons_succ, Act.put, List.setIfInBounds_toArray, List.set_cons_zero, List.set_cons_succ]
      refine wpAnyH_take (i := 4) (v := ?_) rfl (by kernel_rfl) (by kernel_rfl) (by kernel_rfl) (fun _ _ _ h => h) (Or.inl ⟨by rfl, ?_⟩) hF ?_
      rotate_left
      · intro wS hSw; (try dsimp only at hSw); obtain ⟨⟨s1, s4⟩, s2, s3⟩ := hSw; first | (apply Eq.trans; apply ex_ld_id; exact rfl; exact rfl; assumption; with_reducible rfl) | (apply Eq.trans; apply ex_ld_arr; exact rfl; exact rfl; assumption; with_reducible rfl) | (apply Eq.trans; apply ex_ldH_at; exact rfl; exact rfl; assumption; with_reducible rfl) | (apply Eq.trans; apply ex_ldO_at; exact rfl; exact rfl; assumption; with_reducible rfl) | (apply Eq.trans; apply ex_ldS_at; exact rfl; exact rfl; assumption; with_reducible rfl) | (go_simp; try with_reducible rfl)
      try simp only [List.getElem_toArray, List.getElem_cons_zero, List.getElem_cons_succ, Act.put, List.setIfInBounds_toArray, List.set_cons_zero, List.set_cons_succ]
      refine wpAnyH_take (i := 5) (v := ?_) rfl (by kernel_rfl) (by kernel_rfl) (by kernel_rfl) (fun _ _ _ h => h) (Or.inl ⟨by rfl, ?_⟩) hF ?_
      rotate_left
      · intro wS hSw; (try dsimp only at hSw); obtain ⟨⟨s1, s4⟩, s2, s3⟩ := hSw; first | (apply Eq.trans; apply ex_ld_id; exact rfl; exact rfl; assumption; with_reducible rfl) | (apply Eq.trans; apply ex_ld_arr; exact rfl; exact rfl; assumption; with_reducible rfl) | (apply Eq.trans; apply ex_ldH_at; exact rfl; exact rfl; assumption; with_reducible rfl) | (apply Eq.trans; apply ex_ldO_at; exact rfl; exact rfl; assumption; with_reducible rfl) | (apply Eq.trans; apply ex_ldS_at; exact rfl; exact rfl; assumption; with_reducible rfl) | (go_simp; try with_reducible rfl)
      try simp only [List.getElem_toArray, List.getElem_cons_zero, List.getElem_cons_succ, Act.put, List.setIfInBounds_toArray, List.set_cons_zero, List.set_cons_succ]
      refine wpAnyH_take (i := 6) (v := ?_) rfl (by kernel_rfl) (by kernel_rfl) (by kernel_rfl) (fun _ _ _ h => h) (Or.inl ⟨by rfl, ?_⟩) hF ?_
      rotate_left
      · intro wS hSw; (try dsimp only at hSw); obtain ⟨⟨s1, s4⟩, s2, s3⟩ := hSw; first | (apply Eq.trans; apply ex_ld_id; exact rfl; exact rfl; assumption; with_reducible rfl) | (apply Eq.trans; apply ex_ld_arr; exact rfl; exact rfl; assumption; with_reducible rfl) | (apply Eq.trans; apply ex_ldH_at; exact rfl; exact rfl; assumption; with_reducible rfl) | (apply Eq.trans; apply ex_ldO_at; exact rfl; exact rfl; assumption; with_reducible rfl) | (apply Eq.trans; apply ex_ldS_at; exact rfl; exact rfl; assumption; with_reducible rfl) | (go_simp; try with_reducible rfl)
      try simp only [List.getElem_toArray, List.getElem_cons_zero, List.getElem_cons_succ, Act.put, List.setIfInBounds_toArray, List.set_cons_zero, List.set_cons_succ]
      refine wpAnyH_take (i := 7) (v := ?_) rfl (by kernel_rfl) (by kernel_rfl) (by kernel_rfl) (fun _ _ _ h => h) (Or.inl ⟨by rfl, ?_⟩) hF ?_
      rotate_left
      · intro wS hSw; (try dsimp only at hSw); obtain ⟨⟨s1, s4⟩, s2, s3⟩ := hSw; first | (apply Eq.trans; apply ex_ld_id; exact rfl; exact rfl; assumption; with_reducible rfl) | (apply Eq.trans; apply ex_ld_arr; exact rfl; exact rfl; assumption; with_reducible rfl) | (apply Eq.trans; apply ex_ldH_at; exact rfl; exact rfl; assumption; with_reducible rfl) | (apply Eq.trans; apply ex_ldO_at; exact rfl; exact rfl; assumption; with_reducible rfl) | (apply Eq.trans; apply ex_ldS_at; exact rfl; exact rfl; assumption; with_reducible rfl) | (go_simp; try with_reducible rfl)
      try simp only [List.getElem_toArray, List.getElem_cons_zero, List.getElem_cons_succ, Act.put, List.setIfInBounds_toArray, List.set_cons_zero, List.set_cons_succ]
      refine wpAnyH_take (i := 8) (v := ?_) rfl (by kernel_rfl) (by kernel_rfl) (by kernel_rfl) (fun _ _ _ h => h) (Or.inl ⟨by rfl, ?_⟩) hF ?_
      rotate_left
      · intro wS hSw; (try dsimp only at hSw); obtain ⟨⟨s1, s4⟩, s2, s3⟩ := hSw; first | (apply Eq.trans; apply ex_ld_id; exact rfl; exact rfl; assumption; with_reducible rfl) | (apply Eq.trans; apply ex_ld_arr; exact rfl; exact rfl; assumption; with_reducible rfl) | (apply Eq.trans; apply ex_ldH_at; exact rfl; exact rfl; assumption; with_reducible rfl) | (apply Eq.trans; apply ex_ldO_at; exact rfl; exact rfl; assumption; with_reducible rfl) | (apply Eq.trans; apply ex_ldS_at; exact rfl; exact rfl; assumption; with_reducible rfl) | (go_simp; try with_reducible rfl)
      try simp only [List.getElem_toArray, List.getElem_cons_zero, List.getElem_cons_succ, Act.put, List.setIfInBounds_toArray, List.set_cons_zero, List.set_cons_succ]
      refine wpAnyH_take (i := 9) (v := ?_) rfl (by kernel_rfl) (by kernel_rfl) (by kernel_rfl) (fun _ _ _ h => h) (Or.inl ⟨by rfl, ?_⟩) hF ?_
      rotate_left
      · intro wS hSw; (try dsimp only at hSw); obtain ⟨⟨s1, s4⟩, s2, s3⟩ := hSw; first | (apply Eq.trans; apply ex_ld_id; exact rfl; exact rfl; assumption; with_reducible rfl) | (apply Eq.trans; apply ex_ld_arr; exact rfl; exact rfl; assumption; with_reducible rfl) | (apply Eq.trans; apply ex_ldH_at; exact rfl; exact rfl; assumption; with_reducible rfl) | (apply Eq.trans; apply ex_ldO_at; exact rfl; exact rfl; assumption; with_reducible rfl) | (apply Eq.trans; apply ex_ldS_at; exact rfl; exact rfl; assumption; with_reducible rfl) | (go_simp; try with_reducible rfl)
      try simp only [List.getElem_toArray, List.getElem_cons_zero, List.getElem_cons_succ, Act.put, List.setIfInBounds_toArray, List.set_cons_zero, List.set_cons_succ]
      refine wpAnyH_take (i := 10) (v := ?_) rfl (by kernel_rfl) (by kernel_rfl) (by kernel_rfl) (fun _ _ _ h => h) (Or.inl ⟨by rfl, ?_⟩) hF ?_
      rotate_left
      · intro wS hSw; (try dsimp only at hSw); obtain ⟨⟨s1, s4⟩, s2, s3⟩ := hSw; first | (apply Eq.trans; apply ex_ld_id; exact rfl; exact rfl; assumption; with_reducible rfl) | (apply Eq.trans; apply ex_ld_arr; exact rfl; exact rfl; assumption; with_reducible rfl) | (apply Eq.trans; apply ex_ldH_at; exact rfl; exact rfl; assumption; with_reducible rfl) | (apply Eq.trans; apply ex_ldO_at; exact rfl; exact rfl; assumption; with_reducible rfl) | (apply Eq.trans; apply ex_ldS_at; exact rfl; exact rfl; assumption; with_reducible rfl) | (go_simp; try with_reducible rfl)
      try simp only [List.getElem_toArray, List.getElem_cons_zero, List.getElem_cons_succ, Act.put, List.setIfInBounds_toArray, List.set_cons_zero, List.set_cons_succ]
      refine wpAnyH_done (by kernel_rfl) ?_ _
      clear hF
      go_wp2_with fail
      go_roundg (ov.length - (k + 1))
      case measure => omega
      case rel => exact ⟨k + 1, by simp, rfl, by omega, hf.drew⟩
    · have hkn : k = ov.length := by omega
      subst hkn
      have i1 : ¬ (ov.length : Int) < (ov.length : Int) := by omega
      have a1 := cell_fr0 q0.kind hf
      have a2 := cell_fr0 q1.kind hf
      have a3 := Cod.rd_fr0 q0.At hf
      have a4 := Cod.rd_fr0 q1.At hf
      have a5 := Cod.rd_fr0 q0.node hf
      have a6 := Cod.rd_fr0 q1.node hf
      have a7 := Cod.rd_fr0 q0.parent hf
      have a8 := Cod.rd_fr0 q1.parent hf
      have a9 := cell_fr0 q0.name hf
      have b1 := cell_fr0 q1.name hf
      have b2 := rdI_fr q0.data (rdI_lt q0.data) hf (by simp [noB])
      have b3 := rdI_fr q1.data (rdI_lt q1.data) hf (by simp [noB])
      simp only at a1 a2 a3 a4 a5 a6 a7 a8 a9 b1 b2 b3
      clear q0 q1 hs hs'
      go_wp2_with fail
      go_ret
      exact ⟨rfl, f0.step0 hf⟩
end Go.Proofs.YtejkfekpgbmdiaaGreat
namespace Go.Proofs.YtejkfekpgbmdiaaGreat
open Go.RowKit
set_option linter.unusedVariables false
set_option linter.unusedSimpArgs false

set_option maxRecDepth 100000 in
set_option maxHeartbeats 2000000 in
theorem same_all (w : World) (A B : Option Addr) (c d n n' : Nat) (rs qs : List OpW) (xs : List Opn) (hn : rs.length = n) (hn' : qs.length = n') (hl : Sl w A (codO.row rs)) (hm : Sl w B (codO.row qs)) (h : OpsIn w rs xs) (h' : OpsIn w qs xs) (hb : xs.length ≤ 140737488355328) :
    Calls Tryz.prog 69 #[.slice A n c, .slice B n' d] w (Gives w (.bool true)) := by
  have l1 := h.len
  have l2 := h'.len
  have e1 : n = n' := by omega
  subst e1
  have hm0 : n = xs.length := by omega
  have ez : ((n : Int) != (n : Int)) = false := by simp
  have HN := Lib.hid hn
  have HN' := Lib.hid hn'
  have HX := Lib.hid hm0
  have L1 := Lib.hid l1
  have L2 := Lib.hid l2
  have hb' : n ≤ 140737488355328 := by omega
  clear hn hn' hm0 l1 l2 hb
  go_enter Tryz.func69, Tryz.ntmps69
  go_upto_region 4 with fail
  go_loopg [5] n (fun gk iv wr => SmR w n gk iv wr)
  case atStart => exact ⟨0, rfl, rfl, by omega, Fr.refl _ _⟩
  case round =>
    obtain ⟨k, rfl, rfl, hk, hf⟩ := hrel
    by_cases hlt : k < n
    · have i1 : (k : Int) < (n : Int) := by omega
      have i0 : (0 : Int) ≤ (k : Int) := by omega
      have k1 : k < rs.length := by have := HN.out; omega
      have k2 : k < qs.length := by have := HN'.out; omega
      have k3 : k < xs.length := by have := HX.out; omega
      obtain ⟨g, off, rfl⟩ : ∃ g off, A = some ⟨g, off, none⟩ := by
        obtain ⟨g, off, h, _⟩ := hl (Cod.row_ne (by intro h0; subst h0; simp at k1))
        exact ⟨g, off, h⟩
      obtain ⟨g', off', rfl⟩ : ∃ g off, B = some ⟨g, off, none⟩ := by
        obtain ⟨g, off, h, _⟩ := hm (Cod.row_ne (by intro h0; subst h0; simp at k2))
        exact ⟨g, off, h⟩
      have hgw : g < wr.heap.size := by have h1 := (hl.fr0 hf).rd k k1; exact Cod.rd_lt h1
      have hgw' : g' < wr.heap.size := by have h1 := (hm.fr0 hf).rd k k2; exact Cod.rd_lt h1
      have r0 : codO.rd wr g (off + k * 41) = some rs[k] := (hl.fr0 hf).rd k k1
      have r1 : codO.rd wr g' (off' + k * 41) = some qs[k] := (hm.fr0 hf).rd k k2
      have i2 := h.at_ k k1 k3
      have i3 := h'.at_ k k2 k3
      generalize rs[k] = x at r0 i2
      generalize qs[k] = y at r1 i3
      generalize xs[k] = o at i2 i3
      have D1 : ∀ W, Fr noB wr W → Calls Tryz.prog 106 #[.agg (codO.A x), .agg (codO.A y)] W (Gives W (.bool true)) := fun W f => r3same_any W x y o ((i2.fr hf).fr f) ((i3.fr hf).fr f)
      clear i2 i3 k1 k2 k3 hlt
      go_upto_region 6 with fail
      refine wp_region_fr (by kernel_rfl) (by kernel_rfl) ?_
      iterate 8
        refine wpQ_take (v := ?_) (by rfl) (fun wS hS => ?_) ?_
        rotate_left
        · obtain ⟨L1, L2, L3, L4, L5, L6⟩ := Fr.same hS; go_simp; try with_reducible rfl
        try simp only [List.getElem_toArray, List.getElem_cons_zero, List.getElem_cons_succ, Act.put, List.setIfInBounds_toArray, List.set_cons_zero, List.set_cons_succ]
      refine wpQ_call (by rfl) (fun wS hS => ⟨_, _, ?qh506, Calls.fr hS (D1 _ hS)⟩) ?qk506
      case qh506 => obtain ⟨L1, L2, L3, L4, L5, L6⟩ := Fr.same hS; go_simp; try with_reducible rfl
      try simp only [List.getElem_toArray, List.getElem_cons_zero, List.getElem_cons_succ, Act.put, List.setIfInBounds_toArray, List.set_cons_zero, List.set_cons_succ]
      refine wpQ_take (v := ?_) (by rfl) (fun wS hS => ?_) ?_
      rotate_left
      · obtain ⟨L1, L2, L3, L4, L5, L6⟩ := Fr.same hS; go_simp; try with_reducible rfl
      try simp only [List.getElem_toArray, List.getElem_cons_zero, List.getElem_cons_succ, Act.put, List.setIfInBounds_toArray, List.set_cons_zero, List.set_cons_succ]
      refine wpQ_nil ?_
      intro w1 f1
      go_wp2_with fail
      go_roundg (n - (k + 1))
      case measure => omega
      case rel => exact ⟨k + 1, by simp, rfl, by omega, hf.step0 f1⟩
    · have hkn : k = n := by omega
      subst hkn
      have i1 : ¬ (k : Int) < (k : Int) := by omega
      go_wp2_with fail
      go_ret
      exact ⟨rfl, hf⟩
/-- the parts of an item that lies anywhere -/
structure ItAtO (w : World) (b o : Nat) (r : ItW) : Prop where
  node : codS.rd w b o = some r.Node
  At : codS.rd w b (o + 2) = some r.At
  name : w.cell? ⟨b, o + 4, none⟩ = some (.string (str r.Name))
  sub : rdI w b (o + 5) = some r.Sub
  heads : w.cell? ⟨b, o + 37, none⟩ = some (.slice r.A r.n r.c)
theorem itAtO {w : World} {b o : Nat} {r : ItW} (h : codT.rd w b o = some r) : ItAtO w b o r := by
  have e (k : Nat) {v : Value} (hv : (codT.cs r)[k]? = some v) := Cod.rd_cell h k hv
  have s (k : Nat) {x : St} (hv : ∀ j v, (codS.cs x)[j]? = some v → (codT.cs r)[k + j]? = some v) := Cod.rd_part (C' := codS) h k hv
  exact ⟨s 0 (get2 _ _ 0 rfl rfl), s 2 (get2 _ _ 2 rfl rfl), e 4 rfl,
    Cod.rdI_part h 5 (getApp r.Sub [.int .i64 r.Node.T, .int .i64 r.Node.R, .int .i64 r.At.T, .int .i64 r.At.R, .string (str r.Name)] _ 5 rfl),
    e 37 (getEnd r.Sub [.int .i64 r.Node.T, .int .i64 r.Node.R, .int .i64 r.At.T, .int .i64 r.At.R, .string (str r.Name)] [.slice r.A r.n r.c] 37 rfl 0)⟩
set_option maxRecDepth 100000 in
set_option maxHeartbeats 4000000 in
theorem same_dir (w : World) (A B : Option Addr) (c d n n' : Nat) (rs qs : List ItW) (xs : List It) (hn : rs.length = n) (hn' : qs.length = n') (hl : Sl w A (codT.row rs)) (hm : Sl w B (codT.row qs)) (h : ItsIn w rs xs) (h' : ItsIn w qs xs) (hb : xs.length ≤ 140737488355328) :
    Calls Tryz.prog 19 #[.slice A n c, .slice B n' d] w (Gives w (.bool true)) := by
  have l1 := h.len
  have l2 := h'.len
  have e1 : n = n' := by omega
  subst e1
  have hm0 : n = xs.length := by omega
  have ez : ((n : Int) != (n : Int)) = false := by simp
  have HN := Lib.hid hn
  have HN' := Lib.hid hn'
  have HX := Lib.hid hm0
  have hb' : n ≤ 140737488355328 := by omega
  clear hn hn' hm0 l1 l2 hb
  go_enter Tryz.func19, Tryz.ntmps19
  go_upto_region 4 with fail
  go_loopg [5] n (fun gk iv wr => SmR w n gk iv wr)
  case atStart => exact ⟨0, rfl, rfl, by omega, Fr.refl _ _⟩
  case round =>
    obtain ⟨k, rfl, rfl, hk, hf⟩ := hrel
    by_cases hlt : k < n
    · have i1 : (k : Int) < (n : Int) := by omega
      have i0 : (0 : Int) ≤ (k : Int) := by omega
      have k1 : k < rs.length := by have := HN.out; omega
      have k2 : k < qs.length := by have := HN'.out; omega
      have k3 : k < xs.length := by have := HX.out; omega
      obtain ⟨g, off, rfl⟩ : ∃ g off, A = some ⟨g, off, none⟩ := by
        obtain ⟨g, off, h, _⟩ := hl (Cod.row_ne (by intro h0; subst h0; simp at k1))
        exact ⟨g, off, h⟩
      obtain ⟨g', off', rfl⟩ : ∃ g off, B = some ⟨g, off, none⟩ := by
        obtain ⟨g, off, h, _⟩ := hm (Cod.row_ne (by intro h0; subst h0; simp at k2))
        exact ⟨g, off, h⟩
      have hgw : g < wr.heap.size := by have h1 := (hl.fr0 hf).rd k k1; exact Cod.rd_lt h1
      have hgw' : g' < wr.heap.size := by have h1 := (hm.fr0 hf).rd k k2; exact Cod.rd_lt h1
      have r0 : codT.rd wr g (off + k * 38) = some rs[k] := (hl.fr0 hf).rd k k1
      have r1 : codT.rd wr g' (off' + k * 38) = some qs[k] := (hm.fr0 hf).rd k k2
      have i2 := h.at_ k k1 k3
      have i3 := h'.at_ k k2 k3
      generalize rs[k] = x at r0 i2
      generalize qs[k] = y at r1 i3
      generalize xs[k] = o at i2 i3
      obtain ⟨hx1, hx2, hx3, hx4, hx5⟩ := i2
      obtain ⟨hy1, hy2, hy3, hy4, hy5⟩ := i3
      generalize o.Heads = hd at hx1 hx2 hx3 hx4 hy1 hy2 hy3 hy4
      rw [hx1] at hy1
      clear hx1
      obtain ⟨nd, a, nm, sb, A1, n1, c1⟩ := x
      obtain ⟨nd', a', nm', sb', A2, n2, c2⟩ := y
      unfold itOf at hy1
      simp only [It.mk.injEq, and_true] at hy1
      obtain ⟨rfl, rfl, rfl, rfl⟩ := hy1
      simp only at hx2 hx3 hy2 hy3
      have D1 : ∀ W, Fr noB wr W → Calls Tryz.prog 52 #[.slice A1 n1 c1, .slice A2 n2 c2] W (Gives W (.bool true)) := fun W f => same_heads W A1 A2 c1 c2 n1 n2 hd hx2 hy2 ((hx3.fr0 hf).fr0 f) ((hy3.fr0 hf).fr0 f) hx4
      obtain ⟨a1, a2, a3, a4, a5⟩ := itAtO r0
      obtain ⟨b1, b2, b3, b4, b5⟩ := itAtO r1
      simp only at a1 a2 a3 a4 a5 b1 b2 b3 b4 b5
      clear hx2 hx3 hx4 hx5 hy2 hy3 hy4 hy5 k1 k2 k3 hlt r0 r1
      go_upto_region 6 with fail
      refine wp_region_fr (by kernel_rfl) (by kernel_rfl) ?_
      iterate 61
        refine wpQ_take (v := ?_) (by rfl) (fun wS hS => ?_) ?_
        rotate_left
        · obtain ⟨L1, L2, L3, L4, L5, L6⟩ := Fr.same hS; go_simp; try with_reducible rfl
        try simp only [List.getElem_toArray, List.getElem_cons_zero, List.getElem_cons_succ, Act.put, List.setIfInBounds_toArray, List.set_cons_zero, List.set_cons_succ]
      refine wpQ_call (by rfl) (fun wS hS => ⟨_, _, ?qh603, Calls.fr hS (D1 _ hS)⟩) ?qk603
      case qh603 => obtain ⟨L1, L2, L3, L4, L5, L6⟩ := Fr.same hS; go_simp; try with_reducible rfl
      try simp only [List.getElem_toArray, List.getElem_cons_zero, List.getElem_cons_succ, Act.put, List.setIfInBounds_toArray, List.set_cons_zero, List.set_cons_succ]
      iterate 2
        refine wpQ_take (v := ?_) (by rfl) (fun wS hS => ?_) ?_
        rotate_left
        · obtain ⟨L1, L2, L3, L4, L5, L6⟩ := Fr.same hS; go_simp; try with_reducible rfl
        try simp only [List.getElem_toArray, List.getElem_cons_zero, List.getElem_cons_succ, Act.put, List.setIfInBounds_toArray, List.set_cons_zero, List.set_cons_succ]
      refine wpQ_nil ?_
      intro w1 f1
      go_wp2_with fail
      go_roundg (n - (k + 1))
      case measure => omega
      case rel => exact ⟨k + 1, by simp, rfl, by omega, hf.step0 f1⟩
    · have hkn : k = n := by omega
      subst hkn
      have i1 : ¬ (k : Int) < (k : Int) := by omega
      go_wp2_with fail
      go_ret
      exact ⟨rfl, hf⟩
end Go.Proofs.YtejkfekpgbmdiaaGreat
namespace Go.Proofs.YtejkfekpgbmdiaaGreat
open Go.RowKit
set_option linter.unusedVariables false
set_option linter.unusedSimpArgs false

set_option maxRecDepth 100000 in
set_option maxHeartbeats 4000000 in
theorem same_change (w : World) (r q : CgW) (rs qs : List OpW) (c : Chg) (h : CgIn w r rs c) (h' : CgIn w q qs c) : Calls Tryz.prog 27 #[.agg (codC.A r), .agg (codC.A q)] w (Gives w (.bool true)) := by
  obtain ⟨t1, t2, t3, t4, t5, hps, t6, hos, hop, hpb, hob, hmb⟩ := h
  obtain ⟨u1, u2, u3, u4, u5, hps', u6, hos', hop', hpb', hob', hmb'⟩ := h'
  obtain ⟨PA, pn, pc, ti, re, OA, on, oc, tr, mg⟩ := r
  obtain ⟨PA', pn', pc', ti', re', OA', on', oc', tr', mg'⟩ := q
  obtain ⟨ps, ti0, re0, os, tr0, mg0⟩ := c
  simp only at t1 t2 t3 t4 t5 hps t6 hos hop hpb hob hmb u1 u2 u3 u4 u5 hps' u6 hos' hop' hpb' hob' hmb'
  subst t1 t2 t3 t4 t5 u1 u2 u3 u4 u5
  have hxb : os.length ≤ 140737488355328 := by rw [← hop.len]; exact hob
  have f0 : Fr noB w ((w.alloc (.cells (codC.A ⟨PA, ps.length, pc, ti0, re0, OA, on, oc, tr0, mg0⟩) 47)).alloc (.cells (codC.A ⟨PA', ps.length, pc', ti0, re0, OA', on', oc', tr0, mg0⟩) 47)) := ((Fr.refl noB w).alloc _).alloc _
  have q0 := Cod.rd_fr0 (Cod.rd_new (C := codC) w 47 ⟨PA, ps.length, pc, ti0, re0, OA, on, oc, tr0, mg0⟩) ((Fr.refl noB _).alloc (.cells (codC.A ⟨PA', ps.length, pc', ti0, re0, OA', on', oc', tr0, mg0⟩) 47))
  have q1 := Cod.rd_new (C := codC) (w.alloc (.cells (codC.A ⟨PA, ps.length, pc, ti0, re0, OA, on, oc, tr0, mg0⟩) 47)) 47 ⟨PA', ps.length, pc', ti0, re0, OA', on', oc', tr0, mg0⟩
  have hP : (w.alloc (.cells (codC.A ⟨PA, ps.length, pc, ti0, re0, OA, on, oc, tr0, mg0⟩) 47)).heap.size = w.heap.size + 1 := by simp
  rw [hP] at q1
  clear hP
  have D1 := Lib.hid (fun W (f : Fr noB w W) => same_all W OA OA' oc oc' on on' rs qs os t6 u6 (hos.fr0 f) (hos'.fr0 f) (hop.fr f) (hop'.fr f) hxb)
  replace hps := hps.fr0 f0
  replace hps' := hps'.fr0 f0
  clear hos hos' hop hop' t6 u6 hob hob' hmb hmb' hxb hpb'
  go_enter Tryz.func27, Tryz.ntmps27
  go_upto_region 1 with fail
  generalize (w.alloc (.cells (codC.A ⟨PA, ps.length, pc, ti0, re0, OA, on, oc, tr0, mg0⟩) 47)).alloc (.cells (codC.A ⟨PA', ps.length, pc', ti0, re0, OA', on', oc', tr0, mg0⟩) 47) = W0 at f0 q0 q1 hps hps' ⊢
  generalize w.heap.size = P at q0 q1 ⊢
  obtain ⟨a1, a2, a3, a4, a5, a6, a7⟩ := cgAt q0
  obtain ⟨b1, b2, b3, b4, b5, b6, b7⟩ := cgAt q1
  simp only at a1 a2 a3 a4 a5 a6 a7 b1 b2 b3 b4 b5 b6 b7
  have e1 : ((ps.length : Int) != (ps.length : Int)) = false := by simp
  go_upto_region 4 with (go_at_call 69; refine (D1.out _ f0).mono ?_; rintro e w1 ⟨rfl, f1⟩)
  replace a1 := cell_fr0 a1 f1
  replace b1 := cell_fr0 b1 f1
  replace hps := hps.fr0 f1
  replace hps' := hps'.fr0 f1
  replace f0 := f0.step0 f1
  clear a2 a3 a4 a5 a6 a7 b2 b3 b4 b5 b6 b7 q0 q1 f1
  go_loopg [5] ps.length (fun gk iv wr => SmR w1 ps.length gk iv wr)
  case atStart => exact ⟨0, rfl, rfl, by omega, Fr.refl _ _⟩
  case round =>
    obtain ⟨k, rfl, rfl, hk, hf⟩ := hrel
    have a1 := cell_fr0 a1 hf
    have b1 := cell_fr0 b1 hf
    by_cases hlt : k < ps.length
    · have i1 : (k : Int) < (ps.length : Int) := by omega
      have i0 : (0 : Int) ≤ (k : Int) := by omega
      obtain ⟨g, off, rfl⟩ : ∃ g off, PA = some ⟨g, off, none⟩ := by
        obtain ⟨g, off, h, _⟩ := hps (by intro h0; have := idc_length ps; rw [h0] at this; simp at this; omega)
        exact ⟨g, off, h⟩
      obtain ⟨g', off', rfl⟩ : ∃ g off, PA' = some ⟨g, off, none⟩ := by
        obtain ⟨g, off, h, _⟩ := hps' (by intro h0; have := idc_length ps; rw [h0] at this; simp at this; omega)
        exact ⟨g, off, h⟩
      have r0 := (hps.fr0 hf.drew).id k hlt
      have r1 := (hps'.fr0 hf.drew).id k hlt
      generalize ps[k] = x at r0 r1
      go_upto_region 6 with fail
      refine wp_region_H (fun w' => (rdI w' g (off + k * 32) = some x ∧ rdI w' g' (off' + k * 32) = some x) ∧ w'.cell? ⟨P, 0, none⟩ = some (.slice (some ⟨g, off, none⟩) ps.length pc) ∧ w'.cell? ⟨P + 1, 0, none⟩ = some (.slice (some ⟨g', off', none⟩) ps.length pc')) (by kernel_rfl) ⟨⟨r0, r1⟩, cell_fr0 a1 (Fr.refl noB _).drew, cell_fr0 b1 (Fr.refl noB _).drew⟩ (fun hF => ?_)
      refine wpAnyH_take (i := 0) (v := ?_) rfl (by kernel_rfl) (by kernel_rfl) (by kernel_rfl) (fun _ _ _ h => h) (Or.inl ⟨by rfl, ?_⟩) hF ?_
      rotate_left
      · intro wS hSw; (try dsimp only at hSw); obtain ⟨⟨s1, s4⟩, s2, s3⟩ := hSw; first | (apply Eq.trans; apply ex_ld_id; exact rfl; exact rfl; assumption; with_reducible rfl) | (apply Eq.trans; apply ex_ld_arr; exact rfl; exact rfl; assumption; with_reducible rfl) | (apply Eq.trans; apply ex_ldH_at; exact rfl; exact rfl; assumption; with_reducible rfl) | (apply Eq.trans; apply ex_ldO_at; exact rfl; exact rfl; assumption; with_reducible rfl) | (apply Eq.trans; apply ex_ldS_at; exact rfl; exact rfl; assumption; with_reducible rfl) | (go_simp; try with_reducible rfl)
      try simp only [List.getElem_toArray, List.getElem_cons_zero, List.getElem_cons_succ, Act.put, List.setIfInBounds_toArray, List.set_cons_zero, List.set_cons_succ]
      refine wpAnyH_take (i := 1) (v := ?_) rfl (by kernel_rfl) (by kernel_rfl) (by kernel_rfl) (fun _ _ _ h => h) (Or.inl ⟨by rfl, ?_⟩) hF ?_
      rotate_left
      · intro wS hSw; (try dsimp only at hSw); obtain ⟨⟨s1, s4⟩, s2, s3⟩ := hSw; first | (apply Eq.trans; apply ex_ld_id; exact rfl; exact rfl; assumption; with_reducible rfl) | (apply Eq.trans; apply ex_ld_arr; exact rfl; exact rfl; assumption; with_reducible rfl) | (apply Eq.trans; apply ex_ldH_at; exact rfl; exact rfl; assumption; with_reducible rfl) | (apply Eq.trans; apply ex_ldO_at; exact rfl; exact rfl; assumption; with_reducible rfl) | (apply Eq.trans; apply ex_ldS_at; exact rfl; exact rfl; assumption; with_reducible rfl) | (go_simp; try with_reducible rfl)
      try simp only [List.getElem_toArray, List.getElem_cons_zero, List.getElem_cons_succ, Act.put, List.setIfInBounds_toArray, List.set_cons_zero, List.set_cons_succ]
      refine wpAnyH_take (i := 2) (v := ?_) rfl (by kernel_rfl) (by kernel_rfl) (by kernel_rfl) (fun _ _ _ h => h) (Or.inl ⟨by rfl, ?_⟩) hF ?_
      rotate_left
      · intro wS hSw; (try dsimp only at hSw); obtain ⟨⟨s1, s4⟩, s2, s3⟩ := hSw; first | (apply Eq.trans; apply ex_ld_id; exact rfl; exact rfl; assumption; with_reducible rfl) | (apply Eq.trans; apply ex_ld_arr; exact rfl; exact rfl; assumption; with_reducible rfl) | (apply Eq.trans; apply ex_ldH_at; exact rfl; exact rfl; assumption; with_reducible rfl) | (apply Eq.trans; apply ex_ldO_at; exact rfl; exact rfl; assumption; with_reducible rfl) | (apply Eq.trans; apply ex_ldS_at; exact rfl; exact rfl; assumption; with_reducible rfl) | (go_simp; try with_reducible rfl)
      try simp only [List.getElem_toArray, List.getElem_cons_zero, List.getElem_cons_succ, Act.put, List.setIfInBounds_toArray, List.set_cons_zero, List.set_cons_succ]
      refine wpAnyH_take (i := 3) (v := ?_) rfl (by kernel_rfl) (by kernel_rfl) (by kernel_rfl) (fun _ _ _ h => h) (Or.inl ⟨by rfl, ?_⟩) hF ?_
      rotate_left
      · intro wS hSw; (try dsimp only at hSw); obtain ⟨⟨s1, s4⟩, s2, s3⟩ := hSw; first | (apply Eq.trans; apply ex_ld_id; exact rfl; exact rfl; assumption; with_reducible rfl) | (apply Eq.trans; apply ex_ld_arr; exact rfl; exact rfl; assumption; with_reducible rfl) | (apply Eq.trans; apply ex_ldH_at; exact rfl; exact rfl; assumption; with_reducible rfl) | (apply Eq.trans; apply ex_ldO_at; exact rfl; exact rfl; assumption; with_reducible rfl) | (apply Eq.trans; apply ex_ldS_at; exact rfl; exact rfl; assumption; with_reducible rfl) | (go_simp; try with_reducible rfl)
      try simp only [List.getElem_toArray, List.getElem_cons_zero, List.getElem_cons_succ, Act.put, List.setIfInBounds_toArray, List.set_cons_zero, List.set_cons_succ]
      refine wpAnyH_take (i := 4) (v := ?_) rfl (by kernel_rfl) (by kernel_rfl) (by kernel_rfl) (fun _ _ _ h => h) (Or.inl ⟨by rfl, ?_⟩) hF ?_
      rotate_left
      · intro wS hSw; (try dsimp only at hSw); obtain ⟨⟨s1, s4⟩, s2, s3⟩ := hSw; first | (apply Eq.trans; apply ex_ld_id; exact rfl; exact rfl; assumption; with_reducible rfl) | (apply Eq.trans; apply ex_ld_arr; exact rfl; exact rfl; assumption; with_reducible rfl) | (apply Eq.trans; apply ex_ldH_at; exact rfl; exact rfl; assumption; with_reducible rfl) | (apply Eq.trans; apply ex_ldO_at; exact rfl; exact rfl; assumption; with_reducible rfl) | (apply Eq.trans; apply ex_ldS_at; exact rfl; exact rfl; assumption; with_reducible rfl) | (go_simp; try with_reducible rfl)
      try simp only [List.getElem_toArray, List.getElem_cons_zero, List.getElem_cons_succ, Act.put, List.setIfInBounds_toArray, List.set_cons_zero, List.set_cons_succ]
      refine wpAnyH_take (i := 5) (v := ?_) rfl (by kernel_rfl) (by kernel_rfl) (by kernel_rfl) (fun _ _ _ h => h) (Or.inl ⟨by rfl, ?_⟩) hF ?_
      rotate_left
      · intro wS hSw; (try dsimp only at hSw); obtain ⟨⟨s1, s4⟩, s2, s3⟩ := hSw; first | (apply Eq.trans; apply ex_ld_id; exact rfl; exact rfl; assumption; with_reducible rfl) | (apply Eq.trans; apply ex_ld_arr; exact rfl; exact rfl; assumption; with_reducible rfl) | (apply Eq.trans; apply ex_ldH_at; exact rfl; exact rfl; assumption; with_reducible rfl) | (apply Eq.trans; apply ex_ldO_at; exact rfl; exact rfl; assumption; with_reducible rfl) | (apply Eq.trans; apply ex_ldS_at; exact rfl; exact rfl; assumption; with_reducible rfl) | (go_simp; try with_reducible rfl)
      try simp only [List.getElem_toArray, List.getElem_cons_zero, List.getElem_cons_succ, Act.put, List.setIfInBounds_toArray, List.set_cons_zero, List.set_cons_succ]
      refine wpAnyH_take (i := 6) (v := ?_) rfl (by kernel_rfl) (by kernel_rfl) (by kernel_rfl) (fun _ _ _ h => h) (Or.inl ⟨by rfl, ?_⟩) hF ?_
      rotate_left
      · intro wS hSw; (try dsimp only at hSw); obtain ⟨⟨s1, s4⟩, s2, s3⟩ := hSw; first | (apply Eq.trans; apply ex_ld_id; exact rfl; exact rfl; assumption; with_reducible rfl) | (apply Eq.trans; apply ex_ld_arr; exact rfl; exact rfl; assumption; with_reducible rfl) | (apply Eq.trans; apply ex_ldH_at; exact rfl; exact rfl; assumption; with_reducible rfl) | (apply Eq.trans; apply ex_ldO_at; exact rfl; exact rfl; assumption; with_reducible rfl) | (apply Eq.trans; apply ex_ldS_at; exact rfl; exact rfl; assumption; with_reducible rfl) | (go_simp; try with_reducible rfl)
      try simp only [List.getElem_toArray, List.getElem_cons_zero, List.getElem_cons_succ, Act.put, List.setIfInBounds_toArray, List.set_cons_zero, List.set_cons_succ]
      refine wpAnyH_take (i := 7) (v := ?_) rfl (by kernel_rfl) (by kernel_rfl) (by kernel_rfl) (fun _ _ _ h => h) (Or.inl ⟨by rfl, ?_⟩) hF ?_
      rotate_left
      · intro wS hSw; (try dsimp only at hSw); obtain ⟨⟨s1, s4⟩, s2, s3⟩ := hSw; first | (apply Eq.trans; apply ex_ld_id; exact rfl; exact rfl; assumption; with_reducible rfl) | (apply Eq.trans; apply ex_ld_arr; exact rfl; exact rfl; assumption; with_reducible rfl) | (apply Eq.trans; apply ex_ldH_at; exact rfl; exact rfl; assumption; with_reducible rfl) | (apply Eq.trans; apply ex_ldO_at; exact rfl; exact rfl; assumption; with_reducible rfl) | (apply Eq.trans; apply ex_ldS_at; exact rfl; exact rfl; assumption; with_reducible rfl) | (go_simp; try with_reducible rfl)
      try simp only [List.getElem_toArray, List.getElem_cons_zero, List.getElem_cons_succ, Act.put, List.setIfInBounds_toArray, List.set_cons_zero, List.set_cons_succ]
      refine wpAnyH_take (i := 8) (v := ?_) rfl (by kernel_rfl) (by kernel_rfl) (by kernel_rfl) (fun _ _ _ h => h) (Or.inl ⟨by rfl, ?_⟩) hF ?_
      rotate_left
      · intro wS hSw; (try dsimp only at hSw); obtain ⟨⟨s1, s4⟩, s2, s3⟩ := hSw; first | (apply Eq.trans; apply ex_ld_id; exact rfl; exact rfl; assumption; with_reducible rfl) | (apply Eq.trans; apply ex_ld_arr; exact rfl; exact rfl; assumption; with_reducible rfl) | (apply Eq.trans; apply ex_ldH_at; exact rfl; exact rfl; assumption; with_reducible rfl) | (apply Eq.trans; apply ex_ldO_at; exact rfl; exact rfl; assumption; with_reducible rfl) | (apply Eq.trans; apply ex_ldS_at; exact rfl; exact rfl; assumption; with_reducible rfl) | (go_simp; try with_reducible rfl)
      try simp only [List.getElem_toArray, List.getElem_cons_zero, List.getElem_cons_succ, Act.put, List.setIfInBounds_toArray, List.set_cons_zero, List.set_cons_succ]
      refine wpAnyH_take (i := 9) (v := ?_) rfl (by kernel_rfl) (by kernel_rfl) (by kernel_rfl) (fun _ _ _ h => h) (Or.inl ⟨by rfl, ?_⟩) hF ?_
      rotate_left
      · intro wS hSw; (try dsimp only at hSw); obtain ⟨⟨s1, s4⟩, s2, s3⟩ := hSw; first | (apply Eq.trans; apply ex_ld_id; exact rfl; exact rfl; assumption; with_reducible rfl) | (apply Eq.trans; apply ex_ld_arr; exact rfl; exact rfl; assumption; with_reducible rfl) | (apply Eq.trans; apply ex_ldH_at; exact rfl; exact rfl; assumption; with_reducible rfl) | (apply Eq.trans; apply ex_ldO_at; exact rfl; exact rfl; assumption; with_reducible rfl) | (apply Eq.trans; apply ex_ldS_at; exact rfl; exact rfl; assumption; with_reducible rfl) | (go_simp; try with_reducible rfl)
      try simp only [List.getElem_toArray, List.getElem_cons_zero, List.getElem_cons_succ, Act.put, List.setIfInBounds_toArray, List.set_cons_zero, List.set_cons_succ]
      refine wpAnyH_take (i := 10) (v := ?_) rfl (by kernel_rfl) (by kernel_rfl) (by kernel_rfl) (fun _ _ _ h => h) (Or.inl ⟨by rfl, ?_⟩) hF ?_
      rotate_left
      · intro wS hSw; (try dsimp only at hSw); obtain ⟨⟨s1, s4⟩, s2, s3⟩ := hSw; first | (apply Eq.trans; apply ex_ld_id; exact rfl; exact rfl; assumption; with_reducible rfl) | (apply Eq.trans; apply ex_ld_arr; exact rfl; exact rfl; assumption; with_reducible rfl) | (apply Eq.trans; apply ex_ldH_at; exact rfl; exact rfl; assumption; with_reducible rfl) | (apply Eq.trans; apply ex_ldO_at; exact rfl; exact rfl; assumption; with_reducible rfl) | (apply Eq.trans; apply ex_ldS_at; exact rfl; exact rfl; assumption; with_reducible rfl) | (go_simp; try with_reducible rfl)
      try simp only [List.getElem_toArray, List.getElem_cons_zero, List.getElem_cons_succ, Act.put, List.setIfInBounds_toArray, List.set_cons_zero, List.set_cons_succ]
      refine wpAnyH_done (by kernel_rfl) ?_ _
      clear hF
      go_wp2_with fail
      go_roundg (ps.length - (k + 1))
      case measure => omega
      case rel => exact ⟨k + 1, by simp, rfl, by omega, hf.drew⟩
    · have hkn : k = ps.length := by omega
      subst hkn
      have i1 : ¬ (ps.length : Int) < (ps.length : Int) := by omega
      go_wp2_with fail
      go_ret
      exact ⟨rfl, f0.step0 hf⟩
end Go.Proofs.YtejkfekpgbmdiaaGreat
