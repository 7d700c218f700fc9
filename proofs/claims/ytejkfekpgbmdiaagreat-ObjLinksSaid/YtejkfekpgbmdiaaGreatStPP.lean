/- Contract: stamp.Put. (ex_ldS_at) -/
import Derived.Test.YtejkfekpgbmdiaaGreatRdC
import Derived.Test.YtejkfekpgbmdiaaGreatRdQ
namespace Go.Proofs.YtejkfekpgbmdiaaGreat
open Go.RowKit
set_option linter.unusedVariables false
set_option linter.unusedSimpArgs false

theorem clone_z (w : World) (A : Option Addr) (c n : Nat) (l : List UInt8) (hn : l.length = n) (hs : Sl w A (bv l)) (hb : l.length ≤ 100000000000) : Calls Tryz.prog 85 #[.slice A n c] w (NewBytes w l) := by
  subst hn
  exact (clone_n w A c l _ rfl hs (by omega))
theorem opB_len {o : Opn} (h : goodOp o = true) : (opB o).length ≤ 4000 := by
  have hg := h
  simp only [goodOp, Bool.and_eq_true] at h
  obtain ⟨⟨h1, h2⟩, h3⟩ := h
  have a1 := stB_len (okSt_of h1)
  have a2 := stB_len (okSt_of h2)
  unfold opB
  rw [if_pos hg]
  by_cases hk : o.Kind = 1
  · rw [if_pos hk] at h3
    simp only [moveOk, Bool.and_eq_true, decide_eq_true_eq, Bool.or_eq_true] at h3
    obtain ⟨⟨⟨⟨h4, h5⟩, h6⟩, h7⟩, h8⟩ := h3
    have hp : okSt o.Parent := by
      rcases h5 with h5 | h5
      · exact okSt_of h5
      · simp only [fixedS, Bool.and_eq_true, Bool.or_eq_true, decide_eq_true_eq] at h5
        exact ⟨by omega, by omega, by omega, by omega⟩
    have a3 := stB_len hp
    have a4 := nameOk_le h6
    rw [if_pos hk]
    have a5 := numB_length o.Kind.toNat (by omega)
    have a6 := numB_length o.Name.length (by omega)
    simp only [List.length_append, txB]
    omega
  · rw [if_neg hk] at h3
    by_cases hk2 : o.Kind = 2
    · rw [if_pos hk2] at h3
      simp only [editOk, Bool.and_eq_true, decide_eq_true_eq, List.all_eq_true] at h3
      obtain ⟨⟨⟨⟨⟨⟨h4, h5⟩, h6⟩, h7⟩, h8⟩, h9⟩, h10⟩ := h3
      rw [if_neg hk]
      have a5 := numB_length o.Kind.toNat (by omega)
      have a6 := numB_length o.Over.length (by omega)
      have a7 : ∀ l : List St, (∀ s ∈ l, rightS s = true) → (l.flatMap stB).length ≤ l.length * 20 := by
        intro l
        induction l with
        | nil => simp
        | cons x l ih =>
          intro hh
          have := ih (fun s hs => hh s (by simp [hs]))
          have h0 := stB_len (okSt_of (hh x (by simp)))
          simp only [List.flatMap_cons, List.length_append, List.length_cons]
          omega
      have a8 := a7 o.Over (fun s hs => (h9 s hs).1)
      have a9 := o.Data.2
      simp only [List.length_append]
      omega
    · rw [if_neg hk2] at h3; cases h3
def PpR (w W7 : World) (l0 : List UInt8) (ov : List St) (gk : Nat) (v iv : Value) (wr : World) : Prop :=
  ∃ (k : Nat) (A : Option Addr) (c : Nat) (l : List UInt8), v = .slice A l.length c ∧ iv = .int .i64 (k : Int) ∧ gk = ov.length - k ∧ k ≤ ov.length ∧ l = l0 ++ (ov.take k).flatMap stB ∧ l.length ≤ l0.length + k * 20 ∧ wr.ownsRow w.heap.size 5 1 (.slice A l.length c) l.length (bv l) ∧ Fr noB W7 wr
set_option maxRecDepth 100000 in
set_option maxHeartbeats 4000000 in
theorem put_any (w : World) (A : Option Addr) (c n : Nat) (l : List UInt8) (hn : l.length = n) (hs : Sl w A (bv l)) (hb : l.length ≤ 50000000000) (r : OpW) (o : Opn) (h : OpIn w r o) :
    Calls Tryz.prog 59 #[.slice A n c, .agg (codO.A r)] w (NewBytes w (l ++ opB o)) := by
  subst hn
  have f0 : Fr noB w (w.alloc (.cells (codO.A r) 72)) := (Fr.refl noB w).alloc _
  obtain ⟨q1, q2, q3, q4, q5, q6, q7, q8, q9, q10⟩ := opAt (Cod.rd_new w 72 r)
  have hP : w.heap.size < (w.alloc (.cells (codO.A r) 72)).heap.size := by simp
  have hlen := opB_len (o := o)
  replace h := h.fr f0
  replace hs := hs.fr0 f0
  go_enter Tryz.func59, Tryz.ntmps59
  go_upto_region 1 with fail
  generalize w.alloc (.cells (codO.A r) 72) = W0 at f0 hs h q1 q4 q5 q6 q7 q8 q9 q10 hP ⊢
  generalize hPe : w.heap.size = P at q1 q4 q5 q6 q7 q8 q9 q10 hP ⊢
  by_cases hg : goodOp o = true
  · replace hlen := hlen hg
    have hg2 := hg
    simp only [goodOp, Bool.and_eq_true] at hg2
    obtain ⟨⟨g1, g2⟩, g3⟩ := hg2
    have ea : o.At = r.At := by rw [h.eq]; rfl
    have en : o.Node = r.Node := by rw [h.eq]; rfl
    have ek : o.Kind = r.Kind := by rw [h.eq]; rfl
    have ep : o.Parent = r.Parent := by rw [h.eq]; rfl
    have em : o.Name = r.Name := by rw [h.eq]; rfl
    have ed : o.Data = r.Data := by rw [h.eq]; rfl
    have o1 := okSt_of g1
    have o2 := okSt_of g2
    have hopB : opB o = numB r.Kind.toNat ++ stB r.At ++ stB r.Node ++ (if r.Kind = 1 then stB r.Parent ++ txB r.Name else r.Data.1 ++ numB o.Over.length ++ o.Over.flatMap stB) := by
      unfold opB
      rw [if_pos hg, ea, en, ek, ep, em, ed]
    have hk12 : r.Kind = 1 ∨ r.Kind = 2 := by
      by_cases h1 : o.Kind = 1
      · exact .inl (by rw [← ek]; exact h1)
      · rw [if_neg h1] at g3
        by_cases h2 : o.Kind = 2
        · exact .inr (by rw [← ek]; exact h2)
        · rw [if_neg h2] at g3; cases g3
    rw [ea] at o1
    rw [en] at o2
    have a1 := stB_len o1
    have a2 := stB_len o2
    have a3 := numB_length r.Kind.toNat (by omega)
    have p1 : ((r.Kind.toNat : Nat) : Int) = r.Kind := by omega
    have p2 : r.Kind.toNat ≤ 4611686018427387904 := by omega
    have hP1 := hP
    have HG := Lib.hid hg
    have HOB := Lib.hid hopB
    have PK := Lib.hid p1
    have HIN := Lib.hid h
    have G3 := Lib.hid g3
    have EK := Lib.hid (And.intro ek (And.intro ep em))
    clear hg g1 g2 g3 hopB p1 ea en ek ep em ed
    go_upto_region 3 with (go_at_call 96; refine (sgood_any _ r o HIN.out).mono ?_; rintro e w1 ⟨rfl, f1⟩; rw [HG.out])
    obtain ⟨L1, L2, L3, L4, L5, L6⟩ := f1.same
    replace q1 := (L1 P 0 hP).trans q1
    replace q4 := (L2 P 1 hP).trans q4
    replace q5 := (L2 P 3 hP).trans q5
    replace q6 := (L2 P 5 hP).trans q6
    replace q7 := (L1 P 7 hP).trans q7
    replace q8 := (L3 P 8 hP).trans q8
    replace q9 := (L1 P 40 hP).trans q9
    clear L1 L2 L3 L4 L5 L6 q10
    replace hP := Nat.lt_of_lt_of_le hP f1.size
    replace hs := hs.fr0 f1
    have HIN1 := Lib.hid (HIN.out.fr f1)
    replace f0 := f0.step0 f1
    clear f1 HIN h hP1
    generalize w1 = W1 at f0 q1 q4 q5 q6 q7 q8 q9 hP hs HIN1 ⊢
    have fd := (Fr.refl noB W1).drew
    have keep : ∀ w' w'' : World, Fr noB w' w'' → (w'.cell? ⟨P, 0, none⟩ = some (.int .i64 r.Kind) ∧ codS.rd w' P 1 = some r.At ∧ codS.rd w' P 3 = some r.Node) → (w''.cell? ⟨P, 0, none⟩ = some (.int .i64 r.Kind) ∧ codS.rd w'' P 1 = some r.At ∧ codS.rd w'' P 3 = some r.Node) :=
      fun w' w'' f h => ⟨cell_fr0 h.1 f, Cod.rd_fr0 h.2.1 f, Cod.rd_fr0 h.2.2 f⟩
    refine wp_region_M 10 11 [⟨4096, 1, 0⟩, ⟨8192, 8, 0⟩, ⟨16384, 8192, 2⟩, ⟨32768, 20480, 5⟩, ⟨65536, 8, 0⟩, ⟨131072, 65536, 16⟩, ⟨262144, 163840, 40⟩, ⟨524288, 8, 0⟩, ⟨1048576, 524288, 128⟩, ⟨2097152, 1310720, 320⟩, ⟨1, 2097152, 1023⟩] [(true, 0), (true, 1), (true, 2), (true, 4), (true, 5), (true, 7), (true, 8), (false, 3), (false, 6), (false, 9)] (fun w' => w'.cell? ⟨P, 0, none⟩ = some (.int .i64 r.Kind) ∧ codS.rd w' P 1 = some r.At ∧ codS.rd w' P 3 = some r.Node) (by kernel_rfl) rfl (by kernel_rfl) (by kernel_rfl) (by kernel_rfl) ⟨cell_fr0 q1 fd, Cod.rd_fr0 q4 fd, Cod.rd_fr0 q5 fd⟩ (fun hA hF => ?_)
    refine wpAnyS_take (v := ?_) hA rfl (fun _ _ _ h => h) (Or.inl ⟨by rfl, ?_⟩) hF (fun hA => ?_)
    rotate_left
    · intro wS hSw; (try dsimp only at hSw); obtain ⟨s1, s2, s3⟩ := hSw; first | (apply Eq.trans; apply ex_ld_id; exact rfl; exact rfl; assumption; with_reducible rfl) | (apply Eq.trans; apply ex_ldS_at; exact rfl; exact rfl; assumption; with_reducible rfl) | (go_simp; try with_reducible rfl)
    try simp only [List.getElem_toArray, List.getElem_cons_zero, List.getElem_cons_succ, Act.put, List.setIfInBounds_toArray, List.set_cons_zero, List.set_cons_succ]
    refine wpAnyS_take (v := ?_) hA rfl (fun _ _ _ h => h) (Or.inl ⟨by rfl, ?_⟩) hF (fun hA => ?_)
    rotate_left
    · intro wS hSw; (try dsimp only at hSw); obtain ⟨s1, s2, s3⟩ := hSw; first | (apply Eq.trans; apply ex_ld_id; exact rfl; exact rfl; assumption; with_reducible rfl) | (apply Eq.trans; apply ex_ldS_at; exact rfl; exact rfl; assumption; with_reducible rfl) | (go_simp; try with_reducible rfl)
    try simp only [List.getElem_toArray, List.getElem_cons_zero, List.getElem_cons_succ, Act.put, List.setIfInBounds_toArray, List.set_cons_zero, List.set_cons_succ]
    refine wpAnyS_take (v := ?_) hA rfl (fun _ _ _ h => h) (Or.inl ⟨by rfl, ?_⟩) hF (fun hA => ?_)
    rotate_left
    · intro wS hSw; (try dsimp only at hSw); obtain ⟨s1, s2, s3⟩ := hSw; first | (apply Eq.trans; apply ex_ld_id; exact rfl; exact rfl; assumption; with_reducible rfl) | (apply Eq.trans; apply ex_ldS_at; exact rfl; exact rfl; assumption; with_reducible rfl) | (go_simp; try with_reducible rfl)
    try simp only [List.getElem_toArray, List.getElem_cons_zero, List.getElem_cons_succ, Act.put, List.setIfInBounds_toArray, List.set_cons_zero, List.set_cons_succ]
    refine wpAnyS_take (v := ?_) hA rfl (fun _ _ _ h => h) (Or.inl ⟨by rfl, ?_⟩) hF (fun hA => ?_)
    rotate_left
    · intro wS hSw; (try dsimp only at hSw); obtain ⟨s1, s2, s3⟩ := hSw; first | (apply Eq.trans; apply ex_ld_id; exact rfl; exact rfl; assumption; with_reducible rfl) | (apply Eq.trans; apply ex_ldS_at; exact rfl; exact rfl; assumption; with_reducible rfl) | (go_simp; try with_reducible rfl)
    try simp only [List.getElem_toArray, List.getElem_cons_zero, List.getElem_cons_succ, Act.put, List.setIfInBounds_toArray, List.set_cons_zero, List.set_cons_succ]
    refine wpAnyS_take (v := ?_) hA rfl (fun _ _ _ h => h) (Or.inl ⟨by rfl, ?_⟩) hF (fun hA => ?_)
    rotate_left
    · intro wS hSw; (try dsimp only at hSw); obtain ⟨s1, s2, s3⟩ := hSw; first | (apply Eq.trans; apply ex_ld_id; exact rfl; exact rfl; assumption; with_reducible rfl) | (apply Eq.trans; apply ex_ldS_at; exact rfl; exact rfl; assumption; with_reducible rfl) | (go_simp; try with_reducible rfl)
    try simp only [List.getElem_toArray, List.getElem_cons_zero, List.getElem_cons_succ, Act.put, List.setIfInBounds_toArray, List.set_cons_zero, List.set_cons_succ]
    refine wpAnyS_take (v := ?_) hA rfl (fun _ _ _ h => h) (Or.inl ⟨by rfl, ?_⟩) hF (fun hA => ?_)
    rotate_left
    · intro wS hSw; (try dsimp only at hSw); obtain ⟨s1, s2, s3⟩ := hSw; first | (apply Eq.trans; apply ex_ld_id; exact rfl; exact rfl; assumption; with_reducible rfl) | (apply Eq.trans; apply ex_ldS_at; exact rfl; exact rfl; assumption; with_reducible rfl) | (go_simp; try with_reducible rfl)
    try simp only [List.getElem_toArray, List.getElem_cons_zero, List.getElem_cons_succ, Act.put, List.setIfInBounds_toArray, List.set_cons_zero, List.set_cons_succ]
    refine wpAnyS_take (v := ?_) hA rfl (fun _ _ _ h => h) (Or.inl ⟨by rfl, ?_⟩) hF (fun hA => ?_)
    rotate_left
    · intro wS hSw; (try dsimp only at hSw); obtain ⟨s1, s2, s3⟩ := hSw; first | (apply Eq.trans; apply ex_ld_id; exact rfl; exact rfl; assumption; with_reducible rfl) | (apply Eq.trans; apply ex_ldS_at; exact rfl; exact rfl; assumption; with_reducible rfl) | (go_simp; try with_reducible rfl)
    try simp only [List.getElem_toArray, List.getElem_cons_zero, List.getElem_cons_succ, Act.put, List.setIfInBounds_toArray, List.set_cons_zero, List.set_cons_succ]
    refine wpAnyS_one hA rfl (fun K' hK => ?_)
    go_simp
    go_at_call 39
    refine (enum_z W1.drew A c l l.length rfl (hs.fr0 fd) (by omega) r.Kind r.Kind.toNat PK.out p2).mono ?_
    rintro e w3 ⟨A3, c3, rfl, ho3, hf3⟩
    obtain ⟨l3, hl3⟩ : ∃ x : List UInt8, x = l ++ numB r.Kind.toNat := ⟨_, rfl⟩
    rw [← hl3] at ho3 ⊢
    have b3 : l3.length ≤ l.length + 9 := by rw [hl3, List.length_append]; omega
    have HL3 := Lib.hid hl3
    clear hl3
    have g3 := (f0.step0 fd).step0 hf3
    replace hF := keep _ _ hf3 hF
    refine hK.out _ _ hF (fun hA => ?_)
    clear hK K'
    as_aux_lemma =>
    refine wpAnyS_one hA rfl (fun K' hK => ?_)
    go_simp
    go_at_call 104
    refine (sput_any w3 A3 c3 l3.length l3 rfl (Sl.own ho3) (by omega) r.At o1).mono ?_
    rintro e w4 ⟨A4, c4, rfl, ho4, hf4⟩
    obtain ⟨l4, hl4⟩ : ∃ x : List UInt8, x = l3 ++ stB r.At := ⟨_, rfl⟩
    rw [← hl4] at ho4 ⊢
    have b4 : l4.length ≤ l.length + 29 := by rw [hl4, List.length_append]; omega
    have HL4 := Lib.hid hl4
    clear hl4
    have g4 := (g3).step0 hf4
    replace hF := keep _ _ hf4 hF
    refine hK.out _ _ hF (fun hA => ?_)
    clear hK K'
    as_aux_lemma =>
    refine wpAnyS_one hA rfl (fun K' hK => ?_)
    go_simp
    go_at_call 104
    refine (sput_any w4 A4 c4 l4.length l4 rfl (Sl.own ho4) (by omega) r.Node o2).mono ?_
    rintro e w5 ⟨A5, c5, rfl, ho5, hf5⟩
    obtain ⟨l5, hl5⟩ : ∃ x : List UInt8, x = l4 ++ stB r.Node := ⟨_, rfl⟩
    rw [← hl5] at ho5 ⊢
    have b5 : l5.length ≤ l.length + 49 := by rw [hl5, List.length_append]; omega
    have HL5 := Lib.hid hl5
    clear hl5
    have g5 := (g4).step0 hf5
    replace hF := keep _ _ hf5 hF
    refine hK.out _ _ hF (fun hA => ?_)
    clear hK K'
    as_aux_lemma =>
    refine wpAnyS_end hA rfl ?_
    simp only [List.drop_succ_cons, List.drop_zero]
    clear hF keep
    have hwf : Fr noB W1 w5 := ((fd.step0 hf3).step0 hf4).step0 hf5
    have r1 := cell_fr0 q1 hwf
    have hs5 := Sl.own ho5
    have hbase5 : w.heap.size ≤ w4.heap.size := g4.size
    have HL5' := Lib.hid (show l5 = l ++ (numB r.Kind.toNat ++ stB r.At ++ stB r.Node) by rw [HL5.out, HL4.out, HL3.out]; simp [List.append_assoc])
    by_cases hk : r.Kind = 1
    · have k1 : (r.Kind == 1) = true := by rw [hk]; rfl
      have hop : opB o = (numB r.Kind.toNat ++ stB r.At ++ stB r.Node) ++ (stB r.Parent ++ txB r.Name) := by rw [HOB.out, if_pos hk]
      have g3 := G3.out
      rw [if_pos (by rw [EK.out.1]; exact hk)] at g3
      simp only [moveOk, Bool.and_eq_true, decide_eq_true_eq, Bool.or_eq_true] at g3
      obtain ⟨⟨⟨⟨h4, h5⟩, h6⟩, h7⟩, h8⟩ := g3
      have hp : okSt r.Parent := by
        rw [← EK.out.2.1]
        rcases h5 with h5 | h5
        · exact okSt_of h5
        · simp only [fixedS, Bool.and_eq_true, Bool.or_eq_true, decide_eq_true_eq] at h5
          exact ⟨by omega, by omega, by omega, by omega⟩
      have hnl : r.Name.length ≤ 60 := by rw [← EK.out.2.2]; exact nameOk_le h6
      have a4 := stB_len hp
      have HOP := Lib.hid hop
      clear h4 h5 h6 h7 h8 hop hk
      go_upto_region 5 with fail
      have fd5 := (Fr.refl noB w5).drew
      have keep2 : ∀ w' w'' : World, Fr noB w' w'' → (codS.rd w' P 5 = some r.Parent ∧ w'.cell? ⟨P, 7, none⟩ = some (.string (str r.Name))) → (codS.rd w'' P 5 = some r.Parent ∧ w''.cell? ⟨P, 7, none⟩ = some (.string (str r.Name))) := fun w' w'' f h => ⟨Cod.rd_fr0 h.1 f, cell_fr0 h.2 f⟩
      refine wp_region_M 7 8 [⟨33554432, 1, 0⟩, ⟨67108864, 8, 0⟩, ⟨134217728, 67108864, 2⟩, ⟨268435456, 167772160, 5⟩, ⟨536870912, 8, 0⟩, ⟨1073741824, 536870912, 16⟩, ⟨2147483648, 1342177280, 40⟩, ⟨16, 2147483648, 127⟩] [(true, 0), (true, 1), (true, 2), (true, 4), (true, 5), (false, 3), (false, 6)] (fun w' => codS.rd w' P 5 = some r.Parent ∧ w'.cell? ⟨P, 7, none⟩ = some (.string (str r.Name))) (by kernel_rfl) rfl (by kernel_rfl) (by kernel_rfl) (by kernel_rfl) ⟨Cod.rd_fr0 q6 (hwf.step0 fd5), cell_fr0 q7 (hwf.step0 fd5)⟩ (fun hA hF => ?_)
      refine wpAnyS_take (v := ?_) hA rfl (fun _ _ _ h => h) (Or.inl ⟨by rfl, ?_⟩) hF (fun hA => ?_)
      rotate_left
      · intro wS hSw; (try dsimp only at hSw); obtain ⟨s1, s2⟩ := hSw; first | (apply Eq.trans; apply ex_ld_id; exact rfl; exact rfl; assumption; with_reducible rfl) | (apply Eq.trans; apply ex_ldS_at; exact rfl; exact rfl; assumption; with_reducible rfl) | (go_simp; try with_reducible rfl)
      try simp only [List.getElem_toArray, List.getElem_cons_zero, List.getElem_cons_succ, Act.put, List.setIfInBounds_toArray, List.set_cons_zero, List.set_cons_succ]
      refine wpAnyS_take (v := ?_) hA rfl (fun _ _ _ h => h) (Or.inl ⟨by rfl, ?_⟩) hF (fun hA => ?_)
      rotate_left
      · intro wS hSw; (try dsimp only at hSw); obtain ⟨s1, s2⟩ := hSw; first | (apply Eq.trans; apply ex_ld_id; exact rfl; exact rfl; assumption; with_reducible rfl) | (apply Eq.trans; apply ex_ldS_at; exact rfl; exact rfl; assumption; with_reducible rfl) | (go_simp; try with_reducible rfl)
      try simp only [List.getElem_toArray, List.getElem_cons_zero, List.getElem_cons_succ, Act.put, List.setIfInBounds_toArray, List.set_cons_zero, List.set_cons_succ]
      refine wpAnyS_take (v := ?_) hA rfl (fun _ _ _ h => h) (Or.inl ⟨by rfl, ?_⟩) hF (fun hA => ?_)
      rotate_left
      · intro wS hSw; (try dsimp only at hSw); obtain ⟨s1, s2⟩ := hSw; first | (apply Eq.trans; apply ex_ld_id; exact rfl; exact rfl; assumption; with_reducible rfl) | (apply Eq.trans; apply ex_ldS_at; exact rfl; exact rfl; assumption; with_reducible rfl) | (go_simp; try with_reducible rfl)
      try simp only [List.getElem_toArray, List.getElem_cons_zero, List.getElem_cons_succ, Act.put, List.setIfInBounds_toArray, List.set_cons_zero, List.set_cons_succ]
      refine wpAnyS_take (v := ?_) hA rfl (fun _ _ _ h => h) (Or.inl ⟨by rfl, ?_⟩) hF (fun hA => ?_)
      rotate_left
      · intro wS hSw; (try dsimp only at hSw); obtain ⟨s1, s2⟩ := hSw; first | (apply Eq.trans; apply ex_ld_id; exact rfl; exact rfl; assumption; with_reducible rfl) | (apply Eq.trans; apply ex_ldS_at; exact rfl; exact rfl; assumption; with_reducible rfl) | (go_simp; try with_reducible rfl)
      try simp only [List.getElem_toArray, List.getElem_cons_zero, List.getElem_cons_succ, Act.put, List.setIfInBounds_toArray, List.set_cons_zero, List.set_cons_succ]
      refine wpAnyS_take (v := ?_) hA rfl (fun _ _ _ h => h) (Or.inl ⟨by rfl, ?_⟩) hF (fun hA => ?_)
      rotate_left
      · intro wS hSw; (try dsimp only at hSw); obtain ⟨s1, s2⟩ := hSw; first | (apply Eq.trans; apply ex_ld_id; exact rfl; exact rfl; assumption; with_reducible rfl) | (apply Eq.trans; apply ex_ldS_at; exact rfl; exact rfl; assumption; with_reducible rfl) | (go_simp; try with_reducible rfl)
      try simp only [List.getElem_toArray, List.getElem_cons_zero, List.getElem_cons_succ, Act.put, List.setIfInBounds_toArray, List.set_cons_zero, List.set_cons_succ]
      refine wpAnyS_one hA rfl (fun K' hK => ?_)
      go_simp
      go_at_call 104
      refine (sput_any w5.drew A5 c5 l5.length l5 rfl (hs5.fr0 fd5) (by omega) r.Parent hp).mono ?_
      rintro e w6 ⟨A6, c6, rfl, ho6, hf6⟩
      obtain ⟨l6, hl6⟩ : ∃ x : List UInt8, x = l5 ++ stB r.Parent := ⟨_, rfl⟩
      rw [← hl6] at ho6 ⊢
      have b6 : l6.length ≤ l.length + 69 := by rw [hl6, List.length_append]; omega
      have HL6 := Lib.hid hl6
      clear hl6
      have g6 := (g5.step0 fd5).step0 hf6
      replace hF := keep2 _ _ hf6 hF
      refine hK.out _ _ hF (fun hA => ?_)
      clear hK K'
      as_aux_lemma =>
      refine wpAnyS_one hA rfl (fun K' hK => ?_)
      go_simp
      go_at_call 41
      refine (etext_any w6 A6 c6 l6.length l6 rfl (Sl.own ho6) (by omega) r.Name (by omega)).mono ?_
      rintro e w7 ⟨A7, c7, rfl, ho7, hf7⟩
      have g7 := g6.step0 hf7
      have HE := Lib.hid (show l6 ++ txB r.Name = l ++ opB o by rw [HL6.out, HL5'.out, HOP.out]; simp [List.append_assoc])
      rw [HE.out] at ho7 ⊢
      replace hF := keep2 _ _ hf7 hF
      refine hK.out _ _ hF (fun hA => ?_)
      clear hK K'
      as_aux_lemma =>
      refine wpAnyS_end hA rfl ?_
      simp only [List.drop_succ_cons, List.drop_zero]
      clear hF keep2
      go_wp2_with fail
      go_ret
      exact ⟨A7, c7, by first | rfl | simp, own_base ho7 g6.size, g7⟩
    · have k1 : (r.Kind == 1) = false := by rw [beq_eq_false_iff_ne]; exact hk
      have hk2 : r.Kind = 2 := hk12.resolve_left hk
      have hop : opB o = (numB r.Kind.toNat ++ stB r.At ++ stB r.Node) ++ (r.Data.1 ++ numB o.Over.length ++ o.Over.flatMap stB) := by rw [HOB.out, if_neg hk]
      have g3 := G3.out
      rw [if_neg (by rw [EK.out.1]; exact hk), if_pos (by rw [EK.out.1]; exact hk2)] at g3
      simp only [editOk, Bool.and_eq_true, decide_eq_true_eq, List.all_eq_true] at g3
      obtain ⟨⟨⟨⟨⟨⟨h4, h5⟩, h6⟩, h7⟩, h8⟩, h9⟩, h10⟩ := g3
      have hov := HIN1.out.len
      have hsl := HIN1.out.sl
      generalize o.Over = ov at hop h8 h9 hov hsl
      have hall : ∀ s ∈ ov, okSt s := fun s hs => okSt_of (h9 s hs).1
      have hn64 : r.n ≤ 64 := by rw [← hov]; exact h8
      have HOP := Lib.hid hop
      have HOV := Lib.hid hov
      clear h4 h5 h6 h7 h8 h9 h10 hop hk hk2 hk12 hov
      go_upto_region 6 with fail
      have fd5 := (Fr.refl noB w5).drew
      have keep2 : ∀ w' w'' : World, Fr noB w' w'' → (rdI w' P 8 = some r.Data ∧ w'.cell? ⟨P, 40, none⟩ = some (.slice r.A r.n r.c)) → (rdI w'' P 8 = some r.Data ∧ w''.cell? ⟨P, 40, none⟩ = some (.slice r.A r.n r.c)) := fun w' w'' f h => ⟨rdI_fr h.1 (rdI_lt h.1) f (by simp [noB]), cell_fr0 h.2 f⟩
      refine wp_region_M 8 9 [⟨4294967296, 1, 0⟩, ⟨8589934592, 8, 0⟩, ⟨17179869184, 8589934592, 2⟩, ⟨34359738368, 21474836480, 5⟩, ⟨68719476736, 8, 0⟩, ⟨137438953472, 68719476736, 16⟩, ⟨274877906944, 137438953472, 32⟩, ⟨549755813888, 309237645312, 72⟩, ⟨1, 549755813888, 255⟩] [(true, 0), (true, 1), (true, 2), (true, 4), (true, 5), (true, 6), (false, 3), (false, 7)] (fun w' => rdI w' P 8 = some r.Data ∧ w'.cell? ⟨P, 40, none⟩ = some (.slice r.A r.n r.c)) (by kernel_rfl) rfl (by kernel_rfl) (by kernel_rfl) (by kernel_rfl) ⟨rdI_fr q8 (rdI_lt q8) (hwf.step0 fd5) (by simp [noB]), cell_fr0 q9 (hwf.step0 fd5)⟩ (fun hA hF => ?_)
      refine wpAnyS_take (v := ?_) hA rfl (fun _ _ _ h => h) (Or.inl ⟨by rfl, ?_⟩) hF (fun hA => ?_)
      rotate_left
      · intro wS hSw; (try dsimp only at hSw); obtain ⟨s1, s2⟩ := hSw; first | (apply Eq.trans; apply ex_ld_id; exact rfl; exact rfl; assumption; with_reducible rfl) | (apply Eq.trans; apply ex_ldS_at; exact rfl; exact rfl; assumption; with_reducible rfl) | (go_simp; try with_reducible rfl)
      try simp only [List.getElem_toArray, List.getElem_cons_zero, List.getElem_cons_succ, Act.put, List.setIfInBounds_toArray, List.set_cons_zero, List.set_cons_succ]
      refine wpAnyS_take (v := ?_) hA rfl (fun _ _ _ h => h) (Or.inl ⟨by rfl, ?_⟩) hF (fun hA => ?_)
      rotate_left
      · intro wS hSw; (try dsimp only at hSw); obtain ⟨s1, s2⟩ := hSw; first | (apply Eq.trans; apply ex_ld_id; exact rfl; exact rfl; assumption; with_reducible rfl) | (apply Eq.trans; apply ex_ldS_at; exact rfl; exact rfl; assumption; with_reducible rfl) | (go_simp; try with_reducible rfl)
      try simp only [List.getElem_toArray, List.getElem_cons_zero, List.getElem_cons_succ, Act.put, List.setIfInBounds_toArray, List.set_cons_zero, List.set_cons_succ]
      refine wpAnyS_take (v := ?_) hA rfl (fun _ _ _ h => h) (Or.inl ⟨by rfl, ?_⟩) hF (fun hA => ?_)
      rotate_left
      · intro wS hSw; (try dsimp only at hSw); obtain ⟨s1, s2⟩ := hSw; first | (apply Eq.trans; apply ex_ld_id; exact rfl; exact rfl; assumption; with_reducible rfl) | (apply Eq.trans; apply ex_ldS_at; exact rfl; exact rfl; assumption; with_reducible rfl) | (go_simp; try with_reducible rfl)
      try simp only [List.getElem_toArray, List.getElem_cons_zero, List.getElem_cons_succ, Act.put, List.setIfInBounds_toArray, List.set_cons_zero, List.set_cons_succ]
      refine wpAnyS_take (v := ?_) hA rfl (fun _ _ _ h => h) (Or.inl ⟨by rfl, ?_⟩) hF (fun hA => ?_)
      rotate_left
      · intro wS hSw; (try dsimp only at hSw); obtain ⟨s1, s2⟩ := hSw; first | (apply Eq.trans; apply ex_ld_id; exact rfl; exact rfl; assumption; with_reducible rfl) | (apply Eq.trans; apply ex_ldS_at; exact rfl; exact rfl; assumption; with_reducible rfl) | (go_simp; try with_reducible rfl)
      try simp only [List.getElem_toArray, List.getElem_cons_zero, List.getElem_cons_succ, Act.put, List.setIfInBounds_toArray, List.set_cons_zero, List.set_cons_succ]
      refine wpAnyS_take (v := ?_) hA rfl (fun _ _ _ h => h) (Or.inl ⟨by rfl, ?_⟩) hF (fun hA => ?_)
      rotate_left
      · intro wS hSw; (try dsimp only at hSw); obtain ⟨s1, s2⟩ := hSw; first | (apply Eq.trans; apply ex_ld_id; exact rfl; exact rfl; assumption; with_reducible rfl) | (apply Eq.trans; apply ex_ldS_at; exact rfl; exact rfl; assumption; with_reducible rfl) | (go_simp; try with_reducible rfl)
      try simp only [List.getElem_toArray, List.getElem_cons_zero, List.getElem_cons_succ, Act.put, List.setIfInBounds_toArray, List.set_cons_zero, List.set_cons_succ]
      refine wpAnyS_take (v := ?_) hA rfl (fun _ _ _ h => h) (Or.inl ⟨by rfl, ?_⟩) hF (fun hA => ?_)
      rotate_left
      · intro wS hSw; (try dsimp only at hSw); obtain ⟨s1, s2⟩ := hSw; first | (apply Eq.trans; apply ex_ld_id; exact rfl; exact rfl; assumption; with_reducible rfl) | (apply Eq.trans; apply ex_ldS_at; exact rfl; exact rfl; assumption; with_reducible rfl) | (go_simp; try with_reducible rfl)
      try simp only [List.getElem_toArray, List.getElem_cons_zero, List.getElem_cons_succ, Act.put, List.setIfInBounds_toArray, List.set_cons_zero, List.set_cons_succ]
      refine wpAnyS_one hA rfl (fun K' hK => ?_)
      go_simp
      go_at_call 40
      refine (eid_any w5.drew A5 c5 l5.length l5 rfl (hs5.fr0 fd5) (by omega) r.Data).mono ?_
      rintro e w6 ⟨A6, c6, rfl, ho6, hf6⟩
      obtain ⟨l6, hl6⟩ : ∃ x : List UInt8, x = l5 ++ r.Data.1 := ⟨_, rfl⟩
      rw [← hl6] at ho6 ⊢
      have b6 : l6.length ≤ l.length + 81 := by rw [hl6, List.length_append, r.Data.2]; omega
      have HL6 := Lib.hid hl6
      clear hl6
      have g6 := (g5.step0 fd5).step0 hf6
      replace hF := keep2 _ _ hf6 hF
      refine hK.out _ _ hF (fun hA => ?_)
      clear hK K'
      as_aux_lemma =>
      refine wpAnyS_one hA rfl (fun K' hK => ?_)
      go_simp
      go_at_call 39
      refine (enum_z w6 A6 c6 l6 l6.length rfl (Sl.own ho6) (by omega) (r.n : Int) r.n rfl (by omega)).mono ?_
      rintro e w7 ⟨A7, c7, rfl, ho7, hf7⟩
      obtain ⟨l7, hl7⟩ : ∃ x : List UInt8, x = l6 ++ numB r.n := ⟨_, rfl⟩
      rw [← hl7] at ho7 ⊢
      have a9 := numB_length r.n (by omega)
      have b7 : l7.length ≤ l.length + 91 := by rw [hl7, List.length_append]; omega
      have HL7 := Lib.hid hl7
      clear hl7
      have g7 := g6.step0 hf7
      replace hF := keep2 _ _ hf7 hF
      refine hK.out _ _ hF (fun hA => ?_)
      clear hK K'
      as_aux_lemma =>
      refine wpAnyS_end hA rfl ?_
      simp only [List.drop_succ_cons, List.drop_zero]
      have hcell := hF.2
      clear hF keep2
      have hFr : Fr noB W1 w7 := ((hwf.step0 fd5).step0 hf6).step0 hf7
      replace hsl := hsl.fr0 hFr
      have ho7' := own_base ho7 g6.size
      have hP7 : P < w7.heap.size := Nat.lt_of_lt_of_le hP hFr.size
      rw [← HOV.out] at hcell
      have HRN := Lib.hid HOV.out
      have HFIN := Lib.hid (show l7 ++ ov.flatMap stB = l ++ opB o by rw [HL7.out, HL6.out, HL5'.out, HOP.out, HOV.out]; simp [List.append_assoc])
      clear HL3 HL4 HL5 HL6 HL7 HL5' HOP
      generalize r.A = RA at hsl hcell ⊢
      go_wp2_with fail
      go_loopg [0, 43] ov.length (fun gk v iv wr => PpR w w7 l7 ov gk v iv wr)
      case atStart => exact ⟨0, A7, c7, l7, by first | rfl | simp, rfl, by omega, by omega, by simp, by omega, ho7', Fr.refl _ _⟩
      case round =>
        obtain ⟨k, A8, c8, l8, rfl, rfl, rfl, hk, hl8, hb8, ho8, hf8⟩ := hrel
        have HL8 := Lib.hid hl8
        clear hl8
        have hn64' : ov.length ≤ 64 := by rw [HRN.out]; exact hn64
        by_cases hlt : k < ov.length
        · have i1 : (k : Int) < (ov.length : Int) := by omega
          have i0 : (0 : Int) ≤ (k : Int) := by omega
          obtain ⟨g, off, rfl, hg⟩ := hsl.adC (by omega)
          have e1 : codS.rd wr g (off + k * 2) = some ov[k] := (hsl.fr0 hf8).rd k hlt
          have hx : okSt ov[k] := hall _ (List.getElem_mem hlt)
          have ht : (ov.take (k + 1)).flatMap stB = (ov.take k).flatMap stB ++ stB ov[k] := by rw [List.take_succ_eq_append_getElem hlt, List.flatMap_append]; simp
          generalize ov[k] = x at e1 hx ht
          have HT := Lib.hid ht
          have fA : Fr noB wr (wr.alloc (codS.o x)) := (Fr.refl noB wr).alloc _
          have n1 : codS.rd (wr.alloc (codS.o x)) wr.heap.size 0 = some x := Cod.rd_new' wr x
          have ax := stB_len hx
          have b8 : l8.length ≤ 140737488354000 := by omega
          have HLT := Lib.hid hlt
          clear ht hlt
          go_wp2_with (go_at_call 104; refine (sput_any _ A8 c8 l8.length l8 rfl ((Sl.own ho8).fr0 fA) b8 x hx).mono ?_; rintro e w9 ⟨A9, c9, rfl, ho9, hf9⟩; obtain ⟨l9, hl9⟩ : ∃ z : List UInt8, z = l8 ++ stB x := ⟨_, rfl⟩; rw [← hl9] at ho9 ⊢; have HL9 := Lib.hid hl9; clear hl9)
          have hlt := HLT.out
          go_roundg (ov.length - (k + 1))
          case measure => omega
          case rel =>
            exact ⟨k + 1, A9, c9, l9, rfl, by simp, rfl, by omega, by rw [HL9.out, HL8.out, HT.out, List.append_assoc], by rw [HL9.out, List.length_append]; omega, own_base ho9 (Nat.le_trans (g7.step0 hf8).size fA.size), (hf8.step0 fA).step0 hf9⟩
        · have hkn : k = ov.length := by omega
          subst hkn
          have i1 : ¬ (ov.length : Int) < (ov.length : Int) := by omega
          have hfin : l8 = l ++ opB o := by rw [HL8.out, List.take_length, HFIN.out]
          rw [hfin] at ho8 ⊢
          clear hfin hb8
          go_wp2_with fail
          go_ret
          exact ⟨A8, c8, by first | rfl | simp, ho8, g7.step0 hf8⟩
  · have hg' : goodOp o = false := by simpa using hg
    have hop : opB o = [] := by unfold opB; rw [if_neg hg]
    have HE := Lib.hid (show l ++ opB o = l by rw [hop, List.append_nil])
    have HG := Lib.hid hg'
    clear hg hg' hop hlen
    go_wp2_with (first
      | (go_at_call 96; refine (sgood_any _ r o h).mono ?_; rintro e w1 ⟨rfl, f1⟩; rw [HG.out])
      | (go_at_call 85; refine (clone_z _ A c l.length l rfl (hs.fr0 f1) (by omega)).mono ?_; rintro e w2 ⟨A2, c2, rfl, ho2, f2⟩))
    go_ret
    rw [HE.out]
    exact ⟨A2, c2, rfl, own_base ho2 (f0.step0 f1).size, (f0.step0 f1).step0 f2⟩
end Go.Proofs.YtejkfekpgbmdiaaGreat
