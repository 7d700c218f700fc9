/- Contract: the document's example (alive) is true. -/
import Derived.Test.YtchiclnnoealdaaDagR
namespace Go.Proofs.Ytchiclnnoealdaa
open Go.RowKit Go.Maps Go.Sort Go.Shelf
set_option linter.unusedVariables false
set_option linter.unusedSimpArgs false

theorem ex_bld1_at {ρ : Operand → Value} {o : Oper} {a : Operand} {w : World} {n : Int} (ho : o.op = .build 24 #[(0, a)]) (ha : ρ a = .int .u8 n) (hn : 0 ≤ n ∧ n < 256) : (execOp ρ o).run Try.prog w = .ok (.value (encI (id2 n.toNat 0))) w := by
  obtain ⟨d, op, t, p, f, g⟩ := o
  simp only at ho
  subst ho
  rw [ex_bld1, ha, mkI1_at, if_pos hn]
theorem step_runW {P : Program} {w : World} {o : Oper} {a : Act} {K : Act → World → Prop} {Q : Exit → Act → World → Prop} (v : Value) (w' : World)
    (hr : (execOp a.eval o).run P w = .ok (.value v) w') (h : K (a.put o.dst v) w') : Oper.wp P o a w K Q := by
  unfold Oper.wp
  rw [hr]
  exact h
/-- the law's own blocks: those from a to b -/
def betw (a b : Nat) : Nat → Prop := fun k => a ≤ k ∧ k < b
def AliR (w : World) (D : Nat) (S : Nat → Prop) (wB : World) (gk : Nat) (iv : Value) (wr : World) : Prop :=
  ∃ k : Nat, iv = .int .i64 (k : Int) ∧ gk = 5 - k ∧ k ≤ 5 ∧ DagL w wr D (exG k) S ∧ Fr (notS w S) wB wr

set_option maxRecDepth 100000 in
set_option maxHeartbeats 4000000 in
theorem alive_any (w : World) : Calls Try.prog 9 #[] w (Gives w (.bool true)) := by
  go_enter Try.func9, Try.ntmps9
  go_wp2_with fail
  go_at_call 8
  refine (newL_any w w (Fr.refl _ _) (fun _ => False) (fun _ h => h.elim)).mono ?_
  rintro e w1 ⟨D, rfl, hD, f1⟩
  have f3 : Fr noB w1 (((w1.alloc (ido zID)).alloc (ido zID)).alloc (ido zID)) := (((Fr.refl noB w1).alloc _).alloc _).alloc _
  have s1 : bxI (((w1.alloc (ido zID)).alloc (ido zID)).alloc (ido zID)) w1.heap.size = some zID := by
    rw [bxI_old _ _ _ (by simp; omega), bxI_old _ _ _ (by simp), bxI_new]
  have s2' : bxI (((w1.alloc (ido zID)).alloc (ido zID)).alloc (ido zID)) (w1.heap.size + 1) = some zID := by
    rw [bxI_old _ _ _ (by simp), bxI_new' _ _ _ (by simp)]
  have s3' : bxI (((w1.alloc (ido zID)).alloc (ido zID)).alloc (ido zID)) (w1.heap.size + 2) = some zID := by
    rw [bxI_new' _ _ _ (by simp)]
  obtain ⟨a1, a2, a3⟩ := putB_fr s1 (id2 1 0)
  have s2 := bxI_fr s2' a1 (by simp [oneB])
  have s3'' := bxI_fr s3' a1 (by simp [oneB])
  obtain ⟨b1, b2, b3⟩ := putB_fr s2 (id2 2 0)
  have s3 := bxI_fr s3'' b1 (by simp [oneB])
  obtain ⟨c1, c2, c3⟩ := putB_fr s3 (id2 3 0)
  have q1 := bxI_fr (bxI_fr a3 b1 (by simp [oneB])) c1 (by simp [oneB])
  have q2 := bxI_fr b3 c1 (by simp [oneB])
  have sz3 : (((w1.alloc (ido zID)).alloc (ido zID)).alloc (ido zID)).heap.size = w1.heap.size + 3 := by simp
  have hD3 := (hD.more f3).mono (S' := betw w1.heap.size (w1.heap.size + 3)) (fun b hb => .inr ⟨hb.1, by rw [sz3]; exact hb.2⟩)
  have lw := f1.size
  have hD4 := hD3.frS a1 (fun b hb => ⟨⟨by have : b = _ := hb; omega, by have : b = _ := hb; omega⟩, by have : b = _ := hb; omega⟩)
  have hD5 := hD4.frS b1 (fun b hb => ⟨⟨by have : b = _ := hb; omega, by have : b = _ := hb; omega⟩, by have : b = _ := hb; omega⟩)
  have hD6 := hD5.frS c1 (fun b hb => ⟨⟨by have : b = _ := hb; omega, by have : b = _ := hb; omega⟩, by have : b = _ := hb; omega⟩)
  have szW : (putB (putB (putB (((w1.alloc (ido zID)).alloc (ido zID)).alloc (ido zID)) w1.heap.size (id2 1 0)) (w1.heap.size + 1) (id2 2 0)) (w1.heap.size + 1 + 1) (id2 3 0)).heap.size = w1.heap.size + 3 := by rw [c2, b2, a2, sz3]
  generalize hW : putB (putB (putB (((w1.alloc (ido zID)).alloc (ido zID)).alloc (ido zID)) w1.heap.size (id2 1 0)) (w1.heap.size + 1) (id2 2 0)) (w1.heap.size + 1 + 1) (id2 3 0) = W at q1 q2 c3 hD6 szW
  clear hD3 hD4 hD5 a3 b3 s2' s3' s3'' a1 a2 b1 b2 c1 c2 sz3
  have ra := bxI_rd q1
  have rb := bxI_rd q2
  have rc := bxI_rd c3
  have keep : ∀ w', Fr noB W w' → rdI w' w1.heap.size 0 = some (id2 1 0) ∧ rdI w' (w1.heap.size + 1) 0 = some (id2 2 0) ∧ rdI w' (w1.heap.size + 1 + 1) 0 = some (id2 3 0) := fun w' f =>
    ⟨rdI_fr ra (rdI_lt ra) f (by simp [noB]), rdI_fr rb (rdI_lt rb) f (by simp [noB]), rdI_fr rc (rdI_lt rc) f (by simp [noB])⟩
  have k1 : Fr noB W (W.alloc (rowo [id2 1 0])) := (Fr.refl noB W).alloc _
  have k2 := k1.alloc (rowo [id2 1 0])
  have k3 := k2.alloc (rowo [id2 2 0, id2 3 0])
  have k4 := k3.alloc (rowo [id2 2 0, id2 3 0])
  obtain ⟨ra1, rb1, rc1⟩ := keep _ k1
  obtain ⟨ra2, rb2, rc2⟩ := keep _ k2
  obtain ⟨ra3, rb3, rc3⟩ := keep _ k3
  clear keep
  have HS := Lib.hid szW
  clear szW
  have n5 := lnR_new ((((W.alloc (rowo [id2 1 0])).alloc (rowo [id2 1 0])).alloc (rowo [id2 2 0, id2 3 0])).alloc (rowo [id2 2 0, id2 3 0])) [(id2 1 0, .slice none 0 0), (id2 2 0, .slice (some ⟨W.heap.size, 0, none⟩) 1 1), (id2 3 0, .slice (some ⟨W.heap.size + 1, 0, none⟩) 1 1), (id2 4 0, .slice (some ⟨W.heap.size + 1 + 1, 0, none⟩) 2 2), (id2 5 0, .slice (some ⟨W.heap.size + 1 + 1 + 1, 0, none⟩) 2 2)]
  have k5 : Fr noB W (((((W.alloc (rowo [id2 1 0])).alloc (rowo [id2 1 0])).alloc (rowo [id2 2 0, id2 3 0])).alloc (rowo [id2 2 0, id2 3 0])).alloc (.cells (lnRA [(id2 1 0, .slice none 0 0), (id2 2 0, .slice (some ⟨W.heap.size, 0, none⟩) 1 1), (id2 3 0, .slice (some ⟨W.heap.size + 1, 0, none⟩) 1 1), (id2 4 0, .slice (some ⟨W.heap.size + 1 + 1, 0, none⟩) 2 2), (id2 5 0, .slice (some ⟨W.heap.size + 1 + 1 + 1, 0, none⟩) 2 2)]) 31)) := k4.alloc _
  have e1 := (((((sl_new W [id2 1 0]).fr0 ((Fr.refl noB _).alloc (rowo [id2 1 0]))).fr0 ((Fr.refl noB _).alloc (rowo [id2 2 0, id2 3 0]))).fr0 ((Fr.refl noB _).alloc (rowo [id2 2 0, id2 3 0]))).fr0 ((Fr.refl noB _).alloc (.cells (lnRA [(id2 1 0, .slice none 0 0), (id2 2 0, .slice (some ⟨W.heap.size, 0, none⟩) 1 1), (id2 3 0, .slice (some ⟨W.heap.size + 1, 0, none⟩) 1 1), (id2 4 0, .slice (some ⟨W.heap.size + 1 + 1, 0, none⟩) 2 2), (id2 5 0, .slice (some ⟨W.heap.size + 1 + 1 + 1, 0, none⟩) 2 2)]) 31)))
  have e2 := ((((sl_new (W.alloc (rowo [id2 1 0])) [id2 1 0]).fr0 ((Fr.refl noB _).alloc (rowo [id2 2 0, id2 3 0]))).fr0 ((Fr.refl noB _).alloc (rowo [id2 2 0, id2 3 0]))).fr0 ((Fr.refl noB _).alloc (.cells (lnRA [(id2 1 0, .slice none 0 0), (id2 2 0, .slice (some ⟨W.heap.size, 0, none⟩) 1 1), (id2 3 0, .slice (some ⟨W.heap.size + 1, 0, none⟩) 1 1), (id2 4 0, .slice (some ⟨W.heap.size + 1 + 1, 0, none⟩) 2 2), (id2 5 0, .slice (some ⟨W.heap.size + 1 + 1 + 1, 0, none⟩) 2 2)]) 31)))
  have e3 := (((sl_new ((W.alloc (rowo [id2 1 0])).alloc (rowo [id2 1 0])) [id2 2 0, id2 3 0]).fr0 ((Fr.refl noB _).alloc (rowo [id2 2 0, id2 3 0]))).fr0 ((Fr.refl noB _).alloc (.cells (lnRA [(id2 1 0, .slice none 0 0), (id2 2 0, .slice (some ⟨W.heap.size, 0, none⟩) 1 1), (id2 3 0, .slice (some ⟨W.heap.size + 1, 0, none⟩) 1 1), (id2 4 0, .slice (some ⟨W.heap.size + 1 + 1, 0, none⟩) 2 2), (id2 5 0, .slice (some ⟨W.heap.size + 1 + 1 + 1, 0, none⟩) 2 2)]) 31)))
  have e4 := ((sl_new (((W.alloc (rowo [id2 1 0])).alloc (rowo [id2 1 0])).alloc (rowo [id2 2 0, id2 3 0])) [id2 2 0, id2 3 0]).fr0 ((Fr.refl noB _).alloc (.cells (lnRA [(id2 1 0, .slice none 0 0), (id2 2 0, .slice (some ⟨W.heap.size, 0, none⟩) 1 1), (id2 3 0, .slice (some ⟨W.heap.size + 1, 0, none⟩) 1 1), (id2 4 0, .slice (some ⟨W.heap.size + 1 + 1, 0, none⟩) 2 2), (id2 5 0, .slice (some ⟨W.heap.size + 1 + 1 + 1, 0, none⟩) 2 2)]) 31)))
  have z5 : (((((W.alloc (rowo [id2 1 0])).alloc (rowo [id2 1 0])).alloc (rowo [id2 2 0, id2 3 0])).alloc (rowo [id2 2 0, id2 3 0])).alloc (.cells (lnRA [(id2 1 0, .slice none 0 0), (id2 2 0, .slice (some ⟨W.heap.size, 0, none⟩) 1 1), (id2 3 0, .slice (some ⟨W.heap.size + 1, 0, none⟩) 1 1), (id2 4 0, .slice (some ⟨W.heap.size + 1 + 1, 0, none⟩) 2 2), (id2 5 0, .slice (some ⟨W.heap.size + 1 + 1 + 1, 0, none⟩) 2 2)]) 31)).heap.size = W.heap.size + 5 := by simp
  simp only [World.size_alloc] at n5 e2 e3 e4
  go_wp2_with fail
  generalize hWB : ((((W.alloc (rowo [id2 1 0])).alloc (rowo [id2 1 0])).alloc (rowo [id2 2 0, id2 3 0])).alloc (rowo [id2 2 0, id2 3 0])).alloc (.cells (lnRA [(id2 1 0, .slice none 0 0), (id2 2 0, .slice (some ⟨W.heap.size, 0, none⟩) 1 1), (id2 3 0, .slice (some ⟨W.heap.size + 1, 0, none⟩) 1 1), (id2 4 0, .slice (some ⟨W.heap.size + 1 + 1, 0, none⟩) 2 2), (id2 5 0, .slice (some ⟨W.heap.size + 1 + 1 + 1, 0, none⟩) 2 2)]) 31) = wB at n5 k5 e1 e2 e3 e4 z5 ⊢
  have hs : W.heap.size = w1.heap.size + 3 := HS.out
  have nodeAt : ∀ k, k < 5 → ∃ B c, RdN wB (W.heap.size + 1 + 1 + 1 + 1) (k * 33) ((exN.getD k (zID, [])).1, .slice B (exN.getD k (zID, [])).2.length c) ∧ Sl wB B (idc (exN.getD k (zID, [])).2) ∧ Off B (betw w1.heap.size wB.heap.size) := by
    intro k hk
    have hr := n5.ln k hk
    rw [Nat.zero_add] at hr
    have off : ∀ j, j < 5 → Off (some (⟨W.heap.size + j, 0, none⟩ : Addr)) (betw w1.heap.size wB.heap.size) := by
      intro j hj a ha
      injection ha with ha
      subst ha
      exact ⟨by simp only; omega, by simp only; omega⟩
    match k, hk, hr with
    | 0, _, hr => exact ⟨none, 0, hr, Sl.nil _ _, Off.none⟩
    | 1, _, hr => exact ⟨_, 1, hr, e1, off 0 (by omega)⟩
    | 2, _, hr => exact ⟨_, 1, hr, e2, off 1 (by omega)⟩
    | 3, _, hr => exact ⟨_, 2, hr, e3, off 2 (by omega)⟩
    | 4, _, hr => exact ⟨_, 2, hr, e4, off 3 (by omega)⟩
  have hD7 := (hD6.more k5).mono (S' := betw w1.heap.size wB.heap.size) (fun b hb => by
    rcases Nat.lt_or_ge b (w1.heap.size + 3) with h | h
    · exact .inl ⟨hb.1, h⟩
    · exact .inr ⟨by omega, hb.2⟩)
  have NA := Lib.hid nodeAt
  have Z5 := Lib.hid z5
  clear hs z5 n5 e1 e2 e3 e4 nodeAt hWB hD6 ra1 rb1 rc1 ra2 rb2 rc2 ra3 rb3 rc3 k1 k2 k3 k4
  go_loopg [36] 5 (fun gk iv wr => AliR w D (betw w1.heap.size wB.heap.size) wB gk iv wr)
  case atStart => exact ⟨0, rfl, rfl, by omega, hD7, Fr.refl _ _⟩
  case round =>
    obtain ⟨k, rfl, rfl, hk5, hDk, hfk⟩ := hrel
    have nS : ∀ b, betw w1.heap.size wB.heap.size b → ¬ notS w (betw w1.heap.size wB.heap.size) b := fun b hb h => h.2 hb
    by_cases hlt : k < 5
    · obtain ⟨B, cB, hrd, hsl, hoff⟩ := NA.out k hlt
      have hrd2 := hrd.fr hfk (nS _ ⟨by have := HS.out; omega, by have := Z5.out; omega⟩)
      have hsl2 := hsl.fr hfk (hoff.mono nS)
      have hadd := ex_add k hlt
      have hb : (exN.getD k (zID, [])).2.length ≤ 1000000000000 := by
        have : ∀ k, k < 5 → (exN.getD k (zID, [])).2.length ≤ 2 := by decide
        have := this k hlt
        omega
      generalize exN.getD k (zID, []) = q at hrd hrd2 hsl hsl2 hadd hb
      have i1 : (k : Int) < 5 := by omega
      have p0 : (0 : Int) ≤ (k : Int) := by omega
      have hld := ldN_at hrd2
      have fn : Fr noB wr (wr.alloc (lno (q.1, .slice B q.2.length cB))) := (Fr.refl noB wr).alloc _
      have rn := RdN.new wr (q.1, .slice B q.2.length cB)
      have rn1 := rn.id
      have rn2 := rn.sl
      simp only at rn1 rn2
      have hle : (exG k).length < 1000000 := by
        have : (exG k).length ≤ 5 := by simp [exG, exN]; omega
        omega
      go_wp2_with fail
      go_at_call 10
      refine (addL_any (hDk.fr0 fn) hle q.1 B cB _ q.2 rfl (hsl2.fr0 fn) hb).mono ?_
      rintro e w2 ⟨rfl, hD2, hf2⟩
      rw [hadd] at hD2 ⊢
      go_wp2
      go_roundg (5 - (k + 1))
      case measure => omega
      case rel => exact ⟨k + 1, by simp, rfl, by omega, hD2, (hfk.step0 fn).trans hf2 (fun _ _ h => h)⟩
    · have ek : k = 5 := by omega
      subst ek
      obtain ⟨Fd, hI⟩ := hDk
      have hok := hI.at_.ok
      have dG := hI.at_
      go_wp2_with fail
      go_at_call 22
      refine (bases_any wr D Fd (exG 5) dG (id2 4 0) (id2 5 0)).mono ?_
      rintro e w2 ⟨l, ⟨A2, c2, rfl, ho2, hf2⟩, hr2, hm2, hb2⟩
      have el : l = [id2 2 0, id2 3 0] := ex_bases hok hr2 (fun y => (hm2 y).trans (basB_iff hok _ _ y))
      subst el
      obtain ⟨g, off, rfl⟩ := (Sl.own ho2).ad (by simp)
      have g0 := (Sl.own ho2).id 0 (by simp)
      have g1 := (Sl.own ho2).id 1 (by simp)
      simp only [Nat.zero_mul, Nat.add_zero, Nat.one_mul, List.getElem_cons_zero, List.getElem_cons_succ] at g0 g1
      have fw : Fr (notS w (betw w1.heap.size wB.heap.size)) W w2 := (k5.any.trans hfk (fun _ _ h => h)).step0 hf2
      have bS : ∀ j, j < 3 → ¬ notS w (betw w1.heap.size wB.heap.size) (w1.heap.size + j) := fun j hj => nS _ ⟨by omega, by have := HS.out; have := Z5.out; omega⟩
      have va : rdI w2.drew w1.heap.size 0 = some (id2 1 0) := by rw [rdI_drew]; exact rdI_fr ra (rdI_lt ra) fw (bS 0 (by omega))
      have vb : rdI w2.drew (w1.heap.size + 1) 0 = some (id2 2 0) := by rw [rdI_drew]; exact rdI_fr rb (rdI_lt rb) fw (bS 1 (by omega))
      have vc : rdI w2.drew (w1.heap.size + 1 + 1) 0 = some (id2 3 0) := by rw [rdI_drew]; exact rdI_fr rc (rdI_lt rc) fw (bS 2 (by omega))
      have v0 : rdI w2.drew g off = some (id2 2 0) := by rw [rdI_drew]; exact g0
      have v1 : rdI w2.drew g (off + 32) = some (id2 3 0) := by rw [rdI_drew]; exact g1
      have d2 : DagAt w2.drew D Fd (exG 5) := dG.fr0 hf2.drew
      have Fw : Fr noB w w2.drew := (hI.fr.step0 hf2).drew
      have keep : ∀ w', Fr noB w2.drew w' → rdI w' w1.heap.size 0 = some (id2 1 0) ∧ rdI w' (w1.heap.size + 1) 0 = some (id2 2 0) ∧ rdI w' (w1.heap.size + 1 + 1) 0 = some (id2 3 0) ∧ rdI w' g off = some (id2 2 0) ∧ rdI w' g (off + 32) = some (id2 3 0) := fun w' f =>
        ⟨rdI_fr va (rdI_lt va) f (by simp [noB]), rdI_fr vb (rdI_lt vb) f (by simp [noB]), rdI_fr vc (rdI_lt vc) f (by simp [noB]), rdI_fr v0 (rdI_lt v0) f (by simp [noB]), rdI_fr v1 (rdI_lt v1) f (by simp [noB])⟩
      have p01 : (0 : Int) < ([id2 2 0, id2 3 0] : List ID).length := by simp
      have p11 : (1 : Int) < ([id2 2 0, id2 3 0] : List ID).length := by simp
      clear hm2 hr2 hf2 ho2 g0 g1 ra rb rc
      go_wp2_with fail
      refine wp_region_N 60 (fun w' => rdI w' w1.heap.size 0 = some (id2 1 0) ∧ rdI w' (w1.heap.size + 1) 0 = some (id2 2 0) ∧ rdI w' (w1.heap.size + 1 + 1) 0 = some (id2 3 0) ∧ rdI w' g off = some (id2 2 0) ∧ rdI w' g (off + 32) = some (id2 3 0)) (by kernel_rfl) (by kernel_rfl) ⟨va, vb, vc, v0, v1⟩ (fun hA hF => ?_)
      clear va vb vc v0 v1
      have fu0 : Fr noB w2.drew w2.drew := Fr.refl _ _
      refine wpAnyN_take (i := 0) (v := ?_) hA rfl (by decide) (by kernel_rfl) (by kernel_rfl) (fun _ _ _ h => h) (Or.inl ⟨by rfl, ?_⟩) hF (fun hA => ?_)
      rotate_left
      · intro wS hSw; (try dsimp only at hSw); obtain ⟨s1, s2, s3, s4, s5⟩ := hSw; first | (apply Eq.trans; apply ex_ld_id; exact rfl; exact rfl; assumption; with_reducible rfl) | (apply Eq.trans; apply ex_bld1_at; exact rfl; exact rfl; decide; with_reducible rfl) | (go_simp; try with_reducible rfl)
      try simp only [List.getElem_toArray, List.getElem_cons_zero, List.getElem_cons_succ, Act.put, List.setIfInBounds_toArray, List.set_cons_zero, List.set_cons_succ]
      refine wpAnyN_take (i := 1) (v := ?_) hA rfl (by decide) (by kernel_rfl) (by kernel_rfl) (fun _ _ _ h => h) (Or.inl ⟨by rfl, ?_⟩) hF (fun hA => ?_)
      rotate_left
      · intro wS hSw; (try dsimp only at hSw); obtain ⟨s1, s2, s3, s4, s5⟩ := hSw; first | (apply Eq.trans; apply ex_ld_id; exact rfl; exact rfl; assumption; with_reducible rfl) | (apply Eq.trans; apply ex_bld1_at; exact rfl; exact rfl; decide; with_reducible rfl) | (go_simp; try with_reducible rfl)
      try simp only [List.getElem_toArray, List.getElem_cons_zero, List.getElem_cons_succ, Act.put, List.setIfInBounds_toArray, List.set_cons_zero, List.set_cons_succ]
      refine wpAnyN_take (i := 2) (v := ?_) hA rfl (by decide) (by kernel_rfl) (by kernel_rfl) (fun _ _ _ h => h) (Or.inl ⟨by rfl, ?_⟩) hF (fun hA => ?_)
      rotate_left
      · intro wS hSw; (try dsimp only at hSw); obtain ⟨s1, s2, s3, s4, s5⟩ := hSw; first | (apply Eq.trans; apply ex_ld_id; exact rfl; exact rfl; assumption; with_reducible rfl) | (apply Eq.trans; apply ex_bld1_at; exact rfl; exact rfl; decide; with_reducible rfl) | (go_simp; try with_reducible rfl)
      try simp only [List.getElem_toArray, List.getElem_cons_zero, List.getElem_cons_succ, Act.put, List.setIfInBounds_toArray, List.set_cons_zero, List.set_cons_succ]
      refine wpAnyN_take (i := 3) (v := ?_) hA rfl (by decide) (by kernel_rfl) (by kernel_rfl) (fun _ _ _ h => h) (Or.inl ⟨by rfl, ?_⟩) hF (fun hA => ?_)
      rotate_left
      · intro wS hSw; (try dsimp only at hSw); obtain ⟨s1, s2, s3, s4, s5⟩ := hSw; first | (apply Eq.trans; apply ex_ld_id; exact rfl; exact rfl; assumption; with_reducible rfl) | (apply Eq.trans; apply ex_bld1_at; exact rfl; exact rfl; decide; with_reducible rfl) | (go_simp; try with_reducible rfl)
      try simp only [List.getElem_toArray, List.getElem_cons_zero, List.getElem_cons_succ, Act.put, List.setIfInBounds_toArray, List.set_cons_zero, List.set_cons_succ]
      refine wpAnyN_take (i := 4) (v := ?_) hA rfl (by decide) (by kernel_rfl) (by kernel_rfl) (fun _ _ _ h => h) (Or.inl ⟨by rfl, ?_⟩) hF (fun hA => ?_)
      rotate_left
      · intro wS hSw; (try dsimp only at hSw); obtain ⟨s1, s2, s3, s4, s5⟩ := hSw; first | (apply Eq.trans; apply ex_ld_id; exact rfl; exact rfl; assumption; with_reducible rfl) | (apply Eq.trans; apply ex_bld1_at; exact rfl; exact rfl; decide; with_reducible rfl) | (go_simp; try with_reducible rfl)
      try simp only [List.getElem_toArray, List.getElem_cons_zero, List.getElem_cons_succ, Act.put, List.setIfInBounds_toArray, List.set_cons_zero, List.set_cons_succ]
      refine wpAnyN_take (i := 5) (v := ?_) hA rfl (by decide) (by kernel_rfl) (by kernel_rfl) (fun _ _ _ h => h) (Or.inl ⟨by rfl, ?_⟩) hF (fun hA => ?_)
      rotate_left
      · intro wS hSw; (try dsimp only at hSw); obtain ⟨s1, s2, s3, s4, s5⟩ := hSw; first | (apply Eq.trans; apply ex_ld_id; exact rfl; exact rfl; assumption; with_reducible rfl) | (apply Eq.trans; apply ex_bld1_at; exact rfl; exact rfl; decide; with_reducible rfl) | (go_simp; try with_reducible rfl)
      try simp only [List.getElem_toArray, List.getElem_cons_zero, List.getElem_cons_succ, Act.put, List.setIfInBounds_toArray, List.set_cons_zero, List.set_cons_succ]
      refine wpAnyN_take (i := 6) (v := ?_) hA rfl (by decide) (by kernel_rfl) (by kernel_rfl) (fun _ _ _ h => h) (Or.inl ⟨by rfl, ?_⟩) hF (fun hA => ?_)
      rotate_left
      · intro wS hSw; (try dsimp only at hSw); obtain ⟨s1, s2, s3, s4, s5⟩ := hSw; first | (apply Eq.trans; apply ex_ld_id; exact rfl; exact rfl; assumption; with_reducible rfl) | (apply Eq.trans; apply ex_bld1_at; exact rfl; exact rfl; decide; with_reducible rfl) | (go_simp; try with_reducible rfl)
      try simp only [List.getElem_toArray, List.getElem_cons_zero, List.getElem_cons_succ, Act.put, List.setIfInBounds_toArray, List.set_cons_zero, List.set_cons_succ]
      refine wpAnyN_take (i := 7) (v := ?_) hA rfl (by decide) (by kernel_rfl) (by kernel_rfl) (fun _ _ _ h => h) (Or.inl ⟨by rfl, ?_⟩) hF (fun hA => ?_)
      rotate_left
      · intro wS hSw; (try dsimp only at hSw); obtain ⟨s1, s2, s3, s4, s5⟩ := hSw; first | (apply Eq.trans; apply ex_ld_id; exact rfl; exact rfl; assumption; with_reducible rfl) | (apply Eq.trans; apply ex_bld1_at; exact rfl; exact rfl; decide; with_reducible rfl) | (go_simp; try with_reducible rfl)
      try simp only [List.getElem_toArray, List.getElem_cons_zero, List.getElem_cons_succ, Act.put, List.setIfInBounds_toArray, List.set_cons_zero, List.set_cons_succ]
      refine wpAnyN_take (i := 8) (v := ?_) hA rfl (by decide) (by kernel_rfl) (by kernel_rfl) (fun _ _ _ h => h) (Or.inl ⟨by rfl, ?_⟩) hF (fun hA => ?_)
      rotate_left
      · intro wS hSw; (try dsimp only at hSw); obtain ⟨s1, s2, s3, s4, s5⟩ := hSw; first | (apply Eq.trans; apply ex_ld_id; exact rfl; exact rfl; assumption; with_reducible rfl) | (apply Eq.trans; apply ex_bld1_at; exact rfl; exact rfl; decide; with_reducible rfl) | (go_simp; try with_reducible rfl)
      try simp only [List.getElem_toArray, List.getElem_cons_zero, List.getElem_cons_succ, Act.put, List.setIfInBounds_toArray, List.set_cons_zero, List.set_cons_succ]
      refine wpAnyN_take (i := 9) (v := ?_) hA rfl (by decide) (by kernel_rfl) (by kernel_rfl) (fun _ _ _ h => h) (Or.inl ⟨by rfl, ?_⟩) hF (fun hA => ?_)
      rotate_left
      · intro wS hSw; (try dsimp only at hSw); obtain ⟨s1, s2, s3, s4, s5⟩ := hSw; first | (apply Eq.trans; apply ex_ld_id; exact rfl; exact rfl; assumption; with_reducible rfl) | (apply Eq.trans; apply ex_bld1_at; exact rfl; exact rfl; decide; with_reducible rfl) | (go_simp; try with_reducible rfl)
      try simp only [List.getElem_toArray, List.getElem_cons_zero, List.getElem_cons_succ, Act.put, List.setIfInBounds_toArray, List.set_cons_zero, List.set_cons_succ]
      refine wpAnyN_take (i := 10) (v := ?_) hA rfl (by decide) (by kernel_rfl) (by kernel_rfl) (fun _ _ _ h => h) (Or.inl ⟨by rfl, ?_⟩) hF (fun hA => ?_)
      rotate_left
      · intro wS hSw; (try dsimp only at hSw); obtain ⟨s1, s2, s3, s4, s5⟩ := hSw; first | (apply Eq.trans; apply ex_ld_id; exact rfl; exact rfl; assumption; with_reducible rfl) | (apply Eq.trans; apply ex_bld1_at; exact rfl; exact rfl; decide; with_reducible rfl) | (go_simp; try with_reducible rfl)
      try simp only [List.getElem_toArray, List.getElem_cons_zero, List.getElem_cons_succ, Act.put, List.setIfInBounds_toArray, List.set_cons_zero, List.set_cons_succ]
      refine wpAnyN_take (i := 11) (v := ?_) hA rfl (by decide) (by kernel_rfl) (by kernel_rfl) (fun _ _ _ h => h) (Or.inl ⟨by rfl, ?_⟩) hF (fun hA => ?_)
      rotate_left
      · intro wS hSw; (try dsimp only at hSw); obtain ⟨s1, s2, s3, s4, s5⟩ := hSw; first | (apply Eq.trans; apply ex_ld_id; exact rfl; exact rfl; assumption; with_reducible rfl) | (apply Eq.trans; apply ex_bld1_at; exact rfl; exact rfl; decide; with_reducible rfl) | (go_simp; try with_reducible rfl)
      try simp only [List.getElem_toArray, List.getElem_cons_zero, List.getElem_cons_succ, Act.put, List.setIfInBounds_toArray, List.set_cons_zero, List.set_cons_succ]
      refine wpAnyN_take (i := 12) (v := ?_) hA rfl (by decide) (by kernel_rfl) (by kernel_rfl) (fun _ _ _ h => h) (Or.inl ⟨by rfl, ?_⟩) hF (fun hA => ?_)
      rotate_left
      · intro wS hSw; (try dsimp only at hSw); obtain ⟨s1, s2, s3, s4, s5⟩ := hSw; first | (apply Eq.trans; apply ex_ld_id; exact rfl; exact rfl; assumption; with_reducible rfl) | (apply Eq.trans; apply ex_bld1_at; exact rfl; exact rfl; decide; with_reducible rfl) | (go_simp; try with_reducible rfl)
      try simp only [List.getElem_toArray, List.getElem_cons_zero, List.getElem_cons_succ, Act.put, List.setIfInBounds_toArray, List.set_cons_zero, List.set_cons_succ]
      refine wpAnyN_take (i := 13) (v := ?_) hA rfl (by decide) (by kernel_rfl) (by kernel_rfl) (fun _ _ _ h => h) (Or.inl ⟨by rfl, ?_⟩) hF (fun hA => ?_)
      rotate_left
      · intro wS hSw; (try dsimp only at hSw); obtain ⟨s1, s2, s3, s4, s5⟩ := hSw; first | (apply Eq.trans; apply ex_ld_id; exact rfl; exact rfl; assumption; with_reducible rfl) | (apply Eq.trans; apply ex_bld1_at; exact rfl; exact rfl; decide; with_reducible rfl) | (go_simp; try with_reducible rfl)
      try simp only [List.getElem_toArray, List.getElem_cons_zero, List.getElem_cons_succ, Act.put, List.setIfInBounds_toArray, List.set_cons_zero, List.set_cons_succ]
      refine wpAnyN_take (i := 14) (v := ?_) hA rfl (by decide) (by kernel_rfl) (by kernel_rfl) (fun _ _ _ h => h) (Or.inl ⟨by rfl, ?_⟩) hF (fun hA => ?_)
      rotate_left
      · intro wS hSw; (try dsimp only at hSw); obtain ⟨s1, s2, s3, s4, s5⟩ := hSw; first | (apply Eq.trans; apply ex_ld_id; exact rfl; exact rfl; assumption; with_reducible rfl) | (apply Eq.trans; apply ex_bld1_at; exact rfl; exact rfl; decide; with_reducible rfl) | (go_simp; try with_reducible rfl)
      try simp only [List.getElem_toArray, List.getElem_cons_zero, List.getElem_cons_succ, Act.put, List.setIfInBounds_toArray, List.set_cons_zero, List.set_cons_succ]
      refine wpAnyN_take (i := 15) (v := ?_) hA rfl (by decide) (by kernel_rfl) (by kernel_rfl) (fun _ _ _ h => h) (Or.inl ⟨by rfl, ?_⟩) hF (fun hA => ?_)
      rotate_left
      · intro wS hSw; (try dsimp only at hSw); obtain ⟨s1, s2, s3, s4, s5⟩ := hSw; first | (apply Eq.trans; apply ex_ld_id; exact rfl; exact rfl; assumption; with_reducible rfl) | (apply Eq.trans; apply ex_bld1_at; exact rfl; exact rfl; decide; with_reducible rfl) | (go_simp; try with_reducible rfl)
      try simp only [List.getElem_toArray, List.getElem_cons_zero, List.getElem_cons_succ, Act.put, List.setIfInBounds_toArray, List.set_cons_zero, List.set_cons_succ]
      refine wpAnyN_take (i := 16) (v := ?_) hA rfl (by decide) (by kernel_rfl) (by kernel_rfl) (fun _ _ _ h => h) (Or.inl ⟨by rfl, ?_⟩) hF (fun hA => ?_)
      rotate_left
      · intro wS hSw; (try dsimp only at hSw); obtain ⟨s1, s2, s3, s4, s5⟩ := hSw; first | (apply Eq.trans; apply ex_ld_id; exact rfl; exact rfl; assumption; with_reducible rfl) | (apply Eq.trans; apply ex_bld1_at; exact rfl; exact rfl; decide; with_reducible rfl) | (go_simp; try with_reducible rfl)
      try simp only [List.getElem_toArray, List.getElem_cons_zero, List.getElem_cons_succ, Act.put, List.setIfInBounds_toArray, List.set_cons_zero, List.set_cons_succ]
      refine wpAnyN_take (i := 17) (v := ?_) hA rfl (by decide) (by kernel_rfl) (by kernel_rfl) (fun _ _ _ h => h) (Or.inl ⟨by rfl, ?_⟩) hF (fun hA => ?_)
      rotate_left
      · intro wS hSw; (try dsimp only at hSw); obtain ⟨s1, s2, s3, s4, s5⟩ := hSw; first | (apply Eq.trans; apply ex_ld_id; exact rfl; exact rfl; assumption; with_reducible rfl) | (apply Eq.trans; apply ex_bld1_at; exact rfl; exact rfl; decide; with_reducible rfl) | (go_simp; try with_reducible rfl)
      try simp only [List.getElem_toArray, List.getElem_cons_zero, List.getElem_cons_succ, Act.put, List.setIfInBounds_toArray, List.set_cons_zero, List.set_cons_succ]
      refine wpAnyN_take (i := 18) (v := ?_) hA rfl (by decide) (by kernel_rfl) (by kernel_rfl) (fun _ _ _ h => h) (Or.inl ⟨by rfl, ?_⟩) hF (fun hA => ?_)
      rotate_left
      · intro wS hSw; (try dsimp only at hSw); obtain ⟨s1, s2, s3, s4, s5⟩ := hSw; first | (apply Eq.trans; apply ex_ld_id; exact rfl; exact rfl; assumption; with_reducible rfl) | (apply Eq.trans; apply ex_bld1_at; exact rfl; exact rfl; decide; with_reducible rfl) | (go_simp; try with_reducible rfl)
      try simp only [List.getElem_toArray, List.getElem_cons_zero, List.getElem_cons_succ, Act.put, List.setIfInBounds_toArray, List.set_cons_zero, List.set_cons_succ]
      refine wpAnyN_take (i := 19) (v := ?_) hA rfl (by decide) (by kernel_rfl) (by kernel_rfl) (fun _ _ _ h => h) (Or.inl ⟨by rfl, ?_⟩) hF (fun hA => ?_)
      rotate_left
      · intro wS hSw; (try dsimp only at hSw); obtain ⟨s1, s2, s3, s4, s5⟩ := hSw; first | (apply Eq.trans; apply ex_ld_id; exact rfl; exact rfl; assumption; with_reducible rfl) | (apply Eq.trans; apply ex_bld1_at; exact rfl; exact rfl; decide; with_reducible rfl) | (go_simp; try with_reducible rfl)
      try simp only [List.getElem_toArray, List.getElem_cons_zero, List.getElem_cons_succ, Act.put, List.setIfInBounds_toArray, List.set_cons_zero, List.set_cons_succ]
      refine wpAnyN_one (i := 20) hA (by kernel_rfl) (by decide) rfl (fun K' hK => ?_)
      rw [if_pos (by rfl)]
      go_simp
      go_at_call 18
      refine (depth_any _ D Fd (exG 5) (d2.fr0 fu0) (id2 4 0)).mono ?_
      rintro e u1 ⟨rfl, hu1⟩
      have fu1 := fu0.step0 hu1
      refine hK.out _ _ (keep _ fu1) (fun hA => ?_)
      clear hK K'
      replace hF := keep _ fu1
      rw [show depthG (exG 5) (id2 4 0) = 3 from ex_depth]
      refine wpAnyN_take (i := 21) (v := ?_) hA rfl (by decide) (by kernel_rfl) (by kernel_rfl) (fun _ _ _ h => h) (Or.inl ⟨by rfl, ?_⟩) hF (fun hA => ?_)
      rotate_left
      · intro wS hSw; (try dsimp only at hSw); obtain ⟨s1, s2, s3, s4, s5⟩ := hSw; first | (apply Eq.trans; apply ex_ld_id; exact rfl; exact rfl; assumption; with_reducible rfl) | (apply Eq.trans; apply ex_bld1_at; exact rfl; exact rfl; decide; with_reducible rfl) | (go_simp; try with_reducible rfl)
      try simp only [List.getElem_toArray, List.getElem_cons_zero, List.getElem_cons_succ, Act.put, List.setIfInBounds_toArray, List.set_cons_zero, List.set_cons_succ]
      refine wpAnyN_take (i := 22) (v := ?_) hA rfl (by decide) (by kernel_rfl) (by kernel_rfl) (fun _ _ _ h => h) (Or.inl ⟨by rfl, ?_⟩) hF (fun hA => ?_)
      rotate_left
      · intro wS hSw; (try dsimp only at hSw); obtain ⟨s1, s2, s3, s4, s5⟩ := hSw; first | (apply Eq.trans; apply ex_ld_id; exact rfl; exact rfl; assumption; with_reducible rfl) | (apply Eq.trans; apply ex_bld1_at; exact rfl; exact rfl; decide; with_reducible rfl) | (go_simp; try with_reducible rfl)
      try simp only [List.getElem_toArray, List.getElem_cons_zero, List.getElem_cons_succ, Act.put, List.setIfInBounds_toArray, List.set_cons_zero, List.set_cons_succ]
      refine wpAnyN_take (i := 23) (v := ?_) hA rfl (by decide) (by kernel_rfl) (by kernel_rfl) (fun _ _ _ h => h) (Or.inl ⟨by rfl, ?_⟩) hF (fun hA => ?_)
      rotate_left
      · intro wS hSw; (try dsimp only at hSw); obtain ⟨s1, s2, s3, s4, s5⟩ := hSw; first | (apply Eq.trans; apply ex_ld_id; exact rfl; exact rfl; assumption; with_reducible rfl) | (apply Eq.trans; apply ex_bld1_at; exact rfl; exact rfl; decide; with_reducible rfl) | (go_simp; try with_reducible rfl)
      try simp only [List.getElem_toArray, List.getElem_cons_zero, List.getElem_cons_succ, Act.put, List.setIfInBounds_toArray, List.set_cons_zero, List.set_cons_succ]
      refine wpAnyN_take (i := 24) (v := ?_) hA rfl (by decide) (by kernel_rfl) (by kernel_rfl) (fun _ _ _ h => h) (Or.inl ⟨by rfl, ?_⟩) hF (fun hA => ?_)
      rotate_left
      · intro wS hSw; (try dsimp only at hSw); obtain ⟨s1, s2, s3, s4, s5⟩ := hSw; first | (apply Eq.trans; apply ex_ld_id; exact rfl; exact rfl; assumption; with_reducible rfl) | (apply Eq.trans; apply ex_bld1_at; exact rfl; exact rfl; decide; with_reducible rfl) | (go_simp; try with_reducible rfl)
      try simp only [List.getElem_toArray, List.getElem_cons_zero, List.getElem_cons_succ, Act.put, List.setIfInBounds_toArray, List.set_cons_zero, List.set_cons_succ]
      refine wpAnyN_one (i := 25) hA (by kernel_rfl) (by decide) rfl (fun K' hK => ?_)
      rw [if_pos (by rfl)]
      go_simp
      go_at_call 13
      refine (len_any _ D Fd (exG 5) (d2.fr0 fu1)).mono ?_
      rintro e u2 ⟨rfl, hu2⟩
      have fu2 := fu1.step0 hu2
      refine hK.out _ _ (keep _ fu2) (fun hA => ?_)
      clear hK K'
      replace hF := keep _ fu2
      rw [ex_len]
      refine wpAnyN_take (i := 26) (v := ?_) hA rfl (by decide) (by kernel_rfl) (by kernel_rfl) (fun _ _ _ h => h) (Or.inl ⟨by rfl, ?_⟩) hF (fun hA => ?_)
      rotate_left
      · intro wS hSw; (try dsimp only at hSw); obtain ⟨s1, s2, s3, s4, s5⟩ := hSw; first | (apply Eq.trans; apply ex_ld_id; exact rfl; exact rfl; assumption; with_reducible rfl) | (apply Eq.trans; apply ex_bld1_at; exact rfl; exact rfl; decide; with_reducible rfl) | (go_simp; try with_reducible rfl)
      try simp only [List.getElem_toArray, List.getElem_cons_zero, List.getElem_cons_succ, Act.put, List.setIfInBounds_toArray, List.set_cons_zero, List.set_cons_succ]
      refine wpAnyN_take (i := 27) (v := ?_) hA rfl (by decide) (by kernel_rfl) (by kernel_rfl) (fun _ _ _ h => h) (Or.inl ⟨by rfl, ?_⟩) hF (fun hA => ?_)
      rotate_left
      · intro wS hSw; (try dsimp only at hSw); obtain ⟨s1, s2, s3, s4, s5⟩ := hSw; first | (apply Eq.trans; apply ex_ld_id; exact rfl; exact rfl; assumption; with_reducible rfl) | (apply Eq.trans; apply ex_bld1_at; exact rfl; exact rfl; decide; with_reducible rfl) | (go_simp; try with_reducible rfl)
      try simp only [List.getElem_toArray, List.getElem_cons_zero, List.getElem_cons_succ, Act.put, List.setIfInBounds_toArray, List.set_cons_zero, List.set_cons_succ]
      refine wpAnyN_take (i := 28) (v := ?_) hA rfl (by decide) (by kernel_rfl) (by kernel_rfl) (fun _ _ _ h => h) (Or.inl ⟨by rfl, ?_⟩) hF (fun hA => ?_)
      rotate_left
      · intro wS hSw; (try dsimp only at hSw); obtain ⟨s1, s2, s3, s4, s5⟩ := hSw; first | (apply Eq.trans; apply ex_ld_id; exact rfl; exact rfl; assumption; with_reducible rfl) | (apply Eq.trans; apply ex_bld1_at; exact rfl; exact rfl; decide; with_reducible rfl) | (go_simp; try with_reducible rfl)
      try simp only [List.getElem_toArray, List.getElem_cons_zero, List.getElem_cons_succ, Act.put, List.setIfInBounds_toArray, List.set_cons_zero, List.set_cons_succ]
      refine wpAnyN_take (i := 29) (v := ?_) hA rfl (by decide) (by kernel_rfl) (by kernel_rfl) (fun _ _ _ h => h) (Or.inl ⟨by rfl, ?_⟩) hF (fun hA => ?_)
      rotate_left
      · intro wS hSw; (try dsimp only at hSw); obtain ⟨s1, s2, s3, s4, s5⟩ := hSw; first | (apply Eq.trans; apply ex_ld_id; exact rfl; exact rfl; assumption; with_reducible rfl) | (apply Eq.trans; apply ex_bld1_at; exact rfl; exact rfl; decide; with_reducible rfl) | (go_simp; try with_reducible rfl)
      try simp only [List.getElem_toArray, List.getElem_cons_zero, List.getElem_cons_succ, Act.put, List.setIfInBounds_toArray, List.set_cons_zero, List.set_cons_succ]
      refine wpAnyN_take (i := 30) (v := ?_) hA rfl (by decide) (by kernel_rfl) (by kernel_rfl) (fun _ _ _ h => h) (Or.inl ⟨by rfl, ?_⟩) hF (fun hA => ?_)
      rotate_left
      · intro wS hSw; (try dsimp only at hSw); obtain ⟨s1, s2, s3, s4, s5⟩ := hSw; first | (apply Eq.trans; apply ex_ld_id; exact rfl; exact rfl; assumption; with_reducible rfl) | (apply Eq.trans; apply ex_bld1_at; exact rfl; exact rfl; decide; with_reducible rfl) | (go_simp; try with_reducible rfl)
      try simp only [List.getElem_toArray, List.getElem_cons_zero, List.getElem_cons_succ, Act.put, List.setIfInBounds_toArray, List.set_cons_zero, List.set_cons_succ]
      refine wpAnyN_one (i := 31) hA (by kernel_rfl) (by decide) rfl (fun K' hK => ?_)
      rw [if_pos (by rfl)]
      go_simp
      go_at_call 14
      refine (has_any _ D Fd (exG 5) (d2.fr0 fu2) (id2 1 0)).mono ?_
      rintro e u3 ⟨rfl, hu3⟩
      have fu3 := fu2.step0 hu3
      refine hK.out _ _ (keep _ fu3) (fun hA => ?_)
      clear hK K'
      replace hF := keep _ fu3
      rw [show hasG (exG 5) (id2 1 0) = true from ex_has]
      refine wpAnyN_take (i := 32) (v := ?_) hA rfl (by decide) (by kernel_rfl) (by kernel_rfl) (fun _ _ _ h => h) (Or.inl ⟨by rfl, ?_⟩) hF (fun hA => ?_)
      rotate_left
      · intro wS hSw; (try dsimp only at hSw); obtain ⟨s1, s2, s3, s4, s5⟩ := hSw; first | (apply Eq.trans; apply ex_ld_id; exact rfl; exact rfl; assumption; with_reducible rfl) | (apply Eq.trans; apply ex_bld1_at; exact rfl; exact rfl; decide; with_reducible rfl) | (go_simp; try with_reducible rfl)
      try simp only [List.getElem_toArray, List.getElem_cons_zero, List.getElem_cons_succ, Act.put, List.setIfInBounds_toArray, List.set_cons_zero, List.set_cons_succ]
      refine wpAnyN_take (i := 33) (v := ?_) hA rfl (by decide) (by kernel_rfl) (by kernel_rfl) (fun _ _ _ h => h) (Or.inl ⟨by rfl, ?_⟩) hF (fun hA => ?_)
      rotate_left
      · intro wS hSw; (try dsimp only at hSw); obtain ⟨s1, s2, s3, s4, s5⟩ := hSw; first | (apply Eq.trans; apply ex_ld_id; exact rfl; exact rfl; assumption; with_reducible rfl) | (apply Eq.trans; apply ex_bld1_at; exact rfl; exact rfl; decide; with_reducible rfl) | (go_simp; try with_reducible rfl)
      try simp only [List.getElem_toArray, List.getElem_cons_zero, List.getElem_cons_succ, Act.put, List.setIfInBounds_toArray, List.set_cons_zero, List.set_cons_succ]
      refine wpAnyN_take (i := 34) (v := ?_) hA rfl (by decide) (by kernel_rfl) (by kernel_rfl) (fun _ _ _ h => h) (Or.inl ⟨by rfl, ?_⟩) hF (fun hA => ?_)
      rotate_left
      · intro wS hSw; (try dsimp only at hSw); obtain ⟨s1, s2, s3, s4, s5⟩ := hSw; first | (apply Eq.trans; apply ex_ld_id; exact rfl; exact rfl; assumption; with_reducible rfl) | (apply Eq.trans; apply ex_bld1_at; exact rfl; exact rfl; decide; with_reducible rfl) | (go_simp; try with_reducible rfl)
      try simp only [List.getElem_toArray, List.getElem_cons_zero, List.getElem_cons_succ, Act.put, List.setIfInBounds_toArray, List.set_cons_zero, List.set_cons_succ]
      refine wpAnyN_take (i := 35) (v := ?_) hA rfl (by decide) (by kernel_rfl) (by kernel_rfl) (fun _ _ _ h => h) (Or.inl ⟨by rfl, ?_⟩) hF (fun hA => ?_)
      rotate_left
      · intro wS hSw; (try dsimp only at hSw); obtain ⟨s1, s2, s3, s4, s5⟩ := hSw; first | (apply Eq.trans; apply ex_ld_id; exact rfl; exact rfl; assumption; with_reducible rfl) | (apply Eq.trans; apply ex_bld1_at; exact rfl; exact rfl; decide; with_reducible rfl) | (go_simp; try with_reducible rfl)
      try simp only [List.getElem_toArray, List.getElem_cons_zero, List.getElem_cons_succ, Act.put, List.setIfInBounds_toArray, List.set_cons_zero, List.set_cons_succ]
      refine wpAnyN_one (i := 36) hA (by kernel_rfl) (by decide) rfl (fun K' hK => ?_)
      rw [if_pos (by rfl)]
      refine step_runW _ _ (ex_bs1_at (x := id2 4 0) rfl rfl) ?_
      have hu4 : Fr noB u3 (u3.alloc (rowo [id2 4 0])) := (Fr.refl noB u3).alloc _
      have fu4 := fu3.step0 hu4
      have sl4 := sl_new u3 [id2 4 0]
      refine hK.out _ _ (keep _ fu4) (fun hA => ?_)
      clear hK K'
      replace hF := keep _ fu4
      refine wpAnyN_one (i := 37) hA (by kernel_rfl) (by decide) rfl (fun K' hK => ?_)
      rw [if_pos (by rfl)]
      go_simp
      go_at_call 20
      refine (ancestors_any _ D Fd (exG 5) (d2.fr0 fu4) _ _ _ [id2 4 0] rfl sl4 (by simp)).mono ?_
      rintro e u5 ⟨l5, ⟨A5, c5, rfl, ho5, hu5⟩, hr5, hm5, hb5⟩
      have fu5 := fu4.step0 hu5
      refine hK.out _ _ (keep _ fu5) (fun hA => ?_)
      clear hK K'
      replace hF := keep _ fu5
      have hl5 : l5.length = 4 := (rise_len hok (swoD _) hr5 (fun y => (hm5 y).trans (reB_iff _ _ y)) (fun y => reB_key hok)).trans ex_anc
      rw [hl5]
      refine wpAnyN_take (i := 38) (v := ?_) hA rfl (by decide) (by kernel_rfl) (by kernel_rfl) (fun _ _ _ h => h) (Or.inl ⟨by rfl, ?_⟩) hF (fun hA => ?_)
      rotate_left
      · intro wS hSw; (try dsimp only at hSw); obtain ⟨s1, s2, s3, s4, s5⟩ := hSw; first | (apply Eq.trans; apply ex_ld_id; exact rfl; exact rfl; assumption; with_reducible rfl) | (apply Eq.trans; apply ex_bld1_at; exact rfl; exact rfl; decide; with_reducible rfl) | (go_simp; try with_reducible rfl)
      try simp only [List.getElem_toArray, List.getElem_cons_zero, List.getElem_cons_succ, Act.put, List.setIfInBounds_toArray, List.set_cons_zero, List.set_cons_succ]
      refine wpAnyN_take (i := 39) (v := ?_) hA rfl (by decide) (by kernel_rfl) (by kernel_rfl) (fun _ _ _ h => h) (Or.inl ⟨by rfl, ?_⟩) hF (fun hA => ?_)
      rotate_left
      · intro wS hSw; (try dsimp only at hSw); obtain ⟨s1, s2, s3, s4, s5⟩ := hSw; first | (apply Eq.trans; apply ex_ld_id; exact rfl; exact rfl; assumption; with_reducible rfl) | (apply Eq.trans; apply ex_bld1_at; exact rfl; exact rfl; decide; with_reducible rfl) | (go_simp; try with_reducible rfl)
      try simp only [List.getElem_toArray, List.getElem_cons_zero, List.getElem_cons_succ, Act.put, List.setIfInBounds_toArray, List.set_cons_zero, List.set_cons_succ]
      refine wpAnyN_take (i := 40) (v := ?_) hA rfl (by decide) (by kernel_rfl) (by kernel_rfl) (fun _ _ _ h => h) (Or.inl ⟨by rfl, ?_⟩) hF (fun hA => ?_)
      rotate_left
      · intro wS hSw; (try dsimp only at hSw); obtain ⟨s1, s2, s3, s4, s5⟩ := hSw; first | (apply Eq.trans; apply ex_ld_id; exact rfl; exact rfl; assumption; with_reducible rfl) | (apply Eq.trans; apply ex_bld1_at; exact rfl; exact rfl; decide; with_reducible rfl) | (go_simp; try with_reducible rfl)
      try simp only [List.getElem_toArray, List.getElem_cons_zero, List.getElem_cons_succ, Act.put, List.setIfInBounds_toArray, List.set_cons_zero, List.set_cons_succ]
      refine wpAnyN_take (i := 41) (v := ?_) hA rfl (by decide) (by kernel_rfl) (by kernel_rfl) (fun _ _ _ h => h) (Or.inl ⟨by rfl, ?_⟩) hF (fun hA => ?_)
      rotate_left
      · intro wS hSw; (try dsimp only at hSw); obtain ⟨s1, s2, s3, s4, s5⟩ := hSw; first | (apply Eq.trans; apply ex_ld_id; exact rfl; exact rfl; assumption; with_reducible rfl) | (apply Eq.trans; apply ex_bld1_at; exact rfl; exact rfl; decide; with_reducible rfl) | (go_simp; try with_reducible rfl)
      try simp only [List.getElem_toArray, List.getElem_cons_zero, List.getElem_cons_succ, Act.put, List.setIfInBounds_toArray, List.set_cons_zero, List.set_cons_succ]
      refine wpAnyN_take (i := 42) (v := ?_) hA rfl (by decide) (by kernel_rfl) (by kernel_rfl) (fun _ _ _ h => h) (Or.inl ⟨by rfl, ?_⟩) hF (fun hA => ?_)
      rotate_left
      · intro wS hSw; (try dsimp only at hSw); obtain ⟨s1, s2, s3, s4, s5⟩ := hSw; first | (apply Eq.trans; apply ex_ld_id; exact rfl; exact rfl; assumption; with_reducible rfl) | (apply Eq.trans; apply ex_bld1_at; exact rfl; exact rfl; decide; with_reducible rfl) | (go_simp; try with_reducible rfl)
      try simp only [List.getElem_toArray, List.getElem_cons_zero, List.getElem_cons_succ, Act.put, List.setIfInBounds_toArray, List.set_cons_zero, List.set_cons_succ]
      refine wpAnyN_take (i := 43) (v := ?_) hA rfl (by decide) (by kernel_rfl) (by kernel_rfl) (fun _ _ _ h => h) (Or.inl ⟨by rfl, ?_⟩) hF (fun hA => ?_)
      rotate_left
      · intro wS hSw; (try dsimp only at hSw); obtain ⟨s1, s2, s3, s4, s5⟩ := hSw; first | (apply Eq.trans; apply ex_ld_id; exact rfl; exact rfl; assumption; with_reducible rfl) | (apply Eq.trans; apply ex_bld1_at; exact rfl; exact rfl; decide; with_reducible rfl) | (go_simp; try with_reducible rfl)
      try simp only [List.getElem_toArray, List.getElem_cons_zero, List.getElem_cons_succ, Act.put, List.setIfInBounds_toArray, List.set_cons_zero, List.set_cons_succ]
      refine wpAnyN_take (i := 44) (v := ?_) hA rfl (by decide) (by kernel_rfl) (by kernel_rfl) (fun _ _ _ h => h) (Or.inl ⟨by rfl, ?_⟩) hF (fun hA => ?_)
      rotate_left
      · intro wS hSw; (try dsimp only at hSw); obtain ⟨s1, s2, s3, s4, s5⟩ := hSw; first | (apply Eq.trans; apply ex_ld_id; exact rfl; exact rfl; assumption; with_reducible rfl) | (apply Eq.trans; apply ex_bld1_at; exact rfl; exact rfl; decide; with_reducible rfl) | (go_simp; try with_reducible rfl)
      try simp only [List.getElem_toArray, List.getElem_cons_zero, List.getElem_cons_succ, Act.put, List.setIfInBounds_toArray, List.set_cons_zero, List.set_cons_succ]
      refine wpAnyN_one (i := 45) hA (by kernel_rfl) (by decide) rfl (fun K' hK => ?_)
      rw [if_pos (by rfl)]
      go_simp
      go_at_call 24
      refine (reaches_any _ D Fd (exG 5) (d2.fr0 fu5) (id2 4 0) (id2 1 0)).mono ?_
      rintro e u6 ⟨rfl, hu6⟩
      have fu6 := fu5.step0 hu6
      refine hK.out _ _ (keep _ fu6) (fun hA => ?_)
      clear hK K'
      replace hF := keep _ fu6
      rw [show ancG (exG 5) (id2 4 0) (id2 1 0) = true from ex_reach]
      refine wpAnyN_take (i := 46) (v := ?_) hA rfl (by decide) (by kernel_rfl) (by kernel_rfl) (fun _ _ _ h => h) (Or.inl ⟨by rfl, ?_⟩) hF (fun hA => ?_)
      rotate_left
      · intro wS hSw; (try dsimp only at hSw); obtain ⟨s1, s2, s3, s4, s5⟩ := hSw; first | (apply Eq.trans; apply ex_ld_id; exact rfl; exact rfl; assumption; with_reducible rfl) | (apply Eq.trans; apply ex_bld1_at; exact rfl; exact rfl; decide; with_reducible rfl) | (go_simp; try with_reducible rfl)
      try simp only [List.getElem_toArray, List.getElem_cons_zero, List.getElem_cons_succ, Act.put, List.setIfInBounds_toArray, List.set_cons_zero, List.set_cons_succ]
      refine wpAnyN_take (i := 47) (v := ?_) hA rfl (by decide) (by kernel_rfl) (by kernel_rfl) (fun _ _ _ h => h) (Or.inl ⟨by rfl, ?_⟩) hF (fun hA => ?_)
      rotate_left
      · intro wS hSw; (try dsimp only at hSw); obtain ⟨s1, s2, s3, s4, s5⟩ := hSw; first | (apply Eq.trans; apply ex_ld_id; exact rfl; exact rfl; assumption; with_reducible rfl) | (apply Eq.trans; apply ex_bld1_at; exact rfl; exact rfl; decide; with_reducible rfl) | (go_simp; try with_reducible rfl)
      try simp only [List.getElem_toArray, List.getElem_cons_zero, List.getElem_cons_succ, Act.put, List.setIfInBounds_toArray, List.set_cons_zero, List.set_cons_succ]
      refine wpAnyN_take (i := 48) (v := ?_) hA rfl (by decide) (by kernel_rfl) (by kernel_rfl) (fun _ _ _ h => h) (Or.inl ⟨by rfl, ?_⟩) hF (fun hA => ?_)
      rotate_left
      · intro wS hSw; (try dsimp only at hSw); obtain ⟨s1, s2, s3, s4, s5⟩ := hSw; first | (apply Eq.trans; apply ex_ld_id; exact rfl; exact rfl; assumption; with_reducible rfl) | (apply Eq.trans; apply ex_bld1_at; exact rfl; exact rfl; decide; with_reducible rfl) | (go_simp; try with_reducible rfl)
      try simp only [List.getElem_toArray, List.getElem_cons_zero, List.getElem_cons_succ, Act.put, List.setIfInBounds_toArray, List.set_cons_zero, List.set_cons_succ]
      refine wpAnyN_one (i := 49) hA (by kernel_rfl) (by decide) rfl (fun K' hK => ?_)
      rw [if_pos (by rfl)]
      go_simp
      go_at_call 26
      refine (heads_any _ D Fd (exG 5) (d2.fr0 fu6)).mono ?_
      rintro e u7 ⟨l7, ⟨A7, c7, rfl, ho7, hu7⟩, hr7, hm7, hb7⟩
      have fu7 := fu6.step0 hu7
      refine hK.out _ _ (keep _ fu7) (fun hA => ?_)
      clear hK K'
      replace hF := keep _ fu7
      have hl7 : l7.length = 2 := (rise_len hok swoI hr7 (fun y => (hm7 y).trans (heB_iff _ y)) (fun y => heB_key)).trans ex_heads
      rw [hl7]
      refine wpAnyN_take (i := 50) (v := ?_) hA rfl (by decide) (by kernel_rfl) (by kernel_rfl) (fun _ _ _ h => h) (Or.inl ⟨by rfl, ?_⟩) hF (fun hA => ?_)
      rotate_left
      · intro wS hSw; (try dsimp only at hSw); obtain ⟨s1, s2, s3, s4, s5⟩ := hSw; first | (apply Eq.trans; apply ex_ld_id; exact rfl; exact rfl; assumption; with_reducible rfl) | (apply Eq.trans; apply ex_bld1_at; exact rfl; exact rfl; decide; with_reducible rfl) | (go_simp; try with_reducible rfl)
      try simp only [List.getElem_toArray, List.getElem_cons_zero, List.getElem_cons_succ, Act.put, List.setIfInBounds_toArray, List.set_cons_zero, List.set_cons_succ]
      refine wpAnyN_take (i := 51) (v := ?_) hA rfl (by decide) (by kernel_rfl) (by kernel_rfl) (fun _ _ _ h => h) (Or.inl ⟨by rfl, ?_⟩) hF (fun hA => ?_)
      rotate_left
      · intro wS hSw; (try dsimp only at hSw); obtain ⟨s1, s2, s3, s4, s5⟩ := hSw; first | (apply Eq.trans; apply ex_ld_id; exact rfl; exact rfl; assumption; with_reducible rfl) | (apply Eq.trans; apply ex_bld1_at; exact rfl; exact rfl; decide; with_reducible rfl) | (go_simp; try with_reducible rfl)
      try simp only [List.getElem_toArray, List.getElem_cons_zero, List.getElem_cons_succ, Act.put, List.setIfInBounds_toArray, List.set_cons_zero, List.set_cons_succ]
      refine wpAnyN_take (i := 52) (v := ?_) hA rfl (by decide) (by kernel_rfl) (by kernel_rfl) (fun _ _ _ h => h) (Or.inl ⟨by rfl, ?_⟩) hF (fun hA => ?_)
      rotate_left
      · intro wS hSw; (try dsimp only at hSw); obtain ⟨s1, s2, s3, s4, s5⟩ := hSw; first | (apply Eq.trans; apply ex_ld_id; exact rfl; exact rfl; assumption; with_reducible rfl) | (apply Eq.trans; apply ex_bld1_at; exact rfl; exact rfl; decide; with_reducible rfl) | (go_simp; try with_reducible rfl)
      try simp only [List.getElem_toArray, List.getElem_cons_zero, List.getElem_cons_succ, Act.put, List.setIfInBounds_toArray, List.set_cons_zero, List.set_cons_succ]
      refine wpAnyN_take (i := 53) (v := ?_) hA rfl (by decide) (by kernel_rfl) (by kernel_rfl) (fun _ _ _ h => h) (Or.inl ⟨by rfl, ?_⟩) hF (fun hA => ?_)
      rotate_left
      · intro wS hSw; (try dsimp only at hSw); obtain ⟨s1, s2, s3, s4, s5⟩ := hSw; first | (apply Eq.trans; apply ex_ld_id; exact rfl; exact rfl; assumption; with_reducible rfl) | (apply Eq.trans; apply ex_bld1_at; exact rfl; exact rfl; decide; with_reducible rfl) | (go_simp; try with_reducible rfl)
      try simp only [List.getElem_toArray, List.getElem_cons_zero, List.getElem_cons_succ, Act.put, List.setIfInBounds_toArray, List.set_cons_zero, List.set_cons_succ]
      refine wpAnyN_take (i := 54) (v := ?_) hA rfl (by decide) (by kernel_rfl) (by kernel_rfl) (fun _ _ _ h => h) (Or.inl ⟨by rfl, ?_⟩) hF (fun hA => ?_)
      rotate_left
      · intro wS hSw; (try dsimp only at hSw); obtain ⟨s1, s2, s3, s4, s5⟩ := hSw; first | (apply Eq.trans; apply ex_ld_id; exact rfl; exact rfl; assumption; with_reducible rfl) | (apply Eq.trans; apply ex_bld1_at; exact rfl; exact rfl; decide; with_reducible rfl) | (go_simp; try with_reducible rfl)
      try simp only [List.getElem_toArray, List.getElem_cons_zero, List.getElem_cons_succ, Act.put, List.setIfInBounds_toArray, List.set_cons_zero, List.set_cons_succ]
      refine wpAnyN_take (i := 55) (v := ?_) hA rfl (by decide) (by kernel_rfl) (by kernel_rfl) (fun _ _ _ h => h) (Or.inl ⟨by rfl, ?_⟩) hF (fun hA => ?_)
      rotate_left
      · intro wS hSw; (try dsimp only at hSw); obtain ⟨s1, s2, s3, s4, s5⟩ := hSw; first | (apply Eq.trans; apply ex_ld_id; exact rfl; exact rfl; assumption; with_reducible rfl) | (apply Eq.trans; apply ex_bld1_at; exact rfl; exact rfl; decide; with_reducible rfl) | (go_simp; try with_reducible rfl)
      try simp only [List.getElem_toArray, List.getElem_cons_zero, List.getElem_cons_succ, Act.put, List.setIfInBounds_toArray, List.set_cons_zero, List.set_cons_succ]
      refine wpAnyN_one (i := 56) hA (by kernel_rfl) (by decide) rfl (fun K' hK => ?_)
      rw [if_pos (by rfl)]
      go_simp
      go_at_call 17
      refine (parents_any _ D Fd (exG 5) (d2.fr0 fu7) (id2 2 0)).mono ?_
      rintro e u8 ⟨A8, c8, rfl, ho8, hu8⟩
      have fu8 := fu7.step0 hu8
      refine hK.out _ _ (keep _ fu8) (fun hA => ?_)
      clear hK K'
      replace hF := keep _ fu8
      rw [show (parents (exG 5) (id2 2 0)).getD [] = [ia] from ex_par]
      refine wpAnyN_take (i := 57) (v := ?_) hA rfl (by decide) (by kernel_rfl) (by kernel_rfl) (fun _ _ _ h => h) (Or.inl ⟨by rfl, ?_⟩) hF (fun hA => ?_)
      rotate_left
      · intro wS hSw; (try dsimp only at hSw); obtain ⟨s1, s2, s3, s4, s5⟩ := hSw; first | (apply Eq.trans; apply ex_ld_id; exact rfl; exact rfl; assumption; with_reducible rfl) | (apply Eq.trans; apply ex_bld1_at; exact rfl; exact rfl; decide; with_reducible rfl) | (go_simp; try with_reducible rfl)
      try simp only [List.getElem_toArray, List.getElem_cons_zero, List.getElem_cons_succ, Act.put, List.setIfInBounds_toArray, List.set_cons_zero, List.set_cons_succ]
      refine wpAnyN_take (i := 58) (v := ?_) hA rfl (by decide) (by kernel_rfl) (by kernel_rfl) (fun _ _ _ h => h) (Or.inl ⟨by rfl, ?_⟩) hF (fun hA => ?_)
      rotate_left
      · intro wS hSw; (try dsimp only at hSw); obtain ⟨s1, s2, s3, s4, s5⟩ := hSw; first | (apply Eq.trans; apply ex_ld_id; exact rfl; exact rfl; assumption; with_reducible rfl) | (apply Eq.trans; apply ex_bld1_at; exact rfl; exact rfl; decide; with_reducible rfl) | (go_simp; try with_reducible rfl)
      try simp only [List.getElem_toArray, List.getElem_cons_zero, List.getElem_cons_succ, Act.put, List.setIfInBounds_toArray, List.set_cons_zero, List.set_cons_succ]
      refine wpAnyN_take (i := 59) (v := ?_) hA rfl (by decide) (by kernel_rfl) (by kernel_rfl) (fun _ _ _ h => h) (Or.inl ⟨by rfl, ?_⟩) hF (fun hA => ?_)
      rotate_left
      · intro wS hSw; (try dsimp only at hSw); obtain ⟨s1, s2, s3, s4, s5⟩ := hSw; first | (apply Eq.trans; apply ex_ld_id; exact rfl; exact rfl; assumption; with_reducible rfl) | (apply Eq.trans; apply ex_bld1_at; exact rfl; exact rfl; decide; with_reducible rfl) | (go_simp; try with_reducible rfl)
      try simp only [List.getElem_toArray, List.getElem_cons_zero, List.getElem_cons_succ, Act.put, List.setIfInBounds_toArray, List.set_cons_zero, List.set_cons_succ]
      refine wpAnyN_end rfl (by kernel_rfl) ?_
      simp only [List.drop_succ_cons, List.drop_zero]
      clear keep hF
      go_wp2
      go_ret
      exact ⟨rfl, Fw.step0 fu8⟩
end Go.Proofs.Ytchiclnnoealdaa
