/- Contracts: the reference's Same, SameAll of equal operations. (rdI, ex_ldS_at, ex_ldO_at) -/
import Derived.Test.YtdandpaeeodolaaGreatSmHK
namespace Go.Proofs.YtdandpaeeodolaaGreat
open Go.RowKit
set_option linter.unusedVariables false
set_option linter.unusedSimpArgs false

set_option maxRecDepth 100000 in
set_option maxHeartbeats 2000000 in
theorem r3same_any (w : World) (r q : OpW) (o : Opn) (h : OpIn w r o) (h' : OpIn w q o) : Calls Tryz.prog 46 #[.agg (codO.A r), .agg (codO.A q)] w (Gives w (.bool true)) := by
  obtain ⟨he, hlen, hs, hbd, hnm⟩ := h
  obtain ⟨he', hlen', hs', hbd', hnm'⟩ := h'
  generalize o.Over = ov at he hlen hs hbd he' hlen' hs' hbd'
  rw [he] at he'
  clear he
  obtain ⟨K, a, nd, pa, nm, d, A, n, c⟩ := r
  obtain ⟨K', a', nd', pa', nm', d', A', n', c'⟩ := q
  unfold opOf at he'
  simp only [Opn.mk.injEq, and_true] at he'
  obtain ⟨rfl, rfl, rfl, rfl, rfl, rfl⟩ := he'
  simp only at hlen hlen' hs hs' hnm hnm'
  subst hlen hlen'
  have f0 : Fr noB w ((w.alloc (.cells (codO.A ⟨K, a, nd, pa, nm, d, A, ov.length, c⟩) 33)).alloc (.cells (codO.A ⟨K, a, nd, pa, nm, d, A', ov.length, c'⟩) 33)) := ((Fr.refl noB w).alloc _).alloc _
  have q0 := opAt (Cod.rd_fr0 (Cod.rd_new (C := codO) w 33 ⟨K, a, nd, pa, nm, d, A, ov.length, c⟩) ((Fr.refl noB _).alloc (.cells (codO.A ⟨K, a, nd, pa, nm, d, A', ov.length, c'⟩) 33)))
  have q1 := opAt (Cod.rd_new (C := codO) (w.alloc (.cells (codO.A ⟨K, a, nd, pa, nm, d, A, ov.length, c⟩) 33)) 33 ⟨K, a, nd, pa, nm, d, A', ov.length, c'⟩)
  have hP : (w.alloc (.cells (codO.A ⟨K, a, nd, pa, nm, d, A, ov.length, c⟩) 33)).heap.size = w.heap.size + 1 := by simp
  rw [hP] at q1
  clear hP
  replace hs := hs.fr0 f0
  replace hs' := hs'.fr0 f0
  go_enter Tryz.func46, Tryz.ntmps46
  go_upto_region 1 with fail
  generalize (w.alloc (.cells (codO.A ⟨K, a, nd, pa, nm, d, A, ov.length, c⟩) 33)).alloc (.cells (codO.A ⟨K, a, nd, pa, nm, d, A', ov.length, c'⟩) 33) = W0 at f0 q0 q1 hs hs' ⊢
  generalize w.heap.size = P at q0 q1 ⊢
  have q2 := q0.over
  have q3 := q1.over
  simp only at q2 q3
  have e1 : ((ov.length : Int) != (ov.length : Int)) = false := by simp
  go_upto_region 4 with fail
  go_loopg [5] ov.length (fun gk iv wr => SmR W0 ov.length gk iv wr)
  case atStart => exact ⟨0, rfl, rfl, by omega, Fr.refl _ _⟩
  case round =>
    obtain ⟨k, rfl, rfl, hk, hf⟩ := hrel
    have q2 := cell_fr0 q2 hf
    have q3 := cell_fr0 q3 hf
    by_cases hlt : k < ov.length
    · have i1 : (k : Int) < (ov.length : Int) := by omega
      have i0 : (0 : Int) ≤ (k : Int) := by omega
      obtain ⟨g, off, rfl⟩ : ∃ g off, A = some ⟨g, off, none⟩ := by
        obtain ⟨g, off, h, _⟩ := hs (Cod.row_ne (by intro h0; subst h0; simp at hlt))
        exact ⟨g, off, h⟩
      obtain ⟨g', off', rfl⟩ : ∃ g off, A' = some ⟨g, off, none⟩ := by
        obtain ⟨g, off, h, _⟩ := hs' (Cod.row_ne (by intro h0; subst h0; simp at hlt))
        exact ⟨g, off, h⟩
      have r0 := (hs.fr0 hf.drew).rd k hlt
      have r1 := (hs'.fr0 hf.drew).rd k hlt
      generalize ov[k] = x at r0 r1
      go_upto_region 6 with fail
      refine wp_region_H (fun w' => (codS.rd w' g (off + k * 2) = some x ∧ codS.rd w' g' (off' + k * 2) = some x) ∧ w'.cell? ⟨P, 40, none⟩ = some (.slice (some ⟨g, off, none⟩) ov.length c) ∧ w'.cell? ⟨P + 1, 40, none⟩ = some (.slice (some ⟨g', off', none⟩) ov.length c')) (by kernel_rfl) ⟨⟨r0, r1⟩, cell_fr0 q2 (Fr.refl noB _).drew, cell_fr0 q3 (Fr.refl noB _).drew⟩ (fun hF => ?_)
      refine wpAnyH_take (i := 0) (v := ?_) rfl (by kernel_rfl) (by kernel_rfl) (by kernel_rfl) (fun _ _ _ h => h) (Or.inl ⟨by rfl, ?_⟩) hF ?_
      rotate_left
      · intro wS hSw; (try dsimp only at hSw); obtain ⟨⟨s1, s4⟩, s2, s3⟩ := hSw; first | (apply Eq.trans; apply ex_ld_id; exact rfl; exact rfl; assumption; with_reducible rfl) | (apply Eq.trans; apply ex_ldO_at; exact rfl; exact rfl; assumption; with_reducible rfl) | (apply Eq.trans; apply ex_ldS_at; exact rfl; exact rfl; assumption; with_reducible rfl) | (go_simp; try with_reducible rfl)
      try simp only [List.getElem_toArray, List.getElem_cons_zero, List.getElem_cons_succ, Act.put, List.setIfInBounds_toArray, List.set_cons_zero, List.set_cons_succ]
      refine wpAnyH_take (i := 1) (v := ?_) rfl (by kernel_rfl) (by kernel_rfl) (by kernel_rfl) (fun _ _ _ h => h) (Or.inl ⟨by rfl, ?_⟩) hF ?_
      rotate_left
      · intro wS hSw; (try dsimp only at hSw); obtain ⟨⟨s1, s4⟩, s2, s3⟩ := hSw; first | (apply Eq.trans; apply ex_ld_id; exact rfl; exact rfl; assumption; with_reducible rfl) | (apply Eq.trans; apply ex_ldO_at; exact rfl; exact rfl; assumption; with_reducible rfl) | (apply Eq.trans; apply ex_ldS_at; exact rfl; exact rfl; assumption; with_reducible rfl) | (go_simp; try with_reducible rfl)
      try simp only [List.getElem_toArray, List.getElem_cons_zero, List.getElem_cons_succ, Act.put, List.setIfInBounds_toArray, List.set_cons_zero, List.set_cons_succ]
      refine wpAnyH_take (i := 2) (v := ?_) rfl (by kernel_rfl) (by kernel_rfl) (by kernel_rfl) (fun _ _ _ h => h) (Or.inl ⟨by rfl, ?_⟩) hF ?_
      rotate_left
      · intro wS hSw; (try dsimp only at hSw); obtain ⟨⟨s1, s4⟩, s2, s3⟩ := hSw; first | (apply Eq.trans; apply ex_ld_id; exact rfl; exact rfl; assumption; with_reducible rfl) | (apply Eq.trans; apply ex_ldO_at; exact rfl; exact rfl; assumption; with_reducible rfl) | (apply Eq.trans; apply ex_ldS_at; exact rfl; exact rfl; assumption; with_reducible rfl) | (go_simp; try with_reducible rfl)
      try simp only [List.getElem_toArray, List.getElem_cons_zero, List.getElem_cons_succ, Act.put, List.setIfInBounds_toArray, List.set_cons_zero, List.set_cons_succ]
      refine wpAnyH_take (i := 3) (v := ?_) rfl (by kernel_rfl) (by kernel_rfl) (by kernel_rfl) (fun _ _ _ h => h) (Or.inl ⟨by rfl, ?_⟩) hF ?_
      rotate_left
      · intro wS hSw; (try dsimp only at hSw); obtain ⟨⟨s1, s4⟩, s2, s3⟩ := hSw; first | (apply Eq.trans; apply ex_ld_id; exact rfl; exact rfl; assumption; with_reducible rfl) | (apply Eq.trans; apply ex_ldO_at; exact rfl; exact rfl; assumption; with_reducible rfl) | (apply Eq.trans; apply ex_ldS_at; exact rfl; exact rfl; assumption; with_reducible rfl) | (go_simp; try with_reducible rfl)
      try simp only [List.getElem_toArray, List.getElem_cons_zero, List.getElem_cons_succ, Act.put, List.setIfInBounds_toArray, List.set_cons_zero, List.set_cons_succ]
      refine wpAnyH_take (i := 4) (v := ?_) rfl (by kernel_rfl) (by kernel_rfl) (by kernel_rfl) (fun _ _ _ h => h) (Or.inl ⟨by rfl, ?_⟩) hF ?_
      rotate_left
      · intro wS hSw; (try dsimp only at hSw); obtain ⟨⟨s1, s4⟩, s2, s3⟩ := hSw; first | (apply Eq.trans; apply ex_ld_id; exact rfl; exact rfl; assumption; with_reducible rfl) | (apply Eq.trans; apply ex_ldO_at; exact rfl; exact rfl; assumption; with_reducible rfl) | (apply Eq.trans; apply ex_ldS_at; exact rfl; exact rfl; assumption; with_reducible rfl) | (go_simp; try with_reducible rfl)
      try simp only [List.getElem_toArray, List.getElem_cons_zero, List.getElem_cons_succ, Act.put, List.setIfInBounds_toArray, List.set_cons_zero, List.set_cons_succ]
      refine wpAnyH_take (i := 5) (v := ?_) rfl (by kernel_rfl) (by kernel_rfl) (by kernel_rfl) (fun _ _ _ h => h) (Or.inl ⟨by rfl, ?_⟩) hF ?_
      rotate_left
      · intro wS hSw; (try dsimp only at hSw); obtain ⟨⟨s1, s4⟩, s2, s3⟩ := hSw; first | (apply Eq.trans; apply ex_ld_id; exact rfl; exact rfl; assumption; with_reducible rfl) | (apply Eq.trans; apply ex_ldO_at; exact rfl; exact rfl; assumption; with_reducible rfl) | (apply Eq.trans; apply ex_ldS_at; exact rfl; exact rfl; assumption; with_reducible rfl) | (go_simp; try with_reducible rfl)
      try simp only [List.getElem_toArray, List.getElem_cons_zero, List.getElem_cons_succ, Act.put, List.setIfInBounds_toArray, List.set_cons_zero, List.set_cons_succ]
      refine wpAnyH_take (i := 6) (v := ?_) rfl (by kernel_rfl) (by kernel_rfl) (by kernel_rfl) (fun _ _ _ h => h) (Or.inl ⟨by rfl, ?_⟩) hF ?_
      rotate_left
      · intro wS hSw; (try dsimp only at hSw); obtain ⟨⟨s1, s4⟩, s2, s3⟩ := hSw; first | (apply Eq.trans; apply ex_ld_id; exact rfl; exact rfl; assumption; with_reducible rfl) | (apply Eq.trans; apply ex_ldO_at; exact rfl; exact rfl; assumption; with_reducible rfl) | (apply Eq.trans; apply ex_ldS_at; exact rfl; exact rfl; assumption; with_reducible rfl) | (go_simp; try with_reducible rfl)
      try simp only [List.getElem_toArray, List.getElem_cons_zero, List.getElem_cons_succ, Act.put, List.setIfInBounds_toArray, List.set_cons_zero, List.set_cons_succ]
      refine wpAnyH_take (i := 7) (v := ?_) rfl (by kernel_rfl) (by kernel_rfl) (by kernel_rfl) (fun _ _ _ h => h) (Or.inl ⟨by rfl, ?_⟩) hF ?_
      rotate_left
      · intro wS hSw; (try dsimp only at hSw); obtain ⟨⟨s1, s4⟩, s2, s3⟩ := hSw; first | (apply Eq.trans; apply ex_ld_id; exact rfl; exact rfl; assumption; with_reducible rfl) | (apply Eq.trans; apply ex_ldO_at; exact rfl; exact rfl; assumption; with_reducible rfl) | (apply Eq.trans; apply ex_ldS_at; exact rfl; exact rfl; assumption; with_reducible rfl) | (go_simp; try with_reducible rfl)
      try simp only [List.getElem_toArray, List.getElem_cons_zero, List.getElem_cons_succ, Act.put, List.setIfInBounds_toArray, List.set_cons_zero, List.set_cons_succ]
      refine wpAnyH_take (i := 8) (v := ?_) rfl (by kernel_rfl) (by kernel_rfl) (by kernel_rfl) (fun _ _ _ h => h) (Or.inl ⟨by rfl, ?_⟩) hF ?_
      rotate_left
      · intro wS hSw; (try dsimp only at hSw); obtain ⟨⟨s1, s4⟩, s2, s3⟩ := hSw; first | (apply Eq.trans; apply ex_ld_id; exact rfl; exact rfl; assumption; with_reducible rfl) | (apply Eq.trans; apply ex_ldO_at; exact rfl; exact rfl; assumption; with_reducible rfl) | (apply Eq.trans; apply ex_ldS_at; exact rfl; exact rfl; assumption; with_reducible rfl) | (go_simp; try with_reducible rfl)
      try simp only [List.getElem_toArray, List.getElem_cons_zero, List.getElem_cons_succ, Act.put, List.setIfInBounds_toArray, List.set_cons_zero, List.set_cons_succ]
      refine wpAnyH_take (i := 9) (v := ?_) rfl (by kernel_rfl) (by kernel_rfl) (by kernel_rfl) (fun _ _ _ h => h) (Or.inl ⟨by rfl, ?_⟩) hF ?_
      rotate_left
      · intro wS hSw; (try dsimp only at hSw); obtain ⟨⟨s1, s4⟩, s2, s3⟩ := hSw; first | (apply Eq.trans; apply ex_ld_id; exact rfl; exact rfl; assumption; with_reducible rfl) | (apply Eq.trans; apply ex_ldO_at; exact rfl; exact rfl; assumption; with_reducible rfl) | (apply Eq.trans; apply ex_ldS_at; exact rfl; exact rfl; assumption; with_reducible rfl) | (go_simp; try with_reducible rfl)
      try simp only [List.getElem_toArray, List.getElem_cons_zero, List.getElem_cons_succ, Act.put, List.setIfInBounds_toArray, List.set_cons_zero, List.set_cons_succ]
      refine wpAnyH_take (i := 10) (v := ?_) rfl (by kernel_rfl) (by kernel_rfl) (by kernel_rfl) (fun _ _ _ h => h) (Or.inl ⟨by rfl, ?_⟩) hF ?_
      rotate_left
      · intro wS hSw; (try dsimp only at hSw); obtain ⟨⟨s1, s4⟩, s2, s3⟩ := hSw; first | (apply Eq.trans; apply ex_ld_id; exact rfl; exact rfl; assumption; with_reducible rfl) | (apply Eq.trans; apply ex_ldO_at; exact rfl; exact rfl; assumption; with_reducible rfl) | (apply Eq.trans; apply ex_ldS_at; exact rfl; exact rfl; assumption; with_reducible rfl) | (go_simp; try with_reducible rfl)
      try simp only [List.getElem_toArray, List.getElem_cons_zero, List.getElem_cons_succ, Act.put, List.setIfInBounds_toArray, List.set_cons_zero, List.set_cons_succ]
      refine wpAnyH_done (by kernel_rfl) ?_ _
      clear hF
      go_wp2_with fail
      go_roundg (ov.length - (k + 1))
      case measure => omega
      case rel => exact ⟨k + 1, by simp, rfl, by omega, hf.drew⟩
    · have hkn : k = ov.length := by omega
      subst hkn
      have i1 : ¬ (ov.length : Int) < (ov.length : Int) := by omega
      have a1 := cell_fr0 q0.kind hf
      have a2 := cell_fr0 q1.kind hf
      have a3 := Cod.rd_fr0 q0.At hf
      have a4 := Cod.rd_fr0 q1.At hf
      have a5 := Cod.rd_fr0 q0.node hf
      have a6 := Cod.rd_fr0 q1.node hf
      have a7 := Cod.rd_fr0 q0.parent hf
      have a8 := Cod.rd_fr0 q1.parent hf
      have a9 := cell_fr0 q0.name hf
      have b1 := cell_fr0 q1.name hf
      have b2 := rdI_fr q0.data (rdI_lt q0.data) hf (by simp [noB])
      have b3 := rdI_fr q1.data (rdI_lt q1.data) hf (by simp [noB])
      simp only at a1 a2 a3 a4 a5 a6 a7 a8 a9 b1 b2 b3
      clear q0 q1 hs hs'
      go_wp2_with fail
      go_ret
      exact ⟨rfl, f0.step0 hf⟩
set_option maxRecDepth 100000 in
set_option maxHeartbeats 2000000 in
theorem same_all (w : World) (A B : Option Addr) (c d n n' : Nat) (rs qs : List OpW) (xs : List Opn) (hn : rs.length = n) (hn' : qs.length = n') (hl : Sl w A (codO.row rs)) (hm : Sl w B (codO.row qs)) (h : OpsIn w rs xs) (h' : OpsIn w qs xs) (hb : xs.length ≤ 140737488355328) :
    Calls Tryz.prog 21 #[.slice A n c, .slice B n' d] w (Gives w (.bool true)) := by
  have l1 := h.len
  have l2 := h'.len
  have e1 : n = n' := by omega
  subst e1
  have hm0 : n = xs.length := by omega
  have ez : ((n : Int) != (n : Int)) = false := by simp
  have HN := Lib.hid hn
  have HN' := Lib.hid hn'
  have HX := Lib.hid hm0
  have L1 := Lib.hid l1
  have L2 := Lib.hid l2
  have hb' : n ≤ 140737488355328 := by omega
  clear hn hn' hm0 l1 l2 hb
  go_enter Tryz.func21, Tryz.ntmps21
  go_upto_region 4 with fail
  go_loopg [5] n (fun gk iv wr => SmR w n gk iv wr)
  case atStart => exact ⟨0, rfl, rfl, by omega, Fr.refl _ _⟩
  case round =>
    obtain ⟨k, rfl, rfl, hk, hf⟩ := hrel
    by_cases hlt : k < n
    · have i1 : (k : Int) < (n : Int) := by omega
      have i0 : (0 : Int) ≤ (k : Int) := by omega
      have k1 : k < rs.length := by have := HN.out; omega
      have k2 : k < qs.length := by have := HN'.out; omega
      have k3 : k < xs.length := by have := HX.out; omega
      obtain ⟨g, off, rfl⟩ : ∃ g off, A = some ⟨g, off, none⟩ := by
        obtain ⟨g, off, h, _⟩ := hl (Cod.row_ne (by intro h0; subst h0; simp at k1))
        exact ⟨g, off, h⟩
      obtain ⟨g', off', rfl⟩ : ∃ g off, B = some ⟨g, off, none⟩ := by
        obtain ⟨g, off, h, _⟩ := hm (Cod.row_ne (by intro h0; subst h0; simp at k2))
        exact ⟨g, off, h⟩
      have hgw : g < wr.heap.size := by have h1 := (hl.fr0 hf).rd k k1; exact Cod.rd_lt h1
      have hgw' : g' < wr.heap.size := by have h1 := (hm.fr0 hf).rd k k2; exact Cod.rd_lt h1
      have r0 : codO.rd wr g (off + k * 41) = some rs[k] := (hl.fr0 hf).rd k k1
      have r1 : codO.rd wr g' (off' + k * 41) = some qs[k] := (hm.fr0 hf).rd k k2
      have i2 := h.at_ k k1 k3
      have i3 := h'.at_ k k2 k3
      generalize rs[k] = x at r0 i2
      generalize qs[k] = y at r1 i3
      generalize xs[k] = o at i2 i3
      have D1 : ∀ W, Fr noB wr W → Calls Tryz.prog 46 #[.agg (codO.A x), .agg (codO.A y)] W (Gives W (.bool true)) := fun W f => r3same_any W x y o ((i2.fr hf).fr f) ((i3.fr hf).fr f)
      clear i2 i3 k1 k2 k3 hlt
      go_upto_region 6 with fail
      refine wp_region_fr (by kernel_rfl) (by kernel_rfl) ?_
      iterate 8
        refine wpQ_take (v := ?_) (by rfl) (fun wS hS => ?_) ?_
        rotate_left
        · obtain ⟨L1, L2, L3, L4, L5, L6⟩ := Fr.same hS; go_simp; try with_reducible rfl
        try simp only [List.getElem_toArray, List.getElem_cons_zero, List.getElem_cons_succ, Act.put, List.setIfInBounds_toArray, List.set_cons_zero, List.set_cons_succ]
      refine wpQ_call (by rfl) (fun wS hS => ⟨_, _, ?qh182, Calls.fr hS (D1 _ hS)⟩) ?qk182
      case qh182 => obtain ⟨L1, L2, L3, L4, L5, L6⟩ := Fr.same hS; go_simp; try with_reducible rfl
      try simp only [List.getElem_toArray, List.getElem_cons_zero, List.getElem_cons_succ, Act.put, List.setIfInBounds_toArray, List.set_cons_zero, List.set_cons_succ]
      refine wpQ_take (v := ?_) (by rfl) (fun wS hS => ?_) ?_
      rotate_left
      · obtain ⟨L1, L2, L3, L4, L5, L6⟩ := Fr.same hS; go_simp; try with_reducible rfl
      try simp only [List.getElem_toArray, List.getElem_cons_zero, List.getElem_cons_succ, Act.put, List.setIfInBounds_toArray, List.set_cons_zero, List.set_cons_succ]
      refine wpQ_nil ?_
      intro w1 f1
      go_wp2_with fail
      go_roundg (n - (k + 1))
      case measure => omega
      case rel => exact ⟨k + 1, by simp, rfl, by omega, hf.step0 f1⟩
    · have hkn : k = n := by omega
      subst hkn
      have i1 : ¬ (k : Int) < (k : Int) := by omega
      go_wp2_with fail
      go_ret
      exact ⟨rfl, hf⟩
end Go.Proofs.YtdandpaeeodolaaGreat
